/-
  The reference's Moves of alternatives, of parts that may be left out, of any number of parts. No condition beyond what each theorem names.
-/
import Derived.Test.YtphgjppeindbaaaRB
set_option linter.unusedVariables false
set_option linter.unusedSimpArgs false
namespace Go.Proofs.Ytphgjppeindbaaa
open Go.RowKit


set_option maxHeartbeats 4000000 in
theorem moves_3 (t : List Int) (back : Bool) (cls : List Int) (ps : List Nd) (hn : t.length ≤ 50000) (ih : ∀ x ∈ ps, MovesAt t back x) : MovesAt t back (.mk 3 cls ps) := by
    intro w tv fv a b c bs hl ht hf hx
    have IH := Lib.hid ih
    rw [nodeIs_iff] at hx
    obtain ⟨rfl, hcl, hcb, hpb, hps⟩ := hx
    obtain ⟨pt, capt, rfl, hct, hxt⟩ := ht.get
    obtain ⟨pf, capf, rfl, hcf, hxf⟩ := hf.get
    obtain ⟨pc, capc, rfl, hcc, -⟩ := hcl.get
    obtain ⟨pp, capp, rfl, hcp, hxp⟩ := hps.get
    rw [hl] at hf hcf ⊢
    have HT := Lib.hid ht
    have HF := Lib.hid hf
    have HXF := Lib.hid hxf
    have HXT := Lib.hid hxt
    have HCL := Lib.hid hcl
    have HCB := Lib.hid hcb
    have HXP := Lib.hid hxp
    have HL := Lib.hid hl
    unfold R at hcb hpb
    clear hl ht hf hcl hps hxt hxf hxp ih
    go_enter Try.func32, Try.ntmps32
    go_upto_region 1 with fail
    refine abs_wp fun W hW => ?_
    have hBW : Below w.heap.size w W := by rw [hW]; exact below_alloc1 _ _
    have hbox : W.heap[w.heap.size]? = some (.cells #[.int .i64 3, .slice pc cls.length capc, .slice pp ps.length capp] 33) := by rw [hW]; exact heap_alloc_new _ _
    obtain ⟨B, hB⟩ : ∃ B, B = w.heap.size := ⟨_, rfl⟩
    rw [← hB] at hbox ⊢
    have HBX := Lib.hid hbox
    have HBW := Lib.hid hBW
    have HALL := Lib.hid (all_any W t.length false (by omega))
    clear hW hBW hbox hB
    go_wp2_with fail
    refine HALL.out.mono ?_
    rintro e w1 ⟨v1, rfl, ho1, hb1⟩
    have HB1 := Lib.hid (HBW.out.trans (hb1.mono HBW.out.size))
    have HBX1 := Lib.hid ((hb1.block B (at_lt HBX.out)).trans HBX.out)
    have HSZ1 := Lib.hid (at_lt HBX1.out)
    obtain ⟨x0, x1, x2⟩ := cells3 HBX1.out
    obtain ⟨p1, c1, hv1⟩ := ho1.form
    subst hv1
    simp only [List.length_replicate] at ho1 ⊢
    have HO1 := Lib.hid ho1
    have HNO := Lib.hid ho1.read.bools
    clear ho1 hb1 HALL
    go_wp2_with fail
    go_loopw [10, 15] (fun u i wr => ∃ (k : Nat) (cur : List Bool), i = .int .i64 k ∧ k ≤ ps.length ∧ cur.length = t.length + 1 ∧ Bools wr u cur ∧ (∀ q, tr cur q ↔ ∃ p, tr bs p ∧ Rel back (Malt t (ps.take k)) p q) ∧ Below w1.heap.size w1 wr) (fun _ i _ => ps.length - (intOf i).toNat)
    case atStart => exact ⟨0, _, rfl, by omega, by simp, HNO.out, fun q => ⟨fun h => absurd h (no_places _ q), fun ⟨p, _, h⟩ => by cases back <;> simp [Rel, Malt] at h⟩, Below.refl _ _⟩
    case round =>
      obtain ⟨k, cur, rfl, h1, hcl, hcur, himg, hb⟩ := hrel
      have HCUR := Lib.hid hcur
      have HIMG := Lib.hid himg
      have HCLN := Lib.hid hcl
      have HB := Lib.hid hb
      have y2 := cell_below hb HSZ1.out x2
      have hbw := HB1.out.trans (hb.mono HB1.out.size)
      have HBWR := Lib.hid hbw
      by_cases hk : k < ps.length
      · obtain ⟨bb, off, rfl, hbl, hxx⟩ := HXP.out (by omega)
        obtain ⟨x, y, z, c0, c1, c2, hnode⟩ := hxx k hk
        have r0 := cell_below hbw hbl c0
        have r1 := cell_below hbw hbl c1
        have r2 := cell_below hbw hbl c2
        have HCM := Lib.hid (IH.out ps[k] (List.getElem_mem hk) wr _ _ x y z bs HL.out (HT.out.to hbw (Nat.le_refl _)) (HF.out.to hbw (Nat.le_refl _)) (hnode.to hbw (Nat.le_refl _)))
        have HST := Lib.hid (fun (out : List Bool) (hl : out.length = cur.length) (h2 : img (Rel back (M t ps[k])) bs out) => alt_step hk hl HIMG.out h2)
        obtain ⟨q1, d1, hq⟩ := hcur.get.imp fun _ h => h.imp fun _ h => h.1
        subst hq
        clear hcur himg hb hxx c0 c1 c2 hnode hbw hcl
        go_wp2_with fail
        refine HCM.out.mono ?_
        rintro e w2 ⟨v2, out2, rfl, hbo, himg2, hb2⟩
        have hl2 : out2.length = cur.length := by rw [himg2.1, HL.out, HCLN.out]
        have HCE := Lib.hid (either_or w2 _ _ cur out2 hl2 (by rw [HCLN.out]; omega) (HCUR.out.to hb2 (Nat.le_refl _)) hbo)
        have HI2 := Lib.hid (HST.out out2 hl2 himg2)
        have HB2 := Lib.hid (HB.out.trans (hb2.mono HB.out.size))
        clear hbo himg2 hb2 y2 r0 r1 r2 HCM hl2
        go_wp2_with fail
        refine HCE.out.mono ?_
        rintro e w3 ⟨v3, rfl, hbo, hb3⟩
        have HB3 := Lib.hid (HB2.out.trans (hb3.mono HB2.out.size))
        have HBO := Lib.hid hbo
        clear hbo hb3 HCE
        go_wp2_with fail
        go_roundw
        case rel => exact ⟨k + 1, orL cur out2, by go_num, by omega, by rw [orL_length]; exact HCLN.out, HBO.out, HI2.out, HB3.out⟩
        case measure => simp [intOf]; omega
      · have HTA := Lib.hid (show ps.take k = ps from List.take_of_length_le (by omega))
        obtain ⟨q1, d1, hq⟩ := hcur.get.imp fun _ h => h.imp fun _ h => h.1
        subst hq
        clear hcur himg hb hbw hcl
        go_wp2_with fail
        go_ret
        exact ⟨_, cur, rfl, HCUR.out, ⟨HCLN.out.trans HL.out.symm, fun q => by
          rw [HIMG.out q, HTA.out]
          exact ⟨fun ⟨p, h1, h2⟩ => ⟨p, h1, (Rel_iff (fun p q => M_3 p q) p q).2 h2⟩, fun ⟨p, h1, h2⟩ => ⟨p, h1, (Rel_iff (fun p q => M_3 p q) p q).1 h2⟩⟩⟩, HBWR.out⟩

set_option maxHeartbeats 4000000 in
theorem moves_5 (t : List Int) (back : Bool) (cls : List Int) (ps : List Nd) (hn : t.length ≤ 50000) (ih : ∀ x ∈ ps, MovesAt t back x) : MovesAt t back (.mk 5 cls ps) := by
    intro w tv fv a b c bs hl ht hf hx
    have IH := Lib.hid ih
    rw [nodeIs_iff] at hx
    obtain ⟨rfl, hcl, hcb, hpb, hps⟩ := hx
    obtain ⟨pt, capt, rfl, hct, hxt⟩ := ht.get
    obtain ⟨pf, capf, rfl, hcf, hxf⟩ := hf.get
    obtain ⟨pc, capc, rfl, hcc, -⟩ := hcl.get
    obtain ⟨pp, capp, rfl, hcp, hxp⟩ := hps.get
    rw [hl] at hf hcf ⊢
    have HT := Lib.hid ht
    have HF := Lib.hid hf
    have HXF := Lib.hid hxf
    have HXT := Lib.hid hxt
    have HCL := Lib.hid hcl
    have HCB := Lib.hid hcb
    have HXP := Lib.hid hxp
    have HL := Lib.hid hl
    unfold R at hcb hpb
    clear hl ht hf hcl hps hxt hxf hxp ih
    go_enter Try.func32, Try.ntmps32
    go_upto_region 1 with fail
    refine abs_wp fun W hW => ?_
    have hBW : Below w.heap.size w W := by rw [hW]; exact below_alloc1 _ _
    have hbox : W.heap[w.heap.size]? = some (.cells #[.int .i64 5, .slice pc cls.length capc, .slice pp ps.length capp] 33) := by rw [hW]; exact heap_alloc_new _ _
    obtain ⟨B, hB⟩ : ∃ B, B = w.heap.size := ⟨_, rfl⟩
    rw [← hB] at hbox ⊢
    have HBX := Lib.hid hbox
    have HBW := Lib.hid hBW
    have HALL := Lib.hid (all_any W t.length false (by omega))
    clear hW hBW hbox hB
    go_wp2_with fail
    refine HALL.out.mono ?_
    rintro e w1 ⟨v1, rfl, ho1, hb1⟩
    have HB1 := Lib.hid (HBW.out.trans (hb1.mono HBW.out.size))
    have HBX1 := Lib.hid ((hb1.block B (at_lt HBX.out)).trans HBX.out)
    have HSZ1 := Lib.hid (at_lt HBX1.out)
    obtain ⟨x0, x1, x2⟩ := cells3 HBX1.out
    obtain ⟨p1, c1, hv1⟩ := ho1.form
    subst hv1
    simp only [List.length_replicate] at ho1 ⊢
    have HO1 := Lib.hid ho1
    have HNO := Lib.hid ho1.read.bools
    clear ho1 hb1 HALL
    by_cases hp1 : ps.length = 1
    · have hpe : ((ps.length : Int) == 1) = true := by simp [hp1]
      have HP1 := Lib.hid hp1
      have h0p : 0 < ps.length := by omega
      obtain ⟨bb, off, rfl, hbl, hxx⟩ := HXP.out (by omega)
      obtain ⟨x, y, z, c0, c1, c2, hnode⟩ := hxx 0 (by omega)
      have hbw := HB1.out
      have r0 := cell_below hbw hbl c0
      have r1 := cell_below hbw hbl c1
      have r2 := cell_below hbw hbl c2
      simp only [Nat.zero_mul, Nat.add_zero] at r0 r1 r2
      have HCM := Lib.hid (IH.out ps[0] (List.getElem_mem h0p) w1 _ _ x y z bs HL.out (HT.out.to hbw (Nat.le_refl _)) (HF.out.to hbw (Nat.le_refl _)) (hnode.to hbw (Nat.le_refl _)))
      have h0i : (0 : Int) < ps.length := by omega
      clear hp1 hxx c0 c1 c2 hnode hbw
      go_wp2_with fail
      refine HCM.out.mono ?_
      rintro e w2 ⟨v2, out2, rfl, hbo, himg2, hb2⟩
      have hl2 : out2.length = bs.length := himg2.1
      have HB2 := Lib.hid (HB1.out.trans (hb2.mono HB1.out.size))
      have HCE := Lib.hid (either_or w2 _ _ bs out2 hl2 (by rw [HL.out]; omega) (HF.out.to HB2.out (Nat.le_refl _)) hbo)
      have HL2 := Lib.hid hl2
      have HI2 := Lib.hid himg2
      clear hbo himg2 hb2 r0 r1 r2 HCM hl2
      go_wp2_with fail
      refine HCE.out.mono ?_
      rintro e w3 ⟨v3, rfl, hbo, hb3⟩
      have HB3 := Lib.hid (HB2.out.trans (hb3.mono HB2.out.size))
      have HBO := Lib.hid hbo
      clear hbo hb3 HCE
      go_wp2_with fail
      go_ret
      refine ⟨_, orL bs out2, rfl, HBO.out, ⟨orL_length _ _, fun q => ?_⟩, HB3.out⟩
      have hm : img (Rel back (Malt t ps)) bs out2 := img_same HI2.out (fun p q => Rel_iff (fun p q => malt_one HP1.out p q) p q)
      rw [opt_fin HL2.out (fun q => Iff.rfl) hm (fun q h => h) (fun q h => h) q]
      exact ⟨fun ⟨p, h1, h2⟩ => ⟨p, h1, (rel_5 HP1.out p q).2 h2⟩, fun ⟨p, h1, h2⟩ => ⟨p, h1, (rel_5 HP1.out p q).1 h2⟩⟩
    · have hpe : ((ps.length : Int) == 1) = false := by simp; omega
      have HP1 := Lib.hid hp1
      clear hp1
      go_wp2_with fail
      go_ret
      exact ⟨_, _, rfl, HNO.out, img_none HL.out (fun p q => rel_45 (.inr rfl) HP1.out p q), HB1.out⟩

theorem star_step_all {t : List Int} {ps : List Nd} {back : Bool} {bs cur out : List Bool} {k : Nat} (hl : out.length = cur.length) (h6 : img (Rel back (Malt t ps)) cur out) (hk : ∀ p q, tr bs p → Rel back (Star (Malt t ps)) p q → nearby p q k → tr cur q) :
    ∀ p q, tr bs p → Rel back (Star (Malt t ps)) p q → nearby p q (k + 1) → tr (orL cur out) q := by
  intro p q hp hs hd
  rcases star_near hs with rfl | ⟨m, h1, h2, -, h3⟩
  · exact (tr_or hl _).2 (.inl (hk p p hp hs (by unfold nearby; omega)))
  · exact (tr_or hl _).2 (.inr ((h6.2 q).2 ⟨m, hk p m hp h1 (h3 k hd), h2⟩))

theorem tr_orL_eq {cur out : List Bool} (hl : out.length = cur.length) (h : orL cur out = cur) (q : Nat) (hq : tr out q) : tr cur q := by
  rw [← h]
  exact (tr_or hl q).2 (.inr hq)

set_option maxHeartbeats 4000000 in
theorem moves_4 (t : List Int) (back : Bool) (cls : List Int) (ps : List Nd) (hn : t.length ≤ 50000) (ih : ∀ x ∈ ps, MovesAt t back x) : MovesAt t back (.mk 4 cls ps) := by
    intro w tv fv a b c bs hl ht hf hx
    have IH := Lib.hid ih
    rw [nodeIs_iff] at hx
    obtain ⟨rfl, hcl, hcb, hpb, hps⟩ := hx
    obtain ⟨pt, capt, rfl, hct, hxt⟩ := ht.get
    obtain ⟨pf, capf, rfl, hcf, hxf⟩ := hf.get
    obtain ⟨pc, capc, rfl, hcc, -⟩ := hcl.get
    obtain ⟨pp, capp, rfl, hcp, hxp⟩ := hps.get
    rw [hl] at hf hcf ⊢
    have HT := Lib.hid ht
    have HF := Lib.hid hf
    have HXF := Lib.hid hxf
    have HXT := Lib.hid hxt
    have HCL := Lib.hid hcl
    have HCB := Lib.hid hcb
    have HXP := Lib.hid hxp
    have HL := Lib.hid hl
    unfold R at hcb hpb
    clear hl ht hf hcl hps hxt hxf hxp ih
    go_enter Try.func32, Try.ntmps32
    go_upto_region 1 with fail
    refine abs_wp fun W hW => ?_
    have hBW : Below w.heap.size w W := by rw [hW]; exact below_alloc1 _ _
    have hbox : W.heap[w.heap.size]? = some (.cells #[.int .i64 4, .slice pc cls.length capc, .slice pp ps.length capp] 33) := by rw [hW]; exact heap_alloc_new _ _
    obtain ⟨B, hB⟩ : ∃ B, B = w.heap.size := ⟨_, rfl⟩
    rw [← hB] at hbox ⊢
    have HBX := Lib.hid hbox
    have HBW := Lib.hid hBW
    have HALL := Lib.hid (all_any W t.length false (by omega))
    clear hW hBW hbox hB
    go_wp2_with fail
    refine HALL.out.mono ?_
    rintro e w1 ⟨v1, rfl, ho1, hb1⟩
    have HB1 := Lib.hid (HBW.out.trans (hb1.mono HBW.out.size))
    have HBX1 := Lib.hid ((hb1.block B (at_lt HBX.out)).trans HBX.out)
    have HSZ1 := Lib.hid (at_lt HBX1.out)
    obtain ⟨x0, x1, x2⟩ := cells3 HBX1.out
    obtain ⟨p1, c1, hv1⟩ := ho1.form
    subst hv1
    simp only [List.length_replicate] at ho1 ⊢
    have HO1 := Lib.hid ho1
    have HNO := Lib.hid ho1.read.bools
    clear ho1 hb1 HALL
    by_cases hp1 : ps.length = 1
    · have hpe : ((ps.length : Int) != 1) = false := by simp [hp1]
      have hpe2 : ((ps.length : Int) == 1) = true := by simp [hp1]
      have HP1 := Lib.hid hp1
      have h0p : 0 < ps.length := by omega
      obtain ⟨bb, off, rfl, hbl, hxx⟩ := HXP.out (by omega)
      obtain ⟨x, y, z, c0, c1, c2, hnode⟩ := hxx 0 (by omega)
      have HC0 := Lib.hid c0
      have HC1 := Lib.hid c1
      have HC2 := Lib.hid c2
      have HND := Lib.hid hnode
      have h0i : (0 : Int) < ps.length := by omega
      clear hp1 hxx c0 c1 c2 hnode
      go_wp2_with fail
      go_loopw [10, 16] (fun u i wr => ∃ (k : Nat) (cur : List Bool), i = .int .i64 k ∧ k ≤ t.length ∧ cur.length = t.length + 1 ∧ Bools wr u cur ∧ (∀ q, tr bs q → tr cur q) ∧ (∀ q, tr cur q → ∃ p, tr bs p ∧ Rel back (Star (Malt t ps)) p q) ∧ (∀ p q, tr bs p → Rel back (Star (Malt t ps)) p q → nearby p q k → tr cur q) ∧ Below w1.heap.size w1 wr) (fun _ i _ => t.length - (intOf i).toNat)
      case atStart => exact ⟨0, bs, rfl, by omega, HL.out, HF.out.to HB1.out (Nat.le_refl _), fun q h => h, fun q h => ⟨q, h, rel_star_refl q⟩, fun p q hp _ hd => by
        have : p = q := by unfold nearby at hd; omega
        exact this ▸ hp, Below.refl _ _⟩
      case round =>
        obtain ⟨k, cur, rfl, h1, hcl, hcur, hA, hS, hC, hb⟩ := hrel
        have HCUR := Lib.hid hcur
        have HA := Lib.hid hA
        have HS := Lib.hid hS
        have HC := Lib.hid hC
        have HCLN := Lib.hid hcl
        have HB := Lib.hid hb
        have y2 := cell_below hb HSZ1.out x2
        have hbw := HB1.out.trans (hb.mono HB1.out.size)
        have HBWR := Lib.hid hbw
        obtain ⟨q1, d1, hq⟩ := hcur.get.imp fun _ h => h.imp fun _ h => h.1
        subst hq
        clear hA hS hC
        by_cases hk : k < t.length
        · have r0 := cell_below hbw hbl HC0.out
          have r1 := cell_below hbw hbl HC1.out
          have r2 := cell_below hbw hbl HC2.out
          simp only [Nat.zero_mul, Nat.add_zero] at r0 r1 r2
          have HCM := Lib.hid (IH.out ps[0] (List.getElem_mem h0p) wr _ _ x y z cur HCLN.out (HT.out.to hbw (Nat.le_refl _)) hcur (HND.out.to hbw (Nat.le_refl _)))
          clear hcur hb hbw hcl
          go_wp2_with fail
          refine HCM.out.mono ?_
          rintro e w2 ⟨v2, out2, rfl, hbo, himg2, hb2⟩
          have hl2 : out2.length = cur.length := himg2.1
          have HCE := Lib.hid (either_or w2 _ _ cur out2 hl2 (by rw [HCLN.out]; omega) (HCUR.out.to hb2 (Nat.le_refl _)) hbo)
          have HIM := Lib.hid (show img (Rel back (Malt t ps)) cur out2 from img_same himg2 (fun p q => Rel_iff (fun p q => malt_one HP1.out p q) p q))
          have HL2 := Lib.hid hl2
          have HB2 := Lib.hid (HB.out.trans (hb2.mono HB.out.size))
          have HB22 := Lib.hid hb2
          clear hbo himg2 hb2 y2 r0 r1 r2 HCM hl2
          go_wp2_with fail
          refine HCE.out.mono ?_
          rintro e w3 ⟨v3, rfl, hbo, hb3⟩
          have HB3 := Lib.hid (HB2.out.trans (hb3.mono HB2.out.size))
          have HBO := Lib.hid hbo
          have HCUR3 := Lib.hid ((HCUR.out.to HB22.out (Nat.le_refl _)).to hb3 (Nat.le_refl _))
          have HSM := Lib.hid (same_dec w3 _ _ (orL cur out2) cur (orL_length _ _).symm (by rw [orL_length, HCLN.out]; omega) hbo ((HCUR.out.to HB22.out (Nat.le_refl _)).to hb3 (Nat.le_refl _)))
          clear hbo hb3 HCE
          go_wp2_with fail
          refine HSM.out.mono ?_
          rintro e w4 ⟨rfl, hb4⟩
          have HB4 := Lib.hid (HB3.out.trans (hb4.mono HB3.out.size))
          have HB34 := Lib.hid hb4
          have HBW4 := Lib.hid (HB1.out.trans (HB4.out.mono HB1.out.size))
          have HCUR4 := Lib.hid (HCUR3.out.to hb4 (Nat.le_refl _))
          clear hb4 HSM
          by_cases heq : orL cur out2 = cur
          · have hde : decide (orL cur out2 = cur) = true := decide_eq_true heq
            have HEQ := Lib.hid heq
            rw [hde]
            clear heq hde
            go_wp2_with fail
            go_ret
            refine ⟨_, cur, rfl, HCUR4.out, ⟨HCLN.out.trans HL.out.symm, fun q => ⟨fun h => ?_, fun ⟨p, h1, h2⟩ => ?_⟩⟩, HBW4.out⟩
            · obtain ⟨p, h1, h2⟩ := HS.out q h
              exact ⟨p, h1, (rel_4 HP1.out p q).2 h2⟩
            · exact rel_star_ind (S := fun m => tr cur m) (fun m q hm hr => tr_orL_eq HL2.out HEQ.out q ((HIM.out.2 q).2 ⟨m, hm, hr⟩)) ((rel_4 HP1.out p q).1 h2) (HA.out p h1)
          · have hde : decide (orL cur out2 = cur) = false := decide_eq_false heq
            rw [hde]
            clear heq hde
            go_wp2_with fail
            go_roundw
            case rel =>
              have hmore := star_more HL2.out (fun q => Iff.rfl) HIM.out HA.out HS.out
              exact ⟨k + 1, orL cur out2, by go_num, by omega, by rw [orL_length]; exact HCLN.out, HBO.out.to HB34.out (Nat.le_refl _), hmore.1, hmore.2, star_step_all HL2.out HIM.out HC.out, HB4.out⟩
            case measure => simp [intOf]; omega
        · have hkn : k = t.length := by omega
          have HKN := Lib.hid hkn
          clear hcur hb hbw hcl hkn
          go_wp2_with fail
          go_ret
          refine ⟨_, cur, rfl, HCUR.out, ⟨HCLN.out.trans HL.out.symm, fun q => ⟨fun h => ?_, fun ⟨p, h1, h2⟩ => ?_⟩⟩, HBWR.out⟩
          · obtain ⟨p, h1, h2⟩ := HS.out q h
            exact ⟨p, h1, (rel_4 HP1.out p q).2 h2⟩
          · have h3 := (rel_4 HP1.out p q).1 h2
            refine HC.out p q h1 h3 ?_
            have h4 := star_len h3
            have h5 := HKN.out
            unfold nearby
            omega
    · have hpe : ((ps.length : Int) != 1) = true := by simp; omega
      have HP1 := Lib.hid hp1
      clear hp1
      go_wp2_with fail
      go_ret
      exact ⟨_, _, rfl, HNO.out, img_none HL.out (fun p q => rel_45 (.inl rfl) HP1.out p q), HB1.out⟩
end Go.Proofs.Ytphgjppeindbaaa
