/-
  The reference's Moves of layer 6. No condition beyond what each theorem names.
-/
import Derived.Test.YtphgjppeindbaaaRA
set_option linter.unusedVariables false
set_option linter.unusedSimpArgs false
namespace Go.Proofs.Ytphgjppeindbaaa
open Go.RowKit

theorem orB_eq {xs ys : List Bool} (h : xs.length = ys.length) : orB xs ys xs.length = orL xs ys := by
  unfold orB orL orTo
  refine List.map_congr_left fun i hi => ?_
  rw [if_pos (List.mem_range.1 hi)]

theorem orL_length (xs ys : List Bool) : (orL xs ys).length = xs.length := orTo_length _ _ _

theorem either_or (w : World) (u v : Value) (xs ys : List Bool) (hl : ys.length = xs.length) (hn : xs.length ≤ 100000) (hu : Bools w u xs) (hv : Bools w v ys) :
    Calls Try.prog 36 #[u, v] w fun e w' => ∃ v', e = .returned v' ∧ Bools w' v' (orL xs ys) ∧ Below w.heap.size w w' := by
  refine (either_any w u v xs ys hl.symm hn hu hv).mono ?_
  rintro e w' ⟨v', h1, h2, h3⟩
  exact ⟨v', h1, by rw [← orB_eq hl.symm]; exact h2, h3⟩

theorem same_dec (w : World) (u v : Value) (xs ys : List Bool) (hll : ys.length = xs.length) (hl : xs.length ≤ 1000000) (hu : Bools w u xs) (hv : Bools w v ys) : Calls Try.prog 14 #[u, v] w (Says (decide (xs = ys)) w) := by
  obtain ⟨p1, c1, rfl, hc1, hx1⟩ := hu.get
  obtain ⟨p2, c2, rfl, hc2, hx2⟩ := hv.get
  have HX1 := Lib.hid hx1
  have HX2 := Lib.hid hx2
  have HLL := Lib.hid hll
  rw [hll]
  clear hx1 hx2 hu hv hll hc2
  go_enter Try.func14, Try.ntmps14
  go_wp2_with fail
  go_loopw [5] (fun i wr => ∃ (k : Nat), i = .int .i64 k ∧ k ≤ xs.length ∧ (∀ j, j < k → xs[j]? = ys[j]?) ∧ Below w.heap.size w wr) (fun i _ => xs.length - (intOf i).toNat)
  case atStart => exact ⟨0, rfl, by omega, fun _ h => absurd h (Nat.not_lt_zero _), Below.refl _ _⟩
  case round =>
    obtain ⟨k, rfl, h1, heq, hb⟩ := hrel
    have HB := Lib.hid hb
    have HEQ := Lib.hid heq
    by_cases hk : k < xs.length
    · have hk2 : k < ys.length := by have := HLL.out; omega
      obtain ⟨b1, o1, rfl, hl1, hy1⟩ := HX1.out (by omega)
      obtain ⟨b2, o2, rfl, hl2, hy2⟩ := HX2.out (by omega)
      have y1 := cell_below hb hl1 (hy1 k hk)
      have y2 := cell_below hb hl2 (hy2 k hk2)
      have HX := Lib.hid (show xs[k]? = some xs[k] by simp [hk])
      have HY := Lib.hid (show ys[k]? = some ys[k] by simp [hk2])
      generalize xs[k] = xk at *
      generalize ys[k] = yk at *
      clear hb heq hy1 hy2 hk2
      by_cases hne : xk = yk
      · subst hne
        have hne : (xk != xk) = false := by simp
        go_wp2_with fail
        go_quiet (fail)
        go_wp2_with fail
        go_roundw
        case rel => exact ⟨k + 1, by go_num, by omega, fun j hj => by
          by_cases h : j = k
          · subst h; rw [HX.out, HY.out]
          · exact HEQ.out j (by omega), below_drewN HB.out _⟩
        case measure => simp [intOf]; omega
      · have HNE := Lib.hid (show xs ≠ ys from fun h => by have h1 := HX.out; rw [h, HY.out] at h1; cases h1; exact hne rfl)
        rcases Bool.eq_false_or_eq_true xk with h | h <;> rcases Bool.eq_false_or_eq_true yk with h' | h'
        all_goals
          first
          | exact absurd (h.trans h'.symm) hne
          | (rw [h] at y1
             rw [h'] at y2
             clear h h' hne
             go_wp2_with fail
             go_quiet (fail)
             go_wp2_with fail
             go_ret
             exact Says.mk (decide_eq_false HNE.out).symm (below_drewN HB.out _))
    · have HE := Lib.hid (show xs = ys from List.ext_getElem? fun i => by
        by_cases h : i < k
        · exact HEQ.out i h
        · rw [List.getElem?_eq_none (by omega), List.getElem?_eq_none (by have := HLL.out; omega)])
      clear hb heq
      go_wp2_with fail
      go_ret
      exact Says.mk (decide_eq_true HE.out).symm HB.out

def MovesAt (t : List Int) (back : Bool) (x : Nd) : Prop := ∀ (w : World) (tv fv a b c : Value) (bs : List Bool), bs.length = t.length + 1 → Ints w tv t → Bools w fv bs → NodeIs w x a b c →
    Calls Try.prog 32 #[.agg #[a, b, c], tv, fv, .bool back] w fun e w' => ∃ v out, e = .returned v ∧ Bools w' v out ∧ img (Rel back (M t x)) bs out ∧ Below w.heap.size w w'

theorem img_none {r : Nat → Nat → Prop} {bs : List Bool} {n : Nat} (hl : bs.length = n) (h : ∀ p q, ¬ r p q) : img r bs (List.replicate n false) :=
  ⟨by simp [hl], fun q => ⟨fun h1 => absurd h1 (no_places n q), fun ⟨p, _, h2⟩ => absurd h2 (h p q)⟩⟩

/-- as many steps as there are places between are enough -/
def nearby (p q d : Nat) : Prop := q ≤ p + d ∧ p ≤ q + d
theorem star_near {t : List Int} {ps : List Nd} {back : Bool} {p q : Nat} (h : Rel back (Star (Malt t ps)) p q) : p = q ∨ ∃ m, Rel back (Star (Malt t ps)) p m ∧ Rel back (Malt t ps) m q ∧ m ≠ q ∧ ∀ d, nearby p q (d + 1) → nearby p m d := by
  have key : ∀ {a b : Nat}, Star (Malt t ps) a b → a ≤ b := fun h => by
    induction h with
    | refl => exact Nat.le_refl _
    | step _ h2 ih => exact Nat.le_trans ih (Malt_le h2)
  cases back
  · have h' : Star (Malt t ps) p q := h
    clear h
    induction h' with
    | refl => exact .inl rfl
    | step h1 h2 ih =>
      rename_i m q
      by_cases hmq : m = q
      · subst hmq; exact ih
      · refine .inr ⟨m, h1, h2, hmq, fun d hd => ?_⟩
        have h3 := key h1
        have h4 := Malt_le h2
        unfold nearby at *
        omega
  · have h' : Star (Malt t ps) q p := h
    have h2 := h'.swap
    clear h h'
    induction h2 with
    | refl => exact .inl rfl
    | step h1 h2 ih =>
      rename_i m q
      by_cases hmq : m = q
      · subst hmq; exact ih
      · have h1' : Star (Malt t ps) m p := h1.swap
        refine .inr ⟨m, h1', h2, hmq, fun d hd => ?_⟩
        have h3 := key h1'
        have h4 := Malt_le h2
        unfold nearby at *
        omega
theorem star_len {t : List Int} {ps : List Nd} {back : Bool} {p q : Nat} (h : Rel back (Star (Malt t ps)) p q) : p = q ∨ (p ≤ t.length ∧ q ≤ t.length) := by
  have key : ∀ {a b : Nat}, Star (Malt t ps) a b → a = b ∨ (a ≤ b ∧ b ≤ t.length) := fun h => by
    induction h with
    | refl => exact .inl rfl
    | step h1 h2 ih =>
      rename_i m q
      have h4 := Malt_le h2
      obtain ⟨x, hx, h5⟩ := Malt_mem.1 h2
      have h6 := M_len h5
      omega
  cases back
  · rcases key (show Star (Malt t ps) p q from h) with h | h <;> omega
  · rcases key (show Star (Malt t ps) q p from h) with h | h <;> omega

set_option maxHeartbeats 4000000 in
theorem moves_0 (t : List Int) (back : Bool) (cls : List Int) (ps : List Nd) (hn : t.length ≤ 50000) : MovesAt t back (.mk 0 cls ps) := by
    intro w tv fv a b c bs hl ht hf hx
    skip
    rw [nodeIs_iff] at hx
    obtain ⟨rfl, hcl, hcb, hpb, hps⟩ := hx
    obtain ⟨pt, capt, rfl, hct, hxt⟩ := ht.get
    obtain ⟨pf, capf, rfl, hcf, hxf⟩ := hf.get
    obtain ⟨pc, capc, rfl, hcc, -⟩ := hcl.get
    obtain ⟨pp, capp, rfl, hcp, hxp⟩ := hps.get
    rw [hl] at hf hcf ⊢
    have HT := Lib.hid ht
    have HF := Lib.hid hf
    have HXF := Lib.hid hxf
    have HXT := Lib.hid hxt
    have HCL := Lib.hid hcl
    have HCB := Lib.hid hcb
    have HXP := Lib.hid hxp
    have HL := Lib.hid hl
    unfold R at hcb hpb
    clear hl ht hf hcl hps hxt hxf hxp
    go_enter Try.func32, Try.ntmps32
    go_upto_region 1 with fail
    refine abs_wp fun W hW => ?_
    have hBW : Below w.heap.size w W := by rw [hW]; exact below_alloc1 _ _
    have hbox : W.heap[w.heap.size]? = some (.cells #[.int .i64 0, .slice pc cls.length capc, .slice pp ps.length capp] 33) := by rw [hW]; exact heap_alloc_new _ _
    obtain ⟨B, hB⟩ : ∃ B, B = w.heap.size := ⟨_, rfl⟩
    rw [← hB] at hbox ⊢
    have HBX := Lib.hid hbox
    have HBW := Lib.hid hBW
    have HALL := Lib.hid (all_any W t.length false (by omega))
    clear hW hBW hbox hB
    go_wp2_with fail
    refine HALL.out.mono ?_
    rintro e w1 ⟨v1, rfl, ho1, hb1⟩
    have HB1 := Lib.hid (HBW.out.trans (hb1.mono HBW.out.size))
    have HBX1 := Lib.hid ((hb1.block B (at_lt HBX.out)).trans HBX.out)
    have HSZ1 := Lib.hid (at_lt HBX1.out)
    obtain ⟨x0, x1, x2⟩ := cells3 HBX1.out
    obtain ⟨p1, c1, hv1⟩ := ho1.form
    subst hv1
    simp only [List.length_replicate] at ho1 ⊢
    have HO1 := Lib.hid ho1
    have HNO := Lib.hid ho1.read.bools
    clear ho1 hb1 HALL
    go_wp2_with fail
    go_ret
    exact ⟨_, bs, rfl, HF.out.to HB1.out (Nat.le_refl _), img_same (img_refl bs) (fun p q => ((Rel_iff (fun p q => M_0 p q) p q).trans (Rel_eq p q)).symm), HB1.out⟩

set_option maxHeartbeats 4000000 in
theorem moves_else (t : List Int) (back : Bool) (op : Int) (cls : List Int) (ps : List Nd) (hn : t.length ≤ 50000) (h0 : op ≠ 0) (h1 : op ≠ 1) (h2 : op ≠ 2) (h3 : op ≠ 3) (h4 : op ≠ 4) (h5 : op ≠ 5) : MovesAt t back (.mk op cls ps) := by
    have HM := Lib.hid (fun p q => M_else (t := t) (cls := cls) (ps := ps) h0 h1 h2 h3 h4 h5 p q)
    replace h0 : (op == 0) = false := by simp [h0]
    replace h1 : (op == 1) = false := by simp [h1]
    replace h2 : (op == 2) = false := by simp [h2]
    replace h3 : (op == 3) = false := by simp [h3]
    replace h4 : (op == 4) = false := by simp [h4]
    replace h5 : (op == 5) = false := by simp [h5]
    intro w tv fv a b c bs hl ht hf hx
    skip
    rw [nodeIs_iff] at hx
    obtain ⟨rfl, hcl, hcb, hpb, hps⟩ := hx
    obtain ⟨pt, capt, rfl, hct, hxt⟩ := ht.get
    obtain ⟨pf, capf, rfl, hcf, hxf⟩ := hf.get
    obtain ⟨pc, capc, rfl, hcc, -⟩ := hcl.get
    obtain ⟨pp, capp, rfl, hcp, hxp⟩ := hps.get
    rw [hl] at hf hcf ⊢
    have HT := Lib.hid ht
    have HF := Lib.hid hf
    have HXF := Lib.hid hxf
    have HXT := Lib.hid hxt
    have HCL := Lib.hid hcl
    have HCB := Lib.hid hcb
    have HXP := Lib.hid hxp
    have HL := Lib.hid hl
    unfold R at hcb hpb
    clear hl ht hf hcl hps hxt hxf hxp
    go_enter Try.func32, Try.ntmps32
    go_upto_region 1 with fail
    refine abs_wp fun W hW => ?_
    have hBW : Below w.heap.size w W := by rw [hW]; exact below_alloc1 _ _
    have hbox : W.heap[w.heap.size]? = some (.cells #[.int .i64 op, .slice pc cls.length capc, .slice pp ps.length capp] 33) := by rw [hW]; exact heap_alloc_new _ _
    obtain ⟨B, hB⟩ : ∃ B, B = w.heap.size := ⟨_, rfl⟩
    rw [← hB] at hbox ⊢
    have HBX := Lib.hid hbox
    have HBW := Lib.hid hBW
    have HALL := Lib.hid (all_any W t.length false (by omega))
    clear hW hBW hbox hB
    go_wp2_with fail
    refine HALL.out.mono ?_
    rintro e w1 ⟨v1, rfl, ho1, hb1⟩
    have HB1 := Lib.hid (HBW.out.trans (hb1.mono HBW.out.size))
    have HBX1 := Lib.hid ((hb1.block B (at_lt HBX.out)).trans HBX.out)
    have HSZ1 := Lib.hid (at_lt HBX1.out)
    obtain ⟨x0, x1, x2⟩ := cells3 HBX1.out
    obtain ⟨p1, c1, hv1⟩ := ho1.form
    subst hv1
    simp only [List.length_replicate] at ho1 ⊢
    have HO1 := Lib.hid ho1
    have HNO := Lib.hid ho1.read.bools
    clear ho1 hb1 HALL
    go_wp2_with fail
    go_ret
    exact ⟨_, _, rfl, HNO.out, img_none HL.out (fun p q h => by cases back <;> exact HM.out _ _ h), HB1.out⟩

set_option maxHeartbeats 4000000 in
theorem moves_2_false (t : List Int) (cls : List Int) (ps : List Nd) (hn : t.length ≤ 50000) (ih : ∀ x ∈ ps, MovesAt t false x) : MovesAt t false (.mk 2 cls ps) := by
    intro w tv fv a b c bs hl ht hf hx
    have IH := Lib.hid ih
    rw [nodeIs_iff] at hx
    obtain ⟨rfl, hcl, hcb, hpb, hps⟩ := hx
    obtain ⟨pt, capt, rfl, hct, hxt⟩ := ht.get
    obtain ⟨pf, capf, rfl, hcf, hxf⟩ := hf.get
    obtain ⟨pc, capc, rfl, hcc, -⟩ := hcl.get
    obtain ⟨pp, capp, rfl, hcp, hxp⟩ := hps.get
    rw [hl] at hf hcf ⊢
    have HT := Lib.hid ht
    have HF := Lib.hid hf
    have HXF := Lib.hid hxf
    have HXT := Lib.hid hxt
    have HCL := Lib.hid hcl
    have HCB := Lib.hid hcb
    have HXP := Lib.hid hxp
    have HL := Lib.hid hl
    unfold R at hcb hpb
    clear hl ht hf hcl hps hxt hxf hxp ih
    go_enter Try.func32, Try.ntmps32
    go_upto_region 1 with fail
    refine abs_wp fun W hW => ?_
    have hBW : Below w.heap.size w W := by rw [hW]; exact below_alloc1 _ _
    have hbox : W.heap[w.heap.size]? = some (.cells #[.int .i64 2, .slice pc cls.length capc, .slice pp ps.length capp] 33) := by rw [hW]; exact heap_alloc_new _ _
    obtain ⟨B, hB⟩ : ∃ B, B = w.heap.size := ⟨_, rfl⟩
    rw [← hB] at hbox ⊢
    have HBX := Lib.hid hbox
    have HBW := Lib.hid hBW
    have HALL := Lib.hid (all_any W t.length false (by omega))
    clear hW hBW hbox hB
    go_wp2_with fail
    refine HALL.out.mono ?_
    rintro e w1 ⟨v1, rfl, ho1, hb1⟩
    have HB1 := Lib.hid (HBW.out.trans (hb1.mono HBW.out.size))
    have HBX1 := Lib.hid ((hb1.block B (at_lt HBX.out)).trans HBX.out)
    have HSZ1 := Lib.hid (at_lt HBX1.out)
    obtain ⟨x0, x1, x2⟩ := cells3 HBX1.out
    obtain ⟨p1, c1, hv1⟩ := ho1.form
    subst hv1
    simp only [List.length_replicate] at ho1 ⊢
    have HO1 := Lib.hid ho1
    have HNO := Lib.hid ho1.read.bools
    clear ho1 hb1 HALL
    go_wp2_with fail
    go_loopw [10, 13] (fun u i wr => ∃ (k : Nat) (cur : List Bool), i = .int .i64 k ∧ k ≤ ps.length ∧ Bools wr u cur ∧ img (chain t false ((ordered false ps).take k)) bs cur ∧ Below w1.heap.size w1 wr) (fun _ i _ => ps.length - (intOf i).toNat)
    case atStart => exact ⟨0, bs, rfl, by omega, by have := HF.out.to HB1.out (Nat.le_refl _); exact this, img_same (img_refl bs) (fun p q => (chain_nil t false p q).symm), Below.refl _ _⟩
    case round =>
      obtain ⟨k, cur, rfl, h1, hcur, himg, hb⟩ := hrel
      have HCUR := Lib.hid hcur
      have HIMG := Lib.hid himg
      have HB := Lib.hid hb
      have y2 := cell_below hb HSZ1.out x2
      have hbw := HB1.out.trans (hb.mono HB1.out.size)
      have HBWR := Lib.hid hbw
      by_cases hk : k < ps.length
      · obtain ⟨bb, off, rfl, hbl, hxx⟩ := HXP.out (by omega)
        obtain ⟨j, hj⟩ : ∃ j, j = k := ⟨_, rfl⟩
        have hjl : j < ps.length := by omega
        obtain ⟨x, y, z, c0, c1, c2, hnode⟩ := hxx j hjl
        have r0 := cell_below hbw hbl c0
        have r1 := cell_below hbw hbl c1
        have r2 := cell_below hbw hbl c2
        have HCM := Lib.hid (IH.out ps[j] (List.getElem_mem hjl) wr _ _ x y z cur (by rw [himg.1, HL.out]) (HT.out.to hbw (Nat.le_refl _)) hcur (hnode.to hbw (Nat.le_refl _)))
        have hol : (ordered false ps).length = ps.length := by simp [ordered]
        have hko : k < (ordered false ps).length := by omega
        have HTK := Lib.hid (show (ordered false ps).take (k + 1) = (ordered false ps).take k ++ [ps[j]] by
          rw [List.take_succ_eq_append_getElem hko]
          congr 2
          subst hj
          rfl)
        have hji : (k : Int) = (j : Int) := by omega
        have j0 : (0 : Int) ≤ j := by omega
        have j1 : (j : Int) < ps.length := by omega
        clear hcur himg hb hxx c0 c1 c2 hnode hbw hol hko hj
        go_wp2_with fail
        refine HCM.out.mono ?_
        rintro e w2 ⟨v2, out2, rfl, hbo, himg2, hb2⟩
        have HBO := Lib.hid hbo
        have HI2 := Lib.hid (img_chain HIMG.out himg2)
        have HB2 := Lib.hid (HB.out.trans (hb2.mono HB.out.size))
        clear hbo himg2 hb2 y2 r0 r1 r2 HCM
        go_wp2_with fail
        go_roundw
        case rel => exact ⟨k + 1, out2, by go_num, by omega, HBO.out, by rw [HTK.out]; exact HI2.out, HB2.out⟩
        case measure => simp [intOf]; omega
      · have HTA := Lib.hid (show (ordered false ps).take k = ordered false ps from List.take_of_length_le (by simp [ordered]; omega))
        obtain ⟨q1, d1, hq⟩ := hcur.get.imp fun _ h => h.imp fun _ h => h.1
        subst hq
        clear hcur himg hb hbw
        go_wp2_with fail
        go_ret
        exact ⟨_, cur, rfl, HCUR.out, img_same HIMG.out (fun p q => by rw [HTA.out, chain_all]; exact (Rel_iff (fun p q => M_2 p q) p q).symm), HBWR.out⟩

set_option maxHeartbeats 4000000 in
theorem moves_2_true (t : List Int) (cls : List Int) (ps : List Nd) (hn : t.length ≤ 50000) (ih : ∀ x ∈ ps, MovesAt t true x) : MovesAt t true (.mk 2 cls ps) := by
    intro w tv fv a b c bs hl ht hf hx
    have IH := Lib.hid ih
    rw [nodeIs_iff] at hx
    obtain ⟨rfl, hcl, hcb, hpb, hps⟩ := hx
    obtain ⟨pt, capt, rfl, hct, hxt⟩ := ht.get
    obtain ⟨pf, capf, rfl, hcf, hxf⟩ := hf.get
    obtain ⟨pc, capc, rfl, hcc, -⟩ := hcl.get
    obtain ⟨pp, capp, rfl, hcp, hxp⟩ := hps.get
    rw [hl] at hf hcf ⊢
    have HT := Lib.hid ht
    have HF := Lib.hid hf
    have HXF := Lib.hid hxf
    have HXT := Lib.hid hxt
    have HCL := Lib.hid hcl
    have HCB := Lib.hid hcb
    have HXP := Lib.hid hxp
    have HL := Lib.hid hl
    unfold R at hcb hpb
    clear hl ht hf hcl hps hxt hxf hxp ih
    go_enter Try.func32, Try.ntmps32
    go_upto_region 1 with fail
    refine abs_wp fun W hW => ?_
    have hBW : Below w.heap.size w W := by rw [hW]; exact below_alloc1 _ _
    have hbox : W.heap[w.heap.size]? = some (.cells #[.int .i64 2, .slice pc cls.length capc, .slice pp ps.length capp] 33) := by rw [hW]; exact heap_alloc_new _ _
    obtain ⟨B, hB⟩ : ∃ B, B = w.heap.size := ⟨_, rfl⟩
    rw [← hB] at hbox ⊢
    have HBX := Lib.hid hbox
    have HBW := Lib.hid hBW
    have HALL := Lib.hid (all_any W t.length false (by omega))
    clear hW hBW hbox hB
    go_wp2_with fail
    refine HALL.out.mono ?_
    rintro e w1 ⟨v1, rfl, ho1, hb1⟩
    have HB1 := Lib.hid (HBW.out.trans (hb1.mono HBW.out.size))
    have HBX1 := Lib.hid ((hb1.block B (at_lt HBX.out)).trans HBX.out)
    have HSZ1 := Lib.hid (at_lt HBX1.out)
    obtain ⟨x0, x1, x2⟩ := cells3 HBX1.out
    obtain ⟨p1, c1, hv1⟩ := ho1.form
    subst hv1
    simp only [List.length_replicate] at ho1 ⊢
    have HO1 := Lib.hid ho1
    have HNO := Lib.hid ho1.read.bools
    clear ho1 hb1 HALL
    go_wp2_with fail
    go_loopw [10, 13] (fun u i wr => ∃ (k : Nat) (cur : List Bool), i = .int .i64 k ∧ k ≤ ps.length ∧ Bools wr u cur ∧ img (chain t true ((ordered true ps).take k)) bs cur ∧ Below w1.heap.size w1 wr) (fun _ i _ => ps.length - (intOf i).toNat)
    case atStart => exact ⟨0, bs, rfl, by omega, by have := HF.out.to HB1.out (Nat.le_refl _); exact this, img_same (img_refl bs) (fun p q => (chain_nil t true p q).symm), Below.refl _ _⟩
    case round =>
      obtain ⟨k, cur, rfl, h1, hcur, himg, hb⟩ := hrel
      have HCUR := Lib.hid hcur
      have HIMG := Lib.hid himg
      have HB := Lib.hid hb
      have y2 := cell_below hb HSZ1.out x2
      have hbw := HB1.out.trans (hb.mono HB1.out.size)
      have HBWR := Lib.hid hbw
      by_cases hk : k < ps.length
      · obtain ⟨bb, off, rfl, hbl, hxx⟩ := HXP.out (by omega)
        obtain ⟨j, hj⟩ : ∃ j, j = (ps.length - 1 - k) := ⟨_, rfl⟩
        have hjl : j < ps.length := by omega
        obtain ⟨x, y, z, c0, c1, c2, hnode⟩ := hxx j hjl
        have r0 := cell_below hbw hbl c0
        have r1 := cell_below hbw hbl c1
        have r2 := cell_below hbw hbl c2
        have HCM := Lib.hid (IH.out ps[j] (List.getElem_mem hjl) wr _ _ x y z cur (by rw [himg.1, HL.out]) (HT.out.to hbw (Nat.le_refl _)) hcur (hnode.to hbw (Nat.le_refl _)))
        have hol : (ordered true ps).length = ps.length := by simp [ordered]
        have hko : k < (ordered true ps).length := by omega
        have HTK := Lib.hid (show (ordered true ps).take (k + 1) = (ordered true ps).take k ++ [ps[j]] by
          rw [List.take_succ_eq_append_getElem hko]
          congr 2
          subst hj
          exact List.getElem_reverse _)
        have hji : (ps.length : Int) - 1 - (k : Int) = (j : Int) := by omega
        have j0 : (0 : Int) ≤ j := by omega
        have j1 : (j : Int) < ps.length := by omega
        clear hcur himg hb hxx c0 c1 c2 hnode hbw hol hko hj
        go_wp2_with fail
        refine HCM.out.mono ?_
        rintro e w2 ⟨v2, out2, rfl, hbo, himg2, hb2⟩
        have HBO := Lib.hid hbo
        have HI2 := Lib.hid (img_chain HIMG.out himg2)
        have HB2 := Lib.hid (HB.out.trans (hb2.mono HB.out.size))
        clear hbo himg2 hb2 y2 r0 r1 r2 HCM
        go_wp2_with fail
        go_roundw
        case rel => exact ⟨k + 1, out2, by go_num, by omega, HBO.out, by rw [HTK.out]; exact HI2.out, HB2.out⟩
        case measure => simp [intOf]; omega
      · have HTA := Lib.hid (show (ordered true ps).take k = ordered true ps from List.take_of_length_le (by simp [ordered]; omega))
        obtain ⟨q1, d1, hq⟩ := hcur.get.imp fun _ h => h.imp fun _ h => h.1
        subst hq
        clear hcur himg hb hbw
        go_wp2_with fail
        go_ret
        exact ⟨_, cur, rfl, HCUR.out, img_same HIMG.out (fun p q => by rw [HTA.out, chain_all]; exact (Rel_iff (fun p q => M_2 p q) p q).symm), HBWR.out⟩
end Go.Proofs.Ytphgjppeindbaaa
