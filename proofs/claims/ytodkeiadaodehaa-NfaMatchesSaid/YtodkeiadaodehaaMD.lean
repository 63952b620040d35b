/-
  Ends of the reference. No condition beyond what each theorem names.
-/
import Derived.Test.YtodkeiadaodehaaMC
set_option linter.unusedVariables false
set_option linter.unusedSimpArgs false
namespace Go.Proofs.Ytodkeiadaodehaa
open Go.RowKit

theorem alloc2' (w : World) (o1 o2 : Obj) (W : World) (hW : W = (w.alloc o1).alloc o2) : Below w.heap.size w W ∧ W.heap[w.heap.size]? = some o1 ∧ W.heap[w.heap.size + 1]? = some o2 := by
  have s1 : (w.alloc o1).heap.size = w.heap.size + 1 := by simp
  have b1 := below_alloc1 w o1
  have b2 := below_alloc1 (w.alloc o1) o2
  subst hW
  refine ⟨b1.trans (b2.mono (by omega)), ?_, ?_⟩
  · rw [b2.block _ (by omega)]; exact heap_alloc_new _ _
  · rw [← s1]; exact heap_alloc_new _ _

def EndsPost (w : World) (t : List Int) (x : Nd) (bs : List Bool) (e : Ending) (w' : World) : Prop := ∃ v out, e = .returned v ∧ Bools w' v out ∧ img (M t x) bs out ∧ Below w.heap.size w w'

def EndsAt (t : List Int) (x : Nd) : Prop := ∀ (w : World) (tv fv a b c : Value) (bs : List Bool), bs.length = t.length + 1 → Ints w tv t → Bools w fv bs → NodeIs w x a b c →
    Calls Try.prog 28 #[.agg #[a, b, c], tv, fv] w (EndsPost w t x bs)

/-- bools copied over a row as long -/
theorem copy_bools (w : World) (g n : Nat) (cs bs : List Bool) (fv : Value) (hr : BRow w g cs) (hn : cs.length = n) (hb : Bools w fv bs) (hl : bs.length = n) (h0n : 0 < n) : ∃ p c, fv = .slice p n c ∧ (Builtin.copy_ #[33, 33] 3 #[.slice (some ⟨g, 0, none⟩) n n, .slice p n c]).run Try.prog w = .ok (goInt n) (w.setRow g (bs.map Value.bool).toArray) := by
  obtain ⟨p, c, rfl, hc, hx⟩ := hb.get
  have hc2 := hl
  rw [hl]
  refine ⟨p, c, rfl, ?_⟩
  have hr' : w.heap[g]? = some (.cells (cs.map Value.bool).toArray 4 (0, 0)) := hr
  have hsp : (splice (cs.map Value.bool).toArray.toList 0 (bs.map Value.bool)).toArray = (bs.map Value.bool).toArray := by
    congr 1
    simp only [splice, List.toList_toArray, List.take_zero, List.nil_append, List.length_map, Nat.zero_add]
    rw [List.drop_of_length_le (by simp; omega), List.append_nil]
  have h := run_copy_rows (P := Try.prog) w 33 33 3 4 1 (some ⟨g, 0, none⟩) p n n n c g 0 (cs.map Value.bool).toArray 4 (bs.map Value.bool) n Try.underlying33 (by kernel_rfl) hr' (by simp [Nat.min_def]) (by simp [hl])
    (fun h0 => by
      obtain ⟨b, off, hp, hlt, hy⟩ := hx (by simp at h0; omega)
      refine ⟨rfl, ⟨b, off, none⟩, hp, fun j v hj => ?_⟩
      have hj' : j < bs.length := by have := (List.getElem?_eq_some_iff.1 hj).1; simpa using this
      have := hy j hj'
      rw [show (⟨b, off, none⟩ : Addr).add j = ⟨b, off + j, none⟩ by unfold Addr.add; split <;> simp_all, this]
      simpa [hj'] using hj)
    (fun hp => by
      subst hp
      obtain ⟨b, off, hp, -⟩ := hx (by omega)
      cases hp) (by simp; omega) (fun v hv => by obtain ⟨b, -, rfl⟩ := List.mem_map.1 hv; rfl)
  rw [hsp] at h
  exact h

theorem BRow.copied {w : World} {g : Nat} {cs : List Bool} (h : BRow w g cs) (bs : List Bool) : BRow (w.setRow g (bs.map Value.bool).toArray) g bs := by
  have h' : w.heap[g]? = some (.cells (cs.map Value.bool).toArray 4 (0, 0)) := h
  exact setRow_heap w g _ _ _ (0, 0) h'

theorem BRow.read {w : World} {g n : Nat} {bs : List Bool} (h : BRow w g bs) (hl : bs.length = n) : Bools w (.slice (some ⟨g, 0, none⟩) n n) bs := by
  subst hl; exact h.bools

set_option maxRecDepth 100000 in
set_option maxHeartbeats 8000000 in
theorem ends_0 (t : List Int) (cls : List Int) (ps : List Nd) (hn : t.length ≤ 1000) : EndsAt t (.mk 0 cls ps) := by
  intro w tv fv a b c bs hl ht hf hx
  rw [nodeIs_iff] at hx
  obtain ⟨rfl, hcl, hcb, hpb, hps⟩ := hx
  obtain ⟨pt, capt, rfl, hct, hxt⟩ := ht.get
  obtain ⟨pf, capf, rfl, hcf, hxf⟩ := hf.get
  obtain ⟨pc, capc, rfl, hcc, -⟩ := hcl.get
  obtain ⟨pp, capp, rfl, hcp, hxp⟩ := hps.get
  rw [hl] at hf hcf ⊢
  have HT := Lib.hid ht
  have HF := Lib.hid hf
  have HXF := Lib.hid hxf
  have HXT := Lib.hid hxt
  have HCL := Lib.hid hcl
  have HCB := Lib.hid hcb
  have HXP := Lib.hid hxp
  have HL := Lib.hid hl
  unfold R at hcb hpb
  have hmk := fun w => make_bools 33 Try.underlying33 w ((t.length : Int) + 1) (t.length + 1) (by omega) (by omega)
  clear hl ht hf hcl hps hxt hxf hxp
  go_enter Try.func28, Try.ntmps28
  go_upto_region 2 with fail
  refine abs_wp fun W hW => ?_
  obtain ⟨a0, a1, a2⟩ := alloc2' w _ _ W hW
  obtain ⟨B, hB⟩ : ∃ B, B = w.heap.size := ⟨_, rfl⟩
  have HBX := Lib.hid (show W.heap[B]? = some (.cells #[.int .i64 0, .slice pc cls.length capc, .slice pp ps.length capp] 25) by rw [hB]; exact a1)
  have HROW := Lib.hid (show BRow W (B + 1) (List.replicate (t.length + 1) false) by unfold BRow; rw [hB, a2]; simp)
  have HBW := Lib.hid a0
  rw [← hB]
  have HBE := Lib.hid hB
  obtain ⟨x0, x1, x2⟩ := cells3 HBX.out
  clear hW hB a0 a1 a2 hmk
  obtain ⟨pf', cf', he, hcopy⟩ := copy_bools W (B + 1) (t.length + 1) _ bs (.slice pf (t.length + 1) capf) HROW.out (by simp) (HF.out.to HBW.out (Nat.le_refl _)) HL.out (by omega)
  injection he with e1 e2 e3
  subst e1 e3
  clear e2
  go_upto_region 30 with fail
  refine abs_wp fun W2 hW2 => ?_
  have HROW2 := Lib.hid (show BRow W2 (B + 1) bs by rw [hW2]; exact HROW.out.copied bs)
  have HFR2 := Lib.hid (show Fr (fun q => q = B + 1) W W2 by rw [hW2]; exact Fr.setRow (F := fun q => q = B + 1) _ rfl _)
  have HBW2 := Lib.hid (show Below w.heap.size w W2 from HBW.out.trans (HFR2.out.below HBW.out.size (fun q hq => by have hq : q = B + 1 := hq; have := HBE.out; omega)))
  have HBX2 := Lib.hid ((HFR2.out.block B (at_lt HBX.out) (by omega)).trans HBX.out)
  clear hW2 hcopy x0 x1 x2
  obtain ⟨x0, x1, x2⟩ := cells3 HBX2.out
  go_wp2_with fail
  go_ret
  exact ⟨_, bs, rfl, HROW2.out.read HL.out, img_iff (img_id bs) (fun p q => (M_0 p q).symm), HBW2.out⟩

set_option maxRecDepth 100000 in
set_option maxHeartbeats 8000000 in
theorem ends_2 (t : List Int) (cls : List Int) (ps : List Nd) (hn : t.length ≤ 1000) (ih : ∀ x ∈ ps, EndsAt t x) : EndsAt t (.mk 2 cls ps) := by
  intro w tv fv a b c bs hl ht hf hx
  have IH := Lib.hid ih
  rw [nodeIs_iff] at hx
  obtain ⟨rfl, hcl, hcb, hpb, hps⟩ := hx
  obtain ⟨pt, capt, rfl, hct, hxt⟩ := ht.get
  obtain ⟨pf, capf, rfl, hcf, hxf⟩ := hf.get
  obtain ⟨pc, capc, rfl, hcc, -⟩ := hcl.get
  obtain ⟨pp, capp, rfl, hcp, hxp⟩ := hps.get
  rw [hl] at hf hcf ⊢
  have HT := Lib.hid ht
  have HF := Lib.hid hf
  have HXF := Lib.hid hxf
  have HXT := Lib.hid hxt
  have HCL := Lib.hid hcl
  have HCB := Lib.hid hcb
  have HXP := Lib.hid hxp
  have HL := Lib.hid hl
  unfold R at hcb hpb
  have hmk := fun w => make_bools 33 Try.underlying33 w ((t.length : Int) + 1) (t.length + 1) (by omega) (by omega)
  clear hl ht hf hcl hps hxt hxf hxp ih
  go_enter Try.func28, Try.ntmps28
  go_upto_region 2 with fail
  refine abs_wp fun W hW => ?_
  obtain ⟨a0, a1, a2⟩ := alloc2' w _ _ W hW
  obtain ⟨B, hB⟩ : ∃ B, B = w.heap.size := ⟨_, rfl⟩
  have HBX := Lib.hid (show W.heap[B]? = some (.cells #[.int .i64 2, .slice pc cls.length capc, .slice pp ps.length capp] 25) by rw [hB]; exact a1)
  have HROW := Lib.hid (show BRow W (B + 1) (List.replicate (t.length + 1) false) by unfold BRow; rw [hB, a2]; simp)
  have HBW := Lib.hid a0
  rw [← hB]
  have HBE := Lib.hid hB
  obtain ⟨x0, x1, x2⟩ := cells3 HBX.out
  clear hW hB a0 a1 a2 hmk
  obtain ⟨pf', cf', he, hcopy⟩ := copy_bools W (B + 1) (t.length + 1) _ bs (.slice pf (t.length + 1) capf) HROW.out (by simp) (HF.out.to HBW.out (Nat.le_refl _)) HL.out (by omega)
  injection he with e1 e2 e3
  subst e1 e3
  clear e2
  go_upto_region 13 with fail
  refine abs_wp fun W2 hW2 => ?_
  have HROW2 := Lib.hid (show BRow W2 (B + 1) bs by rw [hW2]; exact HROW.out.copied bs)
  have HFR2 := Lib.hid (show Fr (fun q => q = B + 1) W W2 by rw [hW2]; exact Fr.setRow (F := fun q => q = B + 1) _ rfl _)
  have HBW2 := Lib.hid (show Below w.heap.size w W2 from HBW.out.trans (HFR2.out.below HBW.out.size (fun q hq => by have hq : q = B + 1 := hq; have := HBE.out; omega)))
  have HBX2 := Lib.hid ((HFR2.out.block B (at_lt HBX.out) (by omega)).trans HBX.out)
  clear hW2 hcopy x0 x1 x2
  obtain ⟨x0, x1, x2⟩ := cells3 HBX2.out
  go_wp2_with fail
  go_loopw [7, 10] (fun u i wr => ∃ (k : Nat) (cur : List Bool), i = .int .i64 k ∧ k ≤ ps.length ∧ Bools wr u cur ∧ img (Mseq t (ps.take k)) bs cur ∧ Below W2.heap.size W2 wr) (fun _ i _ => ps.length - (intOf i).toNat)
  case atStart => exact ⟨0, bs, rfl, by omega, HROW2.out.read HL.out, img_iff (img_id bs) (fun p q => by simp [Mseq]), Below.refl _ _⟩
  case round =>
    obtain ⟨k, cur, rfl, h1, hcur, himg, hb⟩ := hrel
    have HCUR := Lib.hid hcur
    have HIMG := Lib.hid himg
    have HB := Lib.hid hb
    have y2 := cell_below hb (at_lt HBX2.out) x2
    have hbw := HBW2.out.trans (hb.mono HBW2.out.size)
    have HBWR := Lib.hid hbw
    by_cases hk : k < ps.length
    · obtain ⟨bb, off, rfl, hbl, hxx⟩ := HXP.out (by omega)
      obtain ⟨x, y, z, c0, c1, c2, hnode⟩ := hxx k hk
      have r0 := cell_below hbw hbl c0
      have r1 := cell_below hbw hbl c1
      have r2 := cell_below hbw hbl c2
      have HCM := Lib.hid (IH.out ps[k] (List.getElem_mem hk) wr _ _ x y z cur (by rw [himg.1, HL.out]) (HT.out.to hbw (Nat.le_refl _)) hcur (hnode.to hbw (Nat.le_refl _)))
      have HTK := Lib.hid (show ps.take (k + 1) = ps.take k ++ [ps[k]] from List.take_succ_eq_append_getElem hk)
      have j0 : (0 : Int) ≤ k := by omega
      have j1 : (k : Int) < ps.length := by omega
      clear hcur himg hb hxx c0 c1 c2 hnode hbw
      go_wp2_with fail
      refine HCM.out.mono ?_
      rintro e w2 ⟨v2, out2, rfl, hbo, himg2, hb2⟩
      have HBO := Lib.hid hbo
      have HI2 := Lib.hid (show img (Mseq t (ps.take (k + 1))) bs out2 from img_iff (img_comp HIMG.out himg2) (fun p q => by rw [HTK.out, Mseq_append]; simp only [Mseq_one]))
      have HB2 := Lib.hid (HB.out.trans (hb2.mono HB.out.size))
      clear hbo himg2 hb2 y2 r0 r1 r2 HCM
      go_wp2_with fail
      go_roundw
      case rel => exact ⟨k + 1, out2, by go_num, by omega, HBO.out, HI2.out, HB2.out⟩
      case measure => simp [intOf]; omega
    · have HTA := Lib.hid (show ps.take k = ps from List.take_of_length_le (by omega))
      obtain ⟨q1, d1, hq⟩ := hcur.get.imp fun _ h => h.imp fun _ h => h.1
      subst hq
      clear hcur himg hb hbw
      go_wp2_with fail
      go_ret
      exact ⟨_, cur, rfl, HCUR.out, img_iff HIMG.out (fun p q => by rw [HTA.out, M_2]), HBWR.out⟩

set_option maxRecDepth 100000 in
set_option maxHeartbeats 8000000 in
theorem ends_3 (t : List Int) (cls : List Int) (ps : List Nd) (hn : t.length ≤ 1000) (ih : ∀ x ∈ ps, EndsAt t x) : EndsAt t (.mk 3 cls ps) := by
  intro w tv fv a b c bs hl ht hf hx
  have IH := Lib.hid ih
  rw [nodeIs_iff] at hx
  obtain ⟨rfl, hcl, hcb, hpb, hps⟩ := hx
  obtain ⟨pt, capt, rfl, hct, hxt⟩ := ht.get
  obtain ⟨pf, capf, rfl, hcf, hxf⟩ := hf.get
  obtain ⟨pc, capc, rfl, hcc, -⟩ := hcl.get
  obtain ⟨pp, capp, rfl, hcp, hxp⟩ := hps.get
  rw [hl] at hf hcf ⊢
  have HT := Lib.hid ht
  have HF := Lib.hid hf
  have HXF := Lib.hid hxf
  have HXT := Lib.hid hxt
  have HCL := Lib.hid hcl
  have HCB := Lib.hid hcb
  have HXP := Lib.hid hxp
  have HL := Lib.hid hl
  unfold R at hcb hpb
  have hmk := fun w => make_bools 33 Try.underlying33 w ((t.length : Int) + 1) (t.length + 1) (by omega) (by omega)
  clear hl ht hf hcl hps hxt hxf hxp ih
  go_enter Try.func28, Try.ntmps28
  go_upto_region 2 with fail
  refine abs_wp fun W hW => ?_
  obtain ⟨a0, a1, a2⟩ := alloc2' w _ _ W hW
  obtain ⟨B, hB⟩ : ∃ B, B = w.heap.size := ⟨_, rfl⟩
  have HBX := Lib.hid (show W.heap[B]? = some (.cells #[.int .i64 3, .slice pc cls.length capc, .slice pp ps.length capp] 25) by rw [hB]; exact a1)
  have HROW := Lib.hid (show BRow W (B + 1) (List.replicate (t.length + 1) false) by unfold BRow; rw [hB, a2]; simp)
  have HBW := Lib.hid a0
  rw [← hB]
  have HBE := Lib.hid hB
  obtain ⟨x0, x1, x2⟩ := cells3 HBX.out
  clear hW hB a0 a1 a2 hmk
  go_wp2_with fail
  go_loopw [7, 11] (fun u i wr => ∃ (k : Nat) (cur : List Bool), i = .int .i64 k ∧ k ≤ ps.length ∧ Bools wr u cur ∧ img (Malt t (ps.take k)) bs cur ∧ Below W.heap.size W wr) (fun _ i _ => ps.length - (intOf i).toNat)
  case atStart => exact ⟨0, _, rfl, by omega, HROW.out.read (by simp), img_no HL.out (fun p q h => by simp [Malt] at h), Below.refl _ _⟩
  case round =>
    obtain ⟨k, cur, rfl, h1, hcur, himg, hb⟩ := hrel
    have HCUR := Lib.hid hcur
    have HIMG := Lib.hid himg
    have HB := Lib.hid hb
    have y2 := cell_below hb (at_lt HBX.out) x2
    have hbw := HBW.out.trans (hb.mono HBW.out.size)
    have HBWR := Lib.hid hbw
    obtain ⟨q1, d1, hq⟩ := hcur.get.imp fun _ h => h.imp fun _ h => h.1
    subst hq
    by_cases hk : k < ps.length
    · obtain ⟨bb, off, rfl, hbl, hxx⟩ := HXP.out (by omega)
      obtain ⟨x, y, z, c0, c1, c2, hnode⟩ := hxx k hk
      have r0 := cell_below hbw hbl c0
      have r1 := cell_below hbw hbl c1
      have r2 := cell_below hbw hbl c2
      have HCM := Lib.hid (IH.out ps[k] (List.getElem_mem hk) wr _ _ x y z bs HL.out (HT.out.to hbw (Nat.le_refl _)) (HF.out.to hbw (Nat.le_refl _)) (hnode.to hbw (Nat.le_refl _)))
      have HTK := Lib.hid (show ∀ p q, Malt t (ps.take (k + 1)) p q ↔ Malt t (ps.take k) p q ∨ M t ps[k] p q from Malt_take hk)
      have j0 : (0 : Int) ≤ k := by omega
      have j1 : (k : Int) < ps.length := by omega
      clear hcur himg hb hxx c0 c1 c2 hnode hbw
      go_wp2_with fail
      refine HCM.out.mono ?_
      rintro e w2 ⟨v2, out2, rfl, hbo, himg2, hb2⟩
      have HIM2 := Lib.hid himg2
      have hcl : cur.length = t.length + 1 := HIMG.out.1.trans HL.out
      have HOR := Lib.hid (or_any w2 _ _ cur out2 (himg2.1.trans HIMG.out.1.symm) (by omega) (HCUR.out.to hb2 (Nat.le_refl _)) hbo)
      have HB2 := Lib.hid (HB.out.trans (hb2.mono HB.out.size))
      clear hbo himg2 hb2 y2 r0 r1 r2 HCM hcl
      go_wp2_with fail
      refine HOR.out.mono ?_
      rintro e w3 ⟨g3, cs3, rfl, hr3, -, hl3, ht3, hb3⟩
      have HREL := Lib.hid (show Bools w3 (.slice (some ⟨g3, 0, none⟩) cur.length cur.length) cs3 ∧ img (Malt t (ps.take (k + 1))) bs cs3 ∧ Below W.heap.size W w3 from
        ⟨hr3.read hl3, img_iff (img_or HIMG.out HIM2.out hl3 ht3) (fun p q => (HTK.out p q).symm), HB2.out.trans (hb3.mono HB2.out.size)⟩)
      clear hr3 hl3 ht3 hb3 HOR
      go_wp2_with fail
      go_roundw
      case rel => exact ⟨k + 1, cs3, by go_num, by omega, HREL.out.1, HREL.out.2.1, HREL.out.2.2⟩
      case measure => simp [intOf]; omega
    · have HTA := Lib.hid (show ps.take k = ps from List.take_of_length_le (by omega))
      clear hcur himg hb hbw
      go_wp2_with fail
      go_ret
      exact ⟨_, cur, rfl, HCUR.out, img_iff HIMG.out (fun p q => by rw [HTA.out, M_3]), HBWR.out⟩

end Go.Proofs.Ytodkeiadaodehaa
