/-
  lay: an expression is laid down: a set, and nothing. No condition beyond what each theorem names.
-/
import Derived.Test.YtmooflmhbpckjaaNC
set_option linter.unusedVariables false
set_option linter.unusedSimpArgs false
namespace Go.Proofs.Ytmooflmhbpckjaa
open Go.RowKit

def LayPost (base : Nat) (w : World) (m : Nat) (x : Nd) (L : List Sta) (first last : Int) (e : Ending) (w' : World) : Prop :=
  e = .returned (.tuple #[.int .i64 L.length, .int .i64 ((L.length : Int) + 1)]) ∧ Mach base w' m (layF x L) first last ∧ Below base w w' ∧ KeepN w w'

def LayAt (x : Nd) : Prop := ∀ (base : Nat) (w : World) (m : Nat) (L : List Sta) (first last : Int) (a b c : Value), NodeF (fun k => k < base) w x a b c → Mach base w m L first last →
  L.length + 2 * cnt x ≤ 100000 → edges L + 6 * cnt x ≤ 100000 →
  Calls Try.prog 50 #[.pointer (some ⟨m, 0, none⟩), .agg #[a, b, c]] w (LayPost base w m x L first last)

theorem Mach.lt {base m : Nat} {w : World} {L : List Sta} {f l : Int} (h : Mach base w m L f l) : base ≤ m ∧ m < w.heap.size := by
  obtain ⟨lv, Ls, h1, h2, h3⟩ := h
  exact ⟨h1, at_lt h2⟩

set_option maxRecDepth 100000 in
set_option maxHeartbeats 4000000 in
theorem lay_set (cls : List Int) : LayAt (.mk 1 cls []) := by
  intro base w m L first last a b c hx hm hL hE
  rw [nodeF_iff] at hx
  obtain ⟨rfl, hcl, -, hcb, -, hps⟩ := hx
  obtain ⟨pc, capc, rfl, hcc, hxc⟩ := hcl.get
  obtain ⟨pp, capp, rfl, hcp, -⟩ := hps.get
  unfold R at hcb
  simp only [cnt, cntL] at hL
  have HCL := Lib.hid hcl
  have HM := Lib.hid hm
  have hbw : base ≤ w.heap.size := by have := hm.lt; omega
  clear hcl hps hxc hm hE
  go_enter Try.func50, Try.ntmps50
  go_upto_region 1 with fail
  refine abs_wp fun W hW => ?_
  obtain ⟨B, hB⟩ : ∃ B, B = w.heap.size := ⟨_, rfl⟩
  have hbox : W.heap[B]? = some (.cells #[.int .i64 1, .slice pc cls.length capc, .slice pp 0 capp] 49) := by rw [hW, hB]; exact heap_alloc_new _ _
  have hbe : Below w.heap.size w W := by rw [hW]; exact below_alloc1 _ _
  rw [← hB]
  have HBE := Lib.hid hbe
  have HBOX := Lib.hid hbox
  have HMW := Lib.hid (HM.out.below hbe)
  obtain ⟨x0, x1, x2⟩ := cells3 hbox
  clear hW hbox hbe hB
  go_wp2_with fail
  refine (clone_ints W _ cls.length (cls.map (Value.int .i64)) (by omega) (by simp) (fun u hu => by obtain ⟨x, -, rfl⟩ := List.mem_map.1 hu; rfl) (HCL.out.to HBE.out (Nat.le_refl _))).mono ?_
  rintro e w1 ⟨v1, rfl, hown, hb1⟩
  have hown' := ownL_ints hown
  obtain ⟨p1, c1, rfl⟩ := hown'.form
  have HOW := Lib.hid hown'
  have HB1 := Lib.hid hb1
  clear hown hown' hb1 x0 x1 x2
  go_wp2_with fail
  refine (add_any base W w1 m L first last true _ cls (by omega) HMW.out HB1.out HOW.out).mono ?_
  rintro e w2 ⟨rfl, hm2, hb2, hk2⟩
  have HM2 := Lib.hid hm2
  have HB2 := Lib.hid hb2
  have HK2 := Lib.hid hk2
  clear hm2 hb2 hk2
  go_wp2_with fail
  refine (add_any base w2 w2 m _ first last false _ [] (by simp; omega) HM2.out (Below.refl _ _) (OwnL.nil _)).mono ?_
  rintro e w3 ⟨rfl, hm3, hb3, hk3⟩
  have HM3 := Lib.hid hm3
  have HB3 := Lib.hid hb3
  have HK3 := Lib.hid hk3
  clear hm3 hb3 hk3
  go_wp2_with fail
  go_ret2
  refine ⟨?_, ?_, ?_, ?_⟩
  · rfl
  · rw [layF, if_pos rfl]; exact HM3.out
  · exact (((HBE.out.mono hbw).trans (HB1.out.mono (Nat.le_trans hbw HBE.out.size))).trans HB2.out).trans HB3.out
  · exact (((KeepN.of_below HBE.out).trans (KeepN.of_below HB1.out)).trans HK2.out).trans HK3.out

set_option maxRecDepth 100000 in
set_option maxHeartbeats 4000000 in
theorem lay_empty (cls : List Int) : LayAt (.mk 0 cls []) := by
  intro base w m L first last a b c hx hm hL hE
  rw [nodeF_iff] at hx
  obtain ⟨rfl, hcl, -, hcb, hpb, hps⟩ := hx
  obtain ⟨pc, capc, rfl, hcc, hxc⟩ := hcl.get
  obtain ⟨pp, capp, rfl, hcp, hxp⟩ := hps.get
  unfold R at hcb hpb
  simp only [cnt, cntL] at hL hE
  have HM := Lib.hid hm
  have HXP := Lib.hid hxp
  have hbw : base ≤ w.heap.size := by have := hm.lt; omega
  clear hcl hps hxc hm hxp
  go_enter Try.func50, Try.ntmps50
  go_upto_region 1 with fail
  refine abs_wp fun W hW => ?_
  obtain ⟨B, hB⟩ : ∃ B, B = w.heap.size := ⟨_, rfl⟩
  have hbox : W.heap[B]? = some (.cells #[.int .i64 0, .slice pc cls.length capc, .slice pp ([] : List Nd).length capp] 49) := by rw [hW, hB]; exact heap_alloc_new _ _
  have hbe : Below w.heap.size w W := by rw [hW]; exact below_alloc1 _ _
  rw [← hB]
  have HBE := Lib.hid hbe
  have HBOX := Lib.hid hbox
  have HMW := Lib.hid (HM.out.below hbe)
  obtain ⟨x0, x1, x2⟩ := cells3 hbox
  clear hW hbox hbe hB
  go_wp2_with fail
  refine (add_any base W W m L first last false _ [] (by omega) HMW.out (Below.refl _ _) (OwnL.nil _)).mono ?_
  rintro e w1 ⟨rfl, hm1, hb1, hk1⟩
  have HM1 := Lib.hid hm1
  have HB1 := Lib.hid hb1
  have HK1 := Lib.hid hk1
  clear hm1 hb1 hk1 x0 x1 x2
  go_wp2_with fail
  refine (add_any base w1 w1 m _ first last false _ [] (by simp; omega) HM1.out (Below.refl _ _) (OwnL.nil _)).mono ?_
  rintro e w2 ⟨rfl, hm2, hb2, hk2⟩
  rw [show (((L ++ [(⟨[], false, []⟩ : Sta)]).length : Nat) : Int) = (L.length : Int) + 1 by simp]
  obtain ⟨L1, hL1⟩ : ∃ L1, L1 = (L ++ [z0]) ++ [z0] := ⟨_, rfl⟩
  have HMw2 := Lib.hid (show Mach base w2 m L1 first last by rw [hL1]; exact hm2)
  have HBw2 := Lib.hid (((HBE.out.mono hbw).trans HB1.out).trans hb2)
  have HKw2 := Lib.hid (((KeepN.of_below HBE.out).trans HK1.out).trans hk2)
  have hlen : L1.length = L.length + 2 := by rw [hL1]; simp
  have hed : edges L1 = edges L := by rw [hL1]; simp [edges_append]; rfl
  have HBOX2 := Lib.hid (hk2 _ _ (HK1.out _ _ HBOX.out))
  have HL1 := Lib.hid hL1
  have HEN := Lib.hid hlen
  have HED := Lib.hid hed
  obtain ⟨x0, x1, x2⟩ := cells3 HBOX2.out
  clear hm2 hb2 hk2 hL1 hlen hed HM1 HB1 HK1 HMW
  have hlen := HEN.out
  have hed := HED.out
  have ha := below_alloc1 w2 (.cells #[.int .i64 ((L.length : Int) + 1)] 3)
  have HTw3 := Lib.hid (show Ints (w2.alloc (.cells #[.int .i64 ((L.length : Int) + 1)] 3)) (.slice (some ⟨w2.heap.size, 0, none⟩) 1 1) [(L.length : Int) + 1] from Raw.of_block (cs := [.int .i64 ((L.length : Int) + 1)]) (heap_alloc_new _ _))
  have HAw3 := Lib.hid ha
  have HIw3 := Lib.hid (show L.length < (L1).length by omega)
  have HFw3 := Lib.hid (show ((L1)[L.length]'HIw3.out).free.length + [(L.length : Int) + 1].length ≤ 1000000 by have := free_le HIw3.out; simp only [List.length_cons, List.length_nil]; omega)
  have HNw3 := Lib.hid (show (L1).length ≤ 1000000 by omega)
  clear ha
  clear hlen hed
  go_wp2_with fail
  refine (join_any base _ m (L1) first last L.length _ [(L.length : Int) + 1] HIw3.out HNw3.out (HMw2.out.below HAw3.out) HTw3.out HFw3.out).mono ?_
  rintro e w3 ⟨rfl, hm', hb', hk'⟩
  have HMw3 := Lib.hid hm'
  have HBw3 := Lib.hid ((HBw2.out.trans (HAw3.out.mono (Nat.le_trans hbw HBw2.out.size))).trans hb')
  have HKw3 := Lib.hid ((HKw2.out.trans (KeepN.of_below HAw3.out)).trans hk')
  clear hm' hb' hk'
  go_wp2_with fail
  go_ret2
  refine ⟨rfl, ?_, HBw3.out, HKw3.out⟩
  rw [layF, if_neg (by omega), if_pos rfl, ← HL1.out]
  exact HMw3.out
end Go.Proofs.Ytmooflmhbpckjaa
