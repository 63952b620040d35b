/-
  lay: any number of it, or one or none; all. No condition beyond what each theorem names.
-/
import Derived.Test.YtmooflmhbpckjaaNF
set_option linter.unusedVariables false
set_option linter.unusedSimpArgs false
namespace Go.Proofs.Ytmooflmhbpckjaa
open Go.RowKit

set_option maxRecDepth 100000 in
set_option maxHeartbeats 4000000 in
theorem lay_star (cls : List Int) (p : Nd) (hg : Good p) (ih : LayAt p) : LayAt (.mk 4 cls [p]) := by
  intro base w m L first last a b c hx hm hL hE
  rw [nodeF_iff] at hx
  obtain ⟨rfl, hcl, -, hcb, hpb, hps⟩ := hx
  obtain ⟨pc, capc, rfl, hcc, hxc⟩ := hcl.get
  obtain ⟨pp, capp, rfl, hcp, hxp⟩ := hps.get
  unfold R at hcb hpb
  simp only [cnt, cntL] at hL hE
  have HM := Lib.hid hm
  have HXP := Lib.hid hxp
  have hbw : base ≤ w.heap.size := by have := hm.lt; omega
  clear hcl hps hxc hm hxp
  go_enter Try.func50, Try.ntmps50
  go_upto_region 1 with fail
  refine abs_wp fun W hW => ?_
  obtain ⟨B, hB⟩ : ∃ B, B = w.heap.size := ⟨_, rfl⟩
  have hbox : W.heap[B]? = some (.cells #[.int .i64 4, .slice pc cls.length capc, .slice pp ([p] : List Nd).length capp] 49) := by rw [hW, hB]; exact heap_alloc_new _ _
  have hbe : Below w.heap.size w W := by rw [hW]; exact below_alloc1 _ _
  rw [← hB]
  have HBE := Lib.hid hbe
  have HBOX := Lib.hid hbox
  have HMW := Lib.hid (HM.out.below hbe)
  obtain ⟨x0, x1, x2⟩ := cells3 hbox
  clear hW hbox hbe hB
  go_wp2_with fail
  refine (add_any base W W m L first last false _ [] (by omega) HMW.out (Below.refl _ _) (OwnL.nil _)).mono ?_
  rintro e w1 ⟨rfl, hm1, hb1, hk1⟩
  have HM1 := Lib.hid hm1
  have HB1 := Lib.hid hb1
  have HK1 := Lib.hid hk1
  clear hm1 hb1 hk1 x0 x1 x2
  go_wp2_with fail
  refine (add_any base w1 w1 m _ first last false _ [] (by simp; omega) HM1.out (Below.refl _ _) (OwnL.nil _)).mono ?_
  rintro e w2 ⟨rfl, hm2, hb2, hk2⟩
  rw [show (((L ++ [(⟨[], false, []⟩ : Sta)]).length : Nat) : Int) = (L.length : Int) + 1 by simp]
  obtain ⟨L1, hL1⟩ : ∃ L1, L1 = (L ++ [z0]) ++ [z0] := ⟨_, rfl⟩
  have HMw2 := Lib.hid (show Mach base w2 m L1 first last by rw [hL1]; exact hm2)
  have HBw2 := Lib.hid (((HBE.out.mono hbw).trans HB1.out).trans hb2)
  have HKw2 := Lib.hid (((KeepN.of_below HBE.out).trans HK1.out).trans hk2)
  have hlen : L1.length = L.length + 2 := by rw [hL1]; simp
  have hed : edges L1 = edges L := by rw [hL1]; simp [edges_append]; rfl
  have HBOX2 := Lib.hid (hk2 _ _ (HK1.out _ _ HBOX.out))
  have HL1 := Lib.hid hL1
  have HEN := Lib.hid hlen
  have HED := Lib.hid hed
  obtain ⟨x0, x1, x2⟩ := cells3 HBOX2.out
  clear hm2 hb2 hk2 hL1 hlen hed HM1 HB1 HK1 HMW
  have IH := Lib.hid ih
  have HG := Lib.hid hg
  clear ih hg
  obtain ⟨bb, off, rfl, hbl, hbF, hxx⟩ := HXP.out (by simp)
  obtain ⟨x, y, z, c0, c1, c2, hnode⟩ := hxx 0 (by simp)
  simp only [Nat.zero_mul, Nat.add_zero] at c0 c1 c2
  have r0 := cell_below HBw2.out hbF c0
  have r1 := cell_below HBw2.out hbF c1
  have r2 := cell_below HBw2.out hbF c2
  obtain ⟨o0, p0, l0, d0, q0, m0, e0, rfl, rfl, rfl⟩ := (hnode.is).form
  have HD := Lib.hid (show Calls Try.prog 50 #[.pointer (some ⟨m, 0, none⟩), .agg #[.int .i64 o0, .slice p0 l0 d0, .slice q0 m0 e0]] w2 (LayPost base w2 m p L1 first last) from
    IH.out base w2 m L1 first last _ _ _ (NodeF.fr (Fr.of_belowB HBw2.out) (fun q hq => Nat.not_le_of_lt hq) _ hnode) HMw2.out (by have := HEN.out; omega) (by have := HED.out; omega))
  clear hxx c0 c1 c2 hnode
  go_wp2_with fail
  refine HD.out.mono ?_
  rintro e w3 ⟨rfl, hm3, hb3, hk3⟩
  obtain ⟨L3, hL3⟩ : ∃ L3, L3 = layF p L1 := ⟨_, rfl⟩
  rw [← hL3] at hm3
  have hlen3 : L3.length = L1.length + 2 * cnt p := by rw [hL3]; exact (lay_ok _ HG.out _).length
  have hcp := cnt_pos p
  have hed3 : edges L3 + 2 ≤ edges L1 + 6 * cnt p := by rw [hL3]; exact edges_lay p L1
  have hlenN := HEN.out
  have hedD := HED.out
  have HMw3 := Lib.hid hm3
  have HBw3 := Lib.hid (HBw2.out.trans hb3)
  have HKw3 := Lib.hid (HKw2.out.trans hk3)
  have HBOX3 := Lib.hid (hk3 _ _ HBOX2.out)
  have HL3 := Lib.hid hL3
  obtain ⟨L4, hL4⟩ : ∃ L4, L4 = joinF L3 L.length [(L1.length : Int), (L.length : Int) + 1] := ⟨_, rfl⟩
  have hlen4 : L4.length = L3.length := by rw [hL4, joinF_length]
  have hed4 : edges L4 ≤ edges L3 + 2 := by rw [hL4]; exact edges_join_le _ _ _
  obtain ⟨L5, hL5⟩ : ∃ L5, L5 = joinF L4 (L1.length + 1) [(L.length : Int) + 1] := ⟨_, rfl⟩
  have hlen5 : L5.length = L4.length := by rw [hL5, joinF_length]
  have hed5 : edges L5 ≤ edges L4 + 1 := by rw [hL5]; exact edges_join_le _ _ _
  have HL4 := Lib.hid hL4
  have HL5 := Lib.hid hL5
  have HX := Lib.hid (show L1.length + 1 < L4.length ∧ L4.length ≤ 1000000 ∧ edges L4 ≤ 500000 ∧ L5.length = L4.length ∧ edges L5 ≤ 500000 by omega)
  have ha := below_alloc1 w3 (.cells #[.int .i64 ((L1.length : Int)), .int .i64 ((L.length : Int) + 1)] 3)
  have HTw4 := Lib.hid (show Ints (w3.alloc (.cells #[.int .i64 ((L1.length : Int)), .int .i64 ((L.length : Int) + 1)] 3)) (.slice (some ⟨w3.heap.size, 0, none⟩) 2 2) [(L1.length : Int), (L.length : Int) + 1] from Raw.of_block (cs := [.int .i64 ((L1.length : Int)), .int .i64 ((L.length : Int) + 1)]) (heap_alloc_new _ _))
  have HAw4 := Lib.hid ha
  have HIw4 := Lib.hid (show L.length < (L3).length by omega)
  have HFw4 := Lib.hid (show ((L3)[L.length]'HIw4.out).free.length + [(L1.length : Int), (L.length : Int) + 1].length ≤ 1000000 by have := free_le HIw4.out; simp only [List.length_cons, List.length_nil]; omega)
  have HNw4 := Lib.hid (show (L3).length ≤ 1000000 by omega)
  clear ha
  clear hm3 hb3 hk3 hL3 hlen3 hed3 hL4 hL5 hlen4 hed4 hlen5 hed5 hlenN hedD r0 r1 r2 x0 x1 x2
  go_wp2_with fail
  refine (join_any base _ m (L3) first last L.length _ [(L1.length : Int), (L.length : Int) + 1] HIw4.out HNw4.out (HMw3.out.below HAw4.out) HTw4.out HFw4.out).mono ?_
  rintro e w4 ⟨rfl, hm', hb', hk'⟩
  have HBOX4 := Lib.hid (hk' _ _ ((HAw4.out.block _ (at_lt HBOX3.out)).trans HBOX3.out))
  have HMw4 := Lib.hid hm'
  have HBw4 := Lib.hid ((HBw3.out.trans (HAw4.out.mono (Nat.le_trans hbw HBw3.out.size))).trans hb')
  have HKw4 := Lib.hid ((HKw3.out.trans (KeepN.of_below HAw4.out)).trans hk')
  clear hm' hb' hk'
  rw [← HL4.out] at HMw4
  obtain ⟨hx1, hx2, hx3, hx4, hx5⟩ := HX.out
  have hc1 : ((L1.length + 1 : Nat) : Int) = (L1.length : Int) + 1 := by omega
  have ha := below_alloc1 w4 (.cells #[.int .i64 ((L.length : Int) + 1)] 3)
  have HTw5 := Lib.hid (show Ints (w4.alloc (.cells #[.int .i64 ((L.length : Int) + 1)] 3)) (.slice (some ⟨w4.heap.size, 0, none⟩) 1 1) [(L.length : Int) + 1] from Raw.of_block (cs := [.int .i64 ((L.length : Int) + 1)]) (heap_alloc_new _ _))
  have HAw5 := Lib.hid ha
  have HIw5 := Lib.hid (show (L1.length + 1) < (L4).length by omega)
  have HFw5 := Lib.hid (show ((L4)[(L1.length + 1)]'HIw5.out).free.length + [(L.length : Int) + 1].length ≤ 1000000 by have := free_le HIw5.out; simp only [List.length_cons, List.length_nil]; omega)
  have HNw5 := Lib.hid (show (L4).length ≤ 1000000 by omega)
  clear ha
  clear hx1 hx2 hx3 hx4 hx5
  go_wp2_with fail
  rw [← hc1]
  refine (join_any base _ m (L4) first last (L1.length + 1) _ [(L.length : Int) + 1] HIw5.out HNw5.out (HMw4.out.below HAw5.out) HTw5.out HFw5.out).mono ?_
  rintro e w5 ⟨rfl, hm', hb', hk'⟩
  have HBOX5 := Lib.hid (hk' _ _ ((HAw5.out.block _ (at_lt HBOX4.out)).trans HBOX4.out))
  have HMw5 := Lib.hid hm'
  have HBw5 := Lib.hid ((HBw4.out.trans (HAw5.out.mono (Nat.le_trans hbw HBw4.out.size))).trans hb')
  have HKw5 := Lib.hid ((HKw4.out.trans (KeepN.of_below HAw5.out)).trans hk')
  clear hm' hb' hk'
  clear hc1
  rw [← HL5.out] at HMw5
  have x0 := (cells3 HBOX5.out).1
  obtain ⟨hx1, hx2, hx3, hx4, hx5⟩ := HX.out
  have hc1 : ((L1.length + 1 : Nat) : Int) = (L1.length : Int) + 1 := by omega
  have ha := below_alloc1 w5 (.cells #[.int .i64 ((L1.length : Int))] 3)
  have HTw6 := Lib.hid (show Ints (w5.alloc (.cells #[.int .i64 ((L1.length : Int))] 3)) (.slice (some ⟨w5.heap.size, 0, none⟩) 1 1) [(L1.length : Int)] from Raw.of_block (cs := [.int .i64 ((L1.length : Int))]) (heap_alloc_new _ _))
  have HAw6 := Lib.hid ha
  have HIw6 := Lib.hid (show (L1.length + 1) < (L5).length by omega)
  have HFw6 := Lib.hid (show ((L5)[(L1.length + 1)]'HIw6.out).free.length + [(L1.length : Int)].length ≤ 1000000 by have := free_le HIw6.out; simp only [List.length_cons, List.length_nil]; omega)
  have HNw6 := Lib.hid (show (L5).length ≤ 1000000 by omega)
  clear ha
  clear hx1 hx2 hx3 hx4 hx5
  go_wp2_with fail
  rw [← hc1]
  refine (join_any base _ m (L5) first last (L1.length + 1) _ [(L1.length : Int)] HIw6.out HNw6.out (HMw5.out.below HAw6.out) HTw6.out HFw6.out).mono ?_
  rintro e w6 ⟨rfl, hm', hb', hk'⟩
  have HMw6 := Lib.hid hm'
  have HBw6 := Lib.hid ((HBw5.out.trans (HAw6.out.mono (Nat.le_trans hbw HBw5.out.size))).trans hb')
  have HKw6 := Lib.hid ((HKw5.out.trans (KeepN.of_below HAw6.out)).trans hk')
  clear hm' hb' hk'
  clear hc1
  go_wp2_with fail
  go_ret2
  refine ⟨rfl, ?_, HBw6.out, HKw6.out⟩
  have hs : layF (.mk 4 cls [p]) L = joinF L5 (L1.length + 1) [(L1.length : Int)] := by
    rw [layF, if_neg (by omega), if_neg (by omega), if_neg (by omega), if_neg (by omega), ← HL1.out, oneF, if_pos rfl, ← HL3.out, ← HL4.out, ← HL5.out]
  rw [hs]
  exact HMw6.out

set_option maxRecDepth 100000 in
set_option maxHeartbeats 4000000 in
theorem lay_opt (cls : List Int) (p : Nd) (hg : Good p) (ih : LayAt p) : LayAt (.mk 5 cls [p]) := by
  intro base w m L first last a b c hx hm hL hE
  rw [nodeF_iff] at hx
  obtain ⟨rfl, hcl, -, hcb, hpb, hps⟩ := hx
  obtain ⟨pc, capc, rfl, hcc, hxc⟩ := hcl.get
  obtain ⟨pp, capp, rfl, hcp, hxp⟩ := hps.get
  unfold R at hcb hpb
  simp only [cnt, cntL] at hL hE
  have HM := Lib.hid hm
  have HXP := Lib.hid hxp
  have hbw : base ≤ w.heap.size := by have := hm.lt; omega
  clear hcl hps hxc hm hxp
  go_enter Try.func50, Try.ntmps50
  go_upto_region 1 with fail
  refine abs_wp fun W hW => ?_
  obtain ⟨B, hB⟩ : ∃ B, B = w.heap.size := ⟨_, rfl⟩
  have hbox : W.heap[B]? = some (.cells #[.int .i64 5, .slice pc cls.length capc, .slice pp ([p] : List Nd).length capp] 49) := by rw [hW, hB]; exact heap_alloc_new _ _
  have hbe : Below w.heap.size w W := by rw [hW]; exact below_alloc1 _ _
  rw [← hB]
  have HBE := Lib.hid hbe
  have HBOX := Lib.hid hbox
  have HMW := Lib.hid (HM.out.below hbe)
  obtain ⟨x0, x1, x2⟩ := cells3 hbox
  clear hW hbox hbe hB
  go_wp2_with fail
  refine (add_any base W W m L first last false _ [] (by omega) HMW.out (Below.refl _ _) (OwnL.nil _)).mono ?_
  rintro e w1 ⟨rfl, hm1, hb1, hk1⟩
  have HM1 := Lib.hid hm1
  have HB1 := Lib.hid hb1
  have HK1 := Lib.hid hk1
  clear hm1 hb1 hk1 x0 x1 x2
  go_wp2_with fail
  refine (add_any base w1 w1 m _ first last false _ [] (by simp; omega) HM1.out (Below.refl _ _) (OwnL.nil _)).mono ?_
  rintro e w2 ⟨rfl, hm2, hb2, hk2⟩
  rw [show (((L ++ [(⟨[], false, []⟩ : Sta)]).length : Nat) : Int) = (L.length : Int) + 1 by simp]
  obtain ⟨L1, hL1⟩ : ∃ L1, L1 = (L ++ [z0]) ++ [z0] := ⟨_, rfl⟩
  have HMw2 := Lib.hid (show Mach base w2 m L1 first last by rw [hL1]; exact hm2)
  have HBw2 := Lib.hid (((HBE.out.mono hbw).trans HB1.out).trans hb2)
  have HKw2 := Lib.hid (((KeepN.of_below HBE.out).trans HK1.out).trans hk2)
  have hlen : L1.length = L.length + 2 := by rw [hL1]; simp
  have hed : edges L1 = edges L := by rw [hL1]; simp [edges_append]; rfl
  have HBOX2 := Lib.hid (hk2 _ _ (HK1.out _ _ HBOX.out))
  have HL1 := Lib.hid hL1
  have HEN := Lib.hid hlen
  have HED := Lib.hid hed
  obtain ⟨x0, x1, x2⟩ := cells3 HBOX2.out
  clear hm2 hb2 hk2 hL1 hlen hed HM1 HB1 HK1 HMW
  have IH := Lib.hid ih
  have HG := Lib.hid hg
  clear ih hg
  obtain ⟨bb, off, rfl, hbl, hbF, hxx⟩ := HXP.out (by simp)
  obtain ⟨x, y, z, c0, c1, c2, hnode⟩ := hxx 0 (by simp)
  simp only [Nat.zero_mul, Nat.add_zero] at c0 c1 c2
  have r0 := cell_below HBw2.out hbF c0
  have r1 := cell_below HBw2.out hbF c1
  have r2 := cell_below HBw2.out hbF c2
  obtain ⟨o0, p0, l0, d0, q0, m0, e0, rfl, rfl, rfl⟩ := (hnode.is).form
  have HD := Lib.hid (show Calls Try.prog 50 #[.pointer (some ⟨m, 0, none⟩), .agg #[.int .i64 o0, .slice p0 l0 d0, .slice q0 m0 e0]] w2 (LayPost base w2 m p L1 first last) from
    IH.out base w2 m L1 first last _ _ _ (NodeF.fr (Fr.of_belowB HBw2.out) (fun q hq => Nat.not_le_of_lt hq) _ hnode) HMw2.out (by have := HEN.out; omega) (by have := HED.out; omega))
  clear hxx c0 c1 c2 hnode
  go_wp2_with fail
  refine HD.out.mono ?_
  rintro e w3 ⟨rfl, hm3, hb3, hk3⟩
  obtain ⟨L3, hL3⟩ : ∃ L3, L3 = layF p L1 := ⟨_, rfl⟩
  rw [← hL3] at hm3
  have hlen3 : L3.length = L1.length + 2 * cnt p := by rw [hL3]; exact (lay_ok _ HG.out _).length
  have hcp := cnt_pos p
  have hed3 : edges L3 + 2 ≤ edges L1 + 6 * cnt p := by rw [hL3]; exact edges_lay p L1
  have hlenN := HEN.out
  have hedD := HED.out
  have HMw3 := Lib.hid hm3
  have HBw3 := Lib.hid (HBw2.out.trans hb3)
  have HKw3 := Lib.hid (HKw2.out.trans hk3)
  have HBOX3 := Lib.hid (hk3 _ _ HBOX2.out)
  have HL3 := Lib.hid hL3
  obtain ⟨L4, hL4⟩ : ∃ L4, L4 = joinF L3 L.length [(L1.length : Int), (L.length : Int) + 1] := ⟨_, rfl⟩
  have hlen4 : L4.length = L3.length := by rw [hL4, joinF_length]
  have hed4 : edges L4 ≤ edges L3 + 2 := by rw [hL4]; exact edges_join_le _ _ _
  obtain ⟨L5, hL5⟩ : ∃ L5, L5 = joinF L4 (L1.length + 1) [(L.length : Int) + 1] := ⟨_, rfl⟩
  have hlen5 : L5.length = L4.length := by rw [hL5, joinF_length]
  have hed5 : edges L5 ≤ edges L4 + 1 := by rw [hL5]; exact edges_join_le _ _ _
  have HL4 := Lib.hid hL4
  have HL5 := Lib.hid hL5
  have HX := Lib.hid (show L1.length + 1 < L4.length ∧ L4.length ≤ 1000000 ∧ edges L4 ≤ 500000 ∧ L5.length = L4.length ∧ edges L5 ≤ 500000 by omega)
  have ha := below_alloc1 w3 (.cells #[.int .i64 ((L1.length : Int)), .int .i64 ((L.length : Int) + 1)] 3)
  have HTw4 := Lib.hid (show Ints (w3.alloc (.cells #[.int .i64 ((L1.length : Int)), .int .i64 ((L.length : Int) + 1)] 3)) (.slice (some ⟨w3.heap.size, 0, none⟩) 2 2) [(L1.length : Int), (L.length : Int) + 1] from Raw.of_block (cs := [.int .i64 ((L1.length : Int)), .int .i64 ((L.length : Int) + 1)]) (heap_alloc_new _ _))
  have HAw4 := Lib.hid ha
  have HIw4 := Lib.hid (show L.length < (L3).length by omega)
  have HFw4 := Lib.hid (show ((L3)[L.length]'HIw4.out).free.length + [(L1.length : Int), (L.length : Int) + 1].length ≤ 1000000 by have := free_le HIw4.out; simp only [List.length_cons, List.length_nil]; omega)
  have HNw4 := Lib.hid (show (L3).length ≤ 1000000 by omega)
  clear ha
  clear hm3 hb3 hk3 hL3 hlen3 hed3 hL4 hL5 hlen4 hed4 hlen5 hed5 hlenN hedD r0 r1 r2 x0 x1 x2
  go_wp2_with fail
  refine (join_any base _ m (L3) first last L.length _ [(L1.length : Int), (L.length : Int) + 1] HIw4.out HNw4.out (HMw3.out.below HAw4.out) HTw4.out HFw4.out).mono ?_
  rintro e w4 ⟨rfl, hm', hb', hk'⟩
  have HBOX4 := Lib.hid (hk' _ _ ((HAw4.out.block _ (at_lt HBOX3.out)).trans HBOX3.out))
  have HMw4 := Lib.hid hm'
  have HBw4 := Lib.hid ((HBw3.out.trans (HAw4.out.mono (Nat.le_trans hbw HBw3.out.size))).trans hb')
  have HKw4 := Lib.hid ((HKw3.out.trans (KeepN.of_below HAw4.out)).trans hk')
  clear hm' hb' hk'
  rw [← HL4.out] at HMw4
  obtain ⟨hx1, hx2, hx3, hx4, hx5⟩ := HX.out
  have hc1 : ((L1.length + 1 : Nat) : Int) = (L1.length : Int) + 1 := by omega
  have ha := below_alloc1 w4 (.cells #[.int .i64 ((L.length : Int) + 1)] 3)
  have HTw5 := Lib.hid (show Ints (w4.alloc (.cells #[.int .i64 ((L.length : Int) + 1)] 3)) (.slice (some ⟨w4.heap.size, 0, none⟩) 1 1) [(L.length : Int) + 1] from Raw.of_block (cs := [.int .i64 ((L.length : Int) + 1)]) (heap_alloc_new _ _))
  have HAw5 := Lib.hid ha
  have HIw5 := Lib.hid (show (L1.length + 1) < (L4).length by omega)
  have HFw5 := Lib.hid (show ((L4)[(L1.length + 1)]'HIw5.out).free.length + [(L.length : Int) + 1].length ≤ 1000000 by have := free_le HIw5.out; simp only [List.length_cons, List.length_nil]; omega)
  have HNw5 := Lib.hid (show (L4).length ≤ 1000000 by omega)
  clear ha
  clear hx1 hx2 hx3 hx4 hx5
  go_wp2_with fail
  rw [← hc1]
  refine (join_any base _ m (L4) first last (L1.length + 1) _ [(L.length : Int) + 1] HIw5.out HNw5.out (HMw4.out.below HAw5.out) HTw5.out HFw5.out).mono ?_
  rintro e w5 ⟨rfl, hm', hb', hk'⟩
  have HBOX5 := Lib.hid (hk' _ _ ((HAw5.out.block _ (at_lt HBOX4.out)).trans HBOX4.out))
  have HMw5 := Lib.hid hm'
  have HBw5 := Lib.hid ((HBw4.out.trans (HAw5.out.mono (Nat.le_trans hbw HBw4.out.size))).trans hb')
  have HKw5 := Lib.hid ((HKw4.out.trans (KeepN.of_below HAw5.out)).trans hk')
  clear hm' hb' hk'
  clear hc1
  rw [← HL5.out] at HMw5
  have x0 := (cells3 HBOX5.out).1
  go_wp2_with fail
  go_ret2
  refine ⟨rfl, ?_, HBw5.out, HKw5.out⟩
  have hs : layF (.mk 5 cls [p]) L = L5 := by
    rw [layF, if_neg (by omega), if_neg (by omega), if_neg (by omega), if_neg (by omega), ← HL1.out, oneF, if_neg (by omega), ← HL3.out, ← HL4.out, ← HL5.out]
  rw [hs]
  exact HMw5.out

theorem lay_any : ∀ (x : Nd), Good x → LayAt x
  | .mk op cls ps, hg => by
    unfold Good at hg
    obtain ⟨hop, hnil, hone, hps⟩ := hg
    have ih : ∀ x ∈ ps, LayAt x := fun x hx => lay_any x (GoodL_mem hps x hx)
    rcases hop with rfl | rfl | rfl | rfl | rfl | rfl
    · rw [hnil (.inl rfl)]; exact lay_empty cls
    · rw [hnil (.inr rfl)]; exact lay_set cls
    · exact lay_seq cls ps hps ih
    · exact lay_alt cls ps hps ih
    · match ps, hone (.inl rfl), hps, ih with
      | [p], _, hps, ih => exact lay_star cls p (GoodL_mem hps p (by simp)) (ih p (by simp))
    · match ps, hone (.inr rfl), hps, ih with
      | [p], _, hps, ih => exact lay_opt cls p (GoodL_mem hps p (by simp)) (ih p (by simp))
  termination_by x => SizeOf.sizeOf x
  decreasing_by
    have := List.sizeOf_lt_of_mem hx
    simp; omega
end Go.Proofs.Ytmooflmhbpckjaa
