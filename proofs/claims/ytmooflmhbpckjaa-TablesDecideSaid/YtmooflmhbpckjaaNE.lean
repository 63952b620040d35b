/-
  lay: one behind the other. No condition beyond what each theorem names.
-/
import Derived.Test.YtmooflmhbpckjaaND
set_option linter.unusedVariables false
set_option linter.unusedSimpArgs false
namespace Go.Proofs.Ytmooflmhbpckjaa
open Go.RowKit

set_option maxRecDepth 100000 in
set_option maxHeartbeats 4000000 in
theorem lay_seq (cls : List Int) (ps : List Nd) (hg : GoodL ps) (ih : ∀ x ∈ ps, LayAt x) : LayAt (.mk 2 cls ps) := by
  intro base w m L first last a b c hx hm hL hE
  rw [nodeF_iff] at hx
  obtain ⟨rfl, hcl, -, hcb, hpb, hps⟩ := hx
  obtain ⟨pc, capc, rfl, hcc, hxc⟩ := hcl.get
  obtain ⟨pp, capp, rfl, hcp, hxp⟩ := hps.get
  unfold R at hcb hpb
  simp only [cnt] at hL hE
  have HM := Lib.hid hm
  have HXP := Lib.hid hxp
  have hbw : base ≤ w.heap.size := by have := hm.lt; omega
  clear hcl hps hxc hm hxp
  go_enter Try.func50, Try.ntmps50
  go_upto_region 1 with fail
  refine abs_wp fun W hW => ?_
  obtain ⟨B, hB⟩ : ∃ B, B = w.heap.size := ⟨_, rfl⟩
  have hbox : W.heap[B]? = some (.cells #[.int .i64 2, .slice pc cls.length capc, .slice pp (ps : List Nd).length capp] 49) := by rw [hW, hB]; exact heap_alloc_new _ _
  have hbe : Below w.heap.size w W := by rw [hW]; exact below_alloc1 _ _
  rw [← hB]
  have HBE := Lib.hid hbe
  have HBOX := Lib.hid hbox
  have HMW := Lib.hid (HM.out.below hbe)
  obtain ⟨x0, x1, x2⟩ := cells3 hbox
  clear hW hbox hbe hB
  go_wp2_with fail
  refine (add_any base W W m L first last false _ [] (by omega) HMW.out (Below.refl _ _) (OwnL.nil _)).mono ?_
  rintro e w1 ⟨rfl, hm1, hb1, hk1⟩
  have HM1 := Lib.hid hm1
  have HB1 := Lib.hid hb1
  have HK1 := Lib.hid hk1
  clear hm1 hb1 hk1 x0 x1 x2
  go_wp2_with fail
  refine (add_any base w1 w1 m _ first last false _ [] (by simp; omega) HM1.out (Below.refl _ _) (OwnL.nil _)).mono ?_
  rintro e w2 ⟨rfl, hm2, hb2, hk2⟩
  rw [show (((L ++ [(⟨[], false, []⟩ : Sta)]).length : Nat) : Int) = (L.length : Int) + 1 by simp]
  obtain ⟨L1, hL1⟩ : ∃ L1, L1 = (L ++ [z0]) ++ [z0] := ⟨_, rfl⟩
  have HMw2 := Lib.hid (show Mach base w2 m L1 first last by rw [hL1]; exact hm2)
  have HBw2 := Lib.hid (((HBE.out.mono hbw).trans HB1.out).trans hb2)
  have HKw2 := Lib.hid (((KeepN.of_below HBE.out).trans HK1.out).trans hk2)
  have hlen : L1.length = L.length + 2 := by rw [hL1]; simp
  have hed : edges L1 = edges L := by rw [hL1]; simp [edges_append]; rfl
  have HBOX2 := Lib.hid (hk2 _ _ (HK1.out _ _ HBOX.out))
  have HL1 := Lib.hid hL1
  have HEN := Lib.hid hlen
  have HED := Lib.hid hed
  obtain ⟨x0, x1, x2⟩ := cells3 HBOX2.out
  clear hm2 hb2 hk2 hL1 hlen hed HM1 HB1 HK1 HMW
  have IH := Lib.hid ih
  have HG := Lib.hid hg
  have HZ := Lib.hid (show (at_ L1 L.length).free = [] by rw [HL1.out, at_two, if_neg (by omega), if_pos rfl]; rfl)
  clear ih hg
  go_wp2_with fail
  go_loopw [9, 54] (fun u i wr => ∃ k : Nat, i = .int .i64 k ∧ k ≤ ps.length ∧ u = .int .i64 (seqF (ps.take k) L1 L.length).2 ∧ Mach base wr m (seqF (ps.take k) L1 L.length).1 first last ∧ Below base w wr ∧ KeepN w wr) (fun _ i _ => ps.length - (intOf i).toNat)
  case atStart => exact ⟨0, rfl, by omega, by simp [seqF], by simp only [List.take_zero, seqF]; exact HMw2.out, HBw2.out, HKw2.out⟩
  case round =>
    obtain ⟨k, rfl, h1, rfl, hmk, hbk, hkk⟩ := hrel
    have hok := seq_ok (ps.take k) (GoodL_take HG.out k) L1 L.length (by rw [HEN.out]; omega) HZ.out
    have hed := edges_seq (ps.take k) L1 L.length
    have hcl := cntL_take_le ps k
    obtain ⟨R, hR⟩ : ∃ R, R = seqF (ps.take k) L1 L.length := ⟨_, rfl⟩
    rw [← hR] at hmk hok hed ⊢
    have hlen := hok.length
    have hlt := hok.lt
    rw [HEN.out] at hlen
    rw [HED.out] at hed
    have HR := Lib.hid hR
    have HMr := Lib.hid hmk
    have HBr := Lib.hid hbk
    have HKr := Lib.hid hkk
    have HLE := Lib.hid hlen
    have HLT := Lib.hid hlt
    have HEE := Lib.hid hed
    have HCL := Lib.hid hcl
    clear hR hmk hbk hkk hok hlen hlt hed hcl
    by_cases hk : k < ps.length
    · obtain ⟨bb, off, rfl, hbl, hbF, hxx⟩ := HXP.out (by omega)
      obtain ⟨x, y, z, c0, c1, c2, hnode⟩ := hxx k hk
      have r0 := cell_below HBr.out hbF c0
      have r1 := cell_below HBr.out hbF c1
      have r2 := cell_below HBr.out hbF c2
      obtain ⟨o0, p0, l0, d0, q0, m0, e0, rfl, rfl, rfl⟩ := (hnode.is).form
      have hbwr : base ≤ wr.heap.size := Nat.le_trans hbw HBr.out.size
      have HD := Lib.hid (show ∀ W', Below wr.heap.size wr W' → Calls Try.prog 50 #[.pointer (some ⟨m, 0, none⟩), .agg #[.int .i64 o0, .slice p0 l0 d0, .slice q0 m0 e0]] W' (LayPost base W' m ps[k] R.1 first last) from fun W' hW' =>
        IH.out ps[k] (List.getElem_mem hk) base W' m R.1 first last _ _ _ (NodeF.fr (Fr.of_belowB (HBr.out.trans (hW'.mono hbwr))) (fun q hq => Nat.not_le_of_lt hq) _ hnode) (HMr.out.below hW')
          (by have := HLE.out; have := cntL_take hk; have := cntL_take_le ps (k + 1); omega) (by have := HEE.out; have := cntL_take hk; have := cntL_take_le ps (k + 1); omega))
      clear hxx c0 c1 c2 hnode
      have hkk : (k : Int) < ps.length := by omega
      have hk0 : (0 : Int) ≤ k := by omega
      go_wp2_with fail
      refine (HD.out _ (below_alloc1 _ _)).mono ?_
      rintro e w3 ⟨rfl, hm3, hb3, hk3⟩
      obtain ⟨L3, hL3⟩ : ∃ L3, L3 = layF ps[k] R.1 := ⟨_, rfl⟩
      rw [← hL3] at hm3
      have hlen3 : L3.length = R.1.length + 2 * cnt ps[k] := by rw [hL3]; exact (lay_ok _ (GoodL_mem HG.out _ (List.getElem_mem hk)) _).length
      have hed3 : edges L3 ≤ edges L + 6 * (cntL ps) := by
        have h1 := edges_lay ps[k] R.1
        rw [← hL3] at h1
        have := HEE.out; have := cntL_take hk; have := cntL_take_le ps (k + 1); omega
      have hlen4 : L3.length ≤ L.length + 2 + 2 * cntL ps := by have := HLE.out; have := cntL_take hk; have := cntL_take_le ps (k + 1); omega
      have hal := below_alloc1 wr (.cells #[.int .i64 o0, .slice p0 l0 d0, .slice q0 m0 e0] 49)
      have HMw3 := Lib.hid hm3
      have HBw3 := Lib.hid ((HBr.out.trans (hal.mono hbwr)).trans hb3)
      have HKw3 := Lib.hid ((HKr.out.trans (KeepN.of_below hal)).trans hk3)
      have HL3 := Lib.hid hL3
      have hltR := HLT.out
      have hRn : (0 : Int) ≤ R.2 := by omega
      have ha := below_alloc1 w3 (.cells #[.int .i64 ((R.1.length : Int))] 3)
      have HTw4 := Lib.hid (show Ints (w3.alloc (.cells #[.int .i64 ((R.1.length : Int))] 3)) (.slice (some ⟨w3.heap.size, 0, none⟩) 1 1) [(R.1.length : Int)] from Raw.of_block (cs := [.int .i64 ((R.1.length : Int))]) (heap_alloc_new _ _))
      have HAw4 := Lib.hid ha
      have HIw4 := Lib.hid (show R.2 < (L3).length by omega)
      have HFw4 := Lib.hid (show ((L3)[R.2]'HIw4.out).free.length + [(R.1.length : Int)].length ≤ 1000000 by have := free_le HIw4.out; simp only [List.length_cons, List.length_nil]; omega)
      have HNw4 := Lib.hid (show (L3).length ≤ 1000000 by omega)
      clear ha
      clear hm3 hb3 hk3 hL3 hlen3 hed3 hlen4 hal hltR r0 r1 r2
      go_wp2_with fail
      refine (join_any base _ m (L3) first last R.2 _ [(R.1.length : Int)] HIw4.out HNw4.out (HMw3.out.below HAw4.out) HTw4.out HFw4.out).mono ?_
      rintro e w4 ⟨rfl, hm', hb', hk'⟩
      have HMw4 := Lib.hid hm'
      have HBw4 := Lib.hid ((HBw3.out.trans (HAw4.out.mono (Nat.le_trans hbw HBw3.out.size))).trans hb')
      have HKw4 := Lib.hid ((HKw3.out.trans (KeepN.of_below HAw4.out)).trans hk')
      clear hm' hb' hk'
      go_wp2_with fail
      go_roundw
      case rel =>
        have hs : seqF (ps.take (k + 1)) L1 L.length = (joinF L3 R.2 [(R.1.length : Int)], R.1.length + 1) := by
          rw [List.take_succ_eq_append_getElem hk, seqF_snoc, ← HR.out, HL3.out]
        exact ⟨k + 1, by go_num, by omega, by rw [hs]; go_num, by rw [hs]; exact HMw4.out, HBw4.out, HKw4.out⟩
      case measure => simp [intOf]; omega
    · have hke : ps.take k = ps := List.take_of_length_le (by omega)
      have hkk : ¬ (k : Int) < ps.length := by omega
      have hltR := HLT.out
      have hlen4 : R.1.length ≤ L.length + 2 + 2 * cntL ps := by have := HLE.out; have := HCL.out; omega
      have hed3 : edges R.1 ≤ edges L + 6 * (cntL ps) := by have := HEE.out; have := HCL.out; omega
      have hRn : (0 : Int) ≤ R.2 := by omega
      have ha := below_alloc1 wr (.cells #[.int .i64 ((L.length : Int) + 1)] 3)
      have HTw4 := Lib.hid (show Ints (wr.alloc (.cells #[.int .i64 ((L.length : Int) + 1)] 3)) (.slice (some ⟨wr.heap.size, 0, none⟩) 1 1) [(L.length : Int) + 1] from Raw.of_block (cs := [.int .i64 ((L.length : Int) + 1)]) (heap_alloc_new _ _))
      have HAw4 := Lib.hid ha
      have HIw4 := Lib.hid (show R.2 < (R.1).length by omega)
      have HFw4 := Lib.hid (show ((R.1)[R.2]'HIw4.out).free.length + [(L.length : Int) + 1].length ≤ 1000000 by have := free_le HIw4.out; simp only [List.length_cons, List.length_nil]; omega)
      have HNw4 := Lib.hid (show (R.1).length ≤ 1000000 by omega)
      clear ha
      have HKE := Lib.hid hke
      clear hltR hlen4 hed3 hke
      go_wp2_with fail
      refine (join_any base _ m (R.1) first last R.2 _ [(L.length : Int) + 1] HIw4.out HNw4.out (HMr.out.below HAw4.out) HTw4.out HFw4.out).mono ?_
      rintro e w4 ⟨rfl, hm', hb', hk'⟩
      have HMw4 := Lib.hid hm'
      have HBw4 := Lib.hid ((HBr.out.trans (HAw4.out.mono (Nat.le_trans hbw HBr.out.size))).trans hb')
      have HKw4 := Lib.hid ((HKr.out.trans (KeepN.of_below HAw4.out)).trans hk')
      clear hm' hb' hk'
      go_wp2_with fail
      go_ret2
      refine ⟨rfl, ?_, HBw4.out, HKw4.out⟩
      have hs : layF (.mk 2 cls ps) L = joinF R.1 R.2 [(L.length : Int) + 1] := by
        rw [layF, if_neg (by omega), if_neg (by omega), if_pos rfl, ← HL1.out, HR.out, HKE.out]
      rw [hs]
      exact HMw4.out
end Go.Proofs.Ytmooflmhbpckjaa
