/-
  right of the reference, kind by kind. No condition beyond what each theorem names.
-/
import Derived.Test.YtodkeiadaodehaaMH
set_option linter.unusedVariables false
set_option linter.unusedSimpArgs false
namespace Go.Proofs.Ytodkeiadaodehaa
open Go.RowKit

set_option maxRecDepth 100000 in
set_option maxHeartbeats 8000000 in
theorem rr_0 (cls : List Int) (ps : List Nd) (ih : ∀ x ∈ ps, RRAt x) : ∀ (w : World) (d : Nat) (a b c : Value), d ≤ 32 → NodeIs w (.mk 0 cls ps) a b c → d ≤ 33 →
    Calls Try.prog 33 #[.agg #[a, b, c], .int .i64 d] w fun e w' => e = .returned (.bool (wfB d (.mk 0 cls ps))) ∧ Below w.heap.size w w' := by
  intro w d a b c hd2 hx hd
  have IH := Lib.hid ih
  clear ih
  rw [nodeIs_iff] at hx
  obtain ⟨rfl, hcl, hcb, hpb, hps⟩ := hx
  obtain ⟨pc, capc, rfl, hcc, hxc⟩ := hcl.get
  obtain ⟨pp, capp, rfl, hcp, hxp⟩ := hps.get
  unfold R at hcb hpb
  have HXC := Lib.hid hxc
  have HXP := Lib.hid hxp
  clear hcl hps hxc hxp
  go_enter Try.func33, Try.ntmps33
  go_upto_region 1 with fail
  refine abs_wp fun W hW => ?_
  obtain ⟨B, hB⟩ : ∃ B, B = w.heap.size := ⟨_, rfl⟩
  have HBX := Lib.hid (show W.heap[B]? = some (.cells #[.int .i64 0, .slice pc cls.length capc, .slice pp ps.length capp] 25) by rw [hW, hB]; exact heap_alloc_new _ _)
  have HBW := Lib.hid (show Below w.heap.size w W by rw [hW]; exact below_alloc1 _ _)
  rw [← hB]
  clear hW hB
  obtain ⟨x0, x1, x2⟩ := cells3 HBX.out
  have c0 : ¬ (32 : Int) < d := by omega
  by_cases k1 : 0 < cls.length
  · have k2 : (0 : Int) < cls.length := by omega
    have k3 : ¬ cls = [] := by intro hz; rw [hz] at k1; simp at k1
    have HNO := Lib.hid (show ¬ Wf d (.mk 0 cls ps) from fun h => by
      unfold Wf at h
      have h1 := h.2.2.1 (by omega)
      rw [h1] at k1
      simp at k1)
    go_wp2_with fail
    go_ret
    exact ⟨ret_val (by rw [wfB_no HNO.out]; rfl), HBW.out⟩
  have k2 : ¬ (0 : Int) < cls.length := by omega
  have HC0 := Lib.hid (show cls = [] from List.eq_nil_of_length_eq_zero (by omega))
  by_cases j1 : 0 < ps.length
  · have j2 : (0 : Int) < ps.length := by omega
    have j3 : ¬ ps = [] := by intro hz; rw [hz] at j1; simp at j1
    have HNO := Lib.hid (show ¬ Wf d (.mk 0 cls ps) from fun h => by
      unfold Wf at h
      have h1 := h.2.2.2.1 (by omega)
      rw [h1] at j1
      simp at j1)
    go_wp2_with fail
    go_ret
    exact ⟨ret_val (by rw [wfB_no HNO.out]; rfl), HBW.out⟩
  have j2 : ¬ (0 : Int) < ps.length := by omega
  have HP0 := Lib.hid (show ps = [] from List.eq_nil_of_length_eq_zero (by omega))
  go_wp2_with fail
  go_loopw [5] (fun i wr => ∃ k : Nat, i = .int .i64 k ∧ k ≤ cls.length ∧ rising (cls.take k) ∧ Below W.heap.size W wr) (fun i _ => cls.length - (intOf i).toNat)
  case atStart => exact ⟨0, rfl, by omega, (by intro i h; simp at h), Below.refl _ _⟩
  case round =>
    obtain ⟨k, rfl, h1, hris, hb⟩ := hrel
    have HRIS := Lib.hid hris
    have HB := Lib.hid hb
    have hbx := (hb.block _ (at_lt HBX.out)).trans HBX.out
    obtain ⟨y0, y1, y2⟩ := cells3 hbx
    have HBWR := Lib.hid (HBW.out.trans (hb.mono HBW.out.size))
    have hbw := HBWR.out
    clear hris hbx
    by_cases hk : k < cls.length
    · exact absurd hk (by omega)
    · have hkk : ¬ (k : Int) < cls.length := by omega
      have HRI := Lib.hid (show rising cls by have h := HRIS.out; rwa [List.take_of_length_le (by omega)] at h)
      clear hb hbw
      go_wp2_with fail
      go_loopw [6] (fun i wz => ∃ j : Nat, i = .int .i64 j ∧ j ≤ ps.length ∧ WfL (d + 1) (ps.take j) ∧ Below W.heap.size W wz) (fun i _ => ps.length - (intOf i).toNat)
      case atStart => exact ⟨0, rfl, by omega, (by simp [WfL]), HB.out⟩
      case round =>
        obtain ⟨j, rfl, j1', hw, hb⟩ := hrel
        have HW := Lib.hid hw
        have HB2 := Lib.hid hb
        have hbx := (hb.block _ (at_lt HBX.out)).trans HBX.out
        obtain ⟨y0, y1, y2⟩ := cells3 hbx
        have HBWR2 := Lib.hid (HBW.out.trans (hb.mono HBW.out.size))
        have hbw := HBWR2.out
        clear hw hbx
        by_cases hj : j < ps.length
        · exact absurd hj (by omega)
        · have hjj : ¬ (j : Int) < ps.length := by omega
          have HYES := Lib.hid (show Wf d (.mk 0 cls ps) from by
            have h2 := HW.out
            rw [List.take_of_length_le (by omega)] at h2
            unfold Wf
            exact ⟨hd2, by omega, fun h => HC0.out, fun h => HP0.out, fun h => absurd h (by omega), HRI.out, h2⟩)
          clear hb hbw
          go_wp2_with fail
          go_ret
          exact ⟨ret_val (by rw [wfB_iff.2 HYES.out]; rfl), HBWR2.out⟩

set_option maxRecDepth 100000 in
set_option maxHeartbeats 8000000 in
theorem rr_1 (cls : List Int) (ps : List Nd) (ih : ∀ x ∈ ps, RRAt x) : ∀ (w : World) (d : Nat) (a b c : Value), d ≤ 32 → NodeIs w (.mk 1 cls ps) a b c → d ≤ 33 →
    Calls Try.prog 33 #[.agg #[a, b, c], .int .i64 d] w fun e w' => e = .returned (.bool (wfB d (.mk 1 cls ps))) ∧ Below w.heap.size w w' := by
  intro w d a b c hd2 hx hd
  have IH := Lib.hid ih
  clear ih
  rw [nodeIs_iff] at hx
  obtain ⟨rfl, hcl, hcb, hpb, hps⟩ := hx
  obtain ⟨pc, capc, rfl, hcc, hxc⟩ := hcl.get
  obtain ⟨pp, capp, rfl, hcp, hxp⟩ := hps.get
  unfold R at hcb hpb
  have HXC := Lib.hid hxc
  have HXP := Lib.hid hxp
  clear hcl hps hxc hxp
  go_enter Try.func33, Try.ntmps33
  go_upto_region 1 with fail
  refine abs_wp fun W hW => ?_
  obtain ⟨B, hB⟩ : ∃ B, B = w.heap.size := ⟨_, rfl⟩
  have HBX := Lib.hid (show W.heap[B]? = some (.cells #[.int .i64 1, .slice pc cls.length capc, .slice pp ps.length capp] 25) by rw [hW, hB]; exact heap_alloc_new _ _)
  have HBW := Lib.hid (show Below w.heap.size w W by rw [hW]; exact below_alloc1 _ _)
  rw [← hB]
  clear hW hB
  obtain ⟨x0, x1, x2⟩ := cells3 HBX.out
  have c0 : ¬ (32 : Int) < d := by omega
  by_cases j1 : 0 < ps.length
  · have j2 : (0 : Int) < ps.length := by omega
    have j3 : ¬ ps = [] := by intro hz; rw [hz] at j1; simp at j1
    have HNO := Lib.hid (show ¬ Wf d (.mk 1 cls ps) from fun h => by
      unfold Wf at h
      have h1 := h.2.2.2.1 (by omega)
      rw [h1] at j1
      simp at j1)
    go_wp2_with fail
    go_ret
    exact ⟨ret_val (by rw [wfB_no HNO.out]; rfl), HBW.out⟩
  have j2 : ¬ (0 : Int) < ps.length := by omega
  have HP0 := Lib.hid (show ps = [] from List.eq_nil_of_length_eq_zero (by omega))
  go_wp2_with fail
  go_loopw [5] (fun i wr => ∃ k : Nat, i = .int .i64 k ∧ k ≤ cls.length ∧ rising (cls.take k) ∧ Below W.heap.size W wr) (fun i _ => cls.length - (intOf i).toNat)
  case atStart => exact ⟨0, rfl, by omega, (by intro i h; simp at h), Below.refl _ _⟩
  case round =>
    obtain ⟨k, rfl, h1, hris, hb⟩ := hrel
    have HRIS := Lib.hid hris
    have HB := Lib.hid hb
    have hbx := (hb.block _ (at_lt HBX.out)).trans HBX.out
    obtain ⟨y0, y1, y2⟩ := cells3 hbx
    have HBWR := Lib.hid (HBW.out.trans (hb.mono HBW.out.size))
    have hbw := HBWR.out
    clear hris hbx
    by_cases hk : k < cls.length
    · obtain ⟨bb, off, rfl, hbl, hxx⟩ := HXC.out (by omega)
      have z0 := cell_below hbw hbl (hxx k hk)
      have hkk : (k : Int) < cls.length := by omega
      have hk0 : (0 : Int) ≤ k := by omega
      obtain ⟨v, hv⟩ : ∃ v, v = cls[k] := ⟨_, rfl⟩
      rw [← hv] at z0
      have HVV := Lib.hid hv
      have HNOF := Lib.hid (show ∀ (_ : v < 0 ∨ 23 < v ∨ (∃ h0 : 0 < k, v ≤ cls[k - 1])), ¬ Wf d (.mk 1 cls ps) from fun hbad hwf => by
        unfold Wf at hwf
        obtain ⟨r1, r2, r3⟩ := hwf.2.2.2.2.2.1 k hk
        rcases hbad with h | h | ⟨h0, h⟩
        · omega
        · omega
        · have := r3 h0; omega)
      by_cases g1 : v < 0
      · have HNO := Lib.hid (HNOF.out (.inl g1))
        clear hxx hv hb hbw
        go_upto_region 8 with fail
        go_quiet (fail)
        go_wp2_with fail
        go_ret
        exact ⟨ret_val (by rw [wfB_no HNO.out]; rfl), ⟨HBWR.out.os, HBWR.out.tape, HBWR.out.output, HBWR.out.size, HBWR.out.block⟩⟩
      by_cases g2 : 23 < v
      · have HNO := Lib.hid (HNOF.out (.inr (.inl g2)))
        clear hxx hv hb hbw
        go_upto_region 8 with fail
        go_quiet (fail)
        go_wp2_with fail
        go_ret
        exact ⟨ret_val (by rw [wfB_no HNO.out]; rfl), ⟨HBWR.out.os, HBWR.out.tape, HBWR.out.output, HBWR.out.size, HBWR.out.block⟩⟩
      by_cases g3 : 0 < k
      · have g3' : (0 : Int) < k := by omega
        have z1 := cell_below hbw hbl (hxx (k - 1) (by omega))
        obtain ⟨u, hu⟩ : ∃ u, u = cls[k - 1] := ⟨_, rfl⟩
        rw [← hu] at z1
        have q1 : ((k : Int) - 1).toNat = k - 1 := by omega
        have q2 : IntKind.i64.wrap ((k : Int) - 1) = (k : Int) - 1 := IntWalk.i64_in _ (by omega)
        have q3 : 0 ≤ (k : Int) - 1 := by omega
        have q4 : (k : Int) - 1 < cls.length := by omega
        have q5 : 1 ≤ (k : Int) := by omega
        by_cases g4 : v ≤ u
        · have HNO := Lib.hid (HNOF.out (.inr (.inr ⟨g3, by rw [← hu]; exact g4⟩)))
          clear hxx hv hb hbw hu
          go_upto_region 8 with fail
          go_quiet (fail)
          go_wp2_with fail
          go_ret
          exact ⟨ret_val (by rw [wfB_no HNO.out]; rfl), ⟨HBWR.out.os, HBWR.out.tape, HBWR.out.output, HBWR.out.size, HBWR.out.block⟩⟩
        · have HS := Lib.hid (show rising (cls.take (k + 1)) from rising_succ hk HRIS.out (by omega) (by omega) (fun h0 => by omega))
          clear hxx hv hb hbw hu
          go_upto_region 8 with fail
          go_quiet (fail)
          clear q1 q2 q3 q4
          go_wp2_with fail
          exact ⟨⟨k + 1, by go_num, by omega, HS.out, ⟨HB.out.os, HB.out.tape, HB.out.output, HB.out.size, HB.out.block⟩⟩, by simp [intOf]; omega⟩
      · have g3' : ¬ (0 : Int) < k := by omega
        have HS := Lib.hid (show rising (cls.take (k + 1)) from rising_succ hk HRIS.out (by omega) (by omega) (fun h0 => by omega))
        clear hxx hv hb hbw
        go_upto_region 8 with fail
        go_quiet (fail)
        go_wp2_with fail
        exact ⟨⟨k + 1, by go_num, by omega, HS.out, ⟨HB.out.os, HB.out.tape, HB.out.output, HB.out.size, HB.out.block⟩⟩, by simp [intOf]; omega⟩
    · have hkk : ¬ (k : Int) < cls.length := by omega
      have HRI := Lib.hid (show rising cls by have h := HRIS.out; rwa [List.take_of_length_le (by omega)] at h)
      clear hb hbw
      go_wp2_with fail
      go_loopw [6] (fun i wz => ∃ j : Nat, i = .int .i64 j ∧ j ≤ ps.length ∧ WfL (d + 1) (ps.take j) ∧ Below W.heap.size W wz) (fun i _ => ps.length - (intOf i).toNat)
      case atStart => exact ⟨0, rfl, by omega, (by simp [WfL]), HB.out⟩
      case round =>
        obtain ⟨j, rfl, j1', hw, hb⟩ := hrel
        have HW := Lib.hid hw
        have HB2 := Lib.hid hb
        have hbx := (hb.block _ (at_lt HBX.out)).trans HBX.out
        obtain ⟨y0, y1, y2⟩ := cells3 hbx
        have HBWR2 := Lib.hid (HBW.out.trans (hb.mono HBW.out.size))
        have hbw := HBWR2.out
        clear hw hbx
        by_cases hj : j < ps.length
        · exact absurd hj (by omega)
        · have hjj : ¬ (j : Int) < ps.length := by omega
          have HYES := Lib.hid (show Wf d (.mk 1 cls ps) from by
            have h2 := HW.out
            rw [List.take_of_length_le (by omega)] at h2
            unfold Wf
            exact ⟨hd2, by omega, fun h => absurd rfl h, fun h => HP0.out, fun h => absurd h (by omega), HRI.out, h2⟩)
          clear hb hbw
          go_wp2_with fail
          go_ret
          exact ⟨ret_val (by rw [wfB_iff.2 HYES.out]; rfl), HBWR2.out⟩

set_option maxRecDepth 100000 in
set_option maxHeartbeats 8000000 in
theorem rr_2 (cls : List Int) (ps : List Nd) (ih : ∀ x ∈ ps, RRAt x) : ∀ (w : World) (d : Nat) (a b c : Value), d ≤ 32 → NodeIs w (.mk 2 cls ps) a b c → d ≤ 33 →
    Calls Try.prog 33 #[.agg #[a, b, c], .int .i64 d] w fun e w' => e = .returned (.bool (wfB d (.mk 2 cls ps))) ∧ Below w.heap.size w w' := by
  intro w d a b c hd2 hx hd
  have IH := Lib.hid ih
  clear ih
  rw [nodeIs_iff] at hx
  obtain ⟨rfl, hcl, hcb, hpb, hps⟩ := hx
  obtain ⟨pc, capc, rfl, hcc, hxc⟩ := hcl.get
  obtain ⟨pp, capp, rfl, hcp, hxp⟩ := hps.get
  unfold R at hcb hpb
  have HXC := Lib.hid hxc
  have HXP := Lib.hid hxp
  clear hcl hps hxc hxp
  go_enter Try.func33, Try.ntmps33
  go_upto_region 1 with fail
  refine abs_wp fun W hW => ?_
  obtain ⟨B, hB⟩ : ∃ B, B = w.heap.size := ⟨_, rfl⟩
  have HBX := Lib.hid (show W.heap[B]? = some (.cells #[.int .i64 2, .slice pc cls.length capc, .slice pp ps.length capp] 25) by rw [hW, hB]; exact heap_alloc_new _ _)
  have HBW := Lib.hid (show Below w.heap.size w W by rw [hW]; exact below_alloc1 _ _)
  rw [← hB]
  clear hW hB
  obtain ⟨x0, x1, x2⟩ := cells3 HBX.out
  have c0 : ¬ (32 : Int) < d := by omega
  by_cases k1 : 0 < cls.length
  · have k2 : (0 : Int) < cls.length := by omega
    have k3 : ¬ cls = [] := by intro hz; rw [hz] at k1; simp at k1
    have HNO := Lib.hid (show ¬ Wf d (.mk 2 cls ps) from fun h => by
      unfold Wf at h
      have h1 := h.2.2.1 (by omega)
      rw [h1] at k1
      simp at k1)
    go_wp2_with fail
    go_ret
    exact ⟨ret_val (by rw [wfB_no HNO.out]; rfl), HBW.out⟩
  have k2 : ¬ (0 : Int) < cls.length := by omega
  have HC0 := Lib.hid (show cls = [] from List.eq_nil_of_length_eq_zero (by omega))
  go_wp2_with fail
  go_loopw [5] (fun i wr => ∃ k : Nat, i = .int .i64 k ∧ k ≤ cls.length ∧ rising (cls.take k) ∧ Below W.heap.size W wr) (fun i _ => cls.length - (intOf i).toNat)
  case atStart => exact ⟨0, rfl, by omega, (by intro i h; simp at h), Below.refl _ _⟩
  case round =>
    obtain ⟨k, rfl, h1, hris, hb⟩ := hrel
    have HRIS := Lib.hid hris
    have HB := Lib.hid hb
    have hbx := (hb.block _ (at_lt HBX.out)).trans HBX.out
    obtain ⟨y0, y1, y2⟩ := cells3 hbx
    have HBWR := Lib.hid (HBW.out.trans (hb.mono HBW.out.size))
    have hbw := HBWR.out
    clear hris hbx
    by_cases hk : k < cls.length
    · exact absurd hk (by omega)
    · have hkk : ¬ (k : Int) < cls.length := by omega
      have HRI := Lib.hid (show rising cls by have h := HRIS.out; rwa [List.take_of_length_le (by omega)] at h)
      clear hb hbw
      go_wp2_with fail
      go_loopw [6] (fun i wz => ∃ j : Nat, i = .int .i64 j ∧ j ≤ ps.length ∧ WfL (d + 1) (ps.take j) ∧ Below W.heap.size W wz) (fun i _ => ps.length - (intOf i).toNat)
      case atStart => exact ⟨0, rfl, by omega, (by simp [WfL]), HB.out⟩
      case round =>
        obtain ⟨j, rfl, j1', hw, hb⟩ := hrel
        have HW := Lib.hid hw
        have HB2 := Lib.hid hb
        have hbx := (hb.block _ (at_lt HBX.out)).trans HBX.out
        obtain ⟨y0, y1, y2⟩ := cells3 hbx
        have HBWR2 := Lib.hid (HBW.out.trans (hb.mono HBW.out.size))
        have hbw := HBWR2.out
        clear hw hbx
        by_cases hj : j < ps.length
        · obtain ⟨bb, off, rfl, hbl, hxx⟩ := HXP.out (by omega)
          obtain ⟨x, y, z, c0', c1, c2, hnode⟩ := hxx j hj
          have r0 := cell_below hbw hbl c0'
          have r1 := cell_below hbw hbl c1
          have r2 := cell_below hbw hbl c2
          have hjj : (j : Int) < ps.length := by omega
          have hj0 : (0 : Int) ≤ j := by omega
          have HD := Lib.hid (show Calls Try.prog 33 #[.agg #[x, y, z], .int .i64 ((d : Int) + 1)] wr fun e w' => e = .returned (.bool (wfB (d + 1) ps[j])) ∧ Below wr.heap.size wr w' from by
            have h := IH.out ps[j] (List.getElem_mem hj) wr (d + 1) x y z (hnode.to hbw (Nat.le_refl _)) (by omega)
            rwa [show ((d + 1 : Nat) : Int) = (d : Int) + 1 by omega] at h)
          obtain ⟨b, hbb⟩ : ∃ b, b = wfB (d + 1) ps[j] := ⟨_, rfl⟩
          rw [← hbb] at HD
          have HBBB := Lib.hid hbb
          clear hxx c0' c1 c2 hnode hb hbw hbb
          go_wp2_with fail
          refine HD.out.mono ?_
          rintro e w3 ⟨rfl, hb3⟩
          have HB3 := Lib.hid (HB2.out.trans (hb3.mono HB2.out.size))
          have HB3W := Lib.hid (HBWR2.out.trans (hb3.mono HBWR2.out.size))
          clear hb3 r0 r1 r2 y0 y1 y2
          cases b
          · have HNO := Lib.hid (show ¬ Wf d (.mk 2 cls ps) from fun h => by
              unfold Wf at h
              have h1 := (WfL_iff.1 h.2.2.2.2.2.2) _ (List.getElem_mem hj)
              rw [← wfB_iff, ← HBBB.out] at h1
              cases h1)
            go_wp2_with fail
            go_ret
            exact ⟨ret_val (by rw [wfB_no HNO.out]; rfl), HB3W.out⟩
          · have HREL := Lib.hid (show WfL (d + 1) (ps.take (j + 1)) from by
              rw [WfL_iff]
              intro x hx
              rw [List.take_succ_eq_append_getElem hj] at hx
              rcases List.mem_append.1 hx with hx | hx
              · exact (WfL_iff.1 HW.out) x hx
              · rw [List.mem_singleton.1 hx]; exact wfB_iff.1 HBBB.out.symm)
            go_wp2_with fail
            go_roundw
            case rel => exact ⟨j + 1, by go_num, by omega, HREL.out, HB3.out⟩
            case measure => simp [intOf]; omega
        · have hjj : ¬ (j : Int) < ps.length := by omega
          have HYES := Lib.hid (show Wf d (.mk 2 cls ps) from by
            have h2 := HW.out
            rw [List.take_of_length_le (by omega)] at h2
            unfold Wf
            exact ⟨hd2, by omega, fun h => HC0.out, fun h => absurd h (by omega), fun h => absurd h (by omega), HRI.out, h2⟩)
          clear hb hbw
          go_wp2_with fail
          go_ret
          exact ⟨ret_val (by rw [wfB_iff.2 HYES.out]; rfl), HBWR2.out⟩

set_option maxRecDepth 100000 in
set_option maxHeartbeats 8000000 in
theorem rr_3 (cls : List Int) (ps : List Nd) (ih : ∀ x ∈ ps, RRAt x) : ∀ (w : World) (d : Nat) (a b c : Value), d ≤ 32 → NodeIs w (.mk 3 cls ps) a b c → d ≤ 33 →
    Calls Try.prog 33 #[.agg #[a, b, c], .int .i64 d] w fun e w' => e = .returned (.bool (wfB d (.mk 3 cls ps))) ∧ Below w.heap.size w w' := by
  intro w d a b c hd2 hx hd
  have IH := Lib.hid ih
  clear ih
  rw [nodeIs_iff] at hx
  obtain ⟨rfl, hcl, hcb, hpb, hps⟩ := hx
  obtain ⟨pc, capc, rfl, hcc, hxc⟩ := hcl.get
  obtain ⟨pp, capp, rfl, hcp, hxp⟩ := hps.get
  unfold R at hcb hpb
  have HXC := Lib.hid hxc
  have HXP := Lib.hid hxp
  clear hcl hps hxc hxp
  go_enter Try.func33, Try.ntmps33
  go_upto_region 1 with fail
  refine abs_wp fun W hW => ?_
  obtain ⟨B, hB⟩ : ∃ B, B = w.heap.size := ⟨_, rfl⟩
  have HBX := Lib.hid (show W.heap[B]? = some (.cells #[.int .i64 3, .slice pc cls.length capc, .slice pp ps.length capp] 25) by rw [hW, hB]; exact heap_alloc_new _ _)
  have HBW := Lib.hid (show Below w.heap.size w W by rw [hW]; exact below_alloc1 _ _)
  rw [← hB]
  clear hW hB
  obtain ⟨x0, x1, x2⟩ := cells3 HBX.out
  have c0 : ¬ (32 : Int) < d := by omega
  by_cases k1 : 0 < cls.length
  · have k2 : (0 : Int) < cls.length := by omega
    have k3 : ¬ cls = [] := by intro hz; rw [hz] at k1; simp at k1
    have HNO := Lib.hid (show ¬ Wf d (.mk 3 cls ps) from fun h => by
      unfold Wf at h
      have h1 := h.2.2.1 (by omega)
      rw [h1] at k1
      simp at k1)
    go_wp2_with fail
    go_ret
    exact ⟨ret_val (by rw [wfB_no HNO.out]; rfl), HBW.out⟩
  have k2 : ¬ (0 : Int) < cls.length := by omega
  have HC0 := Lib.hid (show cls = [] from List.eq_nil_of_length_eq_zero (by omega))
  go_wp2_with fail
  go_loopw [5] (fun i wr => ∃ k : Nat, i = .int .i64 k ∧ k ≤ cls.length ∧ rising (cls.take k) ∧ Below W.heap.size W wr) (fun i _ => cls.length - (intOf i).toNat)
  case atStart => exact ⟨0, rfl, by omega, (by intro i h; simp at h), Below.refl _ _⟩
  case round =>
    obtain ⟨k, rfl, h1, hris, hb⟩ := hrel
    have HRIS := Lib.hid hris
    have HB := Lib.hid hb
    have hbx := (hb.block _ (at_lt HBX.out)).trans HBX.out
    obtain ⟨y0, y1, y2⟩ := cells3 hbx
    have HBWR := Lib.hid (HBW.out.trans (hb.mono HBW.out.size))
    have hbw := HBWR.out
    clear hris hbx
    by_cases hk : k < cls.length
    · exact absurd hk (by omega)
    · have hkk : ¬ (k : Int) < cls.length := by omega
      have HRI := Lib.hid (show rising cls by have h := HRIS.out; rwa [List.take_of_length_le (by omega)] at h)
      clear hb hbw
      go_wp2_with fail
      go_loopw [6] (fun i wz => ∃ j : Nat, i = .int .i64 j ∧ j ≤ ps.length ∧ WfL (d + 1) (ps.take j) ∧ Below W.heap.size W wz) (fun i _ => ps.length - (intOf i).toNat)
      case atStart => exact ⟨0, rfl, by omega, (by simp [WfL]), HB.out⟩
      case round =>
        obtain ⟨j, rfl, j1', hw, hb⟩ := hrel
        have HW := Lib.hid hw
        have HB2 := Lib.hid hb
        have hbx := (hb.block _ (at_lt HBX.out)).trans HBX.out
        obtain ⟨y0, y1, y2⟩ := cells3 hbx
        have HBWR2 := Lib.hid (HBW.out.trans (hb.mono HBW.out.size))
        have hbw := HBWR2.out
        clear hw hbx
        by_cases hj : j < ps.length
        · obtain ⟨bb, off, rfl, hbl, hxx⟩ := HXP.out (by omega)
          obtain ⟨x, y, z, c0', c1, c2, hnode⟩ := hxx j hj
          have r0 := cell_below hbw hbl c0'
          have r1 := cell_below hbw hbl c1
          have r2 := cell_below hbw hbl c2
          have hjj : (j : Int) < ps.length := by omega
          have hj0 : (0 : Int) ≤ j := by omega
          have HD := Lib.hid (show Calls Try.prog 33 #[.agg #[x, y, z], .int .i64 ((d : Int) + 1)] wr fun e w' => e = .returned (.bool (wfB (d + 1) ps[j])) ∧ Below wr.heap.size wr w' from by
            have h := IH.out ps[j] (List.getElem_mem hj) wr (d + 1) x y z (hnode.to hbw (Nat.le_refl _)) (by omega)
            rwa [show ((d + 1 : Nat) : Int) = (d : Int) + 1 by omega] at h)
          obtain ⟨b, hbb⟩ : ∃ b, b = wfB (d + 1) ps[j] := ⟨_, rfl⟩
          rw [← hbb] at HD
          have HBBB := Lib.hid hbb
          clear hxx c0' c1 c2 hnode hb hbw hbb
          go_wp2_with fail
          refine HD.out.mono ?_
          rintro e w3 ⟨rfl, hb3⟩
          have HB3 := Lib.hid (HB2.out.trans (hb3.mono HB2.out.size))
          have HB3W := Lib.hid (HBWR2.out.trans (hb3.mono HBWR2.out.size))
          clear hb3 r0 r1 r2 y0 y1 y2
          cases b
          · have HNO := Lib.hid (show ¬ Wf d (.mk 3 cls ps) from fun h => by
              unfold Wf at h
              have h1 := (WfL_iff.1 h.2.2.2.2.2.2) _ (List.getElem_mem hj)
              rw [← wfB_iff, ← HBBB.out] at h1
              cases h1)
            go_wp2_with fail
            go_ret
            exact ⟨ret_val (by rw [wfB_no HNO.out]; rfl), HB3W.out⟩
          · have HREL := Lib.hid (show WfL (d + 1) (ps.take (j + 1)) from by
              rw [WfL_iff]
              intro x hx
              rw [List.take_succ_eq_append_getElem hj] at hx
              rcases List.mem_append.1 hx with hx | hx
              · exact (WfL_iff.1 HW.out) x hx
              · rw [List.mem_singleton.1 hx]; exact wfB_iff.1 HBBB.out.symm)
            go_wp2_with fail
            go_roundw
            case rel => exact ⟨j + 1, by go_num, by omega, HREL.out, HB3.out⟩
            case measure => simp [intOf]; omega
        · have hjj : ¬ (j : Int) < ps.length := by omega
          have HYES := Lib.hid (show Wf d (.mk 3 cls ps) from by
            have h2 := HW.out
            rw [List.take_of_length_le (by omega)] at h2
            unfold Wf
            exact ⟨hd2, by omega, fun h => HC0.out, fun h => absurd h (by omega), fun h => absurd h (by omega), HRI.out, h2⟩)
          clear hb hbw
          go_wp2_with fail
          go_ret
          exact ⟨ret_val (by rw [wfB_iff.2 HYES.out]; rfl), HBWR2.out⟩

set_option maxRecDepth 100000 in
set_option maxHeartbeats 8000000 in
theorem rr_4 (cls : List Int) (ps : List Nd) (ih : ∀ x ∈ ps, RRAt x) : ∀ (w : World) (d : Nat) (a b c : Value), d ≤ 32 → NodeIs w (.mk 4 cls ps) a b c → d ≤ 33 →
    Calls Try.prog 33 #[.agg #[a, b, c], .int .i64 d] w fun e w' => e = .returned (.bool (wfB d (.mk 4 cls ps))) ∧ Below w.heap.size w w' := by
  intro w d a b c hd2 hx hd
  have IH := Lib.hid ih
  clear ih
  rw [nodeIs_iff] at hx
  obtain ⟨rfl, hcl, hcb, hpb, hps⟩ := hx
  obtain ⟨pc, capc, rfl, hcc, hxc⟩ := hcl.get
  obtain ⟨pp, capp, rfl, hcp, hxp⟩ := hps.get
  unfold R at hcb hpb
  have HXC := Lib.hid hxc
  have HXP := Lib.hid hxp
  clear hcl hps hxc hxp
  go_enter Try.func33, Try.ntmps33
  go_upto_region 1 with fail
  refine abs_wp fun W hW => ?_
  obtain ⟨B, hB⟩ : ∃ B, B = w.heap.size := ⟨_, rfl⟩
  have HBX := Lib.hid (show W.heap[B]? = some (.cells #[.int .i64 4, .slice pc cls.length capc, .slice pp ps.length capp] 25) by rw [hW, hB]; exact heap_alloc_new _ _)
  have HBW := Lib.hid (show Below w.heap.size w W by rw [hW]; exact below_alloc1 _ _)
  rw [← hB]
  clear hW hB
  obtain ⟨x0, x1, x2⟩ := cells3 HBX.out
  have c0 : ¬ (32 : Int) < d := by omega
  by_cases k1 : 0 < cls.length
  · have k2 : (0 : Int) < cls.length := by omega
    have k3 : ¬ cls = [] := by intro hz; rw [hz] at k1; simp at k1
    have HNO := Lib.hid (show ¬ Wf d (.mk 4 cls ps) from fun h => by
      unfold Wf at h
      have h1 := h.2.2.1 (by omega)
      rw [h1] at k1
      simp at k1)
    go_wp2_with fail
    go_ret
    exact ⟨ret_val (by rw [wfB_no HNO.out]; rfl), HBW.out⟩
  have k2 : ¬ (0 : Int) < cls.length := by omega
  have HC0 := Lib.hid (show cls = [] from List.eq_nil_of_length_eq_zero (by omega))
  by_cases j1 : ps.length = 1
  · have HP1 := Lib.hid j1
    have j2 : ((ps.length : Int) != 1) = false := by simp [j1]
    clear j1
    go_wp2_with fail
    go_loopw [5] (fun i wr => ∃ k : Nat, i = .int .i64 k ∧ k ≤ cls.length ∧ rising (cls.take k) ∧ Below W.heap.size W wr) (fun i _ => cls.length - (intOf i).toNat)
    case atStart => exact ⟨0, rfl, by omega, (by intro i h; simp at h), Below.refl _ _⟩
    case round =>
      obtain ⟨k, rfl, h1, hris, hb⟩ := hrel
      have HRIS := Lib.hid hris
      have HB := Lib.hid hb
      have hbx := (hb.block _ (at_lt HBX.out)).trans HBX.out
      obtain ⟨y0, y1, y2⟩ := cells3 hbx
      have HBWR := Lib.hid (HBW.out.trans (hb.mono HBW.out.size))
      have hbw := HBWR.out
      clear hris hbx
      by_cases hk : k < cls.length
      · exact absurd hk (by omega)
      · have hkk : ¬ (k : Int) < cls.length := by omega
        have HRI := Lib.hid (show rising cls by have h := HRIS.out; rwa [List.take_of_length_le (by omega)] at h)
        clear hb hbw
        go_wp2_with fail
        go_loopw [6] (fun i wz => ∃ j : Nat, i = .int .i64 j ∧ j ≤ ps.length ∧ WfL (d + 1) (ps.take j) ∧ Below W.heap.size W wz) (fun i _ => ps.length - (intOf i).toNat)
        case atStart => exact ⟨0, rfl, by omega, (by simp [WfL]), HB.out⟩
        case round =>
          obtain ⟨j, rfl, j1', hw, hb⟩ := hrel
          have HW := Lib.hid hw
          have HB2 := Lib.hid hb
          have hbx := (hb.block _ (at_lt HBX.out)).trans HBX.out
          obtain ⟨y0, y1, y2⟩ := cells3 hbx
          have HBWR2 := Lib.hid (HBW.out.trans (hb.mono HBW.out.size))
          have hbw := HBWR2.out
          clear hw hbx
          by_cases hj : j < ps.length
          · obtain ⟨bb, off, rfl, hbl, hxx⟩ := HXP.out (by omega)
            obtain ⟨x, y, z, c0', c1, c2, hnode⟩ := hxx j hj
            have r0 := cell_below hbw hbl c0'
            have r1 := cell_below hbw hbl c1
            have r2 := cell_below hbw hbl c2
            have hjj : (j : Int) < ps.length := by omega
            have hj0 : (0 : Int) ≤ j := by omega
            have HD := Lib.hid (show Calls Try.prog 33 #[.agg #[x, y, z], .int .i64 ((d : Int) + 1)] wr fun e w' => e = .returned (.bool (wfB (d + 1) ps[j])) ∧ Below wr.heap.size wr w' from by
              have h := IH.out ps[j] (List.getElem_mem hj) wr (d + 1) x y z (hnode.to hbw (Nat.le_refl _)) (by omega)
              rwa [show ((d + 1 : Nat) : Int) = (d : Int) + 1 by omega] at h)
            obtain ⟨b, hbb⟩ : ∃ b, b = wfB (d + 1) ps[j] := ⟨_, rfl⟩
            rw [← hbb] at HD
            have HBBB := Lib.hid hbb
            clear hxx c0' c1 c2 hnode hb hbw hbb
            go_wp2_with fail
            refine HD.out.mono ?_
            rintro e w3 ⟨rfl, hb3⟩
            have HB3 := Lib.hid (HB2.out.trans (hb3.mono HB2.out.size))
            have HB3W := Lib.hid (HBWR2.out.trans (hb3.mono HBWR2.out.size))
            clear hb3 r0 r1 r2 y0 y1 y2
            cases b
            · have HNO := Lib.hid (show ¬ Wf d (.mk 4 cls ps) from fun h => by
                unfold Wf at h
                have h1 := (WfL_iff.1 h.2.2.2.2.2.2) _ (List.getElem_mem hj)
                rw [← wfB_iff, ← HBBB.out] at h1
                cases h1)
              go_wp2_with fail
              go_ret
              exact ⟨ret_val (by rw [wfB_no HNO.out]; rfl), HB3W.out⟩
            · have HREL := Lib.hid (show WfL (d + 1) (ps.take (j + 1)) from by
                rw [WfL_iff]
                intro x hx
                rw [List.take_succ_eq_append_getElem hj] at hx
                rcases List.mem_append.1 hx with hx | hx
                · exact (WfL_iff.1 HW.out) x hx
                · rw [List.mem_singleton.1 hx]; exact wfB_iff.1 HBBB.out.symm)
              go_wp2_with fail
              go_roundw
              case rel => exact ⟨j + 1, by go_num, by omega, HREL.out, HB3.out⟩
              case measure => simp [intOf]; omega
          · have hjj : ¬ (j : Int) < ps.length := by omega
            have HYES := Lib.hid (show Wf d (.mk 4 cls ps) from by
              have h2 := HW.out
              rw [List.take_of_length_le (by omega)] at h2
              unfold Wf
              exact ⟨hd2, by omega, fun h => HC0.out, fun h => absurd h (by omega), fun h => HP1.out, HRI.out, h2⟩)
            clear hb hbw
            go_wp2_with fail
            go_ret
            exact ⟨ret_val (by rw [wfB_iff.2 HYES.out]; rfl), HBWR2.out⟩
  · have j2 : ((ps.length : Int) != 1) = true := by simp; omega
    have HNO := Lib.hid (show ¬ Wf d (.mk 4 cls ps) from fun h => by
      unfold Wf at h
      exact j1 (h.2.2.2.2.1 (by omega)))
    clear j1
    go_wp2_with fail
    go_ret
    exact ⟨ret_val (by rw [wfB_no HNO.out]; rfl), HBW.out⟩

set_option maxRecDepth 100000 in
set_option maxHeartbeats 8000000 in
theorem rr_5 (cls : List Int) (ps : List Nd) (ih : ∀ x ∈ ps, RRAt x) : ∀ (w : World) (d : Nat) (a b c : Value), d ≤ 32 → NodeIs w (.mk 5 cls ps) a b c → d ≤ 33 →
    Calls Try.prog 33 #[.agg #[a, b, c], .int .i64 d] w fun e w' => e = .returned (.bool (wfB d (.mk 5 cls ps))) ∧ Below w.heap.size w w' := by
  intro w d a b c hd2 hx hd
  have IH := Lib.hid ih
  clear ih
  rw [nodeIs_iff] at hx
  obtain ⟨rfl, hcl, hcb, hpb, hps⟩ := hx
  obtain ⟨pc, capc, rfl, hcc, hxc⟩ := hcl.get
  obtain ⟨pp, capp, rfl, hcp, hxp⟩ := hps.get
  unfold R at hcb hpb
  have HXC := Lib.hid hxc
  have HXP := Lib.hid hxp
  clear hcl hps hxc hxp
  go_enter Try.func33, Try.ntmps33
  go_upto_region 1 with fail
  refine abs_wp fun W hW => ?_
  obtain ⟨B, hB⟩ : ∃ B, B = w.heap.size := ⟨_, rfl⟩
  have HBX := Lib.hid (show W.heap[B]? = some (.cells #[.int .i64 5, .slice pc cls.length capc, .slice pp ps.length capp] 25) by rw [hW, hB]; exact heap_alloc_new _ _)
  have HBW := Lib.hid (show Below w.heap.size w W by rw [hW]; exact below_alloc1 _ _)
  rw [← hB]
  clear hW hB
  obtain ⟨x0, x1, x2⟩ := cells3 HBX.out
  have c0 : ¬ (32 : Int) < d := by omega
  by_cases k1 : 0 < cls.length
  · have k2 : (0 : Int) < cls.length := by omega
    have k3 : ¬ cls = [] := by intro hz; rw [hz] at k1; simp at k1
    have HNO := Lib.hid (show ¬ Wf d (.mk 5 cls ps) from fun h => by
      unfold Wf at h
      have h1 := h.2.2.1 (by omega)
      rw [h1] at k1
      simp at k1)
    go_wp2_with fail
    go_ret
    exact ⟨ret_val (by rw [wfB_no HNO.out]; rfl), HBW.out⟩
  have k2 : ¬ (0 : Int) < cls.length := by omega
  have HC0 := Lib.hid (show cls = [] from List.eq_nil_of_length_eq_zero (by omega))
  by_cases j1 : ps.length = 1
  · have HP1 := Lib.hid j1
    have j2 : ((ps.length : Int) != 1) = false := by simp [j1]
    clear j1
    go_wp2_with fail
    go_loopw [5] (fun i wr => ∃ k : Nat, i = .int .i64 k ∧ k ≤ cls.length ∧ rising (cls.take k) ∧ Below W.heap.size W wr) (fun i _ => cls.length - (intOf i).toNat)
    case atStart => exact ⟨0, rfl, by omega, (by intro i h; simp at h), Below.refl _ _⟩
    case round =>
      obtain ⟨k, rfl, h1, hris, hb⟩ := hrel
      have HRIS := Lib.hid hris
      have HB := Lib.hid hb
      have hbx := (hb.block _ (at_lt HBX.out)).trans HBX.out
      obtain ⟨y0, y1, y2⟩ := cells3 hbx
      have HBWR := Lib.hid (HBW.out.trans (hb.mono HBW.out.size))
      have hbw := HBWR.out
      clear hris hbx
      by_cases hk : k < cls.length
      · exact absurd hk (by omega)
      · have hkk : ¬ (k : Int) < cls.length := by omega
        have HRI := Lib.hid (show rising cls by have h := HRIS.out; rwa [List.take_of_length_le (by omega)] at h)
        clear hb hbw
        go_wp2_with fail
        go_loopw [6] (fun i wz => ∃ j : Nat, i = .int .i64 j ∧ j ≤ ps.length ∧ WfL (d + 1) (ps.take j) ∧ Below W.heap.size W wz) (fun i _ => ps.length - (intOf i).toNat)
        case atStart => exact ⟨0, rfl, by omega, (by simp [WfL]), HB.out⟩
        case round =>
          obtain ⟨j, rfl, j1', hw, hb⟩ := hrel
          have HW := Lib.hid hw
          have HB2 := Lib.hid hb
          have hbx := (hb.block _ (at_lt HBX.out)).trans HBX.out
          obtain ⟨y0, y1, y2⟩ := cells3 hbx
          have HBWR2 := Lib.hid (HBW.out.trans (hb.mono HBW.out.size))
          have hbw := HBWR2.out
          clear hw hbx
          by_cases hj : j < ps.length
          · obtain ⟨bb, off, rfl, hbl, hxx⟩ := HXP.out (by omega)
            obtain ⟨x, y, z, c0', c1, c2, hnode⟩ := hxx j hj
            have r0 := cell_below hbw hbl c0'
            have r1 := cell_below hbw hbl c1
            have r2 := cell_below hbw hbl c2
            have hjj : (j : Int) < ps.length := by omega
            have hj0 : (0 : Int) ≤ j := by omega
            have HD := Lib.hid (show Calls Try.prog 33 #[.agg #[x, y, z], .int .i64 ((d : Int) + 1)] wr fun e w' => e = .returned (.bool (wfB (d + 1) ps[j])) ∧ Below wr.heap.size wr w' from by
              have h := IH.out ps[j] (List.getElem_mem hj) wr (d + 1) x y z (hnode.to hbw (Nat.le_refl _)) (by omega)
              rwa [show ((d + 1 : Nat) : Int) = (d : Int) + 1 by omega] at h)
            obtain ⟨b, hbb⟩ : ∃ b, b = wfB (d + 1) ps[j] := ⟨_, rfl⟩
            rw [← hbb] at HD
            have HBBB := Lib.hid hbb
            clear hxx c0' c1 c2 hnode hb hbw hbb
            go_wp2_with fail
            refine HD.out.mono ?_
            rintro e w3 ⟨rfl, hb3⟩
            have HB3 := Lib.hid (HB2.out.trans (hb3.mono HB2.out.size))
            have HB3W := Lib.hid (HBWR2.out.trans (hb3.mono HBWR2.out.size))
            clear hb3 r0 r1 r2 y0 y1 y2
            cases b
            · have HNO := Lib.hid (show ¬ Wf d (.mk 5 cls ps) from fun h => by
                unfold Wf at h
                have h1 := (WfL_iff.1 h.2.2.2.2.2.2) _ (List.getElem_mem hj)
                rw [← wfB_iff, ← HBBB.out] at h1
                cases h1)
              go_wp2_with fail
              go_ret
              exact ⟨ret_val (by rw [wfB_no HNO.out]; rfl), HB3W.out⟩
            · have HREL := Lib.hid (show WfL (d + 1) (ps.take (j + 1)) from by
                rw [WfL_iff]
                intro x hx
                rw [List.take_succ_eq_append_getElem hj] at hx
                rcases List.mem_append.1 hx with hx | hx
                · exact (WfL_iff.1 HW.out) x hx
                · rw [List.mem_singleton.1 hx]; exact wfB_iff.1 HBBB.out.symm)
              go_wp2_with fail
              go_roundw
              case rel => exact ⟨j + 1, by go_num, by omega, HREL.out, HB3.out⟩
              case measure => simp [intOf]; omega
          · have hjj : ¬ (j : Int) < ps.length := by omega
            have HYES := Lib.hid (show Wf d (.mk 5 cls ps) from by
              have h2 := HW.out
              rw [List.take_of_length_le (by omega)] at h2
              unfold Wf
              exact ⟨hd2, by omega, fun h => HC0.out, fun h => absurd h (by omega), fun h => HP1.out, HRI.out, h2⟩)
            clear hb hbw
            go_wp2_with fail
            go_ret
            exact ⟨ret_val (by rw [wfB_iff.2 HYES.out]; rfl), HBWR2.out⟩
  · have j2 : ((ps.length : Int) != 1) = true := by simp; omega
    have HNO := Lib.hid (show ¬ Wf d (.mk 5 cls ps) from fun h => by
      unfold Wf at h
      exact j1 (h.2.2.2.2.1 (by omega)))
    clear j1
    go_wp2_with fail
    go_ret
    exact ⟨ret_val (by rw [wfB_no HNO.out]; rfl), HBW.out⟩
end Go.Proofs.Ytodkeiadaodehaa
