/-
  Same of the reference. No condition beyond what each theorem names.
-/
import Derived.Test.YtodkeiadaodehaaMJ
import Derived.Test.YtodkeiadaodehaaMH
set_option linter.unusedVariables false
set_option linter.unusedSimpArgs false
namespace Go.Proofs.Ytodkeiadaodehaa
open Go.RowKit

open Classical in
noncomputable def sameB (x y : Nd) : Bool := decide (x = y)
open Classical in
theorem sameB_iff {x y : Nd} : sameB x y = true ↔ x = y := by unfold sameB; exact decide_eq_true_iff
theorem sameB_no {x y : Nd} (h : x ≠ y) : sameB x y = false := by
  cases hb : sameB x y
  · rfl
  · exact absurd (sameB_iff.1 hb) h
theorem sameB_self (x : Nd) : sameB x x = true := sameB_iff.2 rfl

def SameAt (x : Nd) : Prop := ∀ (y : Nd) (w : World) (a b c d e f : Value), NodeIs w x a b c → NodeIs w y d e f →
    Calls Try.prog 24 #[.agg #[a, b, c], .agg #[d, e, f]] w fun e w' => e = .returned (.bool (sameB x y)) ∧ Below w.heap.size w w'

theorem boxes2 (w : World) (o1 o2 : Obj) (W : World) (hW : W = (w.alloc o1).alloc o2) : Below w.heap.size w W ∧ W.heap[w.heap.size]? = some o1 ∧ W.heap[w.heap.size + 1]? = some o2 := by
  have s1 : (w.alloc o1).heap.size = w.heap.size + 1 := by simp
  have b1 := below_alloc1 w o1
  have b2 := below_alloc1 (w.alloc o1) o2
  subst hW
  refine ⟨b1.trans (b2.mono (by omega)), ?_, ?_⟩
  · rw [b2.block _ (by omega)]; exact heap_alloc_new _ _
  · rw [← s1]; exact heap_alloc_new _ _

set_option maxRecDepth 100000 in
set_option maxHeartbeats 8000000 in
theorem same_step (op : Int) (cls : List Int) (ps : List Nd) (ih : ∀ x ∈ ps, SameAt x) : SameAt (.mk op cls ps) := by
  intro y w a b c d e f hx hy
  obtain ⟨op2, cls2, ps2, rfl⟩ : ∃ op2 cls2 ps2, y = .mk op2 cls2 ps2 := by cases y; exact ⟨_, _, _, rfl⟩
  have IH := Lib.hid ih
  rw [nodeIs_iff] at hx hy
  obtain ⟨rfl, hcl, hcb, hpb, hps⟩ := hx
  obtain ⟨rfl, hcl2, hcb2, hpb2, hps2⟩ := hy
  obtain ⟨pc, capc, rfl, hcc, hxc⟩ := hcl.get
  obtain ⟨pp, capp, rfl, hcp, hxp⟩ := hps.get
  obtain ⟨pc2, capc2, rfl, hcc2, hxc2⟩ := hcl2.get
  obtain ⟨pp2, capp2, rfl, hcp2, hxp2⟩ := hps2.get
  unfold R at hcb hpb hcb2 hpb2
  have HXC := Lib.hid hxc
  have HXP := Lib.hid hxp
  have HXC2 := Lib.hid hxc2
  have HXP2 := Lib.hid hxp2
  clear hcl hps hxc hxp ih hcl2 hps2 hxc2 hxp2
  go_enter Try.func24, Try.ntmps24
  go_upto_region 1 with fail
  refine abs_wp fun W hW => ?_
  obtain ⟨hbw, hb1, hb2⟩ := boxes2 w _ _ W hW
  obtain ⟨B, hB⟩ : ∃ B, B = w.heap.size := ⟨_, rfl⟩
  rw [← hB] at hb1 hb2
  have HBW := Lib.hid hbw
  have HBX := Lib.hid hb1
  have HBY := Lib.hid hb2
  rw [← hB]
  obtain ⟨x0, x1, x2⟩ := cells3 hb1
  obtain ⟨u0, u1, u2⟩ := cells3 hb2
  clear hW hB hbw hb1 hb2
  by_cases o1 : op = op2
  case neg =>
    have HNO := Lib.hid (show (Nd.mk op cls ps) ≠ .mk op2 cls2 ps2 from fun h => by injection h with h1 h2 h3; exact o1 h1)
    have o2 : (op != op2) = true := by simp [o1]
    go_wp2_with fail
    go_ret
    exact ⟨ret_val (by rw [sameB_no HNO.out]; rfl), HBW.out⟩
  subst o1
  by_cases o3 : cls.length = cls2.length
  case neg =>
    have HNO := Lib.hid (show (Nd.mk op cls ps) ≠ .mk op cls2 ps2 from fun h => by injection h with h1 h2 h3; exact o3 (by rw [h2]))
    have o4 : ((cls.length : Int) != cls2.length) = true := by simp; omega
    clear o3
    go_wp2_with fail
    go_ret
    exact ⟨ret_val (by rw [sameB_no HNO.out]; rfl), HBW.out⟩
  by_cases o5 : ps.length = ps2.length
  case neg =>
    have HNO := Lib.hid (show (Nd.mk op cls ps) ≠ .mk op cls2 ps2 from fun h => by injection h with h1 h2 h3; exact o5 (by rw [h3]))
    have o4 : ((cls.length : Int) != cls2.length) = false := by simp [o3]
    have o6 : ((ps.length : Int) != ps2.length) = true := by simp; omega
    clear o3 o5
    go_wp2_with fail
    go_ret
    exact ⟨ret_val (by rw [sameB_no HNO.out]; rfl), HBW.out⟩
  have o4 : ((cls.length : Int) != cls2.length) = false := by simp [o3]
  have o6 : ((ps.length : Int) != ps2.length) = false := by simp [o5]
  have HO3 := Lib.hid o3
  have HO5 := Lib.hid o5
  clear o3 o5
  go_wp2_with fail
  clear o4 o6
  go_loopw [5] (fun i wr => ∃ k : Nat, i = .int .i64 k ∧ k ≤ cls.length ∧ cls.take k = cls2.take k ∧ Below W.heap.size W wr) (fun i _ => cls.length - (intOf i).toNat)
  case atStart => exact ⟨0, rfl, by omega, by simp, Below.refl _ _⟩
  case round =>
    obtain ⟨k, rfl, h1, heq, hb⟩ := hrel
    have HEQ := Lib.hid heq
    have HB := Lib.hid hb
    obtain ⟨y0, y1, y2⟩ := cells3 ((hb.block _ (at_lt HBX.out)).trans HBX.out)
    obtain ⟨v0, v1, v2⟩ := cells3 ((hb.block _ (at_lt HBY.out)).trans HBY.out)
    have HBWR := Lib.hid (HBW.out.trans (hb.mono HBW.out.size))
    have hbw := HBWR.out
    clear heq
    by_cases hk : k < cls.length
    · obtain ⟨bb, off, rfl, hbl, hxx⟩ := HXC.out (by omega)
      obtain ⟨bb2, off2, rfl, hbl2, hxx2⟩ := HXC2.out (by have := HO3.out; omega)
      have hk2 : k < cls2.length := by have := HO3.out; omega
      have z0 := cell_below hbw hbl (hxx k hk)
      have z1 := cell_below hbw hbl2 (hxx2 k hk2)
      have hkk : (k : Int) < cls.length := by omega
      have hkk2 : (k : Int) < cls2.length := by omega
      have hk0 : (0 : Int) ≤ k := by omega
      obtain ⟨s, hs⟩ : ∃ s, s = cls[k] := ⟨_, rfl⟩
      obtain ⟨t, ht⟩ : ∃ t, t = cls2[k] := ⟨_, rfl⟩
      rw [← hs] at z0
      rw [← ht] at z1
      by_cases hst : s = t
      · have HREL := Lib.hid (show cls.take (k + 1) = cls2.take (k + 1) from by
          rw [List.take_succ_eq_append_getElem hk, List.take_succ_eq_append_getElem hk2, HEQ.out, ← hs, ← ht, hst])
        subst hst
        clear hxx hxx2 hs ht hb hbw
        go_upto_region 6 with fail
        go_quiet (fail)
        go_wp2_with fail
        exact ⟨⟨k + 1, by go_num, by omega, HREL.out, ⟨HB.out.os, HB.out.tape, HB.out.output, HB.out.size, HB.out.block⟩⟩, by simp [intOf]; omega⟩
      · have HNO := Lib.hid (show (Nd.mk op cls ps) ≠ .mk op cls2 ps2 from fun h => by
          injection h with h1 h2 h3
          subst h2
          exact hst (hs.trans ht.symm))
        have hst2 : (s != t) = true := by simp [hst]
        clear hxx hxx2 hs ht hb hbw
        go_upto_region 6 with fail
        go_quiet (fail)
        go_wp2_with fail
        go_ret
        exact ⟨ret_val (by rw [sameB_no HNO.out]; rfl), ⟨HBWR.out.os, HBWR.out.tape, HBWR.out.output, HBWR.out.size, HBWR.out.block⟩⟩
    · have hkk : ¬ (k : Int) < cls.length := by omega
      have HCE := Lib.hid (show cls = cls2 by have h := HEQ.out; rwa [List.take_of_length_le (by omega), List.take_of_length_le (by have := HO3.out; omega)] at h)
      clear hb hbw
      go_wp2_with fail
      go_loopw [6] (fun i wz => ∃ j : Nat, i = .int .i64 j ∧ j ≤ ps.length ∧ ps.take j = ps2.take j ∧ Below W.heap.size W wz) (fun i _ => ps.length - (intOf i).toNat)
      case atStart => exact ⟨0, rfl, by omega, by simp, HB.out⟩
      case round =>
        obtain ⟨j, rfl, j1, hw, hb⟩ := hrel
        have HW := Lib.hid hw
        have HB2 := Lib.hid hb
        clear y0 y1 y2 v0 v1 v2
        obtain ⟨y0, y1, y2⟩ := cells3 ((hb.block _ (at_lt HBX.out)).trans HBX.out)
        obtain ⟨v0, v1, v2⟩ := cells3 ((hb.block _ (at_lt HBY.out)).trans HBY.out)
        have HBWR2 := Lib.hid (HBW.out.trans (hb.mono HBW.out.size))
        have hbw := HBWR2.out
        clear hw
        by_cases hj : j < ps.length
        · obtain ⟨bb, off, rfl, hbl, hxx⟩ := HXP.out (by omega)
          obtain ⟨bb2, off2, rfl, hbl2, hxx2⟩ := HXP2.out (by have := HO5.out; omega)
          have hj2 : j < ps2.length := by have := HO5.out; omega
          obtain ⟨x, y, z, c0, c1, c2, hnode⟩ := hxx j hj
          obtain ⟨p, q, r, d0, d1, d2, hnode2⟩ := hxx2 j hj2
          have r0 := cell_below hbw hbl c0
          have r1 := cell_below hbw hbl c1
          have r2 := cell_below hbw hbl c2
          have s0 := cell_below hbw hbl2 d0
          have s1 := cell_below hbw hbl2 d1
          have s2 := cell_below hbw hbl2 d2
          have hjj : (j : Int) < ps.length := by omega
          have hjj2 : (j : Int) < ps2.length := by omega
          have hj0 : (0 : Int) ≤ j := by omega
          have HD := Lib.hid (IH.out ps[j] (List.getElem_mem hj) ps2[j] wr.drew x y z p q r ((hnode.to hbw (Nat.le_refl _)).to (Below.refl _ _).drew (Nat.le_refl _)) ((hnode2.to hbw (Nat.le_refl _)).to (Below.refl _ _).drew (Nat.le_refl _)))
          obtain ⟨t, ht⟩ : ∃ t, t = sameB ps[j] ps2[j] := ⟨_, rfl⟩
          rw [← ht] at HD
          have HT := Lib.hid ht
          have HBL := Lib.hid (Nat.lt_of_lt_of_le hbl hbw.size)
          have HBL2 := Lib.hid (Nat.lt_of_lt_of_le hbl2 hbw.size)
          have HBXR := Lib.hid ((hb.block _ (at_lt HBX.out)).trans HBX.out)
          have HBYR := Lib.hid ((hb.block _ (at_lt HBY.out)).trans HBY.out)
          have R0 := Lib.hid r0
          have R1 := Lib.hid r1
          have R2 := Lib.hid r2
          have S0 := Lib.hid s0
          have S1 := Lib.hid s1
          have S2 := Lib.hid s2
          clear hxx hxx2 c0 c1 c2 d0 d1 d2 hnode hnode2 hb hbw ht r0 r1 r2 s0 s1 s2 hbl hbl2
          go_upto_region 11 with fail
          clear y0 y1 y2 v0 v1 v2
          refine wp_region_plan (fun W' => Below wr.heap.size wr W') (.reads [0, 1, 2, 3, 4, 5, 6, 7, 8, 9] (.one 10 (.reads [11] .done))) 69 (by kernel_rfl) (by kernel_rfl) rfl (fun _ _ _ _ _ h => h) (Below.refl _ _).drew ?_
          apply plan_reads
          · intro W' hW'
            have t0 := (cells3 ((hW'.block _ (at_lt HBXR.out)).trans HBXR.out)).2.2
            have t1 := (cells3 ((hW'.block _ (at_lt HBYR.out)).trans HBYR.out)).2.2
            have r0 := cell_below hW' HBL.out R0.out
            have r1 := cell_below hW' HBL.out R1.out
            have r2 := cell_below hW' HBL.out R2.out
            have s0 := cell_below hW' HBL2.out S0.out
            have s1 := cell_below hW' HBL2.out S1.out
            have s2 := cell_below hW' HBL2.out S2.out
            clear hW'
            repeat (refine wpRead_step (fun K hK => ?_); go_simp; refine hK _ ?_; clear hK K)
            exact wpRead_nil rfl
          refine plan_one rfl ?_
          go_wp2_with fail
          refine HD.out.mono ?_
          rintro e w3 ⟨rfl, hb3⟩
          have HB3' := Lib.hid (show Below wr.heap.size wr w3 from ((Below.refl _ _).drew).trans hb3)
          have HB3 := Lib.hid (HB2.out.trans (HB3'.out.mono HB2.out.size))
          have HB3W := Lib.hid (HBWR2.out.trans (HB3'.out.mono HBWR2.out.size))
          clear hb3
          go_wp2_with fail
          refine Then.mk HB3'.out ?_
          apply plan_reads
          · intro W' hW'
            clear hW'
            repeat (refine wpRead_step (fun K hK => ?_); go_simp; refine hK _ ?_; clear hK K)
            exact wpRead_nil rfl
          refine plan_done ?_
          cases t
          · have HNO := Lib.hid (show (Nd.mk op cls ps) ≠ .mk op cls2 ps2 from fun h => by
              injection h with h1 h2 h3
              subst h3
              have := HT.out
              rw [sameB_self] at this
              cases this)
            go_wp2_with fail
            go_ret
            exact ⟨ret_val (by rw [sameB_no HNO.out]; rfl), HB3W.out⟩
          · have HREL := Lib.hid (show ps.take (j + 1) = ps2.take (j + 1) from by
              rw [List.take_succ_eq_append_getElem hj, List.take_succ_eq_append_getElem hj2, HW.out, sameB_iff.1 HT.out.symm])
            go_wp2_with fail
            go_roundw
            case rel => exact ⟨j + 1, by go_num, by omega, HREL.out, HB3.out⟩
            case measure => simp [intOf]; omega
        · have hjj : ¬ (j : Int) < ps.length := by omega
          have HYES := Lib.hid (show Nd.mk op cls ps = .mk op cls2 ps2 from by
            have h2 := HW.out
            rw [List.take_of_length_le (by omega), List.take_of_length_le (by have := HO5.out; omega)] at h2
            rw [HCE.out, h2])
          clear hb hbw
          go_wp2_with fail
          go_ret
          exact ⟨ret_val (by rw [sameB_iff.2 HYES.out]; rfl), HBWR2.out⟩

theorem same_any : ∀ (x : Nd), SameAt x
  | .mk op cls ps => same_step op cls ps (fun x hx => same_any x)
  termination_by x => SizeOf.sizeOf x
  decreasing_by
    have := List.sizeOf_lt_of_mem hx
    simp; omega

end Go.Proofs.Ytodkeiadaodehaa
