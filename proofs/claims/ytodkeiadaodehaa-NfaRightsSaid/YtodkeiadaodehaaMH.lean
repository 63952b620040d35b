/-
  right of the reference. No condition beyond what each theorem names.
-/
import Derived.Test.YtodkeiadaodehaaNX
set_option linter.unusedVariables false
set_option linter.unusedSimpArgs false
namespace Go.Proofs.Ytodkeiadaodehaa
open Go.RowKit

open Classical in
/-- may a node be that is so deep? -/
noncomputable def wfB (d : Nat) (x : Nd) : Bool := decide (Wf d x)
open Classical in
theorem wfB_iff {d : Nat} {x : Nd} : wfB d x = true ↔ Wf d x := by unfold wfB; exact decide_eq_true_iff
theorem wfB_no {d : Nat} {x : Nd} (h : ¬ Wf d x) : wfB d x = false := by
  cases hb : wfB d x
  · rfl
  · exact absurd (wfB_iff.1 hb) h

def RRAt (x : Nd) : Prop := ∀ (w : World) (d : Nat) (a b c : Value), NodeIs w x a b c → d ≤ 33 →
  Calls Try.prog 33 #[.agg #[a, b, c], .int .i64 d] w fun e w' => e = .returned (.bool (wfB d x)) ∧ Below w.heap.size w w'

set_option maxRecDepth 100000 in
set_option maxHeartbeats 8000000 in
theorem rr_no (op : Int) (cls : List Int) (ps : List Nd) (ih : True) : ∀ (w : World) (d : Nat) (a b c : Value), d > 32 ∨ op < 0 ∨ 5 < op → NodeIs w (.mk op cls ps) a b c → d ≤ 33 →
    Calls Try.prog 33 #[.agg #[a, b, c], .int .i64 d] w fun e w' => e = .returned (.bool (wfB d (.mk op cls ps))) ∧ Below w.heap.size w w' := by
  intro w d a b c hno hx hd
  have IH := Lib.hid ih
  clear ih
  rw [nodeIs_iff] at hx
  obtain ⟨rfl, hcl, hcb, hpb, hps⟩ := hx
  obtain ⟨pc, capc, rfl, hcc, hxc⟩ := hcl.get
  obtain ⟨pp, capp, rfl, hcp, hxp⟩ := hps.get
  unfold R at hcb hpb
  have HXC := Lib.hid hxc
  have HXP := Lib.hid hxp
  clear hcl hps hxc hxp
  go_enter Try.func33, Try.ntmps33
  go_upto_region 1 with fail
  refine abs_wp fun W hW => ?_
  obtain ⟨B, hB⟩ : ∃ B, B = w.heap.size := ⟨_, rfl⟩
  have HBX := Lib.hid (show W.heap[B]? = some (.cells #[.int .i64 op, .slice pc cls.length capc, .slice pp ps.length capp] 25) by rw [hW, hB]; exact heap_alloc_new _ _)
  have HBW := Lib.hid (show Below w.heap.size w W by rw [hW]; exact below_alloc1 _ _)
  rw [← hB]
  clear hW hB
  obtain ⟨x0, x1, x2⟩ := cells3 HBX.out
  have HNO := Lib.hid (show ¬ Wf d (.mk op cls ps) from fun h => by
    unfold Wf at h
    have h1 := h.1
    have h2 := h.2.1
    omega)
  by_cases c1 : d > 32
  · have c2 : (32 : Int) < d := by omega
    clear hno
    go_wp2_with fail
    go_ret
    exact ⟨ret_val (by rw [wfB_no HNO.out]; rfl), HBW.out⟩
  · have c2 : ¬ (32 : Int) < d := by omega
    by_cases c3 : op < 0
    · clear hno
      go_wp2_with fail
      go_ret
      exact ⟨ret_val (by rw [wfB_no HNO.out]; rfl), HBW.out⟩
    · have c4 : 5 < op := by omega
      clear hno
      go_wp2_with fail
      go_ret
      exact ⟨ret_val (by rw [wfB_no HNO.out]; rfl), HBW.out⟩
end Go.Proofs.Ytodkeiadaodehaa
