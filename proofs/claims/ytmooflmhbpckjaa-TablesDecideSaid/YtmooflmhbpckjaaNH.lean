/-
  Right: whether an expression may be. No condition beyond what each theorem names.
-/
import Derived.Test.YtmooflmhbpckjaaNG
set_option linter.unusedVariables false
set_option linter.unusedSimpArgs false
namespace Go.Proofs.Ytmooflmhbpckjaa
open Go.RowKit

/-- classes that there are, rising -/
def rising (cls : List Int) : Prop := ∀ i (h : i < cls.length), 0 ≤ cls[i] ∧ cls[i] < 24 ∧ ∀ (h0 : 0 < i), cls[i - 1] < cls[i]

mutual
/-- an expression that may stand so deep -/
def Wf : Nat → Nd → Prop
  | d, .mk op cls ps => d ≤ 32 ∧ (0 ≤ op ∧ op ≤ 5) ∧ (op ≠ 1 → cls = []) ∧ (op = 0 ∨ op = 1 → ps = []) ∧ (op = 4 ∨ op = 5 → ps.length = 1) ∧ rising cls ∧ WfL (d + 1) ps
def WfL : Nat → List Nd → Prop
  | _, [] => True
  | d, x :: r => Wf d x ∧ WfL d r
end

theorem WfL_iff : ∀ {d : Nat} {l : List Nd}, WfL d l ↔ ∀ x ∈ l, Wf d x
  | d, [] => by simp [WfL]
  | d, x :: r => by simp [WfL, WfL_iff (d := d) (l := r)]

theorem Wf_good : ∀ (x : Nd) (d : Nat), Wf d x → Good x
  | .mk op cls ps, d, h => by
    unfold Wf at h
    obtain ⟨-, h1, -, h2, h3, -, h4⟩ := h
    rw [WfL_iff] at h4
    have hl : ∀ l : List Nd, (∀ x ∈ l, x ∈ ps) → GoodL l := by
      intro l
      induction l with
      | nil => intro _; unfold GoodL; trivial
      | cons x r ih =>
        intro hm
        have := List.sizeOf_lt_of_mem (hm x (by simp))
        unfold GoodL
        exact ⟨Wf_good x (d + 1) (h4 x (hm x (by simp))), ih (fun y hy => hm y (by simp [hy]))⟩
    unfold Good
    exact ⟨by omega, h2, h3, hl ps (fun _ h => h)⟩
  termination_by x => SizeOf.sizeOf x
  decreasing_by (simp; omega)

/-- an expression that may be -/
def RightX (x : Nd) : Prop := Wf 1 x ∧ cnt x ≤ 400

def FT : TypeId := 86

/-- the closure's variables: how many nodes were met, and itself -/
def RVars (w : World) (mb rb : Nat) (mc : Int) : Prop := mb ≠ rb ∧ w.heap[mb]? = some (.cells #[.int .i64 mc] 3) ∧ w.heap[rb]? = some (.cells #[.func (.func 32) #[] #[.pointer (some ⟨mb, 0, none⟩), .pointer (some ⟨rb, 0, none⟩)]] 86)

def RPost (w : World) (mb rb : Nat) (mc : Nat) (x : Nd) (d : Nat) (e : Ending) (w' : World) : Prop :=
  ∃ b : Bool, e = .returned (.bool b) ∧ (b = true ↔ Wf d x ∧ mc + cnt x ≤ 400) ∧ (b = true → RVars w' mb rb ((mc + cnt x : Nat) : Int)) ∧ Fr (fun k => k = mb) w w'

def RightAt (x : Nd) : Prop := ∀ (w : World) (mb rb : Nat) (mc d : Nat) (a b c : Value), NodeF (fun k => k ≠ mb) w x a b c → mc ≤ 400 → d ≤ 33 → RVars w mb rb mc →
  Calls Try.prog 32 #[.agg #[a, b, c], .int .i64 d, .pointer (some ⟨mb, 0, none⟩), .pointer (some ⟨rb, 0, none⟩)] w (RPost w mb rb mc x d)
set_option maxRecDepth 100000 in
set_option maxHeartbeats 4000000 in
theorem right_no (op : Int) (cls : List Int) (ps : List Nd) : ∀ (w : World) (mb rb : Nat) (mc d : Nat) (a b c : Value), mc + 1 > 400 ∨ d > 32 ∨ (op ≠ 1 ∧ 0 < cls.length) ∨ op < 0 ∨ 5 < op ∨ ((op = 0 ∨ op = 1) ∧ 0 < ps.length) ∨ ((op = 4 ∨ op = 5) ∧ ps.length ≠ 1) → NodeF (fun k => k ≠ mb) w (.mk op cls ps) a b c → mc ≤ 400 → d ≤ 33 → RVars w mb rb mc →
    Calls Try.prog 32 #[.agg #[a, b, c], .int .i64 d, .pointer (some ⟨mb, 0, none⟩), .pointer (some ⟨rb, 0, none⟩)] w (RPost w mb rb mc (.mk op cls ps) d) := by
  intro w mb rb mc d a b c hno hx hmc hd hv
  rw [nodeF_iff] at hx
  obtain ⟨rfl, hcl, hclf, hcb, hpb, hps⟩ := hx
  obtain ⟨pc, capc, rfl, hcc, hxc⟩ := hcl.get
  obtain ⟨pp, capp, rfl, hcp, hxp⟩ := hps.get
  unfold R at hcb hpb
  have HXC := Lib.hid (show Ints w (.slice pc cls.length capc) cls ∧ Lies (fun k => k ≠ mb) (.slice pc cls.length capc) cls.length from ⟨hcl, hclf⟩)
  have HXP := Lib.hid hxp
  have HV := Lib.hid hv
  clear hcl hps hxc hxp hv hclf
  go_enter Try.func32, Try.ntmps32
  go_upto_region 1 with fail
  refine abs_wp fun W hW => ?_
  obtain ⟨B, hB⟩ : ∃ B, B = w.heap.size := ⟨_, rfl⟩
  have hbox : W.heap[B]? = some (.cells #[.int .i64 op, .slice pc cls.length capc, .slice pp ps.length capp] 49) := by rw [hW, hB]; exact heap_alloc_new _ _
  have hbe : Below w.heap.size w W := by rw [hW]; exact below_alloc1 _ _
  have hbm : B ≠ mb := by have := at_lt HV.out.2.1; omega
  rw [← hB]
  have HBE := Lib.hid hbe
  have HBOX := Lib.hid hbox
  have HBM := Lib.hid hbm
  have HM1 := Lib.hid ((hbe.block mb (at_lt HV.out.2.1)).trans HV.out.2.1)
  have HR1 := Lib.hid ((hbe.block rb (at_lt HV.out.2.2)).trans HV.out.2.2)
  have x0 : W.cell? ⟨mb, 0, none⟩ = some (.int .i64 mc) := by simp [World.cell?, HM1.out]
  have f0 : W.frozen? ⟨mb, 0, none⟩ = false := fz_at HM1.out 0
  clear hW hbox hbe hB hbm
  go_upto_region 2 with fail
  refine abs_wp fun W1 hW1 => ?_
  have HF1 := Lib.hid (show Fr (fun k => k = mb) w W1 by
    rw [hW1]; exact (Fr.of_below HBE.out _).trans (Fr.setCell (F := fun k => k = mb) W rfl _) (fun _ _ h => h))
  have HBOX1 := Lib.hid (show W1.heap[B]? = some (.cells #[.int .i64 op, .slice pc cls.length capc, .slice pp ps.length capp] 49) by
    rw [hW1]; exact ((Fr.setCell (F := fun k => k = mb) W rfl _).block B (at_lt HBOX.out) HBM.out).trans HBOX.out)
  have HM2 := Lib.hid (show W1.heap[mb]? = some (.cells #[.int .i64 ((mc : Int) + 1)] 3) by rw [hW1]; have h := blk_set HM1.out 0 (.int .i64 ((mc : Int) + 1)); exact h)
  have HR2 := Lib.hid (show W1.heap[rb]? = some (.cells #[.func (.func 32) #[] #[.pointer (some ⟨mb, 0, none⟩), .pointer (some ⟨rb, 0, none⟩)]] 86) by
    rw [hW1]; exact ((Fr.setCell (F := fun k => k = mb) W rfl _).block rb (at_lt HR1.out) (fun h => HV.out.1 h.symm)).trans HR1.out)
  clear hW1 x0 f0
  have x0 : W1.cell? ⟨mb, 0, none⟩ = some (.int .i64 ((mc : Int) + 1)) := by simp [World.cell?, HM2.out]
  obtain ⟨y0, y1, y2⟩ := cells3 HBOX1.out
  have hnp := cnt_pos (.mk op cls ps)
  have HNO := Lib.hid (show ¬ (Wf d (.mk op cls ps) ∧ mc + cnt (.mk op cls ps) ≤ 400) from fun ⟨h1, h2⟩ => by
    unfold Wf at h1
    obtain ⟨g1, g2, g3, g4, g5, -⟩ := h1
    rcases hno with h | h | ⟨h, h'⟩ | h | h | ⟨h, h'⟩ | ⟨h, h'⟩
    · omega
    · omega
    · rw [g3 h] at h'; simp at h'
    · omega
    · omega
    · rw [g4 h] at h'; simp at h'
    · exact h' (g5 h))
  clear hnp
  by_cases c1 : mc + 1 > 400
  · have c1' : (400 : Int) < (mc : Int) + 1 := by omega
    clear hno
    go_wp2_with fail
    go_ret
    exact ⟨false, rfl, ⟨(fun h => by cases h), fun h => (HNO.out h).elim⟩, (fun h => by cases h), HF1.out⟩
  have c1' : ¬ (400 : Int) < (mc : Int) + 1 := by omega
  by_cases c2 : d > 32
  · have c2' : (32 : Int) < (d : Int) := by omega
    clear hno
    go_wp2_with fail
    go_ret
    exact ⟨false, rfl, ⟨(fun h => by cases h), fun h => (HNO.out h).elim⟩, (fun h => by cases h), HF1.out⟩
  have c2' : ¬ (32 : Int) < (d : Int) := by omega
  by_cases c3 : op ≠ 1 ∧ 0 < cls.length
  · obtain ⟨c3, c4⟩ := c3
    have c3' : (op != 1) = true := by simpa using c3
    have c4' : (0 : Int) < cls.length := by omega
    clear hno
    go_wp2_with fail
    go_ret
    exact ⟨false, rfl, ⟨(fun h => by cases h), fun h => (HNO.out h).elim⟩, (fun h => by cases h), HF1.out⟩
  have hlen : op = 1 ∨ cls.length = 0 := by omega
  have hkind : op = 0 ∧ 0 < ps.length ∨ op = 1 ∧ 0 < ps.length ∨ op = 4 ∧ ps.length ≠ 1 ∨ op = 5 ∧ ps.length ≠ 1 ∨ (op < 0 ∨ 5 < op) := by omega
  clear hno c3
  rcases hkind with ⟨rfl, c5⟩ | ⟨rfl, c5⟩ | ⟨rfl, c5⟩ | ⟨rfl, c5⟩ | c5
  · have c6 : ¬ (0 : Int) < cls.length := by omega
    have c7 : (0 : Int) < ps.length := by omega
    clear hlen c5
    go_wp2_with fail
    go_ret
    exact ⟨false, rfl, ⟨(fun h => by cases h), fun h => (HNO.out h).elim⟩, (fun h => by cases h), HF1.out⟩
  · have c7 : (0 : Int) < ps.length := by omega
    clear hlen c5
    go_wp2_with fail
    go_ret
    exact ⟨false, rfl, ⟨(fun h => by cases h), fun h => (HNO.out h).elim⟩, (fun h => by cases h), HF1.out⟩
  · have c6 : ¬ (0 : Int) < cls.length := by omega
    have c7 : ((ps.length : Int) != 1) = true := by simp; omega
    clear hlen c5
    go_wp2_with fail
    go_ret
    exact ⟨false, rfl, ⟨(fun h => by cases h), fun h => (HNO.out h).elim⟩, (fun h => by cases h), HF1.out⟩
  · have c6 : ¬ (0 : Int) < cls.length := by omega
    have c7 : ((ps.length : Int) != 1) = true := by simp; omega
    clear hlen c5
    go_wp2_with fail
    go_ret
    exact ⟨false, rfl, ⟨(fun h => by cases h), fun h => (HNO.out h).elim⟩, (fun h => by cases h), HF1.out⟩
  · have c6 : ¬ (0 : Int) < cls.length := by omega
    have c8 : (op != 1) = true := by simp; omega
    have d0 : (op == 0) = false := by simp; omega
    have d1 : (op == 1) = false := by simp; omega
    have d2 : (op == 2) = false := by simp; omega
    have d3 : (op == 3) = false := by simp; omega
    have d4 : (op == 4) = false := by simp; omega
    have d5 : (op == 5) = false := by simp; omega
    clear hlen c5
    go_wp2_with fail
    go_ret
    exact ⟨false, rfl, ⟨(fun h => by cases h), fun h => (HNO.out h).elim⟩, (fun h => by cases h), HF1.out⟩

end Go.Proofs.Ytmooflmhbpckjaa
