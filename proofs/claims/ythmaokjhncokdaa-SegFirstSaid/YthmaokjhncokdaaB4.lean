import Derived.Test.YthmaokjhncokdaaB3
import Derived.Laws.EntriesVeiled
import Derived.Shelf.Sort.Plain
import Derived.Shelf.Lay
import Derived.Ground.NamesProg
import Derived.Sort.OwnSortedInts
/-
  Right: whether an expression may be. No condition beyond what each theorem names.
-/
set_option linter.unusedVariables false
set_option linter.unusedSimpArgs false
namespace Go.Proofs.Ythmaokjhncokdaa
open Go.RowKit

/-- classes that there are, rising -/
def rising (cls : List Int) : Prop := ∀ i (h : i < cls.length), 0 ≤ cls[i] ∧ cls[i] < 24 ∧ ∀ (h0 : 0 < i), cls[i - 1] < cls[i]

mutual
/-- an expression that may stand so deep -/
def Wf : Nat → Nd → Prop
  | d, .mk op cls ps => d ≤ 32 ∧ (0 ≤ op ∧ op ≤ 5) ∧ (op ≠ 1 → cls = []) ∧ (op = 0 ∨ op = 1 → ps = []) ∧ (op = 4 ∨ op = 5 → ps.length = 1) ∧ rising cls ∧ WfL (d + 1) ps
def WfL : Nat → List Nd → Prop
  | _, [] => True
  | d, x :: r => Wf d x ∧ WfL d r
end

theorem WfL_iff : ∀ {d : Nat} {l : List Nd}, WfL d l ↔ ∀ x ∈ l, Wf d x
  | d, [] => by simp [WfL]
  | d, x :: r => by simp [WfL, WfL_iff (d := d) (l := r)]

theorem Wf_good : ∀ (x : Nd) (d : Nat), Wf d x → Good x
  | .mk op cls ps, d, h => by
    unfold Wf at h
    obtain ⟨-, h1, -, h2, h3, -, h4⟩ := h
    rw [WfL_iff] at h4
    have hl : ∀ l : List Nd, (∀ x ∈ l, x ∈ ps) → GoodL l := by
      intro l
      induction l with
      | nil => intro _; unfold GoodL; trivial
      | cons x r ih =>
        intro hm
        have := List.sizeOf_lt_of_mem (hm x (by simp))
        unfold GoodL
        exact ⟨Wf_good x (d + 1) (h4 x (hm x (by simp))), ih (fun y hy => hm y (by simp [hy]))⟩
    unfold Good
    exact ⟨by omega, h2, h3, hl ps (fun _ h => h)⟩
  termination_by x => SizeOf.sizeOf x
  decreasing_by (simp; omega)

/-- an expression that may be -/
def RightX (x : Nd) : Prop := Wf 1 x ∧ cnt x ≤ 400

def FT : TypeId := 100

/-- the closure's variables: how many nodes were met, and itself -/
def RVars (w : World) (mb rb : Nat) (mc : Int) : Prop := mb ≠ rb ∧ w.heap[mb]? = some (.cells #[.int .i64 mc] 3) ∧ w.heap[rb]? = some (.cells #[.func (.func 54) #[] #[.pointer (some ⟨mb, 0, none⟩), .pointer (some ⟨rb, 0, none⟩)]] 100)

def RPost (w : World) (mb rb : Nat) (mc : Nat) (x : Nd) (d : Nat) (e : Ending) (w' : World) : Prop :=
  ∃ b : Bool, e = .returned (.bool b) ∧ (b = true ↔ Wf d x ∧ mc + cnt x ≤ 400) ∧ (b = true → RVars w' mb rb ((mc + cnt x : Nat) : Int)) ∧ Fr (fun k => k = mb) w w'

def RightAt (x : Nd) : Prop := ∀ (w : World) (mb rb : Nat) (mc d : Nat) (a b c : Value), NodeF (fun k => k ≠ mb) w x a b c → mc ≤ 400 → d ≤ 33 → RVars w mb rb mc →
  Calls Try.prog 54 #[.agg #[a, b, c], .int .i64 d, .pointer (some ⟨mb, 0, none⟩), .pointer (some ⟨rb, 0, none⟩)] w (RPost w mb rb mc x d)
set_option maxRecDepth 100000 in
set_option maxHeartbeats 4000000 in
theorem right_no (op : Int) (cls : List Int) (ps : List Nd) : ∀ (w : World) (mb rb : Nat) (mc d : Nat) (a b c : Value), mc + 1 > 400 ∨ d > 32 ∨ (op ≠ 1 ∧ 0 < cls.length) ∨ op < 0 ∨ 5 < op ∨ ((op = 0 ∨ op = 1) ∧ 0 < ps.length) ∨ ((op = 4 ∨ op = 5) ∧ ps.length ≠ 1) → NodeF (fun k => k ≠ mb) w (.mk op cls ps) a b c → mc ≤ 400 → d ≤ 33 → RVars w mb rb mc →
    Calls Try.prog 54 #[.agg #[a, b, c], .int .i64 d, .pointer (some ⟨mb, 0, none⟩), .pointer (some ⟨rb, 0, none⟩)] w (RPost w mb rb mc (.mk op cls ps) d) := by
  intro w mb rb mc d a b c hno hx hmc hd hv
  rw [nodeF_iff] at hx
  obtain ⟨rfl, hcl, hclf, hcb, hpb, hps⟩ := hx
  obtain ⟨pc, capc, rfl, hcc, hxc⟩ := hcl.get
  obtain ⟨pp, capp, rfl, hcp, hxp⟩ := hps.get
  unfold R at hcb hpb
  have HXC := Lib.hid (show Ints w (.slice pc cls.length capc) cls ∧ Lies (fun k => k ≠ mb) (.slice pc cls.length capc) cls.length from ⟨hcl, hclf⟩)
  have HXP := Lib.hid hxp
  have HV := Lib.hid hv
  clear hcl hps hxc hxp hv hclf
  go_enter Try.func54, Try.ntmps54
  go_upto_region 1 with fail
  refine abs_wp fun W hW => ?_
  obtain ⟨B, hB⟩ : ∃ B, B = w.heap.size := ⟨_, rfl⟩
  have hbox : W.heap[B]? = some (.cells #[.int .i64 op, .slice pc cls.length capc, .slice pp ps.length capp] 52) := by rw [hW, hB]; exact heap_alloc_new _ _
  have hbe : Below w.heap.size w W := by rw [hW]; exact below_alloc1 _ _
  have hbm : B ≠ mb := by have := at_lt HV.out.2.1; omega
  rw [← hB]
  have HBE := Lib.hid hbe
  have HBOX := Lib.hid hbox
  have HBM := Lib.hid hbm
  have HM1 := Lib.hid ((hbe.block mb (at_lt HV.out.2.1)).trans HV.out.2.1)
  have HR1 := Lib.hid ((hbe.block rb (at_lt HV.out.2.2)).trans HV.out.2.2)
  have x0 : W.cell? ⟨mb, 0, none⟩ = some (.int .i64 mc) := by simp [World.cell?, HM1.out]
  have f0 : W.frozen? ⟨mb, 0, none⟩ = false := fz_at HM1.out 0
  clear hW hbox hbe hB hbm
  go_upto_region 2 with fail
  refine abs_wp fun W1 hW1 => ?_
  have HF1 := Lib.hid (show Fr (fun k => k = mb) w W1 by
    rw [hW1]; exact (Fr.of_below HBE.out _).trans (Fr.setCell (F := fun k => k = mb) W rfl _) (fun _ _ h => h))
  have HBOX1 := Lib.hid (show W1.heap[B]? = some (.cells #[.int .i64 op, .slice pc cls.length capc, .slice pp ps.length capp] 52) by
    rw [hW1]; exact ((Fr.setCell (F := fun k => k = mb) W rfl _).block B (at_lt HBOX.out) HBM.out).trans HBOX.out)
  have HM2 := Lib.hid (show W1.heap[mb]? = some (.cells #[.int .i64 ((mc : Int) + 1)] 3) by rw [hW1]; have h := blk_set HM1.out 0 (.int .i64 ((mc : Int) + 1)); exact h)
  have HR2 := Lib.hid (show W1.heap[rb]? = some (.cells #[.func (.func 54) #[] #[.pointer (some ⟨mb, 0, none⟩), .pointer (some ⟨rb, 0, none⟩)]] 100) by
    rw [hW1]; exact ((Fr.setCell (F := fun k => k = mb) W rfl _).block rb (at_lt HR1.out) (fun h => HV.out.1 h.symm)).trans HR1.out)
  clear hW1 x0 f0
  have x0 : W1.cell? ⟨mb, 0, none⟩ = some (.int .i64 ((mc : Int) + 1)) := by simp [World.cell?, HM2.out]
  obtain ⟨y0, y1, y2⟩ := cells3 HBOX1.out
  have hnp := cnt_pos (.mk op cls ps)
  have HNO := Lib.hid (show ¬ (Wf d (.mk op cls ps) ∧ mc + cnt (.mk op cls ps) ≤ 400) from fun ⟨h1, h2⟩ => by
    unfold Wf at h1
    obtain ⟨g1, g2, g3, g4, g5, -⟩ := h1
    rcases hno with h | h | ⟨h, h'⟩ | h | h | ⟨h, h'⟩ | ⟨h, h'⟩
    · omega
    · omega
    · rw [g3 h] at h'; simp at h'
    · omega
    · omega
    · rw [g4 h] at h'; simp at h'
    · exact h' (g5 h))
  clear hnp
  by_cases c1 : mc + 1 > 400
  · have c1' : (400 : Int) < (mc : Int) + 1 := by omega
    clear hno
    go_wp2_with fail
    go_ret
    exact ⟨false, rfl, ⟨(fun h => by cases h), fun h => (HNO.out h).elim⟩, (fun h => by cases h), HF1.out⟩
  have c1' : ¬ (400 : Int) < (mc : Int) + 1 := by omega
  by_cases c2 : d > 32
  · have c2' : (32 : Int) < (d : Int) := by omega
    clear hno
    go_wp2_with fail
    go_ret
    exact ⟨false, rfl, ⟨(fun h => by cases h), fun h => (HNO.out h).elim⟩, (fun h => by cases h), HF1.out⟩
  have c2' : ¬ (32 : Int) < (d : Int) := by omega
  by_cases c3 : op ≠ 1 ∧ 0 < cls.length
  · obtain ⟨c3, c4⟩ := c3
    have c3' : (op != 1) = true := by simpa using c3
    have c4' : (0 : Int) < cls.length := by omega
    clear hno
    go_wp2_with fail
    go_ret
    exact ⟨false, rfl, ⟨(fun h => by cases h), fun h => (HNO.out h).elim⟩, (fun h => by cases h), HF1.out⟩
  have hlen : op = 1 ∨ cls.length = 0 := by omega
  have hkind : op = 0 ∧ 0 < ps.length ∨ op = 1 ∧ 0 < ps.length ∨ op = 4 ∧ ps.length ≠ 1 ∨ op = 5 ∧ ps.length ≠ 1 ∨ (op < 0 ∨ 5 < op) := by omega
  clear hno c3
  rcases hkind with ⟨rfl, c5⟩ | ⟨rfl, c5⟩ | ⟨rfl, c5⟩ | ⟨rfl, c5⟩ | c5
  · have c6 : ¬ (0 : Int) < cls.length := by omega
    have c7 : (0 : Int) < ps.length := by omega
    clear hlen c5
    go_wp2_with fail
    go_ret
    exact ⟨false, rfl, ⟨(fun h => by cases h), fun h => (HNO.out h).elim⟩, (fun h => by cases h), HF1.out⟩
  · have c7 : (0 : Int) < ps.length := by omega
    clear hlen c5
    go_wp2_with fail
    go_ret
    exact ⟨false, rfl, ⟨(fun h => by cases h), fun h => (HNO.out h).elim⟩, (fun h => by cases h), HF1.out⟩
  · have c6 : ¬ (0 : Int) < cls.length := by omega
    have c7 : ((ps.length : Int) != 1) = true := by simp; omega
    clear hlen c5
    go_wp2_with fail
    go_ret
    exact ⟨false, rfl, ⟨(fun h => by cases h), fun h => (HNO.out h).elim⟩, (fun h => by cases h), HF1.out⟩
  · have c6 : ¬ (0 : Int) < cls.length := by omega
    have c7 : ((ps.length : Int) != 1) = true := by simp; omega
    clear hlen c5
    go_wp2_with fail
    go_ret
    exact ⟨false, rfl, ⟨(fun h => by cases h), fun h => (HNO.out h).elim⟩, (fun h => by cases h), HF1.out⟩
  · have c6 : ¬ (0 : Int) < cls.length := by omega
    have c8 : (op != 1) = true := by simp; omega
    have d0 : (op == 0) = false := by simp; omega
    have d1 : (op == 1) = false := by simp; omega
    have d2 : (op == 2) = false := by simp; omega
    have d3 : (op == 3) = false := by simp; omega
    have d4 : (op == 4) = false := by simp; omega
    have d5 : (op == 5) = false := by simp; omega
    clear hlen c5
    go_wp2_with fail
    go_ret
    exact ⟨false, rfl, ⟨(fun h => by cases h), fun h => (HNO.out h).elim⟩, (fun h => by cases h), HF1.out⟩

end Go.Proofs.Ythmaokjhncokdaa

/-
  Right's closure, kind by kind. No condition beyond what each theorem names.
-/
set_option linter.unusedVariables false
set_option linter.unusedSimpArgs false
namespace Go.Proofs.Ythmaokjhncokdaa
open Go.RowKit

theorem Ints.fr' {F : Nat → Prop} {w w' : World} {v : Value} {xs : List Int} (h : Ints w v xs) (hf : Fr F w w') (hn : 0 < xs.length → ∀ k, v.ownBlock = some k → ¬ F k) : Ints w' v xs := Raw.fr hf h (by simpa using hn)

theorem rising_succ {cls : List Int} {k : Nat} (hk : k < cls.length) (h : rising (cls.take k)) (h1 : 0 ≤ cls[k]) (h2 : cls[k] < 24) (h3 : ∀ h0 : 0 < k, cls[k - 1] < cls[k]) : rising (cls.take (k + 1)) := by
  intro i hi
  rw [List.length_take] at hi
  simp only [List.getElem_take]
  by_cases e : i = k
  · subst e; exact ⟨h1, h2, h3⟩
  · have := h i (by rw [List.length_take]; omega)
    simp only [List.getElem_take] at this
    exact this

set_option maxRecDepth 100000 in
set_option maxHeartbeats 4000000 in
theorem right_0 (cls : List Int) (ps : List Nd) (ih : ∀ x ∈ ps, RightAt x) : ∀ (w : World) (mb rb : Nat) (mc d : Nat) (a b c : Value), mc + 1 ≤ 400 → d ≤ 32 → ((0 : Int) = 1 ∨ cls.length = 0) → ((0 : Int) = 0 ∨ (0 : Int) = 1 → ps.length = 0) → ((0 : Int) = 4 ∨ (0 : Int) = 5 → ps.length = 1) → NodeF (fun k => k ≠ mb) w (.mk 0 cls ps) a b c → mc ≤ 400 → d ≤ 33 → RVars w mb rb mc →
    Calls Try.prog 54 #[.agg #[a, b, c], .int .i64 d, .pointer (some ⟨mb, 0, none⟩), .pointer (some ⟨rb, 0, none⟩)] w (RPost w mb rb mc (.mk 0 cls ps) d) := by
  intro w mb rb mc d a b c hmc1 hd1 hone hnil hsing hx hmc hd hv
  have IH := Lib.hid ih
  have HONE := Lib.hid hone
  have HNIL := Lib.hid hnil
  have HSING := Lib.hid hsing
  clear ih hone hnil hsing
  rw [nodeF_iff] at hx
  obtain ⟨rfl, hcl, hclf, hcb, hpb, hps⟩ := hx
  obtain ⟨pc, capc, rfl, hcc, hxc⟩ := hcl.get
  obtain ⟨pp, capp, rfl, hcp, hxp⟩ := hps.get
  unfold R at hcb hpb
  have HXC := Lib.hid (show Ints w (.slice pc cls.length capc) cls ∧ Lies (fun k => k ≠ mb) (.slice pc cls.length capc) cls.length from ⟨hcl, hclf⟩)
  have HXP := Lib.hid hxp
  have HV := Lib.hid hv
  clear hcl hps hxc hxp hv hclf
  go_enter Try.func54, Try.ntmps54
  go_upto_region 1 with fail
  refine abs_wp fun W hW => ?_
  obtain ⟨B, hB⟩ : ∃ B, B = w.heap.size := ⟨_, rfl⟩
  have hbox : W.heap[B]? = some (.cells #[.int .i64 0, .slice pc cls.length capc, .slice pp ps.length capp] 52) := by rw [hW, hB]; exact heap_alloc_new _ _
  have hbe : Below w.heap.size w W := by rw [hW]; exact below_alloc1 _ _
  have hbm : B ≠ mb := by have := at_lt HV.out.2.1; omega
  rw [← hB]
  have HBE := Lib.hid hbe
  have HBOX := Lib.hid hbox
  have HBM := Lib.hid hbm
  have HM1 := Lib.hid ((hbe.block mb (at_lt HV.out.2.1)).trans HV.out.2.1)
  have HR1 := Lib.hid ((hbe.block rb (at_lt HV.out.2.2)).trans HV.out.2.2)
  have x0 : W.cell? ⟨mb, 0, none⟩ = some (.int .i64 mc) := by simp [World.cell?, HM1.out]
  have f0 : W.frozen? ⟨mb, 0, none⟩ = false := fz_at HM1.out 0
  clear hW hbox hbe hB hbm
  go_upto_region 2 with fail
  refine abs_wp fun W1 hW1 => ?_
  have HF1 := Lib.hid (show Fr (fun k => k = mb) w W1 by
    rw [hW1]; exact (Fr.of_below HBE.out _).trans (Fr.setCell (F := fun k => k = mb) W rfl _) (fun _ _ h => h))
  have HBOX1 := Lib.hid (show W1.heap[B]? = some (.cells #[.int .i64 0, .slice pc cls.length capc, .slice pp ps.length capp] 52) by
    rw [hW1]; exact ((Fr.setCell (F := fun k => k = mb) W rfl _).block B (at_lt HBOX.out) HBM.out).trans HBOX.out)
  have HM2 := Lib.hid (show W1.heap[mb]? = some (.cells #[.int .i64 ((mc : Int) + 1)] 3) by rw [hW1]; have h := blk_set HM1.out 0 (.int .i64 ((mc : Int) + 1)); exact h)
  have HR2 := Lib.hid (show W1.heap[rb]? = some (.cells #[.func (.func 54) #[] #[.pointer (some ⟨mb, 0, none⟩), .pointer (some ⟨rb, 0, none⟩)]] 100) by
    rw [hW1]; exact ((Fr.setCell (F := fun k => k = mb) W rfl _).block rb (at_lt HR1.out) (fun h => HV.out.1 h.symm)).trans HR1.out)
  clear hW1 x0 f0
  have x0 : W1.cell? ⟨mb, 0, none⟩ = some (.int .i64 ((mc : Int) + 1)) := by simp [World.cell?, HM2.out]
  obtain ⟨y0, y1, y2⟩ := cells3 HBOX1.out
  have c1' : ¬ (400 : Int) < (mc : Int) + 1 := by omega
  have c2' : ¬ (32 : Int) < (d : Int) := by omega
  have c3' : ¬ (0 : Int) < cls.length := by have := HONE.out; omega
  have c4' : ¬ (0 : Int) < ps.length := by have := HNIL.out; omega
  go_wp2_with fail
  go_loop [52] (fun i => ∃ k : Nat, i = .int .i64 k ∧ k ≤ cls.length ∧ rising (cls.take k)) (fun i => cls.length - (intOf i).toNat)
  case atStart => exact ⟨0, rfl, by omega, by intro i h; simp at h⟩
  case round =>
    obtain ⟨k, rfl, h1, hris⟩ := hrel
    have HRIS := Lib.hid hris
    clear hris
    by_cases hk : k < cls.length
    · exact absurd hk (by omega)
    · have hke : cls.take k = cls := List.take_of_length_le (by omega)
      have HRI := Lib.hid (show rising cls by rw [← hke]; exact HRIS.out)
      have hkk : ¬ (k : Int) < cls.length := by omega
      clear hke
      obtain ⟨y0, y1, y2⟩ := cells3 HBOX1.out
      have HV2 := Lib.hid (show RVars W1 mb rb ((mc + 1 + cntL (ps.take 0) : Nat) : Int) from ⟨HV.out.1, by rw [HM2.out]; simp [cntL], HR2.out⟩)
      clear x0 hkk
      go_wp2_with fail
      go_loopw [81] (fun i wr => ∃ k : Nat, i = .int .i64 k ∧ k ≤ ps.length ∧ mc + 1 + cntL (ps.take k) ≤ 400 ∧ WfL (d + 1) (ps.take k) ∧ RVars wr mb rb ((mc + 1 + cntL (ps.take k) : Nat) : Int) ∧ Fr (fun k => k = mb) w wr) (fun i _ => ps.length - (intOf i).toNat)
      case atStart => exact ⟨0, rfl, by omega, by simp [cntL]; omega, by simp [WfL], HV2.out, HF1.out⟩
      case round =>
        obtain ⟨j, rfl, j1, jc, jw, jv, jf⟩ := hrel
        obtain ⟨n, hn⟩ : ∃ n, n = mc + 1 + cntL (ps.take j) := ⟨_, rfl⟩
        rw [← hn] at jc jv
        have HN := Lib.hid hn
        have HW := Lib.hid jw
        have HVr := Lib.hid jv
        have HFr := Lib.hid jf
        have r9 : wr.cell? ⟨rb, 0, none⟩ = some (.func (.func 54) #[] #[.pointer (some ⟨mb, 0, none⟩), .pointer (some ⟨rb, 0, none⟩)]) := by simp [World.cell?, jv.2.2]
        have hrlt : rb < wr.heap.size := at_lt jv.2.2
        clear hn jw jv jf
        by_cases hj : j < ps.length
        · exact absurd (HNIL.out (by simp)) (by omega)
        · have hke : ps.take j = ps := List.take_of_length_le (by omega)
          have hjj : ¬ (j : Int) < ps.length := by omega
          have HYES := Lib.hid (show (Wf d (.mk 0 cls ps) ∧ mc + cnt (.mk 0 cls ps) ≤ 400) ∧ n = mc + cnt (.mk 0 cls ps) from by
            have h1 := HN.out
            have h2 := HW.out
            rw [hke] at h1 h2
            have h3 : mc + cnt (.mk 0 cls ps) = n := by simp only [cnt]; omega
            refine ⟨⟨?_, by omega⟩, h3.symm⟩
            unfold Wf
            refine ⟨hd1, by omega, fun h => ?_, fun h => ?_, fun h => HSING.out (by first | exact h | simp), HRI.out, h2⟩
            · rcases HONE.out with h4 | h4
              · first | exact absurd h4 h | exact absurd rfl h
              · exact List.eq_nil_of_length_eq_zero h4
            · exact List.eq_nil_of_length_eq_zero (HNIL.out (by first | exact h | simp)))
          clear hke r9
          go_wp2_with fail
          go_ret
          exact ⟨true, rfl, ⟨fun _ => HYES.out.1, fun _ => rfl⟩, fun _ => by rw [← HYES.out.2]; exact HVr.out, HFr.out⟩

set_option maxRecDepth 100000 in
set_option maxHeartbeats 4000000 in
theorem right_1 (cls : List Int) (ps : List Nd) (ih : ∀ x ∈ ps, RightAt x) : ∀ (w : World) (mb rb : Nat) (mc d : Nat) (a b c : Value), mc + 1 ≤ 400 → d ≤ 32 → ((1 : Int) = 1 ∨ cls.length = 0) → ((1 : Int) = 0 ∨ (1 : Int) = 1 → ps.length = 0) → ((1 : Int) = 4 ∨ (1 : Int) = 5 → ps.length = 1) → NodeF (fun k => k ≠ mb) w (.mk 1 cls ps) a b c → mc ≤ 400 → d ≤ 33 → RVars w mb rb mc →
    Calls Try.prog 54 #[.agg #[a, b, c], .int .i64 d, .pointer (some ⟨mb, 0, none⟩), .pointer (some ⟨rb, 0, none⟩)] w (RPost w mb rb mc (.mk 1 cls ps) d) := by
  intro w mb rb mc d a b c hmc1 hd1 hone hnil hsing hx hmc hd hv
  have IH := Lib.hid ih
  have HONE := Lib.hid hone
  have HNIL := Lib.hid hnil
  have HSING := Lib.hid hsing
  clear ih hone hnil hsing
  rw [nodeF_iff] at hx
  obtain ⟨rfl, hcl, hclf, hcb, hpb, hps⟩ := hx
  obtain ⟨pc, capc, rfl, hcc, hxc⟩ := hcl.get
  obtain ⟨pp, capp, rfl, hcp, hxp⟩ := hps.get
  unfold R at hcb hpb
  have HXC := Lib.hid (show Ints w (.slice pc cls.length capc) cls ∧ Lies (fun k => k ≠ mb) (.slice pc cls.length capc) cls.length from ⟨hcl, hclf⟩)
  have HXP := Lib.hid hxp
  have HV := Lib.hid hv
  clear hcl hps hxc hxp hv hclf
  go_enter Try.func54, Try.ntmps54
  go_upto_region 1 with fail
  refine abs_wp fun W hW => ?_
  obtain ⟨B, hB⟩ : ∃ B, B = w.heap.size := ⟨_, rfl⟩
  have hbox : W.heap[B]? = some (.cells #[.int .i64 1, .slice pc cls.length capc, .slice pp ps.length capp] 52) := by rw [hW, hB]; exact heap_alloc_new _ _
  have hbe : Below w.heap.size w W := by rw [hW]; exact below_alloc1 _ _
  have hbm : B ≠ mb := by have := at_lt HV.out.2.1; omega
  rw [← hB]
  have HBE := Lib.hid hbe
  have HBOX := Lib.hid hbox
  have HBM := Lib.hid hbm
  have HM1 := Lib.hid ((hbe.block mb (at_lt HV.out.2.1)).trans HV.out.2.1)
  have HR1 := Lib.hid ((hbe.block rb (at_lt HV.out.2.2)).trans HV.out.2.2)
  have x0 : W.cell? ⟨mb, 0, none⟩ = some (.int .i64 mc) := by simp [World.cell?, HM1.out]
  have f0 : W.frozen? ⟨mb, 0, none⟩ = false := fz_at HM1.out 0
  clear hW hbox hbe hB hbm
  go_upto_region 2 with fail
  refine abs_wp fun W1 hW1 => ?_
  have HF1 := Lib.hid (show Fr (fun k => k = mb) w W1 by
    rw [hW1]; exact (Fr.of_below HBE.out _).trans (Fr.setCell (F := fun k => k = mb) W rfl _) (fun _ _ h => h))
  have HBOX1 := Lib.hid (show W1.heap[B]? = some (.cells #[.int .i64 1, .slice pc cls.length capc, .slice pp ps.length capp] 52) by
    rw [hW1]; exact ((Fr.setCell (F := fun k => k = mb) W rfl _).block B (at_lt HBOX.out) HBM.out).trans HBOX.out)
  have HM2 := Lib.hid (show W1.heap[mb]? = some (.cells #[.int .i64 ((mc : Int) + 1)] 3) by rw [hW1]; have h := blk_set HM1.out 0 (.int .i64 ((mc : Int) + 1)); exact h)
  have HR2 := Lib.hid (show W1.heap[rb]? = some (.cells #[.func (.func 54) #[] #[.pointer (some ⟨mb, 0, none⟩), .pointer (some ⟨rb, 0, none⟩)]] 100) by
    rw [hW1]; exact ((Fr.setCell (F := fun k => k = mb) W rfl _).block rb (at_lt HR1.out) (fun h => HV.out.1 h.symm)).trans HR1.out)
  clear hW1 x0 f0
  have x0 : W1.cell? ⟨mb, 0, none⟩ = some (.int .i64 ((mc : Int) + 1)) := by simp [World.cell?, HM2.out]
  obtain ⟨y0, y1, y2⟩ := cells3 HBOX1.out
  have c1' : ¬ (400 : Int) < (mc : Int) + 1 := by omega
  have c2' : ¬ (32 : Int) < (d : Int) := by omega
  have c4' : ¬ (0 : Int) < ps.length := by have := HNIL.out; omega
  go_wp2_with fail
  go_loop [52] (fun i => ∃ k : Nat, i = .int .i64 k ∧ k ≤ cls.length ∧ rising (cls.take k)) (fun i => cls.length - (intOf i).toNat)
  case atStart => exact ⟨0, rfl, by omega, by intro i h; simp at h⟩
  case round =>
    obtain ⟨k, rfl, h1, hris⟩ := hrel
    have HRIS := Lib.hid hris
    clear hris
    by_cases hk : k < cls.length
    · obtain ⟨hcl, hclf⟩ := HXC.out
      obtain ⟨pc', capc', he, hcc', hxc⟩ := (hcl.fr' HF1.out (fun h0 q hq hqm => hclf h0 q hq hqm)).get
      injection he with e1 e2 e3
      subst e1 e3
      obtain ⟨bb, off, rfl, hbl, hxx⟩ := hxc (by omega)
      have z0 := hxx k hk
      have hkk : (k : Int) < cls.length := by omega
      have hk0 : (0 : Int) ≤ k := by omega
      obtain ⟨v, hv⟩ : ∃ v, v = cls[k] := ⟨_, rfl⟩
      rw [← hv] at z0
      have HVV := Lib.hid hv
      have HNO := Lib.hid (show ∀ (_ : v < 0 ∨ 24 ≤ v ∨ (∃ h0 : 0 < k, v ≤ cls[k - 1])), ¬ (Wf d (.mk 1 cls ps) ∧ mc + cnt (.mk 1 cls ps) ≤ 400) from fun hbad ⟨hwf, _⟩ => by
        unfold Wf at hwf
        obtain ⟨r1, r2, r3⟩ := hwf.2.2.2.2.2.1 k hk
        rcases hbad with h | h | ⟨h0, h⟩
        · omega
        · omega
        · have := r3 h0; omega)
      by_cases g1 : v < 0
      · have HN := Lib.hid (HNO.out (.inl g1))
        clear hxx hxc hv hcl hclf
        go_wp2_with fail
        go_ret
        exact ⟨false, rfl, ⟨(fun h => by cases h), fun h => (HN.out h).elim⟩, (fun h => by cases h), HF1.out⟩
      by_cases g2 : 24 ≤ v
      · have HN := Lib.hid (HNO.out (.inr (.inl g2)))
        clear hxx hxc hv hcl hclf
        go_wp2_with fail
        go_ret
        exact ⟨false, rfl, ⟨(fun h => by cases h), fun h => (HN.out h).elim⟩, (fun h => by cases h), HF1.out⟩
      by_cases g3 : 0 < k
      · have g3' : (0 : Int) < k := by omega
        have z1 := hxx (k - 1) (by omega)
        obtain ⟨u, hu⟩ : ∃ u, u = cls[k - 1] := ⟨_, rfl⟩
        rw [← hu] at z1
        have hsub : ((k : Int) - 1).toNat = k - 1 := by omega
        have hs0 : 0 ≤ (k : Int) - 1 := by omega
        have hs1 : 1 ≤ (k : Int) := by omega
        have hs2 : (k : Int) - 1 < cls.length := by omega
        obtain ⟨y0, y1, y2⟩ := cells3 HBOX1.out
        by_cases g4 : v ≤ u
        · have HN := Lib.hid (HNO.out (.inr (.inr ⟨g3, by rw [← hu]; exact g4⟩)))
          clear hxx hxc hv hcl hclf hu
          go_wp2_with fail
          go_ret
          exact ⟨false, rfl, ⟨(fun h => by cases h), fun h => (HN.out h).elim⟩, (fun h => by cases h), HF1.out⟩
        · have HS := Lib.hid (show rising (cls.take (k + 1)) from rising_succ hk HRIS.out (by omega) (by omega) (fun h0 => by omega))
          clear hxx hxc hv hcl hclf hu
          go_wp2_with fail
          go_round
          case rel => exact ⟨k + 1, by go_num, by omega, HS.out⟩
          case measure => simp [intOf]; omega
      · have g3' : ¬ (0 : Int) < k := by omega
        have HS := Lib.hid (show rising (cls.take (k + 1)) from rising_succ hk HRIS.out (by omega) (by omega) (fun h0 => by omega))
        clear hxx hxc hv hcl hclf
        go_wp2_with fail
        go_round
        case rel => exact ⟨k + 1, by go_num, by omega, HS.out⟩
        case measure => simp [intOf]; omega
    · have hke : cls.take k = cls := List.take_of_length_le (by omega)
      have HRI := Lib.hid (show rising cls by rw [← hke]; exact HRIS.out)
      have hkk : ¬ (k : Int) < cls.length := by omega
      clear hke
      obtain ⟨y0, y1, y2⟩ := cells3 HBOX1.out
      have HV2 := Lib.hid (show RVars W1 mb rb ((mc + 1 + cntL (ps.take 0) : Nat) : Int) from ⟨HV.out.1, by rw [HM2.out]; simp [cntL], HR2.out⟩)
      clear x0 hkk
      go_wp2_with fail
      go_loopw [81] (fun i wr => ∃ k : Nat, i = .int .i64 k ∧ k ≤ ps.length ∧ mc + 1 + cntL (ps.take k) ≤ 400 ∧ WfL (d + 1) (ps.take k) ∧ RVars wr mb rb ((mc + 1 + cntL (ps.take k) : Nat) : Int) ∧ Fr (fun k => k = mb) w wr) (fun i _ => ps.length - (intOf i).toNat)
      case atStart => exact ⟨0, rfl, by omega, by simp [cntL]; omega, by simp [WfL], HV2.out, HF1.out⟩
      case round =>
        obtain ⟨j, rfl, j1, jc, jw, jv, jf⟩ := hrel
        obtain ⟨n, hn⟩ : ∃ n, n = mc + 1 + cntL (ps.take j) := ⟨_, rfl⟩
        rw [← hn] at jc jv
        have HN := Lib.hid hn
        have HW := Lib.hid jw
        have HVr := Lib.hid jv
        have HFr := Lib.hid jf
        have r9 : wr.cell? ⟨rb, 0, none⟩ = some (.func (.func 54) #[] #[.pointer (some ⟨mb, 0, none⟩), .pointer (some ⟨rb, 0, none⟩)]) := by simp [World.cell?, jv.2.2]
        have hrlt : rb < wr.heap.size := at_lt jv.2.2
        clear hn jw jv jf
        by_cases hj : j < ps.length
        · exact absurd (HNIL.out (by simp)) (by omega)
        · have hke : ps.take j = ps := List.take_of_length_le (by omega)
          have hjj : ¬ (j : Int) < ps.length := by omega
          have HYES := Lib.hid (show (Wf d (.mk 1 cls ps) ∧ mc + cnt (.mk 1 cls ps) ≤ 400) ∧ n = mc + cnt (.mk 1 cls ps) from by
            have h1 := HN.out
            have h2 := HW.out
            rw [hke] at h1 h2
            have h3 : mc + cnt (.mk 1 cls ps) = n := by simp only [cnt]; omega
            refine ⟨⟨?_, by omega⟩, h3.symm⟩
            unfold Wf
            refine ⟨hd1, by omega, fun h => ?_, fun h => ?_, fun h => HSING.out (by first | exact h | simp), HRI.out, h2⟩
            · rcases HONE.out with h4 | h4
              · first | exact absurd h4 h | exact absurd rfl h
              · exact List.eq_nil_of_length_eq_zero h4
            · exact List.eq_nil_of_length_eq_zero (HNIL.out (by first | exact h | simp)))
          clear hke r9
          go_wp2_with fail
          go_ret
          exact ⟨true, rfl, ⟨fun _ => HYES.out.1, fun _ => rfl⟩, fun _ => by rw [← HYES.out.2]; exact HVr.out, HFr.out⟩

set_option maxRecDepth 100000 in
set_option maxHeartbeats 4000000 in
theorem right_2 (cls : List Int) (ps : List Nd) (ih : ∀ x ∈ ps, RightAt x) : ∀ (w : World) (mb rb : Nat) (mc d : Nat) (a b c : Value), mc + 1 ≤ 400 → d ≤ 32 → ((2 : Int) = 1 ∨ cls.length = 0) → ((2 : Int) = 0 ∨ (2 : Int) = 1 → ps.length = 0) → ((2 : Int) = 4 ∨ (2 : Int) = 5 → ps.length = 1) → NodeF (fun k => k ≠ mb) w (.mk 2 cls ps) a b c → mc ≤ 400 → d ≤ 33 → RVars w mb rb mc →
    Calls Try.prog 54 #[.agg #[a, b, c], .int .i64 d, .pointer (some ⟨mb, 0, none⟩), .pointer (some ⟨rb, 0, none⟩)] w (RPost w mb rb mc (.mk 2 cls ps) d) := by
  intro w mb rb mc d a b c hmc1 hd1 hone hnil hsing hx hmc hd hv
  have IH := Lib.hid ih
  have HONE := Lib.hid hone
  have HNIL := Lib.hid hnil
  have HSING := Lib.hid hsing
  clear ih hone hnil hsing
  rw [nodeF_iff] at hx
  obtain ⟨rfl, hcl, hclf, hcb, hpb, hps⟩ := hx
  obtain ⟨pc, capc, rfl, hcc, hxc⟩ := hcl.get
  obtain ⟨pp, capp, rfl, hcp, hxp⟩ := hps.get
  unfold R at hcb hpb
  have HXC := Lib.hid (show Ints w (.slice pc cls.length capc) cls ∧ Lies (fun k => k ≠ mb) (.slice pc cls.length capc) cls.length from ⟨hcl, hclf⟩)
  have HXP := Lib.hid hxp
  have HV := Lib.hid hv
  clear hcl hps hxc hxp hv hclf
  go_enter Try.func54, Try.ntmps54
  go_upto_region 1 with fail
  refine abs_wp fun W hW => ?_
  obtain ⟨B, hB⟩ : ∃ B, B = w.heap.size := ⟨_, rfl⟩
  have hbox : W.heap[B]? = some (.cells #[.int .i64 2, .slice pc cls.length capc, .slice pp ps.length capp] 52) := by rw [hW, hB]; exact heap_alloc_new _ _
  have hbe : Below w.heap.size w W := by rw [hW]; exact below_alloc1 _ _
  have hbm : B ≠ mb := by have := at_lt HV.out.2.1; omega
  rw [← hB]
  have HBE := Lib.hid hbe
  have HBOX := Lib.hid hbox
  have HBM := Lib.hid hbm
  have HM1 := Lib.hid ((hbe.block mb (at_lt HV.out.2.1)).trans HV.out.2.1)
  have HR1 := Lib.hid ((hbe.block rb (at_lt HV.out.2.2)).trans HV.out.2.2)
  have x0 : W.cell? ⟨mb, 0, none⟩ = some (.int .i64 mc) := by simp [World.cell?, HM1.out]
  have f0 : W.frozen? ⟨mb, 0, none⟩ = false := fz_at HM1.out 0
  clear hW hbox hbe hB hbm
  go_upto_region 2 with fail
  refine abs_wp fun W1 hW1 => ?_
  have HF1 := Lib.hid (show Fr (fun k => k = mb) w W1 by
    rw [hW1]; exact (Fr.of_below HBE.out _).trans (Fr.setCell (F := fun k => k = mb) W rfl _) (fun _ _ h => h))
  have HBOX1 := Lib.hid (show W1.heap[B]? = some (.cells #[.int .i64 2, .slice pc cls.length capc, .slice pp ps.length capp] 52) by
    rw [hW1]; exact ((Fr.setCell (F := fun k => k = mb) W rfl _).block B (at_lt HBOX.out) HBM.out).trans HBOX.out)
  have HM2 := Lib.hid (show W1.heap[mb]? = some (.cells #[.int .i64 ((mc : Int) + 1)] 3) by rw [hW1]; have h := blk_set HM1.out 0 (.int .i64 ((mc : Int) + 1)); exact h)
  have HR2 := Lib.hid (show W1.heap[rb]? = some (.cells #[.func (.func 54) #[] #[.pointer (some ⟨mb, 0, none⟩), .pointer (some ⟨rb, 0, none⟩)]] 100) by
    rw [hW1]; exact ((Fr.setCell (F := fun k => k = mb) W rfl _).block rb (at_lt HR1.out) (fun h => HV.out.1 h.symm)).trans HR1.out)
  clear hW1 x0 f0
  have x0 : W1.cell? ⟨mb, 0, none⟩ = some (.int .i64 ((mc : Int) + 1)) := by simp [World.cell?, HM2.out]
  obtain ⟨y0, y1, y2⟩ := cells3 HBOX1.out
  have c1' : ¬ (400 : Int) < (mc : Int) + 1 := by omega
  have c2' : ¬ (32 : Int) < (d : Int) := by omega
  have c3' : ¬ (0 : Int) < cls.length := by have := HONE.out; omega
  go_wp2_with fail
  go_loop [52] (fun i => ∃ k : Nat, i = .int .i64 k ∧ k ≤ cls.length ∧ rising (cls.take k)) (fun i => cls.length - (intOf i).toNat)
  case atStart => exact ⟨0, rfl, by omega, by intro i h; simp at h⟩
  case round =>
    obtain ⟨k, rfl, h1, hris⟩ := hrel
    have HRIS := Lib.hid hris
    clear hris
    by_cases hk : k < cls.length
    · exact absurd hk (by omega)
    · have hke : cls.take k = cls := List.take_of_length_le (by omega)
      have HRI := Lib.hid (show rising cls by rw [← hke]; exact HRIS.out)
      have hkk : ¬ (k : Int) < cls.length := by omega
      clear hke
      obtain ⟨y0, y1, y2⟩ := cells3 HBOX1.out
      have HV2 := Lib.hid (show RVars W1 mb rb ((mc + 1 + cntL (ps.take 0) : Nat) : Int) from ⟨HV.out.1, by rw [HM2.out]; simp [cntL], HR2.out⟩)
      clear x0 hkk
      go_wp2_with fail
      go_loopw [81] (fun i wr => ∃ k : Nat, i = .int .i64 k ∧ k ≤ ps.length ∧ mc + 1 + cntL (ps.take k) ≤ 400 ∧ WfL (d + 1) (ps.take k) ∧ RVars wr mb rb ((mc + 1 + cntL (ps.take k) : Nat) : Int) ∧ Fr (fun k => k = mb) w wr) (fun i _ => ps.length - (intOf i).toNat)
      case atStart => exact ⟨0, rfl, by omega, by simp [cntL]; omega, by simp [WfL], HV2.out, HF1.out⟩
      case round =>
        obtain ⟨j, rfl, j1, jc, jw, jv, jf⟩ := hrel
        obtain ⟨n, hn⟩ : ∃ n, n = mc + 1 + cntL (ps.take j) := ⟨_, rfl⟩
        rw [← hn] at jc jv
        have HN := Lib.hid hn
        have HW := Lib.hid jw
        have HVr := Lib.hid jv
        have HFr := Lib.hid jf
        have r9 : wr.cell? ⟨rb, 0, none⟩ = some (.func (.func 54) #[] #[.pointer (some ⟨mb, 0, none⟩), .pointer (some ⟨rb, 0, none⟩)]) := by simp [World.cell?, jv.2.2]
        have hrlt : rb < wr.heap.size := at_lt jv.2.2
        clear hn jw jv jf
        by_cases hj : j < ps.length
        · obtain ⟨bb, off, rfl, hbl, hbF, hxx⟩ := HXP.out (by omega)
          obtain ⟨x, y, z, c0, c1, c2, hnode⟩ := hxx j hj
          have r0 := HFr.out.cell (p := ⟨bb, _, none⟩) hbF c0
          have r1 := HFr.out.cell (p := ⟨bb, _, none⟩) hbF c1
          have r2 := HFr.out.cell (p := ⟨bb, _, none⟩) hbF c2
          obtain ⟨o0, p0, l0, d0, q0, m0, e0, rfl, rfl, rfl⟩ := (hnode.is).form
          have HD := Lib.hid (show ∀ W', Below wr.heap.size wr W' → Calls Try.prog 54 #[.agg #[.int .i64 o0, .slice p0 l0 d0, .slice q0 m0 e0], .int .i64 ((d : Int) + 1), .pointer (some ⟨mb, 0, none⟩), .pointer (some ⟨rb, 0, none⟩)] W' (RPost W' mb rb n ps[j] (d + 1)) from fun W' hW' => by
            have h := IH.out ps[j] (List.getElem_mem hj) W' mb rb n (d + 1) _ _ _ (NodeF.below hW' (Nat.le_refl _) _ (NodeF.fr HFr.out (fun q hq => hq) _ hnode)) jc (by omega)
              ⟨HVr.out.1, (hW'.block _ (at_lt HVr.out.2.1)).trans HVr.out.2.1, (hW'.block _ (at_lt HVr.out.2.2)).trans HVr.out.2.2⟩
            rwa [show ((d + 1 : Nat) : Int) = (d : Int) + 1 by omega] at h)
          have HCT := Lib.hid (cntL_take hj)
          have HCL := Lib.hid (cntL_take_le ps (j + 1))
          have hjj : (j : Int) < ps.length := by omega
          have hj0 : (0 : Int) ≤ j := by omega
          clear hxx c0 c1 c2 hnode
          have r9' : ∀ o, (wr.alloc o).cell? ⟨rb, 0, none⟩ = some (.func (.func 54) #[] #[.pointer (some ⟨mb, 0, none⟩), .pointer (some ⟨rb, 0, none⟩)]) := fun o => by rw [World.cell?_alloc_lt _ _ _ hrlt]; exact r9
          go_wp2_with fail
          refine (HD.out _ (below_alloc1 _ _)).mono ?_
          rintro e w3 ⟨b, rfl, hiff, hrv, hfr3⟩
          have HI := Lib.hid hiff
          have HRV := Lib.hid hrv
          have HF3 := Lib.hid ((HFr.out.trans (Fr.of_below (below_alloc1 wr (.cells #[.int .i64 o0, .slice p0 l0 d0, .slice q0 m0 e0] 52)) (fun k => k = mb)) (fun _ _ h => h)).trans hfr3 (fun _ _ h => h))
          clear hiff hrv hfr3 r9' r0 r1 r2 r9
          cases b
          · have HNO := Lib.hid (show ¬ (Wf d (.mk 2 cls ps) ∧ mc + cnt (.mk 2 cls ps) ≤ 400) from fun ⟨hwf, hc⟩ => by
              unfold Wf at hwf
              have h := HI.out.2 ⟨(WfL_iff.1 hwf.2.2.2.2.2.2) _ (List.getElem_mem hj), by have := HN.out; have := HCT.out; have := HCL.out; simp only [cnt] at hc; omega⟩
              cases h)
            go_wp2_with fail
            go_ret
            exact ⟨false, rfl, ⟨(fun h => by cases h), fun h => (HNO.out h).elim⟩, (fun h => by cases h), HF3.out⟩
          · have HREL := Lib.hid (show mc + 1 + cntL (ps.take (j + 1)) ≤ 400 ∧ WfL (d + 1) (ps.take (j + 1)) ∧ RVars w3 mb rb ((mc + 1 + cntL (ps.take (j + 1)) : Nat) : Int) from by
              obtain ⟨g1, g2⟩ := HI.out.1 rfl
              have h1 := HCT.out
              have h2 := HN.out
              refine ⟨by omega, ?_, ?_⟩
              · rw [WfL_iff]
                intro x hx
                rw [List.take_succ_eq_append_getElem hj] at hx
                rcases List.mem_append.1 hx with hx | hx
                · exact (WfL_iff.1 HW.out) x hx
                · rw [List.mem_singleton.1 hx]; exact g1
              · have h3 := HRV.out rfl
                rwa [show n + cnt ps[j] = mc + 1 + cntL (ps.take (j + 1)) by omega] at h3)
            go_wp2_with fail
            go_roundw
            case rel => exact ⟨j + 1, by go_num, by omega, HREL.out.1, HREL.out.2.1, HREL.out.2.2, HF3.out⟩
            case measure => simp [intOf]; omega
        · have hke : ps.take j = ps := List.take_of_length_le (by omega)
          have hjj : ¬ (j : Int) < ps.length := by omega
          have HYES := Lib.hid (show (Wf d (.mk 2 cls ps) ∧ mc + cnt (.mk 2 cls ps) ≤ 400) ∧ n = mc + cnt (.mk 2 cls ps) from by
            have h1 := HN.out
            have h2 := HW.out
            rw [hke] at h1 h2
            have h3 : mc + cnt (.mk 2 cls ps) = n := by simp only [cnt]; omega
            refine ⟨⟨?_, by omega⟩, h3.symm⟩
            unfold Wf
            refine ⟨hd1, by omega, fun h => ?_, fun h => ?_, fun h => HSING.out (by first | exact h | simp), HRI.out, h2⟩
            · rcases HONE.out with h4 | h4
              · first | exact absurd h4 h | exact absurd rfl h
              · exact List.eq_nil_of_length_eq_zero h4
            · exact List.eq_nil_of_length_eq_zero (HNIL.out (by first | exact h | simp)))
          clear hke r9
          go_wp2_with fail
          go_ret
          exact ⟨true, rfl, ⟨fun _ => HYES.out.1, fun _ => rfl⟩, fun _ => by rw [← HYES.out.2]; exact HVr.out, HFr.out⟩

set_option maxRecDepth 100000 in
set_option maxHeartbeats 4000000 in
theorem right_3 (cls : List Int) (ps : List Nd) (ih : ∀ x ∈ ps, RightAt x) : ∀ (w : World) (mb rb : Nat) (mc d : Nat) (a b c : Value), mc + 1 ≤ 400 → d ≤ 32 → ((3 : Int) = 1 ∨ cls.length = 0) → ((3 : Int) = 0 ∨ (3 : Int) = 1 → ps.length = 0) → ((3 : Int) = 4 ∨ (3 : Int) = 5 → ps.length = 1) → NodeF (fun k => k ≠ mb) w (.mk 3 cls ps) a b c → mc ≤ 400 → d ≤ 33 → RVars w mb rb mc →
    Calls Try.prog 54 #[.agg #[a, b, c], .int .i64 d, .pointer (some ⟨mb, 0, none⟩), .pointer (some ⟨rb, 0, none⟩)] w (RPost w mb rb mc (.mk 3 cls ps) d) := by
  intro w mb rb mc d a b c hmc1 hd1 hone hnil hsing hx hmc hd hv
  have IH := Lib.hid ih
  have HONE := Lib.hid hone
  have HNIL := Lib.hid hnil
  have HSING := Lib.hid hsing
  clear ih hone hnil hsing
  rw [nodeF_iff] at hx
  obtain ⟨rfl, hcl, hclf, hcb, hpb, hps⟩ := hx
  obtain ⟨pc, capc, rfl, hcc, hxc⟩ := hcl.get
  obtain ⟨pp, capp, rfl, hcp, hxp⟩ := hps.get
  unfold R at hcb hpb
  have HXC := Lib.hid (show Ints w (.slice pc cls.length capc) cls ∧ Lies (fun k => k ≠ mb) (.slice pc cls.length capc) cls.length from ⟨hcl, hclf⟩)
  have HXP := Lib.hid hxp
  have HV := Lib.hid hv
  clear hcl hps hxc hxp hv hclf
  go_enter Try.func54, Try.ntmps54
  go_upto_region 1 with fail
  refine abs_wp fun W hW => ?_
  obtain ⟨B, hB⟩ : ∃ B, B = w.heap.size := ⟨_, rfl⟩
  have hbox : W.heap[B]? = some (.cells #[.int .i64 3, .slice pc cls.length capc, .slice pp ps.length capp] 52) := by rw [hW, hB]; exact heap_alloc_new _ _
  have hbe : Below w.heap.size w W := by rw [hW]; exact below_alloc1 _ _
  have hbm : B ≠ mb := by have := at_lt HV.out.2.1; omega
  rw [← hB]
  have HBE := Lib.hid hbe
  have HBOX := Lib.hid hbox
  have HBM := Lib.hid hbm
  have HM1 := Lib.hid ((hbe.block mb (at_lt HV.out.2.1)).trans HV.out.2.1)
  have HR1 := Lib.hid ((hbe.block rb (at_lt HV.out.2.2)).trans HV.out.2.2)
  have x0 : W.cell? ⟨mb, 0, none⟩ = some (.int .i64 mc) := by simp [World.cell?, HM1.out]
  have f0 : W.frozen? ⟨mb, 0, none⟩ = false := fz_at HM1.out 0
  clear hW hbox hbe hB hbm
  go_upto_region 2 with fail
  refine abs_wp fun W1 hW1 => ?_
  have HF1 := Lib.hid (show Fr (fun k => k = mb) w W1 by
    rw [hW1]; exact (Fr.of_below HBE.out _).trans (Fr.setCell (F := fun k => k = mb) W rfl _) (fun _ _ h => h))
  have HBOX1 := Lib.hid (show W1.heap[B]? = some (.cells #[.int .i64 3, .slice pc cls.length capc, .slice pp ps.length capp] 52) by
    rw [hW1]; exact ((Fr.setCell (F := fun k => k = mb) W rfl _).block B (at_lt HBOX.out) HBM.out).trans HBOX.out)
  have HM2 := Lib.hid (show W1.heap[mb]? = some (.cells #[.int .i64 ((mc : Int) + 1)] 3) by rw [hW1]; have h := blk_set HM1.out 0 (.int .i64 ((mc : Int) + 1)); exact h)
  have HR2 := Lib.hid (show W1.heap[rb]? = some (.cells #[.func (.func 54) #[] #[.pointer (some ⟨mb, 0, none⟩), .pointer (some ⟨rb, 0, none⟩)]] 100) by
    rw [hW1]; exact ((Fr.setCell (F := fun k => k = mb) W rfl _).block rb (at_lt HR1.out) (fun h => HV.out.1 h.symm)).trans HR1.out)
  clear hW1 x0 f0
  have x0 : W1.cell? ⟨mb, 0, none⟩ = some (.int .i64 ((mc : Int) + 1)) := by simp [World.cell?, HM2.out]
  obtain ⟨y0, y1, y2⟩ := cells3 HBOX1.out
  have c1' : ¬ (400 : Int) < (mc : Int) + 1 := by omega
  have c2' : ¬ (32 : Int) < (d : Int) := by omega
  have c3' : ¬ (0 : Int) < cls.length := by have := HONE.out; omega
  go_wp2_with fail
  go_loop [52] (fun i => ∃ k : Nat, i = .int .i64 k ∧ k ≤ cls.length ∧ rising (cls.take k)) (fun i => cls.length - (intOf i).toNat)
  case atStart => exact ⟨0, rfl, by omega, by intro i h; simp at h⟩
  case round =>
    obtain ⟨k, rfl, h1, hris⟩ := hrel
    have HRIS := Lib.hid hris
    clear hris
    by_cases hk : k < cls.length
    · exact absurd hk (by omega)
    · have hke : cls.take k = cls := List.take_of_length_le (by omega)
      have HRI := Lib.hid (show rising cls by rw [← hke]; exact HRIS.out)
      have hkk : ¬ (k : Int) < cls.length := by omega
      clear hke
      obtain ⟨y0, y1, y2⟩ := cells3 HBOX1.out
      have HV2 := Lib.hid (show RVars W1 mb rb ((mc + 1 + cntL (ps.take 0) : Nat) : Int) from ⟨HV.out.1, by rw [HM2.out]; simp [cntL], HR2.out⟩)
      clear x0 hkk
      go_wp2_with fail
      go_loopw [81] (fun i wr => ∃ k : Nat, i = .int .i64 k ∧ k ≤ ps.length ∧ mc + 1 + cntL (ps.take k) ≤ 400 ∧ WfL (d + 1) (ps.take k) ∧ RVars wr mb rb ((mc + 1 + cntL (ps.take k) : Nat) : Int) ∧ Fr (fun k => k = mb) w wr) (fun i _ => ps.length - (intOf i).toNat)
      case atStart => exact ⟨0, rfl, by omega, by simp [cntL]; omega, by simp [WfL], HV2.out, HF1.out⟩
      case round =>
        obtain ⟨j, rfl, j1, jc, jw, jv, jf⟩ := hrel
        obtain ⟨n, hn⟩ : ∃ n, n = mc + 1 + cntL (ps.take j) := ⟨_, rfl⟩
        rw [← hn] at jc jv
        have HN := Lib.hid hn
        have HW := Lib.hid jw
        have HVr := Lib.hid jv
        have HFr := Lib.hid jf
        have r9 : wr.cell? ⟨rb, 0, none⟩ = some (.func (.func 54) #[] #[.pointer (some ⟨mb, 0, none⟩), .pointer (some ⟨rb, 0, none⟩)]) := by simp [World.cell?, jv.2.2]
        have hrlt : rb < wr.heap.size := at_lt jv.2.2
        clear hn jw jv jf
        by_cases hj : j < ps.length
        · obtain ⟨bb, off, rfl, hbl, hbF, hxx⟩ := HXP.out (by omega)
          obtain ⟨x, y, z, c0, c1, c2, hnode⟩ := hxx j hj
          have r0 := HFr.out.cell (p := ⟨bb, _, none⟩) hbF c0
          have r1 := HFr.out.cell (p := ⟨bb, _, none⟩) hbF c1
          have r2 := HFr.out.cell (p := ⟨bb, _, none⟩) hbF c2
          obtain ⟨o0, p0, l0, d0, q0, m0, e0, rfl, rfl, rfl⟩ := (hnode.is).form
          have HD := Lib.hid (show ∀ W', Below wr.heap.size wr W' → Calls Try.prog 54 #[.agg #[.int .i64 o0, .slice p0 l0 d0, .slice q0 m0 e0], .int .i64 ((d : Int) + 1), .pointer (some ⟨mb, 0, none⟩), .pointer (some ⟨rb, 0, none⟩)] W' (RPost W' mb rb n ps[j] (d + 1)) from fun W' hW' => by
            have h := IH.out ps[j] (List.getElem_mem hj) W' mb rb n (d + 1) _ _ _ (NodeF.below hW' (Nat.le_refl _) _ (NodeF.fr HFr.out (fun q hq => hq) _ hnode)) jc (by omega)
              ⟨HVr.out.1, (hW'.block _ (at_lt HVr.out.2.1)).trans HVr.out.2.1, (hW'.block _ (at_lt HVr.out.2.2)).trans HVr.out.2.2⟩
            rwa [show ((d + 1 : Nat) : Int) = (d : Int) + 1 by omega] at h)
          have HCT := Lib.hid (cntL_take hj)
          have HCL := Lib.hid (cntL_take_le ps (j + 1))
          have hjj : (j : Int) < ps.length := by omega
          have hj0 : (0 : Int) ≤ j := by omega
          clear hxx c0 c1 c2 hnode
          have r9' : ∀ o, (wr.alloc o).cell? ⟨rb, 0, none⟩ = some (.func (.func 54) #[] #[.pointer (some ⟨mb, 0, none⟩), .pointer (some ⟨rb, 0, none⟩)]) := fun o => by rw [World.cell?_alloc_lt _ _ _ hrlt]; exact r9
          go_wp2_with fail
          refine (HD.out _ (below_alloc1 _ _)).mono ?_
          rintro e w3 ⟨b, rfl, hiff, hrv, hfr3⟩
          have HI := Lib.hid hiff
          have HRV := Lib.hid hrv
          have HF3 := Lib.hid ((HFr.out.trans (Fr.of_below (below_alloc1 wr (.cells #[.int .i64 o0, .slice p0 l0 d0, .slice q0 m0 e0] 52)) (fun k => k = mb)) (fun _ _ h => h)).trans hfr3 (fun _ _ h => h))
          clear hiff hrv hfr3 r9' r0 r1 r2 r9
          cases b
          · have HNO := Lib.hid (show ¬ (Wf d (.mk 3 cls ps) ∧ mc + cnt (.mk 3 cls ps) ≤ 400) from fun ⟨hwf, hc⟩ => by
              unfold Wf at hwf
              have h := HI.out.2 ⟨(WfL_iff.1 hwf.2.2.2.2.2.2) _ (List.getElem_mem hj), by have := HN.out; have := HCT.out; have := HCL.out; simp only [cnt] at hc; omega⟩
              cases h)
            go_wp2_with fail
            go_ret
            exact ⟨false, rfl, ⟨(fun h => by cases h), fun h => (HNO.out h).elim⟩, (fun h => by cases h), HF3.out⟩
          · have HREL := Lib.hid (show mc + 1 + cntL (ps.take (j + 1)) ≤ 400 ∧ WfL (d + 1) (ps.take (j + 1)) ∧ RVars w3 mb rb ((mc + 1 + cntL (ps.take (j + 1)) : Nat) : Int) from by
              obtain ⟨g1, g2⟩ := HI.out.1 rfl
              have h1 := HCT.out
              have h2 := HN.out
              refine ⟨by omega, ?_, ?_⟩
              · rw [WfL_iff]
                intro x hx
                rw [List.take_succ_eq_append_getElem hj] at hx
                rcases List.mem_append.1 hx with hx | hx
                · exact (WfL_iff.1 HW.out) x hx
                · rw [List.mem_singleton.1 hx]; exact g1
              · have h3 := HRV.out rfl
                rwa [show n + cnt ps[j] = mc + 1 + cntL (ps.take (j + 1)) by omega] at h3)
            go_wp2_with fail
            go_roundw
            case rel => exact ⟨j + 1, by go_num, by omega, HREL.out.1, HREL.out.2.1, HREL.out.2.2, HF3.out⟩
            case measure => simp [intOf]; omega
        · have hke : ps.take j = ps := List.take_of_length_le (by omega)
          have hjj : ¬ (j : Int) < ps.length := by omega
          have HYES := Lib.hid (show (Wf d (.mk 3 cls ps) ∧ mc + cnt (.mk 3 cls ps) ≤ 400) ∧ n = mc + cnt (.mk 3 cls ps) from by
            have h1 := HN.out
            have h2 := HW.out
            rw [hke] at h1 h2
            have h3 : mc + cnt (.mk 3 cls ps) = n := by simp only [cnt]; omega
            refine ⟨⟨?_, by omega⟩, h3.symm⟩
            unfold Wf
            refine ⟨hd1, by omega, fun h => ?_, fun h => ?_, fun h => HSING.out (by first | exact h | simp), HRI.out, h2⟩
            · rcases HONE.out with h4 | h4
              · first | exact absurd h4 h | exact absurd rfl h
              · exact List.eq_nil_of_length_eq_zero h4
            · exact List.eq_nil_of_length_eq_zero (HNIL.out (by first | exact h | simp)))
          clear hke r9
          go_wp2_with fail
          go_ret
          exact ⟨true, rfl, ⟨fun _ => HYES.out.1, fun _ => rfl⟩, fun _ => by rw [← HYES.out.2]; exact HVr.out, HFr.out⟩

set_option maxRecDepth 100000 in
set_option maxHeartbeats 4000000 in
theorem right_4 (cls : List Int) (ps : List Nd) (ih : ∀ x ∈ ps, RightAt x) : ∀ (w : World) (mb rb : Nat) (mc d : Nat) (a b c : Value), mc + 1 ≤ 400 → d ≤ 32 → ((4 : Int) = 1 ∨ cls.length = 0) → ((4 : Int) = 0 ∨ (4 : Int) = 1 → ps.length = 0) → ((4 : Int) = 4 ∨ (4 : Int) = 5 → ps.length = 1) → NodeF (fun k => k ≠ mb) w (.mk 4 cls ps) a b c → mc ≤ 400 → d ≤ 33 → RVars w mb rb mc →
    Calls Try.prog 54 #[.agg #[a, b, c], .int .i64 d, .pointer (some ⟨mb, 0, none⟩), .pointer (some ⟨rb, 0, none⟩)] w (RPost w mb rb mc (.mk 4 cls ps) d) := by
  intro w mb rb mc d a b c hmc1 hd1 hone hnil hsing hx hmc hd hv
  have IH := Lib.hid ih
  have HONE := Lib.hid hone
  have HNIL := Lib.hid hnil
  have HSING := Lib.hid hsing
  clear ih hone hnil hsing
  rw [nodeF_iff] at hx
  obtain ⟨rfl, hcl, hclf, hcb, hpb, hps⟩ := hx
  obtain ⟨pc, capc, rfl, hcc, hxc⟩ := hcl.get
  obtain ⟨pp, capp, rfl, hcp, hxp⟩ := hps.get
  unfold R at hcb hpb
  have HXC := Lib.hid (show Ints w (.slice pc cls.length capc) cls ∧ Lies (fun k => k ≠ mb) (.slice pc cls.length capc) cls.length from ⟨hcl, hclf⟩)
  have HXP := Lib.hid hxp
  have HV := Lib.hid hv
  clear hcl hps hxc hxp hv hclf
  go_enter Try.func54, Try.ntmps54
  go_upto_region 1 with fail
  refine abs_wp fun W hW => ?_
  obtain ⟨B, hB⟩ : ∃ B, B = w.heap.size := ⟨_, rfl⟩
  have hbox : W.heap[B]? = some (.cells #[.int .i64 4, .slice pc cls.length capc, .slice pp ps.length capp] 52) := by rw [hW, hB]; exact heap_alloc_new _ _
  have hbe : Below w.heap.size w W := by rw [hW]; exact below_alloc1 _ _
  have hbm : B ≠ mb := by have := at_lt HV.out.2.1; omega
  rw [← hB]
  have HBE := Lib.hid hbe
  have HBOX := Lib.hid hbox
  have HBM := Lib.hid hbm
  have HM1 := Lib.hid ((hbe.block mb (at_lt HV.out.2.1)).trans HV.out.2.1)
  have HR1 := Lib.hid ((hbe.block rb (at_lt HV.out.2.2)).trans HV.out.2.2)
  have x0 : W.cell? ⟨mb, 0, none⟩ = some (.int .i64 mc) := by simp [World.cell?, HM1.out]
  have f0 : W.frozen? ⟨mb, 0, none⟩ = false := fz_at HM1.out 0
  clear hW hbox hbe hB hbm
  go_upto_region 2 with fail
  refine abs_wp fun W1 hW1 => ?_
  have HF1 := Lib.hid (show Fr (fun k => k = mb) w W1 by
    rw [hW1]; exact (Fr.of_below HBE.out _).trans (Fr.setCell (F := fun k => k = mb) W rfl _) (fun _ _ h => h))
  have HBOX1 := Lib.hid (show W1.heap[B]? = some (.cells #[.int .i64 4, .slice pc cls.length capc, .slice pp ps.length capp] 52) by
    rw [hW1]; exact ((Fr.setCell (F := fun k => k = mb) W rfl _).block B (at_lt HBOX.out) HBM.out).trans HBOX.out)
  have HM2 := Lib.hid (show W1.heap[mb]? = some (.cells #[.int .i64 ((mc : Int) + 1)] 3) by rw [hW1]; have h := blk_set HM1.out 0 (.int .i64 ((mc : Int) + 1)); exact h)
  have HR2 := Lib.hid (show W1.heap[rb]? = some (.cells #[.func (.func 54) #[] #[.pointer (some ⟨mb, 0, none⟩), .pointer (some ⟨rb, 0, none⟩)]] 100) by
    rw [hW1]; exact ((Fr.setCell (F := fun k => k = mb) W rfl _).block rb (at_lt HR1.out) (fun h => HV.out.1 h.symm)).trans HR1.out)
  clear hW1 x0 f0
  have x0 : W1.cell? ⟨mb, 0, none⟩ = some (.int .i64 ((mc : Int) + 1)) := by simp [World.cell?, HM2.out]
  obtain ⟨y0, y1, y2⟩ := cells3 HBOX1.out
  have c1' : ¬ (400 : Int) < (mc : Int) + 1 := by omega
  have c2' : ¬ (32 : Int) < (d : Int) := by omega
  have c3' : ¬ (0 : Int) < cls.length := by have := HONE.out; omega
  have c5' : ((ps.length : Int) != 1) = false := by have := HSING.out; simp; omega
  go_wp2_with fail
  go_loop [52] (fun i => ∃ k : Nat, i = .int .i64 k ∧ k ≤ cls.length ∧ rising (cls.take k)) (fun i => cls.length - (intOf i).toNat)
  case atStart => exact ⟨0, rfl, by omega, by intro i h; simp at h⟩
  case round =>
    obtain ⟨k, rfl, h1, hris⟩ := hrel
    have HRIS := Lib.hid hris
    clear hris
    by_cases hk : k < cls.length
    · exact absurd hk (by omega)
    · have hke : cls.take k = cls := List.take_of_length_le (by omega)
      have HRI := Lib.hid (show rising cls by rw [← hke]; exact HRIS.out)
      have hkk : ¬ (k : Int) < cls.length := by omega
      clear hke
      obtain ⟨y0, y1, y2⟩ := cells3 HBOX1.out
      have HV2 := Lib.hid (show RVars W1 mb rb ((mc + 1 + cntL (ps.take 0) : Nat) : Int) from ⟨HV.out.1, by rw [HM2.out]; simp [cntL], HR2.out⟩)
      clear x0 hkk
      go_wp2_with fail
      go_loopw [81] (fun i wr => ∃ k : Nat, i = .int .i64 k ∧ k ≤ ps.length ∧ mc + 1 + cntL (ps.take k) ≤ 400 ∧ WfL (d + 1) (ps.take k) ∧ RVars wr mb rb ((mc + 1 + cntL (ps.take k) : Nat) : Int) ∧ Fr (fun k => k = mb) w wr) (fun i _ => ps.length - (intOf i).toNat)
      case atStart => exact ⟨0, rfl, by omega, by simp [cntL]; omega, by simp [WfL], HV2.out, HF1.out⟩
      case round =>
        obtain ⟨j, rfl, j1, jc, jw, jv, jf⟩ := hrel
        obtain ⟨n, hn⟩ : ∃ n, n = mc + 1 + cntL (ps.take j) := ⟨_, rfl⟩
        rw [← hn] at jc jv
        have HN := Lib.hid hn
        have HW := Lib.hid jw
        have HVr := Lib.hid jv
        have HFr := Lib.hid jf
        have r9 : wr.cell? ⟨rb, 0, none⟩ = some (.func (.func 54) #[] #[.pointer (some ⟨mb, 0, none⟩), .pointer (some ⟨rb, 0, none⟩)]) := by simp [World.cell?, jv.2.2]
        have hrlt : rb < wr.heap.size := at_lt jv.2.2
        clear hn jw jv jf
        by_cases hj : j < ps.length
        · obtain ⟨bb, off, rfl, hbl, hbF, hxx⟩ := HXP.out (by omega)
          obtain ⟨x, y, z, c0, c1, c2, hnode⟩ := hxx j hj
          have r0 := HFr.out.cell (p := ⟨bb, _, none⟩) hbF c0
          have r1 := HFr.out.cell (p := ⟨bb, _, none⟩) hbF c1
          have r2 := HFr.out.cell (p := ⟨bb, _, none⟩) hbF c2
          obtain ⟨o0, p0, l0, d0, q0, m0, e0, rfl, rfl, rfl⟩ := (hnode.is).form
          have HD := Lib.hid (show ∀ W', Below wr.heap.size wr W' → Calls Try.prog 54 #[.agg #[.int .i64 o0, .slice p0 l0 d0, .slice q0 m0 e0], .int .i64 ((d : Int) + 1), .pointer (some ⟨mb, 0, none⟩), .pointer (some ⟨rb, 0, none⟩)] W' (RPost W' mb rb n ps[j] (d + 1)) from fun W' hW' => by
            have h := IH.out ps[j] (List.getElem_mem hj) W' mb rb n (d + 1) _ _ _ (NodeF.below hW' (Nat.le_refl _) _ (NodeF.fr HFr.out (fun q hq => hq) _ hnode)) jc (by omega)
              ⟨HVr.out.1, (hW'.block _ (at_lt HVr.out.2.1)).trans HVr.out.2.1, (hW'.block _ (at_lt HVr.out.2.2)).trans HVr.out.2.2⟩
            rwa [show ((d + 1 : Nat) : Int) = (d : Int) + 1 by omega] at h)
          have HCT := Lib.hid (cntL_take hj)
          have HCL := Lib.hid (cntL_take_le ps (j + 1))
          have hjj : (j : Int) < ps.length := by omega
          have hj0 : (0 : Int) ≤ j := by omega
          clear hxx c0 c1 c2 hnode
          have r9' : ∀ o, (wr.alloc o).cell? ⟨rb, 0, none⟩ = some (.func (.func 54) #[] #[.pointer (some ⟨mb, 0, none⟩), .pointer (some ⟨rb, 0, none⟩)]) := fun o => by rw [World.cell?_alloc_lt _ _ _ hrlt]; exact r9
          go_wp2_with fail
          refine (HD.out _ (below_alloc1 _ _)).mono ?_
          rintro e w3 ⟨b, rfl, hiff, hrv, hfr3⟩
          have HI := Lib.hid hiff
          have HRV := Lib.hid hrv
          have HF3 := Lib.hid ((HFr.out.trans (Fr.of_below (below_alloc1 wr (.cells #[.int .i64 o0, .slice p0 l0 d0, .slice q0 m0 e0] 52)) (fun k => k = mb)) (fun _ _ h => h)).trans hfr3 (fun _ _ h => h))
          clear hiff hrv hfr3 r9' r0 r1 r2 r9
          cases b
          · have HNO := Lib.hid (show ¬ (Wf d (.mk 4 cls ps) ∧ mc + cnt (.mk 4 cls ps) ≤ 400) from fun ⟨hwf, hc⟩ => by
              unfold Wf at hwf
              have h := HI.out.2 ⟨(WfL_iff.1 hwf.2.2.2.2.2.2) _ (List.getElem_mem hj), by have := HN.out; have := HCT.out; have := HCL.out; simp only [cnt] at hc; omega⟩
              cases h)
            go_wp2_with fail
            go_ret
            exact ⟨false, rfl, ⟨(fun h => by cases h), fun h => (HNO.out h).elim⟩, (fun h => by cases h), HF3.out⟩
          · have HREL := Lib.hid (show mc + 1 + cntL (ps.take (j + 1)) ≤ 400 ∧ WfL (d + 1) (ps.take (j + 1)) ∧ RVars w3 mb rb ((mc + 1 + cntL (ps.take (j + 1)) : Nat) : Int) from by
              obtain ⟨g1, g2⟩ := HI.out.1 rfl
              have h1 := HCT.out
              have h2 := HN.out
              refine ⟨by omega, ?_, ?_⟩
              · rw [WfL_iff]
                intro x hx
                rw [List.take_succ_eq_append_getElem hj] at hx
                rcases List.mem_append.1 hx with hx | hx
                · exact (WfL_iff.1 HW.out) x hx
                · rw [List.mem_singleton.1 hx]; exact g1
              · have h3 := HRV.out rfl
                rwa [show n + cnt ps[j] = mc + 1 + cntL (ps.take (j + 1)) by omega] at h3)
            go_wp2_with fail
            go_roundw
            case rel => exact ⟨j + 1, by go_num, by omega, HREL.out.1, HREL.out.2.1, HREL.out.2.2, HF3.out⟩
            case measure => simp [intOf]; omega
        · have hke : ps.take j = ps := List.take_of_length_le (by omega)
          have hjj : ¬ (j : Int) < ps.length := by omega
          have HYES := Lib.hid (show (Wf d (.mk 4 cls ps) ∧ mc + cnt (.mk 4 cls ps) ≤ 400) ∧ n = mc + cnt (.mk 4 cls ps) from by
            have h1 := HN.out
            have h2 := HW.out
            rw [hke] at h1 h2
            have h3 : mc + cnt (.mk 4 cls ps) = n := by simp only [cnt]; omega
            refine ⟨⟨?_, by omega⟩, h3.symm⟩
            unfold Wf
            refine ⟨hd1, by omega, fun h => ?_, fun h => ?_, fun h => HSING.out (by first | exact h | simp), HRI.out, h2⟩
            · rcases HONE.out with h4 | h4
              · first | exact absurd h4 h | exact absurd rfl h
              · exact List.eq_nil_of_length_eq_zero h4
            · exact List.eq_nil_of_length_eq_zero (HNIL.out (by first | exact h | simp)))
          clear hke r9
          go_wp2_with fail
          go_ret
          exact ⟨true, rfl, ⟨fun _ => HYES.out.1, fun _ => rfl⟩, fun _ => by rw [← HYES.out.2]; exact HVr.out, HFr.out⟩

set_option maxRecDepth 100000 in
set_option maxHeartbeats 4000000 in
theorem right_5 (cls : List Int) (ps : List Nd) (ih : ∀ x ∈ ps, RightAt x) : ∀ (w : World) (mb rb : Nat) (mc d : Nat) (a b c : Value), mc + 1 ≤ 400 → d ≤ 32 → ((5 : Int) = 1 ∨ cls.length = 0) → ((5 : Int) = 0 ∨ (5 : Int) = 1 → ps.length = 0) → ((5 : Int) = 4 ∨ (5 : Int) = 5 → ps.length = 1) → NodeF (fun k => k ≠ mb) w (.mk 5 cls ps) a b c → mc ≤ 400 → d ≤ 33 → RVars w mb rb mc →
    Calls Try.prog 54 #[.agg #[a, b, c], .int .i64 d, .pointer (some ⟨mb, 0, none⟩), .pointer (some ⟨rb, 0, none⟩)] w (RPost w mb rb mc (.mk 5 cls ps) d) := by
  intro w mb rb mc d a b c hmc1 hd1 hone hnil hsing hx hmc hd hv
  have IH := Lib.hid ih
  have HONE := Lib.hid hone
  have HNIL := Lib.hid hnil
  have HSING := Lib.hid hsing
  clear ih hone hnil hsing
  rw [nodeF_iff] at hx
  obtain ⟨rfl, hcl, hclf, hcb, hpb, hps⟩ := hx
  obtain ⟨pc, capc, rfl, hcc, hxc⟩ := hcl.get
  obtain ⟨pp, capp, rfl, hcp, hxp⟩ := hps.get
  unfold R at hcb hpb
  have HXC := Lib.hid (show Ints w (.slice pc cls.length capc) cls ∧ Lies (fun k => k ≠ mb) (.slice pc cls.length capc) cls.length from ⟨hcl, hclf⟩)
  have HXP := Lib.hid hxp
  have HV := Lib.hid hv
  clear hcl hps hxc hxp hv hclf
  go_enter Try.func54, Try.ntmps54
  go_upto_region 1 with fail
  refine abs_wp fun W hW => ?_
  obtain ⟨B, hB⟩ : ∃ B, B = w.heap.size := ⟨_, rfl⟩
  have hbox : W.heap[B]? = some (.cells #[.int .i64 5, .slice pc cls.length capc, .slice pp ps.length capp] 52) := by rw [hW, hB]; exact heap_alloc_new _ _
  have hbe : Below w.heap.size w W := by rw [hW]; exact below_alloc1 _ _
  have hbm : B ≠ mb := by have := at_lt HV.out.2.1; omega
  rw [← hB]
  have HBE := Lib.hid hbe
  have HBOX := Lib.hid hbox
  have HBM := Lib.hid hbm
  have HM1 := Lib.hid ((hbe.block mb (at_lt HV.out.2.1)).trans HV.out.2.1)
  have HR1 := Lib.hid ((hbe.block rb (at_lt HV.out.2.2)).trans HV.out.2.2)
  have x0 : W.cell? ⟨mb, 0, none⟩ = some (.int .i64 mc) := by simp [World.cell?, HM1.out]
  have f0 : W.frozen? ⟨mb, 0, none⟩ = false := fz_at HM1.out 0
  clear hW hbox hbe hB hbm
  go_upto_region 2 with fail
  refine abs_wp fun W1 hW1 => ?_
  have HF1 := Lib.hid (show Fr (fun k => k = mb) w W1 by
    rw [hW1]; exact (Fr.of_below HBE.out _).trans (Fr.setCell (F := fun k => k = mb) W rfl _) (fun _ _ h => h))
  have HBOX1 := Lib.hid (show W1.heap[B]? = some (.cells #[.int .i64 5, .slice pc cls.length capc, .slice pp ps.length capp] 52) by
    rw [hW1]; exact ((Fr.setCell (F := fun k => k = mb) W rfl _).block B (at_lt HBOX.out) HBM.out).trans HBOX.out)
  have HM2 := Lib.hid (show W1.heap[mb]? = some (.cells #[.int .i64 ((mc : Int) + 1)] 3) by rw [hW1]; have h := blk_set HM1.out 0 (.int .i64 ((mc : Int) + 1)); exact h)
  have HR2 := Lib.hid (show W1.heap[rb]? = some (.cells #[.func (.func 54) #[] #[.pointer (some ⟨mb, 0, none⟩), .pointer (some ⟨rb, 0, none⟩)]] 100) by
    rw [hW1]; exact ((Fr.setCell (F := fun k => k = mb) W rfl _).block rb (at_lt HR1.out) (fun h => HV.out.1 h.symm)).trans HR1.out)
  clear hW1 x0 f0
  have x0 : W1.cell? ⟨mb, 0, none⟩ = some (.int .i64 ((mc : Int) + 1)) := by simp [World.cell?, HM2.out]
  obtain ⟨y0, y1, y2⟩ := cells3 HBOX1.out
  have c1' : ¬ (400 : Int) < (mc : Int) + 1 := by omega
  have c2' : ¬ (32 : Int) < (d : Int) := by omega
  have c3' : ¬ (0 : Int) < cls.length := by have := HONE.out; omega
  have c5' : ((ps.length : Int) != 1) = false := by have := HSING.out; simp; omega
  go_wp2_with fail
  go_loop [52] (fun i => ∃ k : Nat, i = .int .i64 k ∧ k ≤ cls.length ∧ rising (cls.take k)) (fun i => cls.length - (intOf i).toNat)
  case atStart => exact ⟨0, rfl, by omega, by intro i h; simp at h⟩
  case round =>
    obtain ⟨k, rfl, h1, hris⟩ := hrel
    have HRIS := Lib.hid hris
    clear hris
    by_cases hk : k < cls.length
    · exact absurd hk (by omega)
    · have hke : cls.take k = cls := List.take_of_length_le (by omega)
      have HRI := Lib.hid (show rising cls by rw [← hke]; exact HRIS.out)
      have hkk : ¬ (k : Int) < cls.length := by omega
      clear hke
      obtain ⟨y0, y1, y2⟩ := cells3 HBOX1.out
      have HV2 := Lib.hid (show RVars W1 mb rb ((mc + 1 + cntL (ps.take 0) : Nat) : Int) from ⟨HV.out.1, by rw [HM2.out]; simp [cntL], HR2.out⟩)
      clear x0 hkk
      go_wp2_with fail
      go_loopw [81] (fun i wr => ∃ k : Nat, i = .int .i64 k ∧ k ≤ ps.length ∧ mc + 1 + cntL (ps.take k) ≤ 400 ∧ WfL (d + 1) (ps.take k) ∧ RVars wr mb rb ((mc + 1 + cntL (ps.take k) : Nat) : Int) ∧ Fr (fun k => k = mb) w wr) (fun i _ => ps.length - (intOf i).toNat)
      case atStart => exact ⟨0, rfl, by omega, by simp [cntL]; omega, by simp [WfL], HV2.out, HF1.out⟩
      case round =>
        obtain ⟨j, rfl, j1, jc, jw, jv, jf⟩ := hrel
        obtain ⟨n, hn⟩ : ∃ n, n = mc + 1 + cntL (ps.take j) := ⟨_, rfl⟩
        rw [← hn] at jc jv
        have HN := Lib.hid hn
        have HW := Lib.hid jw
        have HVr := Lib.hid jv
        have HFr := Lib.hid jf
        have r9 : wr.cell? ⟨rb, 0, none⟩ = some (.func (.func 54) #[] #[.pointer (some ⟨mb, 0, none⟩), .pointer (some ⟨rb, 0, none⟩)]) := by simp [World.cell?, jv.2.2]
        have hrlt : rb < wr.heap.size := at_lt jv.2.2
        clear hn jw jv jf
        by_cases hj : j < ps.length
        · obtain ⟨bb, off, rfl, hbl, hbF, hxx⟩ := HXP.out (by omega)
          obtain ⟨x, y, z, c0, c1, c2, hnode⟩ := hxx j hj
          have r0 := HFr.out.cell (p := ⟨bb, _, none⟩) hbF c0
          have r1 := HFr.out.cell (p := ⟨bb, _, none⟩) hbF c1
          have r2 := HFr.out.cell (p := ⟨bb, _, none⟩) hbF c2
          obtain ⟨o0, p0, l0, d0, q0, m0, e0, rfl, rfl, rfl⟩ := (hnode.is).form
          have HD := Lib.hid (show ∀ W', Below wr.heap.size wr W' → Calls Try.prog 54 #[.agg #[.int .i64 o0, .slice p0 l0 d0, .slice q0 m0 e0], .int .i64 ((d : Int) + 1), .pointer (some ⟨mb, 0, none⟩), .pointer (some ⟨rb, 0, none⟩)] W' (RPost W' mb rb n ps[j] (d + 1)) from fun W' hW' => by
            have h := IH.out ps[j] (List.getElem_mem hj) W' mb rb n (d + 1) _ _ _ (NodeF.below hW' (Nat.le_refl _) _ (NodeF.fr HFr.out (fun q hq => hq) _ hnode)) jc (by omega)
              ⟨HVr.out.1, (hW'.block _ (at_lt HVr.out.2.1)).trans HVr.out.2.1, (hW'.block _ (at_lt HVr.out.2.2)).trans HVr.out.2.2⟩
            rwa [show ((d + 1 : Nat) : Int) = (d : Int) + 1 by omega] at h)
          have HCT := Lib.hid (cntL_take hj)
          have HCL := Lib.hid (cntL_take_le ps (j + 1))
          have hjj : (j : Int) < ps.length := by omega
          have hj0 : (0 : Int) ≤ j := by omega
          clear hxx c0 c1 c2 hnode
          have r9' : ∀ o, (wr.alloc o).cell? ⟨rb, 0, none⟩ = some (.func (.func 54) #[] #[.pointer (some ⟨mb, 0, none⟩), .pointer (some ⟨rb, 0, none⟩)]) := fun o => by rw [World.cell?_alloc_lt _ _ _ hrlt]; exact r9
          go_wp2_with fail
          refine (HD.out _ (below_alloc1 _ _)).mono ?_
          rintro e w3 ⟨b, rfl, hiff, hrv, hfr3⟩
          have HI := Lib.hid hiff
          have HRV := Lib.hid hrv
          have HF3 := Lib.hid ((HFr.out.trans (Fr.of_below (below_alloc1 wr (.cells #[.int .i64 o0, .slice p0 l0 d0, .slice q0 m0 e0] 52)) (fun k => k = mb)) (fun _ _ h => h)).trans hfr3 (fun _ _ h => h))
          clear hiff hrv hfr3 r9' r0 r1 r2 r9
          cases b
          · have HNO := Lib.hid (show ¬ (Wf d (.mk 5 cls ps) ∧ mc + cnt (.mk 5 cls ps) ≤ 400) from fun ⟨hwf, hc⟩ => by
              unfold Wf at hwf
              have h := HI.out.2 ⟨(WfL_iff.1 hwf.2.2.2.2.2.2) _ (List.getElem_mem hj), by have := HN.out; have := HCT.out; have := HCL.out; simp only [cnt] at hc; omega⟩
              cases h)
            go_wp2_with fail
            go_ret
            exact ⟨false, rfl, ⟨(fun h => by cases h), fun h => (HNO.out h).elim⟩, (fun h => by cases h), HF3.out⟩
          · have HREL := Lib.hid (show mc + 1 + cntL (ps.take (j + 1)) ≤ 400 ∧ WfL (d + 1) (ps.take (j + 1)) ∧ RVars w3 mb rb ((mc + 1 + cntL (ps.take (j + 1)) : Nat) : Int) from by
              obtain ⟨g1, g2⟩ := HI.out.1 rfl
              have h1 := HCT.out
              have h2 := HN.out
              refine ⟨by omega, ?_, ?_⟩
              · rw [WfL_iff]
                intro x hx
                rw [List.take_succ_eq_append_getElem hj] at hx
                rcases List.mem_append.1 hx with hx | hx
                · exact (WfL_iff.1 HW.out) x hx
                · rw [List.mem_singleton.1 hx]; exact g1
              · have h3 := HRV.out rfl
                rwa [show n + cnt ps[j] = mc + 1 + cntL (ps.take (j + 1)) by omega] at h3)
            go_wp2_with fail
            go_roundw
            case rel => exact ⟨j + 1, by go_num, by omega, HREL.out.1, HREL.out.2.1, HREL.out.2.2, HF3.out⟩
            case measure => simp [intOf]; omega
        · have hke : ps.take j = ps := List.take_of_length_le (by omega)
          have hjj : ¬ (j : Int) < ps.length := by omega
          have HYES := Lib.hid (show (Wf d (.mk 5 cls ps) ∧ mc + cnt (.mk 5 cls ps) ≤ 400) ∧ n = mc + cnt (.mk 5 cls ps) from by
            have h1 := HN.out
            have h2 := HW.out
            rw [hke] at h1 h2
            have h3 : mc + cnt (.mk 5 cls ps) = n := by simp only [cnt]; omega
            refine ⟨⟨?_, by omega⟩, h3.symm⟩
            unfold Wf
            refine ⟨hd1, by omega, fun h => ?_, fun h => ?_, fun h => HSING.out (by first | exact h | simp), HRI.out, h2⟩
            · rcases HONE.out with h4 | h4
              · first | exact absurd h4 h | exact absurd rfl h
              · exact List.eq_nil_of_length_eq_zero h4
            · exact List.eq_nil_of_length_eq_zero (HNIL.out (by first | exact h | simp)))
          clear hke r9
          go_wp2_with fail
          go_ret
          exact ⟨true, rfl, ⟨fun _ => HYES.out.1, fun _ => rfl⟩, fun _ => by rw [← HYES.out.2]; exact HVr.out, HFr.out⟩
end Go.Proofs.Ythmaokjhncokdaa

/-
  Right and New. No condition beyond what each theorem names.
-/
set_option linter.unusedVariables false
set_option linter.unusedSimpArgs false
namespace Go.Proofs.Ythmaokjhncokdaa
open Go.RowKit

theorem right_step (op : Int) (cls : List Int) (ps : List Nd) (ih : ∀ x ∈ ps, RightAt x) : RightAt (.mk op cls ps) := by
  intro w mb rb mc d a b c hx hmc hd hv
  by_cases hno : mc + 1 > 400 ∨ d > 32 ∨ (op ≠ 1 ∧ 0 < cls.length) ∨ op < 0 ∨ 5 < op ∨ ((op = 0 ∨ op = 1) ∧ 0 < ps.length) ∨ ((op = 4 ∨ op = 5) ∧ ps.length ≠ 1)
  · exact right_no op cls ps w mb rb mc d a b c hno hx hmc hd hv
  · have h1 : mc + 1 ≤ 400 := by omega
    have h2 : d ≤ 32 := by omega
    have h3 : op = 1 ∨ cls.length = 0 := by omega
    have h4 : op = 0 ∨ op = 1 → ps.length = 0 := by omega
    have h5 : op = 4 ∨ op = 5 → ps.length = 1 := by omega
    have h6 : op = 0 ∨ op = 1 ∨ op = 2 ∨ op = 3 ∨ op = 4 ∨ op = 5 := by omega
    clear hno
    rcases h6 with rfl | rfl | rfl | rfl | rfl | rfl
    · exact right_0 cls ps ih w mb rb mc d a b c h1 h2 h3 h4 h5 hx hmc hd hv
    · exact right_1 cls ps ih w mb rb mc d a b c h1 h2 h3 h4 h5 hx hmc hd hv
    · exact right_2 cls ps ih w mb rb mc d a b c h1 h2 h3 h4 h5 hx hmc hd hv
    · exact right_3 cls ps ih w mb rb mc d a b c h1 h2 h3 h4 h5 hx hmc hd hv
    · exact right_4 cls ps ih w mb rb mc d a b c h1 h2 h3 h4 h5 hx hmc hd hv
    · exact right_5 cls ps ih w mb rb mc d a b c h1 h2 h3 h4 h5 hx hmc hd hv

theorem right_at : ∀ (x : Nd), RightAt x
  | .mk op cls ps => right_step op cls ps (fun x hx => right_at x)
  termination_by x => SizeOf.sizeOf x
  decreasing_by
    have := List.sizeOf_lt_of_mem hx
    simp; omega

open Classical in
/-- a Bool that says whether an expression may be -/
noncomputable def rightB (x : Nd) : Bool := decide (RightX x)
open Classical in
theorem rightB_iff {x : Nd} : rightB x = true ↔ RightX x := by unfold rightB; exact decide_eq_true_iff

theorem alloc3 (w : World) (o1 o2 o3 : Obj) (W : World) (hW : W = ((w.alloc o1).alloc o2).alloc o3) : Below w.heap.size w W ∧ W.heap[w.heap.size]? = some o1 ∧ W.heap[w.heap.size + 1]? = some o2 ∧ W.heap[w.heap.size + 1 + 1]? = some o3 := by
  have s1 : (w.alloc o1).heap.size = w.heap.size + 1 := by simp
  have s2 : ((w.alloc o1).alloc o2).heap.size = w.heap.size + 1 + 1 := by simp
  have b1 := below_alloc1 w o1
  have b2 := below_alloc1 (w.alloc o1) o2
  have b3 := below_alloc1 ((w.alloc o1).alloc o2) o3
  subst hW
  refine ⟨(b1.trans (b2.mono (by omega))).trans (b3.mono (by omega)), ?_, ?_, ?_⟩
  · rw [b3.block _ (by omega), b2.block _ (by omega)]; exact heap_alloc_new _ _
  · rw [b3.block _ (by omega), ← s1]; exact heap_alloc_new _ _
  · rw [← s2]; exact heap_alloc_new _ _

set_option maxRecDepth 100000 in
set_option maxHeartbeats 4000000 in
theorem right_any (x : Nd) (w : World) (a b c : Value) (hx : NodeIs w x a b c) :
    Calls Try.prog 39 #[.agg #[a, b, c]] w fun e w' => e = .returned (.bool (rightB x)) ∧ Below w.heap.size w w' := by
  have HX := Lib.hid hx
  obtain ⟨op, pp, l, c1, q, m, d, rfl, rfl, rfl⟩ := hx.form
  clear hx
  have hmf : ∀ (fn : Fn) (first cap : Array Value) (w : World), (Instr.makeFunc fn first cap).run Try.prog w = .ok (.func fn first cap) w := fun _ _ _ _ => rfl
  go_enter Try.func39, Try.ntmps39
  go_upto_region 4 with fail
  refine abs_wp fun W hW => ?_
  obtain ⟨a0, a1, a2, a3⟩ := alloc3 w _ _ _ W hW
  have HB := Lib.hid a0
  have HV := Lib.hid (show RVars W (w.heap.size + 1) (w.heap.size + 1 + 1) ((0 : Nat) : Int) from ⟨by omega, a2, a3⟩)
  have hbx : W.heap[w.heap.size]? = some (.cells #[.int .i64 op, .slice pp l c1, .slice q m d] 52) := a1
  clear a0 a1 a2 a3
  obtain ⟨x0, x1, x2⟩ := cells3 hbx
  have x3 : W.cell? ⟨w.heap.size + 1 + 1, 0, none⟩ = some (.func (.func 54) #[] #[.pointer (some ⟨w.heap.size + 1, 0, none⟩), .pointer (some ⟨w.heap.size + 1 + 1, 0, none⟩)]) := by simp [World.cell?, HV.out.2.2]
  have HD := Lib.hid (show Calls Try.prog 54 #[.agg #[.int .i64 op, .slice pp l c1, .slice q m d], .int .i64 1, .pointer (some ⟨w.heap.size + 1, 0, none⟩), .pointer (some ⟨w.heap.size + 1 + 1, 0, none⟩)] W (RPost W (w.heap.size + 1) (w.heap.size + 1 + 1) 0 x 1) from
    right_at x W _ _ 0 1 _ _ _ (NodeF.mono (fun k hk => by omega) _ (NodeF.below HB.out (Nat.le_refl _) _ HX.out.foot)) (by omega) (by omega) HV.out)
  clear hW hbx
  go_wp2_with fail
  refine HD.out.mono ?_
  rintro e w3 ⟨b, rfl, hiff, -, hfr⟩
  have HI := Lib.hid hiff
  have HF := Lib.hid hfr
  clear hiff hfr x0 x1 x2 x3 hmf
  go_wp2_with fail
  go_ret
  refine ⟨?_, HB.out.trans (HF.out.below HB.out.size (fun k hk => by omega))⟩
  have hb : b = rightB x := by
    rw [Bool.eq_iff_iff, HI.out, rightB_iff, Nat.zero_add]
    rfl
  rw [hb]
  rfl

/-- a state in a row of three cells -/
def staE (w : World) (s : Sta) (row : List Value) : Prop := ∃ fv tv, row = [fv, .bool s.set, tv] ∧ Ints w fv s.free ∧ Ints w tv s.takes

/-- a machine that is laid -/
def MachR (w : World) (m : Nat) (S : List Sta) : Prop := ∃ lv, w.heap[m]? = some (.cells #[lv, .int .i64 0, .int .i64 1] 135) ∧ ReadL (staE w) 3 w lv S

theorem staE.to {B : Nat} {w w' : World} {s : Sta} {row : List Value} (h : staE w s row) (hb : Below B w w') (hB : w.heap.size ≤ B) : staE w' s row := by
  obtain ⟨fv, tv, rfl, h1, h2⟩ := h
  exact ⟨fv, tv, rfl, h1.to hb hB, h2.to hb hB⟩

theorem ReadL.mono {α : Type} {E F : α → List Value → Prop} {sz : Nat} {w : World} {v : Value} {xs : List α} (h : ReadL E sz w v xs) (hf : ∀ x r, E x r → F x r) : ReadL F sz w v xs := by
  obtain ⟨rows, h1, h2, h3, h4⟩ := h
  exact ⟨rows, h1, h2, h3, fun i hi => by obtain ⟨row, g1, g2⟩ := h4 i hi; exact ⟨row, g1, hf _ _ g2⟩⟩

theorem MachR.to {w w' : World} {m : Nat} {S : List Sta} (h : MachR w m S) (hb : Below w.heap.size w w') : MachR w' m S := by
  obtain ⟨lv, h1, h2⟩ := h
  exact ⟨lv, (hb.block m (at_lt h1)).trans h1, (h2.below hb (Nat.le_refl _)).mono (fun s r hs => hs.to hb (Nat.le_refl _))⟩

theorem ReadL.map {α β : Type} {E : α → List Value → Prop} {F : β → List Value → Prop} (f : α → β) {sz : Nat} {w : World} {v : Value} {xs : List α} (h : ReadL E sz w v xs) (hf : ∀ x ∈ xs, ∀ r, E x r → F (f x) r) : ReadL F sz w v (xs.map f) := by
  obtain ⟨rows, h1, h2, h3, h4⟩ := h
  refine ⟨rows, by rwa [List.length_map], by rwa [List.length_map], h3, fun i hi => ?_⟩
  rw [List.length_map] at hi
  obtain ⟨row, g1, g2⟩ := h4 i hi
  exact ⟨row, g1, by rw [List.getElem_map]; exact hf _ (List.getElem_mem hi) _ g2⟩

theorem Mach.read {base m : Nat} {w w' : World} {L : List Sta} {f l : Int} (h : Mach base w m L f l) (hf : Fr (fun k => k = m) w w') (hm : ∀ lv a b, w.heap[m]? = some (.cells #[lv, a, b] 135) → w'.heap[m]? = some (.cells #[lv, .int .i64 0, .int .i64 1] 135)) : MachR w' m L := by
  obtain ⟨lv, Ls, h1, h2, h3, h4, h5, -⟩ := h
  have ne : ∀ {α : Type} {E : α → List Value → Prop} {T : TypeId} {sz : Nat} {v : Value} {xs : List α}, OwnL E T sz base w v xs → T ≠ 135 → OwnL E T sz base w' v xs := fun {α E T sz v xs} h hT =>
    h.fr hf (fun k hk he => h.notAt h2 hT (by rw [hk]; exact congrArg some he))
  refine ⟨lv, hm _ _ _ h2, ?_⟩
  rw [← h3]
  refine ReadL.map (·.s) (ne h4 (by decide)).read (fun x hx r hr => ?_)
  have hr : r = [x.fv, .bool x.s.set, x.tv] := hr
  exact ⟨x.fv, x.tv, hr, (ne (h5 x hx).1 (by decide)).read.ints, (ne (h5 x hx).2 (by decide)).read.ints⟩

theorem mach_new (w : World) (base : Nat) (hb : base ≤ w.heap.size) : Mach base (w.alloc (.cells #[.slice none 0 0, .int .i64 0, .int .i64 0] 135)) w.heap.size [] 0 0 :=
  ⟨_, [], hb, heap_alloc_new _ _, rfl, OwnL.nil _, by simp, by simp [Apart]⟩

def NewPost (w : World) (x : Nd) (e : Ending) (w' : World) : Prop :=
  Below w.heap.size w w' ∧ ((rightB x = true ∧ ∃ m, w.heap.size ≤ m ∧ e = .returned (.tuple #[.pointer (some ⟨m, 0, none⟩), .int .i64 0]) ∧ MachR w' m (mach x)) ∨ (rightB x = false ∧ e = .returned (.tuple #[.pointer none, .int .i64 1])))

set_option maxRecDepth 100000 in
set_option maxHeartbeats 4000000 in
theorem new_any (x : Nd) (w : World) (a b c : Value) (hx : NodeIs w x a b c) :
    Calls Try.prog 56 #[.agg #[a, b, c]] w (NewPost w x) := by
  have HX := Lib.hid hx
  obtain ⟨op, pp, l, c1, q, m, d, rfl, rfl, rfl⟩ := hx.form
  clear hx
  go_enter Try.func56, Try.ntmps56
  go_upto_region 1 with fail
  refine abs_wp fun W hW => ?_
  obtain ⟨B, hB⟩ : ∃ B, B = w.heap.size := ⟨_, rfl⟩
  have hbox : W.heap[B]? = some (.cells #[.int .i64 op, .slice pp l c1, .slice q m d] 52) := by rw [hW, hB]; exact heap_alloc_new _ _
  have hbe : Below w.heap.size w W := by rw [hW]; exact below_alloc1 _ _
  rw [← hB]
  have HBE := Lib.hid hbe
  have HBOX := Lib.hid hbox
  obtain ⟨x0, x1, x2⟩ := cells3 hbox
  have HD := Lib.hid (right_any x W _ _ _ (HX.out.to hbe (Nat.le_refl _)))
  clear hW hbox hbe hB
  go_wp2_with fail
  refine HD.out.mono ?_
  rintro e w1 ⟨rfl, hb1⟩
  have HB1 := Lib.hid (HBE.out.trans (hb1.mono HBE.out.size))
  have HBOX1 := Lib.hid ((hb1.block _ (at_lt HBOX.out)).trans HBOX.out)
  clear hb1 x0 x1 x2
  obtain ⟨x0, x1, x2⟩ := cells3 HBOX1.out
  cases hr : rightB x
  · have HR := Lib.hid hr
    clear hr
    go_wp2_with fail
    go_ret2
    exact ⟨HB1.out, .inr ⟨HR.out, rfl⟩⟩
  · have HR := Lib.hid hr
    clear hr
    have HG := Lib.hid (show Good x from Wf_good x 1 (rightB_iff.1 HR.out).1)
    have HC := Lib.hid (show cnt x ≤ 400 from (rightB_iff.1 HR.out).2)
    go_upto_region 4 with fail
    refine abs_wp fun W2 hW2 => ?_
    obtain ⟨mb, hmb⟩ : ∃ mb, mb = w1.heap.size := ⟨_, rfl⟩
    have hbm : Below w1.heap.size w1 W2 := by rw [hW2]; exact below_alloc1 _ _
    have hmach : Mach w.heap.size W2 mb [] 0 0 := by rw [hW2, hmb]; exact mach_new _ _ HB1.out.size
    have HMB := Lib.hid (show w.heap.size ≤ mb by rw [hmb]; exact HB1.out.size)
    rw [← hmb]
    have HB2 := Lib.hid (HB1.out.trans (hbm.mono HB1.out.size))
    have HBOX2 := Lib.hid ((hbm.block _ (at_lt HBOX1.out)).trans HBOX1.out)
    have HL := Lib.hid (lay_any x HG.out w.heap.size W2 mb [] 0 0 _ _ _ (NodeF.below HB2.out (Nat.le_refl _) _ HX.out.foot) hmach (by have := HC.out; simp; omega) (by have := HC.out; simp [edges]; omega))
    clear hW2 hmb hbm hmach x0 x1 x2
    obtain ⟨x0, x1, x2⟩ := cells3 HBOX2.out
    go_wp2_with fail
    refine HL.out.mono ?_
    rintro e w3 ⟨rfl, hm3, hb3, hk3⟩
    obtain ⟨lv, Ls, hm4⟩ := id hm3
    have HM4 := Lib.hid hm4.2.1
    have HM3 := Lib.hid hm3
    have HB3 := Lib.hid (HB2.out.trans hb3)
    clear hm3 hb3 hk3 hm4 x0 x1 x2
    obtain ⟨y0, y1, y2⟩ := cells3 HM4.out
    have f1 := fz_at HM4.out 1
    have f2 := fz_at HM4.out 2
    simp only [List.length_nil]
    go_upto_region 6 with fail
    refine abs_wp fun W4 hW4 => ?_
    have h5 : ∀ lv a b, w3.heap[mb]? = some (.cells #[lv, a, b] 135) → W4.heap[mb]? = some (.cells #[lv, .int .i64 0, .int .i64 1] 135) := fun lv' a b h => by
      have k1 := blk_set h 1 (.int .i64 0)
      have k2 := blk_set k1 2 (.int .i64 1)
      rw [hW4]
      exact k2
    have h6 : Fr (fun k => k = mb) w3 W4 := by
      rw [hW4]
      exact (Fr.setCell (F := fun k => k = mb) _ rfl _).trans (Fr.setCell (F := fun k => k = mb) _ rfl _) (fun _ _ h => h)
    have H7 := Lib.hid (show Below w.heap.size w W4 from HB3.out.trans (h6.below HB3.out.size (fun k hk => by have hk : k = mb := hk; have := HMB.out; omega)))
    have H8 := Lib.hid (show MachR W4 mb (mach x) from HM3.out.read h6 h5)
    clear hW4 h5 h6 y0 y1 y2 f1 f2
    go_wp2_with fail
    go_ret2
    exact ⟨H7.out, .inl ⟨HR.out, mb, HMB.out, rfl, H8.out⟩⟩
end Go.Proofs.Ythmaokjhncokdaa

/-
  visit, closed's closure. No condition beyond what each theorem names.
-/
set_option linter.unusedVariables false
set_option linter.unusedSimpArgs false
namespace Go.Proofs.Ythmaokjhncokdaa
open Go.RowKit

/-- the variables of closed: what was seen, the machine, what is told, the closure itself -/
structure VS (base sb mb ob vb m g N : Nat) (w : World) (bs : List Bool) (xs : List Int) : Prop where
  sb0 : base ≤ sb
  mb0 : base ≤ mb
  ob0 : base ≤ ob
  vb0 : base ≤ vb
  g0 : base ≤ g
  seen : w.heap[sb]? = some (.cells #[.slice (some ⟨g, 0, none⟩) N N] 55)
  mach : w.heap[mb]? = some (.cells #[.pointer (some ⟨m, 0, none⟩)] 106)
  self : w.heap[vb]? = some (.cells #[.func (.func 112) #[] #[.pointer (some ⟨sb, 0, none⟩), .pointer (some ⟨mb, 0, none⟩), .pointer (some ⟨ob, 0, none⟩), .pointer (some ⟨vb, 0, none⟩)]] 176)
  out : ∃ ov, w.heap[ob]? = some (.cells #[ov] 46) ∧ OwnL intE 3 1 base w ov xs
  row : BRow w g bs
  len : bs.length = N
  room : xs.length + bs.count false ≤ N

section
variable {base sb mb ob vb m g N : Nat} {w w' : World} {bs : List Bool} {xs : List Int}

theorem VS.below (h : VS base sb mb ob vb m g N w bs xs) (hb : Below w.heap.size w w') : VS base sb mb ob vb m g N w' bs xs := by
  obtain ⟨ov, h1, h2⟩ := h.out
  exact ⟨h.sb0, h.mb0, h.ob0, h.vb0, h.g0, (hb.block _ (at_lt h.seen)).trans h.seen, (hb.block _ (at_lt h.mach)).trans h.mach, (hb.block _ (at_lt h.self)).trans h.self,
    ⟨ov, (hb.block _ (at_lt h1)).trans h1, h2.below hb (Nat.le_refl _)⟩, h.row.below hb h.row.lt, h.len, h.room⟩

theorem cell1 {w : World} {B : Nat} {a : Value} {T : TypeId} (hb : w.heap[B]? = some (.cells #[a] T)) : w.cell? ⟨B, 0, none⟩ = some a := by simp [World.cell?, hb]

theorem ne_of {w : World} {a b : Nat} {x y : Array Value} {T U : TypeId} (h1 : w.heap[a]? = some (.cells x T)) (h2 : w.heap[b]? = some (.cells y U)) (hne : T ≠ U) : a ≠ b := fun e => by
  subst e
  rw [h1] at h2
  cases h2
  exact hne rfl

theorem VS.mark (h : VS base sb mb ob vb m g N w bs xs) {n : Nat} (hn : n < bs.length) (h0 : ¬ tr bs n) : VS base sb mb ob vb m g N (w.setCell ⟨g, n, none⟩ (.bool true)) (bs.set n true) xs := by
  obtain ⟨ov, h1, h2⟩ := h.out
  have hf : Fr (fun k => k = g) w (w.setCell ⟨g, n, none⟩ (.bool true)) := Fr.setCell (F := fun k => k = g) w rfl _
  have hr : w.heap[g]? = some (.cells (bs.map Value.bool).toArray 4 (0, 0)) := h.row
  have k1 := count_set hn h0
  have k2 := h.room
  exact ⟨h.sb0, h.mb0, h.ob0, h.vb0, h.g0, (hf.block _ (at_lt h.seen) (ne_of h.seen hr (by decide))).trans h.seen, (hf.block _ (at_lt h.mach) (ne_of h.mach hr (by decide))).trans h.mach, (hf.block _ (at_lt h.self) (ne_of h.self hr (by decide))).trans h.self,
    ⟨ov, (hf.block _ (at_lt h1) (ne_of h1 hr (by decide))).trans h1, h2.fr hf (fun k hk he => h2.notAt hr (by decide) (by rw [hk]; exact congrArg some he))⟩, h.row.set n true, by rw [List.length_set]; exact h.len, by omega⟩

/-- the list that is told was appended to, and its variable stored -/
theorem VS.told (h : VS base sb mb ob vb m g N w bs xs) {ov : Value} (ho : w.heap[ob]? = some (.cells #[ov] 46)) (hov : OwnL intE 3 1 base w ov xs) {w1 w2 : World} {u : Value} {ys : List Int} (hbw : base ≤ w.heap.size)
    (hf : Fr (fun k => ov.ownBlock = some k) w w1) (hu : OwnL intE 3 1 base w1 u ys) (h2 : w2.heap[ob]? = some (.cells #[u] 46)) (hf2 : Fr (fun k => k = ob) w1 w2) (hy : ys.length + bs.count false ≤ N) :
    VS base sb mb ob vb m g N w2 bs ys ∧ Below base w w2 := by
  have hr : w.heap[g]? = some (.cells (bs.map Value.bool).toArray 4 (0, 0)) := h.row
  have keep : ∀ {k : Nat} {cs : Array Value} {T : TypeId}, w.heap[k]? = some (.cells cs T) → T ≠ 3 → T ≠ 46 → w2.heap[k]? = some (.cells cs T) := fun {k cs T} hk hi hs =>
    have e1 := (hf.block k (at_lt hk) (hov.notAt hk (Ne.symm hi))).trans hk
    (hf2.block k (at_lt e1) (ne_of hk ho hs)).trans e1
  have ho1 := (hf.block ob (at_lt ho) (hov.notAt ho (by decide))).trans ho
  refine ⟨⟨h.sb0, h.mb0, h.ob0, h.vb0, h.g0, keep h.seen (by decide) (by decide), keep h.mach (by decide) (by decide), keep h.self (by decide) (by decide), ⟨u, h2, hu.fr hf2 (fun k hk he => hu.notAt ho1 (by decide) (by rw [hk]; exact congrArg some he))⟩, keep hr (by decide) (by decide), h.len, hy⟩, ?_⟩
  have b1 : Below base w w1 := hf.below hbw (fun k hk => (hov.lt k hk).1)
  exact b1.trans (hf2.below (Nat.le_trans hbw b1.size) (fun k hk => by have hk : k = ob := hk; have := h.ob0; omega))
end

def VisitPost (base sb mb ob vb m g N : Nat) (S : List Sta) (roots : Nat → Prop) (w : World) (bs : List Bool) (xs : List Int) (e : Ending) (w' : World) : Prop :=
  e = .returned (.tuple #[]) ∧ ∃ bs' xs', VS base sb mb ob vb m g N w' bs' xs' ∧ Vis S roots bs xs bs' xs' ∧ Below base w w'

def VisitAt (w0 : World) (sb mb ob vb m g N : Nat) (S : List Sta) (u : Nat) : Prop := ∀ (w : World) (bs : List Bool) (xs : List Int) (n : Nat), VS w0.heap.size sb mb ob vb m g N w bs xs → Below w0.heap.size w0 w → n < N → bs.count false ≤ u →
  Calls Try.prog 112 #[.int .i64 n, .pointer (some ⟨sb, 0, none⟩), .pointer (some ⟨mb, 0, none⟩), .pointer (some ⟨ob, 0, none⟩), .pointer (some ⟨vb, 0, none⟩)] w (VisitPost w0.heap.size sb mb ob vb m g N S (fun r => r = n) w bs xs)

/-- what a machine's state reads as, by its cells -/
theorem MachR.get {w : World} {m : Nat} {S : List Sta} (h : MachR w m S) : ∃ p c, w.cell? ⟨m, 0, none⟩ = some (.slice p S.length c) ∧ S.length ≤ c ∧ w.cell? ⟨m, 1, none⟩ = some (.int .i64 0) ∧ w.cell? ⟨m, 2, none⟩ = some (.int .i64 1) ∧ m < w.heap.size ∧
    (0 < S.length → ∃ b off, p = some ⟨b, off, none⟩ ∧ b < w.heap.size ∧ ∀ i (hi : i < S.length), ∃ fv tv, w.cell? ⟨b, off + i * 3, none⟩ = some fv ∧ w.cell? ⟨b, off + i * 3 + 1, none⟩ = some (.bool S[i].set) ∧ w.cell? ⟨b, off + i * 3 + 2, none⟩ = some tv ∧ Ints w fv S[i].free ∧ Ints w tv S[i].takes) := by
  obtain ⟨lv, h1, h2⟩ := h
  obtain ⟨p, c, rfl, h3, h4⟩ := h2.get (by omega)
  obtain ⟨c0, c1, c2⟩ := cells3 h1
  refine ⟨p, c, c0, h3, c1, c2, at_lt h1, fun h0 => ?_⟩
  obtain ⟨b, off, rfl, h5, h6⟩ := h4 h0
  refine ⟨b, off, rfl, h5, fun i hi => ?_⟩
  obtain ⟨row, h7, fv, tv, rfl, h8, h9⟩ := h6 i hi
  exact ⟨fv, tv, h7 0 _ rfl, h7 1 _ rfl, h7 2 _ rfl, h8, h9⟩

theorem at_get {S : List Sta} {i : Nat} (h : i < S.length) : at_ S i = S[i] := by simp [at_, h]
set_option maxRecDepth 100000 in
set_option maxHeartbeats 4000000 in
theorem visit_step (w0 : World) (sb mb ob vb m g N : Nat) (S : List Sta) (hM : MachR w0 m S) (hN : S.length = N) (hN2 : N ≤ 100000) (hS : Fine S N) (hfl : ∀ i, (at_ S i).free.length ≤ 100000) (u : Nat) (ih : ∀ v, v < u → VisitAt w0 sb mb ob vb m g N S v) : VisitAt w0 sb mb ob vb m g N S u := by
  intro w bs xs n hv hb hn hu
  have IH := Lib.hid ih
  have HV := Lib.hid hv
  have HB := Lib.hid hb
  have HS := Lib.hid hS
  have HNN := Lib.hid hN
  have HFL := Lib.hid (hfl n)
  have hlen := hv.len
  have HLE := Lib.hid hlen
  obtain ⟨ov, hov1, hov2⟩ := hv.out
  have HOV1 := Lib.hid hov1
  have HOV2 := Lib.hid hov2
  obtain ⟨pl, cl, m0, mc, m1, m2, mlt, mx⟩ := hM.get
  rw [hN] at m0 mc
  obtain ⟨bl, offl, rfl, bllt, mx⟩ := mx (by omega)
  obtain ⟨fv, tv, l0, l1, l2, hfv, htv⟩ := mx n (by omega)
  have hat := at_get (S := S) (i := n) (by omega)
  rw [← hat] at l1 hfv htv
  have HFV := Lib.hid hfv
  obtain ⟨pf, cf, rfl, hcf, hxf⟩ := hfv.get
  have HXF := Lib.hid hxf
  -- as they read now
  have k0 := cell_below hb mlt m0
  have k2 := cell_below hb mlt m2
  have kl0 := cell_below hb bllt l0
  have kl1 := cell_below hb bllt l1
  have s0 : w.cell? ⟨sb, 0, none⟩ = some (.slice (some ⟨g, 0, none⟩) N N) := by simp [World.cell?, hv.seen]
  have s1 : w.cell? ⟨mb, 0, none⟩ = some (.pointer (some ⟨m, 0, none⟩)) := by simp [World.cell?, hv.mach]
  have n0 : (0 : Int) ≤ n := by omega
  have n1 : (n : Int) < N := by omega
  have hnb : n < bs.length := by omega
  have hbw : w0.heap.size ≤ w.heap.size := hb.size
  have HBW := Lib.hid hbw
  have c0 := hv.row.cell hnb
  have f0 := hv.row.frozen n
  have HM0 := Lib.hid m0
  have HM2 := Lib.hid m2
  have HL0 := Lib.hid l0
  have HL1 := Lib.hid l1
  clear ih hv hb hS hN hfl hlen hov1 hov2 m0 m1 m2 mx l0 l1 l2 hfv htv hat hxf hM
  cases hbn : bs[n]
  · rw [hbn] at c0
    have HUN := Lib.hid (not_tr hnb hbn)
    have HCS := Lib.hid (count_set hnb (not_tr hnb hbn))
    clear hbn
    go_enter Try.func112, Try.ntmps112
    go_upto_region 2 with fail
    refine abs_wp fun W1 hW1 => ?_
    have HV1 := Lib.hid (show VS w0.heap.size sb mb ob vb m g N W1 (bs.set n true) xs by rw [hW1]; exact HV.out.mark hnb HUN.out)
    have HB1 := Lib.hid (show Below w0.heap.size w W1 by
      rw [hW1]; exact (Fr.setCell (F := fun k => k = g) w rfl _).below HBW.out (fun k hk => by have hk : k = g := hk; have := HV.out.g0; omega))
    clear hW1 c0 f0 k0 k2 kl0 kl1 s0 s1
    have hb1 := HB.out.trans HB1.out
    have HBB1 := Lib.hid hb1
    have HBW1 := Lib.hid hb1.size
    have k0 := cell_below hb1 mlt HM0.out
    have k2 := cell_below hb1 mlt HM2.out
    have kl0 := cell_below hb1 bllt HL0.out
    have kl1 := cell_below hb1 bllt HL1.out
    have s0 : W1.cell? ⟨sb, 0, none⟩ = some (.slice (some ⟨g, 0, none⟩) N N) := by simp [World.cell?, HV1.out.seen]
    have s1 : W1.cell? ⟨mb, 0, none⟩ = some (.pointer (some ⟨m, 0, none⟩)) := by simp [World.cell?, HV1.out.mach]
    have s4 : W1.cell? ⟨vb, 0, none⟩ = some (.func (.func 112) #[] #[.pointer (some ⟨sb, 0, none⟩), .pointer (some ⟨mb, 0, none⟩), .pointer (some ⟨ob, 0, none⟩), .pointer (some ⟨vb, 0, none⟩)]) := by simp [World.cell?, HV1.out.self]
    obtain ⟨ov1, hov1, hov2⟩ := HV1.out.out
    obtain ⟨po, co, rfl⟩ := hov2.form
    have s3 : W1.cell? ⟨ob, 0, none⟩ = some (.slice po xs.length co) := by simp [World.cell?, hov1]
    have HO1 := Lib.hid hov1
    have HO2 := Lib.hid hov2
    have HROOM := Lib.hid HV1.out.room
    have HROOM0 := Lib.hid HV.out.room
    clear hb1 hov1 hov2
    cases hset : (at_ S n).set
    · rw [hset] at kl1
      have HSET := Lib.hid hset
      clear hset
      by_cases h1 : n = 1
      · have h1' : ((n : Int) == 1) = true := by simp; omega
        have HCORE := Lib.hid (show core S n from .inr h1)
        clear h1
        have hap := below_alloc1 W1 (.cells #[.int .i64 n] 3)
        have HNEW := Lib.hid (ReadL.one (E := intE) (sz := 1) W1 3 (n : Int) [.int .i64 n] (by simp [Value.oneCell']) rfl)
        go_upto_region 4 with (refine wpList_append_ints rfl (.tmp 31) (.tmp 33) rfl (.slice po xs.length co) xs rfl (base := w0.heap.size) (HO2.out.below hap (Nat.le_refl _)) _ [(n : Int)] rfl (HNEW.out) (by have := HROOM.out; simp; omega) (Nat.le_trans HBW1.out hap.size) ?_; intro p1 c1 w4 hown4 hg4 hlie4; rw [List.length_singleton] at hown4 ⊢; have HF4 := Lib.hid (((Fr.of_below hap (fun k => (Value.slice po xs.length co).ownBlock = some k)).trans (Fr.grown (F := fun k => (Value.slice po xs.length co).ownBlock = some k) hg4 (fun k h => h)) (fun _ _ h => h))); have HOB4 := Lib.hid ((HF4.out.block ob (at_lt HO1.out) (HO2.out.notAt HO1.out (by decide))).trans HO1.out); have HOW4 := Lib.hid hown4; have z4 := (cell1 HOB4.out); have y4 := fz_at HOB4.out 0; clear hown4 hg4 hlie4)
        refine abs_wp fun W2 hW2 => ?_
        have htold := HV1.out.told HO1.out HO2.out HBW1.out HF4.out HOW4.out (w2 := W2) (by rw [hW2]; have h := blk_set HOB4.out 0 (.slice p1 (xs.length + 1) c1); exact h) (by rw [hW2]; exact Fr.setCell (F := fun k => k = ob) w4 rfl _) (by have h1 := HROOM.out; have h2 := HCS.out; have h3 := HROOM0.out; simp only [List.length_append, List.length_singleton]; omega)
        have HV2 := Lib.hid htold.1
        have HB12 := Lib.hid htold.2
        have hbb2 := HBB1.out.trans htold.2
        have HBB2 := Lib.hid hbb2
        clear hW2 htold z4 y4 s0 s1 s3 s4 k0 k2 kl0 kl1 hap
        have k0 := cell_below hbb2 mlt HM0.out
        have kl0 := cell_below hbb2 bllt HL0.out
        have s1 : W2.cell? ⟨mb, 0, none⟩ = some (.pointer (some ⟨m, 0, none⟩)) := by simp [World.cell?, HV2.out.mach]
        clear hbb2
        go_wp2_with fail
        have HFF := Lib.hid (HS.out.free n)
        have hflb := HFL.out
        have HV2L := Lib.hid (show Vis S (fun r => (r : Int) ∈ (at_ S n).free.take 0) (bs.set n true) (xs ++ [(n : Int)]) (bs.set n true) (xs ++ [(n : Int)]) from (Vis.nil S _ _).mono (fun r => by simp))
        have HCNT := Lib.hid HCS.out
        go_loopw [44] (fun i wr => ∃ (k : Nat) (b2 : List Bool) (x2 : List Int), i = .int .i64 k ∧ k ≤ (at_ S n).free.length ∧ VS w0.heap.size sb mb ob vb m g N wr b2 x2 ∧ Vis S (fun r => (r : Int) ∈ (at_ S n).free.take k) (bs.set n true) (xs ++ [(n : Int)]) b2 x2 ∧ Below w0.heap.size W2 wr) (fun i _ => (at_ S n).free.length - (intOf i).toNat)
        case atStart => exact ⟨0, _, _, rfl, by omega, HV2.out, HV2L.out, Below.refl _ _⟩
        case round =>
          obtain ⟨k, b2, x2, rfl, h1, hvk, hvis, hbk⟩ := hrel
          have s4 : wr.cell? ⟨vb, 0, none⟩ = some (.func (.func 112) #[] #[.pointer (some ⟨sb, 0, none⟩), .pointer (some ⟨mb, 0, none⟩), .pointer (some ⟨ob, 0, none⟩), .pointer (some ⟨vb, 0, none⟩)]) := by simp [World.cell?, hvk.self]
          have HVk := Lib.hid hvk
          have HVIS := Lib.hid hvis
          have HBk := Lib.hid hbk
          have hbr := (HBB2.out).trans hbk
          have HBR := Lib.hid hbr
          clear hvk hvis hbk
          by_cases hk : k < (at_ S n).free.length
          · obtain ⟨bb, off, rfl, hbl, hxx⟩ := HXF.out (by omega)
            have c0 := cell_below hbr hbl (hxx k hk)
            obtain ⟨v, hve⟩ : ∃ v, v = (at_ S n).free[k] := ⟨_, rfl⟩
            have hvr := HFF.out v (by rw [hve]; exact List.getElem_mem hk)
            obtain ⟨j, rfl⟩ : ∃ j : Nat, v = j := ⟨v.toNat, by omega⟩
            rw [← hve] at c0
            have HVE := Lib.hid hve
            have hkk : (k : Int) < (at_ S n).free.length := by omega
            have hk0 : (0 : Int) ≤ k := by omega
            have HCALL := Lib.hid (IH.out (b2.count false) (by have h1 := count_grow HVIS.out.len HVIS.out.grow; have := HCNT.out; omega) wr b2 x2 j HVk.out HBR.out (by omega) (Nat.le_refl _))
            clear hxx hve hvr hbr
            go_wp2_with fail
            refine HCALL.out.mono ?_
            rintro e w3 ⟨rfl, b3, x3, hv3, hvis3, hb3⟩
            have HREL := Lib.hid (show VS w0.heap.size sb mb ob vb m g N w3 b3 x3 ∧ Vis S (fun r => (r : Int) ∈ (at_ S n).free.take (k + 1)) (bs.set n true) (xs ++ [(n : Int)]) b3 x3 ∧ Below w0.heap.size W2 w3 from
              ⟨hv3, (HVIS.out.trans hvis3).mono (fun r => by
                rw [List.take_succ_eq_append_getElem hk, List.mem_append, List.mem_singleton, ← HVE.out]
                constructor
                · rintro (h | h)
                  · exact .inl h
                  · exact .inr (by rw [h])
                · rintro (h | h)
                  · exact .inl h
                  · exact .inr (by omega)), HBk.out.trans hb3⟩)
            clear hv3 hvis3 hb3 s4 c0
            go_wp2_with fail
            go_roundw
            case rel => exact ⟨k + 1, b3, x3, by go_num, by omega, HREL.out.1, HREL.out.2.1, HREL.out.2.2⟩
            case measure => simp [intOf]; omega
          · have hkk : ¬ (k : Int) < (at_ S n).free.length := by omega
            have hke : (at_ S n).free.take k = (at_ S n).free := List.take_of_length_le (by omega)
            have HKE := Lib.hid hke
            clear hke hbr
            go_wp2_with fail
            go_end0
            refine ⟨rfl, b2, x2, HVk.out, Vis.node (by omega) HUN.out [(n : Int)] (by rw [if_pos HCORE.out]) ?_, (HB1.out.trans HB12.out).trans HBk.out⟩
            have h := HVIS.out
            rw [HKE.out] at h
            skip
            exact h
      · have h1' : ((n : Int) == 1) = false := by simp; omega
        have HCORE := Lib.hid (show ¬ core S n from fun h => by
          rcases h with h | h
          · rw [HSET.out] at h; cases h
          · exact h1 h)
        clear h1
        have HV2 := HV1
        have HB12 := Lib.hid (Below.refl w0.heap.size W1)
        have HBB2 := HBB1
        go_wp2_with fail
        have HFF := Lib.hid (HS.out.free n)
        have hflb := HFL.out
        have HV2L := Lib.hid (show Vis S (fun r => (r : Int) ∈ (at_ S n).free.take 0) (bs.set n true) xs (bs.set n true) xs from (Vis.nil S _ _).mono (fun r => by simp))
        have HCNT := Lib.hid HCS.out
        go_loopw [44] (fun i wr => ∃ (k : Nat) (b2 : List Bool) (x2 : List Int), i = .int .i64 k ∧ k ≤ (at_ S n).free.length ∧ VS w0.heap.size sb mb ob vb m g N wr b2 x2 ∧ Vis S (fun r => (r : Int) ∈ (at_ S n).free.take k) (bs.set n true) xs b2 x2 ∧ Below w0.heap.size W1 wr) (fun i _ => (at_ S n).free.length - (intOf i).toNat)
        case atStart => exact ⟨0, _, _, rfl, by omega, HV2.out, HV2L.out, Below.refl _ _⟩
        case round =>
          obtain ⟨k, b2, x2, rfl, h1, hvk, hvis, hbk⟩ := hrel
          have s4 : wr.cell? ⟨vb, 0, none⟩ = some (.func (.func 112) #[] #[.pointer (some ⟨sb, 0, none⟩), .pointer (some ⟨mb, 0, none⟩), .pointer (some ⟨ob, 0, none⟩), .pointer (some ⟨vb, 0, none⟩)]) := by simp [World.cell?, hvk.self]
          have HVk := Lib.hid hvk
          have HVIS := Lib.hid hvis
          have HBk := Lib.hid hbk
          have hbr := (HBB2.out).trans hbk
          have HBR := Lib.hid hbr
          clear hvk hvis hbk
          by_cases hk : k < (at_ S n).free.length
          · obtain ⟨bb, off, rfl, hbl, hxx⟩ := HXF.out (by omega)
            have c0 := cell_below hbr hbl (hxx k hk)
            obtain ⟨v, hve⟩ : ∃ v, v = (at_ S n).free[k] := ⟨_, rfl⟩
            have hvr := HFF.out v (by rw [hve]; exact List.getElem_mem hk)
            obtain ⟨j, rfl⟩ : ∃ j : Nat, v = j := ⟨v.toNat, by omega⟩
            rw [← hve] at c0
            have HVE := Lib.hid hve
            have hkk : (k : Int) < (at_ S n).free.length := by omega
            have hk0 : (0 : Int) ≤ k := by omega
            have HCALL := Lib.hid (IH.out (b2.count false) (by have h1 := count_grow HVIS.out.len HVIS.out.grow; have := HCNT.out; omega) wr b2 x2 j HVk.out HBR.out (by omega) (Nat.le_refl _))
            clear hxx hve hvr hbr
            go_wp2_with fail
            refine HCALL.out.mono ?_
            rintro e w3 ⟨rfl, b3, x3, hv3, hvis3, hb3⟩
            have HREL := Lib.hid (show VS w0.heap.size sb mb ob vb m g N w3 b3 x3 ∧ Vis S (fun r => (r : Int) ∈ (at_ S n).free.take (k + 1)) (bs.set n true) xs b3 x3 ∧ Below w0.heap.size W1 w3 from
              ⟨hv3, (HVIS.out.trans hvis3).mono (fun r => by
                rw [List.take_succ_eq_append_getElem hk, List.mem_append, List.mem_singleton, ← HVE.out]
                constructor
                · rintro (h | h)
                  · exact .inl h
                  · exact .inr (by rw [h])
                · rintro (h | h)
                  · exact .inl h
                  · exact .inr (by omega)), HBk.out.trans hb3⟩)
            clear hv3 hvis3 hb3 s4 c0
            go_wp2_with fail
            go_roundw
            case rel => exact ⟨k + 1, b3, x3, by go_num, by omega, HREL.out.1, HREL.out.2.1, HREL.out.2.2⟩
            case measure => simp [intOf]; omega
          · have hkk : ¬ (k : Int) < (at_ S n).free.length := by omega
            have hke : (at_ S n).free.take k = (at_ S n).free := List.take_of_length_le (by omega)
            have HKE := Lib.hid hke
            clear hke hbr
            go_wp2_with fail
            go_end0
            refine ⟨rfl, b2, x2, HVk.out, Vis.node (by omega) HUN.out [] (by rw [if_neg HCORE.out]) ?_, (HB1.out.trans HB12.out).trans HBk.out⟩
            have h := HVIS.out
            rw [HKE.out] at h
            rw [List.append_nil]
            exact h
    · rw [hset] at kl1
      have HCORE := Lib.hid (show core S n from .inl hset)
      clear hset
      have hap := below_alloc1 W1 (.cells #[.int .i64 n] 3)
      have HNEW := Lib.hid (ReadL.one (E := intE) (sz := 1) W1 3 (n : Int) [.int .i64 n] (by simp [Value.oneCell']) rfl)
      go_upto_region 4 with (refine wpList_append_ints rfl (.tmp 31) (.tmp 33) rfl (.slice po xs.length co) xs rfl (base := w0.heap.size) (HO2.out.below hap (Nat.le_refl _)) _ [(n : Int)] rfl (HNEW.out) (by have := HROOM.out; simp; omega) (Nat.le_trans HBW1.out hap.size) ?_; intro p1 c1 w4 hown4 hg4 hlie4; rw [List.length_singleton] at hown4 ⊢; have HF4 := Lib.hid (((Fr.of_below hap (fun k => (Value.slice po xs.length co).ownBlock = some k)).trans (Fr.grown (F := fun k => (Value.slice po xs.length co).ownBlock = some k) hg4 (fun k h => h)) (fun _ _ h => h))); have HOB4 := Lib.hid ((HF4.out.block ob (at_lt HO1.out) (HO2.out.notAt HO1.out (by decide))).trans HO1.out); have HOW4 := Lib.hid hown4; have z4 := (cell1 HOB4.out); have y4 := fz_at HOB4.out 0; clear hown4 hg4 hlie4)
      refine abs_wp fun W2 hW2 => ?_
      have htold := HV1.out.told HO1.out HO2.out HBW1.out HF4.out HOW4.out (w2 := W2) (by rw [hW2]; have h := blk_set HOB4.out 0 (.slice p1 (xs.length + 1) c1); exact h) (by rw [hW2]; exact Fr.setCell (F := fun k => k = ob) w4 rfl _) (by have h1 := HROOM.out; have h2 := HCS.out; have h3 := HROOM0.out; simp only [List.length_append, List.length_singleton]; omega)
      have HV2 := Lib.hid htold.1
      have HB12 := Lib.hid htold.2
      have hbb2 := HBB1.out.trans htold.2
      have HBB2 := Lib.hid hbb2
      clear hW2 htold z4 y4 s0 s1 s3 s4 k0 k2 kl0 kl1 hap
      have k0 := cell_below hbb2 mlt HM0.out
      have kl0 := cell_below hbb2 bllt HL0.out
      have s1 : W2.cell? ⟨mb, 0, none⟩ = some (.pointer (some ⟨m, 0, none⟩)) := by simp [World.cell?, HV2.out.mach]
      clear hbb2
      go_wp2_with fail
      have HFF := Lib.hid (HS.out.free n)
      have hflb := HFL.out
      have HV2L := Lib.hid (show Vis S (fun r => (r : Int) ∈ (at_ S n).free.take 0) (bs.set n true) (xs ++ [(n : Int)]) (bs.set n true) (xs ++ [(n : Int)]) from (Vis.nil S _ _).mono (fun r => by simp))
      have HCNT := Lib.hid HCS.out
      go_loopw [44] (fun i wr => ∃ (k : Nat) (b2 : List Bool) (x2 : List Int), i = .int .i64 k ∧ k ≤ (at_ S n).free.length ∧ VS w0.heap.size sb mb ob vb m g N wr b2 x2 ∧ Vis S (fun r => (r : Int) ∈ (at_ S n).free.take k) (bs.set n true) (xs ++ [(n : Int)]) b2 x2 ∧ Below w0.heap.size W2 wr) (fun i _ => (at_ S n).free.length - (intOf i).toNat)
      case atStart => exact ⟨0, _, _, rfl, by omega, HV2.out, HV2L.out, Below.refl _ _⟩
      case round =>
        obtain ⟨k, b2, x2, rfl, h1, hvk, hvis, hbk⟩ := hrel
        have s4 : wr.cell? ⟨vb, 0, none⟩ = some (.func (.func 112) #[] #[.pointer (some ⟨sb, 0, none⟩), .pointer (some ⟨mb, 0, none⟩), .pointer (some ⟨ob, 0, none⟩), .pointer (some ⟨vb, 0, none⟩)]) := by simp [World.cell?, hvk.self]
        have HVk := Lib.hid hvk
        have HVIS := Lib.hid hvis
        have HBk := Lib.hid hbk
        have hbr := (HBB2.out).trans hbk
        have HBR := Lib.hid hbr
        clear hvk hvis hbk
        by_cases hk : k < (at_ S n).free.length
        · obtain ⟨bb, off, rfl, hbl, hxx⟩ := HXF.out (by omega)
          have c0 := cell_below hbr hbl (hxx k hk)
          obtain ⟨v, hve⟩ : ∃ v, v = (at_ S n).free[k] := ⟨_, rfl⟩
          have hvr := HFF.out v (by rw [hve]; exact List.getElem_mem hk)
          obtain ⟨j, rfl⟩ : ∃ j : Nat, v = j := ⟨v.toNat, by omega⟩
          rw [← hve] at c0
          have HVE := Lib.hid hve
          have hkk : (k : Int) < (at_ S n).free.length := by omega
          have hk0 : (0 : Int) ≤ k := by omega
          have HCALL := Lib.hid (IH.out (b2.count false) (by have h1 := count_grow HVIS.out.len HVIS.out.grow; have := HCNT.out; omega) wr b2 x2 j HVk.out HBR.out (by omega) (Nat.le_refl _))
          clear hxx hve hvr hbr
          go_wp2_with fail
          refine HCALL.out.mono ?_
          rintro e w3 ⟨rfl, b3, x3, hv3, hvis3, hb3⟩
          have HREL := Lib.hid (show VS w0.heap.size sb mb ob vb m g N w3 b3 x3 ∧ Vis S (fun r => (r : Int) ∈ (at_ S n).free.take (k + 1)) (bs.set n true) (xs ++ [(n : Int)]) b3 x3 ∧ Below w0.heap.size W2 w3 from
            ⟨hv3, (HVIS.out.trans hvis3).mono (fun r => by
              rw [List.take_succ_eq_append_getElem hk, List.mem_append, List.mem_singleton, ← HVE.out]
              constructor
              · rintro (h | h)
                · exact .inl h
                · exact .inr (by rw [h])
              · rintro (h | h)
                · exact .inl h
                · exact .inr (by omega)), HBk.out.trans hb3⟩)
          clear hv3 hvis3 hb3 s4 c0
          go_wp2_with fail
          go_roundw
          case rel => exact ⟨k + 1, b3, x3, by go_num, by omega, HREL.out.1, HREL.out.2.1, HREL.out.2.2⟩
          case measure => simp [intOf]; omega
        · have hkk : ¬ (k : Int) < (at_ S n).free.length := by omega
          have hke : (at_ S n).free.take k = (at_ S n).free := List.take_of_length_le (by omega)
          have HKE := Lib.hid hke
          clear hke hbr
          go_wp2_with fail
          go_end0
          refine ⟨rfl, b2, x2, HVk.out, Vis.node (by omega) HUN.out [(n : Int)] (by rw [if_pos HCORE.out]) ?_, (HB1.out.trans HB12.out).trans HBk.out⟩
          have h := HVIS.out
          rw [HKE.out] at h
          skip
          exact h
  · rw [hbn] at c0
    have HSEEN := Lib.hid (is_tr hnb hbn)
    clear hbn
    go_enter Try.func112, Try.ntmps112
    go_wp2_with fail
    refine bodyPost_ret (results_none rfl _ _ _) rfl ?_
    exact ⟨rfl, bs, xs, HV.out, Vis.seen HSEEN.out, Below.refl _ _⟩
end Go.Proofs.Ythmaokjhncokdaa

/-
  slices.Sort of ints: the library's contract laid at this program, for a list of one's own, nil too. No condition beyond what each theorem names.
-/
set_option linter.unusedVariables false
set_option linter.unusedSimpArgs false
namespace Go.Proofs
open Go.Shelf
shelf_lay Lays.n189 Nm 189 at Try as Try.lays189
end Go.Proofs
namespace Go.Proofs.Ythmaokjhncokdaa
open Go.Shelf Go.Sort Go.RowKit

set_option maxRecDepth 100000 in
set_option maxHeartbeats 1000000 in
theorem len64_zero (w : World) : Calls Try.prog 127 #[.int .u64 0] w fun e w' => e = .returned (.int .i64 0) ∧ w = w' := by
  have h8 : Lib.len8 0 = 0 := by decide
  go_enter Try.func127, Try.ntmps127
  go_wp2_with fail
  go_ret
  exact ⟨rfl, rfl⟩

set_option maxHeartbeats 1000000 in
theorem len_zero (w : World) : Calls Try.prog 115 #[.int .u64 0] w fun e w' => e = .returned (.int .i64 0) ∧ w = w' := by
  go_enter Try.func115, Try.ntmps115
  go_wp2_with fail
  refine (len64_zero _).mono ?_
  rintro e w' ⟨rfl, rfl⟩
  go_wp2_with fail
  go_ret
  exact ⟨rfl, rfl⟩

set_option maxHeartbeats 1000000 in
theorem insertion_nil (w : World) : Calls Try.prog 117 #[.slice none 0 0, .int .i64 0, .int .i64 0] w fun e w' => e = .returned (.tuple #[]) ∧ w = w' := by
  go_enter Try.func117, Try.ntmps117
  go_wp2_with fail
  go_loop [6] (fun i => i = .int .i64 1) (fun i => 0)
  case atStart => exact rfl
  case round =>
    subst hrel
    go_wp2_with fail
    go_end0
    exact ⟨rfl, rfl⟩

set_option maxRecDepth 100000 in
set_option maxHeartbeats 1000000 in
theorem pdq_nil (w : World) : Calls Try.prog 114 #[.slice none 0 0, .int .i64 0, .int .i64 0, .int .i64 0] w fun e w' => e = .returned (.tuple #[]) ∧ w = w' := by
  go_enter Try.func114, Try.ntmps114
  go_wp2_with fail
  go_loop [1, 2, 3] (fun i j l => i = .int .i64 0 ∧ j = .int .i64 0 ∧ l = .int .i64 0) (fun i j l => 0)
  case atStart => exact ⟨rfl, rfl, rfl⟩
  case round =>
    obtain ⟨rfl, rfl, rfl⟩ := hrel
    go_wp2_with fail
    refine (insertion_nil _).mono ?_
    rintro e w' ⟨rfl, rfl⟩
    go_wp2_with fail
    (try simp only [Exit.inBlock, Exit.then])
    refine bodyPost_ret (results_none rfl _ _ _) rfl ?_
    exact ⟨rfl, rfl⟩

set_option maxHeartbeats 1000000 in
theorem sort_nil (w : World) : Calls Try.prog 104 #[.slice none 0 0] w fun e w' => e = .returned (.tuple #[]) ∧ w = w' := by
  go_enter Try.func104, Try.ntmps104
  go_wp2_with fail
  refine (len_zero _).mono ?_
  rintro e w' ⟨rfl, rfl⟩
  go_wp2_with fail
  refine (pdq_nil _).mono ?_
  rintro e w' ⟨rfl, rfl⟩
  go_wp2_with fail
  go_end0
  exact ⟨rfl, rfl⟩

/-- a list of one's own, sorted in its place -/
theorem sort_own (base : Nat) (w : World) (v : Value) (xs : List Int) (h : OwnL intE 3 1 base w v xs) (hx : xs.length ≤ 1000000) :
    Calls Try.prog 104 #[v] w fun e w' => e = .returned (.tuple #[]) ∧ OwnL intE 3 1 base w' v (xs.mergeSort fun x y => decide (x ≤ y)) ∧ w.grownBy w' v.ownBlock := by
  obtain ⟨rows, h1, h2, h3, h4⟩ := h
  have hf := flatten_ints h2 h4
  rw [hf] at h1
  have h1' := h1
  rcases h1.2 with ⟨rfl, h5⟩ | ⟨g, cap, cur, rfl, hb, hg, hn, hc, hs, ht⟩
  · have : xs = [] := List.eq_nil_of_length_eq_zero h5
    subst this
    refine (sort_nil w).mono ?_
    rintro e w' ⟨rfl, rfl⟩
    exact ⟨rfl, by simp only [List.mergeSort_nil]; exact OwnL.nil _, World.grownBy.mk rfl rfl rfl (Nat.le_refl _) (fun _ _ _ => rfl)⟩
  · rw [Nat.mul_one] at ht
    have hlt : g < w.heap.size := (Array.getElem?_eq_some_iff.1 hg).1
    refine (Any.slices_Sort_int Try.lays189 g 0 cap xs w (holds_of_blockI hg ht) hlt (by omega)).mono ?_
    rintro e w' ⟨rfl, n, os, rfl⟩
    have hlen : (xs.mergeSort fun x y => decide (x ≤ y)).length = xs.length := List.length_mergeSort _
    have hown := ownsRow_sortedI (n := n) (os := os) (ts := xs.mergeSort fun x y => decide (x ≤ y)) hlen hb hg hn hc hs
    rw [← hlen] at hown
    have := ownL_ints hown
    rw [hlen] at this
    exact ⟨rfl, this, grownBy_sortedI _⟩
end Go.Proofs.Ythmaokjhncokdaa

/-
  closed: the states to which one comes without a class. No condition beyond what each theorem names.
-/
set_option linter.unusedVariables false
set_option linter.unusedSimpArgs false
namespace Go.Proofs.Ythmaokjhncokdaa
open Go.RowKit

theorem infoBool : (Try.prog.info? 4).map (fun i => (i.zero, i.size, i.bytes)) = some (some (.bool false), 1, 1) := by kernel_rfl

theorem made_bools (n : Nat) : madeCells #[Value.bool false] n = (List.replicate n (Value.bool false)).toArray := by
  apply Array.ext
  · simp [madeCells]
  · intro i h1 h2
    have e : i % 1 = 0 := Nat.mod_one i
    simp [madeCells, e]

theorem make_bools (t : TypeId) (ht : Try.prog.underlying t = some (.slice 4)) (w : World) (c : Int) (n : Nat) (hc : c = n) (hn : n ≤ 1000001) :
    (Instr.makeSlice t (.int .i64 c) (.int .i64 c)).run Try.prog w = .ok (.slice (some ⟨w.heap.size, 0, none⟩) n n) (w.alloc (.cells (List.replicate n (Value.bool false)).toArray 4)) := by
  subst hc
  obtain ⟨i0, hi, hz0, hz1, hz2⟩ := info_parts infoBool
  have := run_make (P := Try.prog) w t 4 i0 (.bool false) ht hi hz0 .i64 .i64 n n (by omega) (by omega) (by rw [hz2]; omega) (by omega)
  rw [hz1] at this
  simp only [Int.toNat_natCast, Nat.mul_one] at this
  rw [this, show (Value.bool false).cells = #[Value.bool false] from rfl, made_bools]

theorem visit_any (w0 : World) (sb mb ob vb m g N : Nat) (S : List Sta) (hM : MachR w0 m S) (hN : S.length = N) (hN2 : N ≤ 100000) (hS : Fine S N) (hfl : ∀ i, (at_ S i).free.length ≤ 100000) (u : Nat) : VisitAt w0 sb mb ob vb m g N S u := by
  induction u using Nat.strongRecOn with
  | ind u ih => exact visit_step w0 sb mb ob vb m g N S hM hN hN2 hS hfl u ih

/-- rising, without one twice -/
def Rises (xs : List Int) : Prop := xs.Pairwise (· < ·)

open Classical in
/-- to which states one comes without a class: those that count, rising -/
noncomputable def closedL (S : List Sta) (l : List Int) : List Int :=
  ((List.range S.length).filter fun k => decide ((∃ r : Nat, (r : Int) ∈ l ∧ FreeStar S r k) ∧ core S k)).map Int.ofNat

theorem rises_ext {xs ys : List Int} (hx : Rises xs) (hy : Rises ys) (h : ∀ v, v ∈ xs ↔ v ∈ ys) : xs = ys := by
  have nd : ∀ {l : List Int}, Rises l → l.Nodup := fun {l} h => by
    unfold Rises at h
    exact h.imp (fun hab e => by omega)
  have hp : xs.Perm ys := (List.perm_ext_iff_of_nodup (nd hx) (nd hy)).2 h
  exact hp.eq_of_pairwise (le := (· < ·)) (fun a b _ _ h1 h2 => by omega) hx hy

theorem closedL_rises (S : List Sta) (l : List Int) : Rises (closedL S l) := by
  unfold Rises closedL
  rw [List.pairwise_map]
  refine List.Pairwise.filter _ ?_
  have := List.pairwise_lt_range (n := S.length)
  exact this.imp (fun h => by simpa using h)

open Classical in
theorem mem_closedL {S : List Sta} {l : List Int} {v : Int} : v ∈ closedL S l ↔ ∃ k : Nat, v = k ∧ k < S.length ∧ (∃ r : Nat, (r : Int) ∈ l ∧ FreeStar S r k) ∧ core S k := by
  unfold closedL
  simp only [List.mem_map, List.mem_filter, List.mem_range, decide_eq_true_eq]
  constructor
  · rintro ⟨k, ⟨h1, h2, h3⟩, rfl⟩; exact ⟨k, rfl, h1, h2, h3⟩
  · rintro ⟨k, rfl, h1, h2, h3⟩; exact ⟨k, ⟨h1, h2, h3⟩, rfl⟩

theorem free_lt {S : List Sta} {N : Nat} (h : Fine S N) {r k : Nat} (hr : r < N) (hk : FreeStar S r k) : k < N := by
  induction hk with
  | refl => exact hr
  | step _ h2 ih => have := (h.free _ _ h2).2; omega

/-- what was told, sorted, is just those states -/
theorem told_closed {S : List Sta} {N : Nat} (hN : S.length = N) (hS : Fine S N) (l : List Int) (hl : ∀ v ∈ l, 0 ≤ v ∧ v < N) {bs' : List Bool} {xs : List Int} (h : Vis S (fun r : Nat => (r : Int) ∈ l) (List.replicate N false) [] bs' xs) :
    xs.mergeSort (fun x y => decide (x ≤ y)) = closedL S l := by
  obtain ⟨ys, hy, hnd, hm⟩ := h.out
  rw [List.nil_append] at hy
  rw [hy]
  have hno : ∀ k, ¬ tr (List.replicate N false) k := no_places N
  have hall : ∀ (r k : Nat), (r : Int) ∈ l → FreeStar S r k → tr bs' k := by
    intro r k hr hk
    induction hk with
    | refl => exact h.hit _ hr
    | step _ h2 ih => exact h.closed _ ih (hno _) _ h2
  have hp := List.mergeSort_perm ys (fun x y => decide (x ≤ y))
  refine rises_ext ?_ (closedL_rises S l) (fun v => ?_)
  · have h1 := List.pairwise_mergeSort (le := fun (x y : Int) => decide (x ≤ y)) (fun a b c h1 h2 => by simp at *; omega) (fun a b => by simp; omega) ys
    have h2 : (ys.mergeSort fun x y => decide (x ≤ y)).Pairwise (· ≠ ·) := (hp.nodup_iff).2 hnd
    exact (h1.and h2).imp (fun {a b} hh => by
      have h3 : a ≤ b := by simpa using hh.1
      have h4 := hh.2
      omega)
  · rw [hp.mem_iff, hm, mem_closedL]
    constructor
    · rintro ⟨k, rfl, h1, h2, h3⟩
      obtain ⟨r, h4, h5⟩ := h.reach k h1 h2
      exact ⟨k, rfl, by rw [hN]; exact free_lt hS (by have := hl _ h4; omega) h5, ⟨r, h4, h5⟩, h3⟩
    · rintro ⟨k, rfl, h1, ⟨r, h4, h5⟩, h3⟩
      exact ⟨k, rfl, hall r k h4 h5, hno k, h3⟩

def ClosedPost (w : World) (S : List Sta) (l : List Int) (e : Ending) (w' : World) : Prop :=
  ∃ v, e = .returned v ∧ OwnL intE 3 1 w.heap.size w' v (closedL S l) ∧ Below w.heap.size w w'

theorem alloc5 (w : World) (o1 o2 o3 o4 o5 : Obj) (W : World) (hW : W = ((((w.alloc o1).alloc o2).alloc o3).alloc o4).alloc o5) : Below w.heap.size w W ∧ W.heap[w.heap.size]? = some o1 ∧ W.heap[w.heap.size + 1]? = some o2 ∧ W.heap[w.heap.size + 1 + 1]? = some o3 ∧
    W.heap[w.heap.size + 1 + 1 + 1]? = some o4 ∧ W.heap[w.heap.size + 1 + 1 + 1 + 1]? = some o5 := by
  obtain ⟨a0, a1, a2, a3⟩ := alloc3 w o1 o2 o3 _ rfl
  have s3 : (((w.alloc o1).alloc o2).alloc o3).heap.size = w.heap.size + 1 + 1 + 1 := by simp
  generalize ((w.alloc o1).alloc o2).alloc o3 = W3 at *
  have s4 : (W3.alloc o4).heap.size = w.heap.size + 1 + 1 + 1 + 1 := by simp [s3]
  have b4 := below_alloc1 W3 o4
  have b5 := below_alloc1 (W3.alloc o4) o5
  subst hW
  refine ⟨(a0.trans (b4.mono (by omega))).trans (b5.mono (by omega)), ?_, ?_, ?_, ?_, ?_⟩
  · rw [b5.block _ (by omega), b4.block _ (by omega)]; exact a1
  · rw [b5.block _ (by omega), b4.block _ (by omega)]; exact a2
  · rw [b5.block _ (by omega), b4.block _ (by omega)]; exact a3
  · rw [b5.block _ (by omega), ← s3]; exact heap_alloc_new _ _
  · rw [← s4]; exact heap_alloc_new _ _

set_option maxRecDepth 100000 in
set_option maxHeartbeats 4000000 in
theorem closed_any (w : World) (m : Nat) (S : List Sta) (N : Nat) (hM : MachR w m S) (hN : S.length = N) (hN0 : 0 < N) (hN2 : N ≤ 100000) (hS : Fine S N) (hfl : ∀ i, (at_ S i).free.length ≤ 100000) (v : Value) (l : List Int) (hv : Ints w v l) (hlen : l.length ≤ 1000000) (hl : ∀ v ∈ l, 0 ≤ v ∧ v < N) :
    Calls Try.prog 102 #[.pointer (some ⟨m, 0, none⟩), v] w (ClosedPost w S l) := by
  have HM := Lib.hid hM
  have HVI := Lib.hid (fun sb mb ob vb g u => visit_any w sb mb ob vb m g N S hM hN hN2 hS hfl u)
  have HTC := Lib.hid (fun bs' xs h => told_closed (bs' := bs') (xs := xs) hN hS l hl h)
  have HLL := Lib.hid hl
  have HNN := Lib.hid hN
  obtain ⟨p, c, rfl, hc, hx⟩ := hv.get
  have HX := Lib.hid hx
  obtain ⟨pl, cl, m0, mc, m1, m2, mlt, mx⟩ := hM.get
  rw [hN] at m0 mc
  have HM0 := Lib.hid m0
  have hmf : ∀ (fn : Fn) (first cap : Array Value) (w : World), (Instr.makeFunc fn first cap).run Try.prog w = .ok (.func fn first cap) w := fun _ _ _ _ => rfl
  have hmk := fun w => make_bools 55 Try.underlying55 w (N : Int) N rfl (by omega)
  clear hM hS hfl hv hl hx mx m1 m2 hN
  go_enter Try.func102, Try.ntmps102
  go_upto_region 5 with fail
  refine abs_wp fun W hW => ?_
  obtain ⟨a0, a1, a2, a3, a4, a5⟩ := alloc5 w _ _ _ _ _ W hW
  have HV := Lib.hid (show VS w.heap.size (w.heap.size + 1 + 1) w.heap.size (w.heap.size + 1 + 1 + 1) (w.heap.size + 1 + 1 + 1 + 1) m (w.heap.size + 1) N W (List.replicate N false) [] from
    ⟨by omega, by omega, by omega, by omega, by omega, a3, a1, a5, ⟨_, a4, OwnL.nil _⟩, by unfold BRow; rw [a2]; simp, by simp, by simp⟩)
  have HB := Lib.hid a0
  obtain ⟨sb, hsb⟩ : ∃ sb, sb = w.heap.size + 1 + 1 := ⟨_, rfl⟩
  obtain ⟨ob, hob⟩ : ∃ ob, ob = w.heap.size + 1 + 1 + 1 := ⟨_, rfl⟩
  obtain ⟨vb, hvb⟩ : ∃ vb, vb = w.heap.size + 1 + 1 + 1 + 1 := ⟨_, rfl⟩
  rw [← hvb, ← hob, ← hsb] at HV ⊢
  clear hW a0 a1 a2 a3 a4 a5 hsb hob hvb hmk hmf
  have HVN := Lib.hid (show Vis S (fun r : Nat => (r : Int) ∈ l.take 0) (List.replicate N false) [] (List.replicate N false) [] from (Vis.nil S _ _).mono (fun r => by simp))
  go_wp2_with fail
  go_loopw [19] (fun i wr => ∃ (k : Nat) (b2 : List Bool) (x2 : List Int), i = .int .i64 k ∧ k ≤ l.length ∧ VS w.heap.size sb w.heap.size ob vb m (w.heap.size + 1) N wr b2 x2 ∧ Vis S (fun r : Nat => (r : Int) ∈ l.take k) (List.replicate N false) [] b2 x2 ∧ Below w.heap.size w wr) (fun i _ => l.length - (intOf i).toNat)
  case atStart => exact ⟨0, _, _, rfl, by omega, HV.out, HVN.out, HB.out⟩
  case round =>
    obtain ⟨k, b2, x2, rfl, h1, hvk, hvis, hbk⟩ := hrel
    have s4 : wr.cell? ⟨vb, 0, none⟩ = some (.func (.func 112) #[] #[.pointer (some ⟨sb, 0, none⟩), .pointer (some ⟨w.heap.size, 0, none⟩), .pointer (some ⟨ob, 0, none⟩), .pointer (some ⟨vb, 0, none⟩)]) := by simp [World.cell?, hvk.self]
    have HVk := Lib.hid hvk
    have HVIS := Lib.hid hvis
    have HBk := Lib.hid hbk
    clear hvk hvis
    by_cases hk : k < l.length
    · obtain ⟨bb, off, rfl, hbl, hxx⟩ := HX.out (by omega)
      have c0 := cell_below hbk hbl (hxx k hk)
      obtain ⟨v, hve⟩ : ∃ v, v = l[k] := ⟨_, rfl⟩
      have hvr := HLL.out v (by rw [hve]; exact List.getElem_mem hk)
      obtain ⟨j, rfl⟩ : ∃ j : Nat, v = j := ⟨v.toNat, by omega⟩
      rw [← hve] at c0
      have HVE := Lib.hid hve
      have hkk : (k : Int) < l.length := by omega
      have hk0 : (0 : Int) ≤ k := by omega
      have HCALL := Lib.hid (HVI.out sb w.heap.size ob vb (w.heap.size + 1) (b2.count false) wr b2 x2 j HVk.out hbk (by omega) (Nat.le_refl _))
      clear hxx hve hvr hbk
      go_wp2_with fail
      refine HCALL.out.mono ?_
      rintro e w3 ⟨rfl, b3, x3, hv3, hvis3, hb3⟩
      have HREL := Lib.hid (show VS w.heap.size sb w.heap.size ob vb m (w.heap.size + 1) N w3 b3 x3 ∧ Vis S (fun r : Nat => (r : Int) ∈ l.take (k + 1)) (List.replicate N false) [] b3 x3 ∧ Below w.heap.size w w3 from
        ⟨hv3, (HVIS.out.trans hvis3).mono (fun r => by
          rw [List.take_succ_eq_append_getElem hk, List.mem_append, List.mem_singleton, ← HVE.out]
          constructor
          · rintro (h | h)
            · exact .inl h
            · exact .inr (by rw [h])
          · rintro (h | h)
            · exact .inl h
            · exact .inr (by omega)), HBk.out.trans hb3⟩)
      clear hv3 hvis3 hb3 s4 c0
      go_wp2_with fail
      go_roundw
      case rel => exact ⟨k + 1, b3, x3, by go_num, by omega, HREL.out.1, HREL.out.2.1, HREL.out.2.2⟩
      case measure => simp [intOf]; omega
    · have hkk : ¬ (k : Int) < l.length := by omega
      have hke : l.take k = l := List.take_of_length_le (by omega)
      obtain ⟨ov, hov1, hov2⟩ := HVk.out.out
      obtain ⟨po, co, rfl⟩ := hov2.form
      have hvis := HVIS.out
      rw [hke] at hvis
      have HT := Lib.hid (HTC.out _ _ hvis)
      have HSO := Lib.hid (sort_own w.heap.size wr _ x2 hov2 (by have := HVk.out.room; omega))
      have HO1 := Lib.hid hov1
      have HO2 := Lib.hid hov2
      have s3 : wr.cell? ⟨ob, 0, none⟩ = some (.slice po x2.length co) := by simp [World.cell?, hov1]
      clear hke hvis hov1 hov2 hbk s4
      go_wp2_with fail
      refine HSO.out.mono ?_
      rintro e w3 ⟨rfl, hown3, hg3⟩
      have HF3 := Lib.hid (Fr.grown (F := fun k => (Value.slice po x2.length co).ownBlock = some k) hg3 (fun k h => h))
      have HOB3 := Lib.hid ((HF3.out.block ob (at_lt HO1.out) (HO2.out.notAt HO1.out (by decide))).trans HO1.out)
      rw [HT.out] at hown3
      have HOW3 := Lib.hid hown3
      have s3' : w3.cell? ⟨ob, 0, none⟩ = some (.slice po x2.length co) := cell1 HOB3.out
      clear hown3 hg3 s3
      go_wp2_with fail
      go_ret
      exact ⟨_, rfl, HOW3.out, HBk.out.trans (HF3.out.below HBk.out.size (fun k hk => (HO2.out.lt k hk).1))⟩
end Go.Proofs.Ythmaokjhncokdaa

/-
  Start, Step, Accepts, Matches. No condition beyond what each theorem names.
-/
set_option linter.unusedVariables false
set_option linter.unusedSimpArgs false
namespace Go.Proofs.Ythmaokjhncokdaa
open Go.RowKit

theorem rising_ge {cls : List Int} (h : rising cls) : ∀ i (hi : i < cls.length), (i : Int) ≤ cls[i]
  | 0, hi => by have := (h 0 hi).1; omega
  | i + 1, hi => by
    have h1 := rising_ge h i (by omega)
    have h2 := (h (i + 1) hi).2.2 (by omega)
    simp only [Nat.add_sub_cancel] at h2
    omega

theorem rising_len {cls : List Int} (h : rising cls) : cls.length ≤ 24 := by
  rcases Nat.lt_or_ge 24 cls.length with hl | hl
  · have h1 := rising_ge h 24 hl
    have h2 := (h 24 hl).2.1
    omega
  · exact hl

/-- what a state takes is rising -/
def Ris (S : List Sta) : Prop := ∀ i, rising (at_ S i).takes

theorem rising_nil : rising [] := fun i h => by simp at h

theorem Ris.join {S : List Sta} (h : Ris S) (i : Nat) (ts : List Int) : Ris (joinF S i ts) := by
  intro j
  by_cases hi : i < S.length
  · rw [at_join _ _ _ _ hi]
    split
    · exact h i
    · exact h j
  · have : joinF S i ts = S := by
      unfold joinF
      exact List.modify_eq_self (by omega)
    rw [this]; exact h j

theorem Ris.two {L : List Sta} (h : Ris L) (cls : List Int) (b : Bool) (hc : rising cls) : Ris ((L ++ [⟨[], b, cls⟩]) ++ [z0]) := by
  intro j
  rw [at_two]
  split
  · exact h j
  · split
    · exact hc
    · split <;> exact rising_nil

mutual
theorem lay_ris : ∀ (x : Nd) (d : Nat), Wf d x → ∀ (L : List Sta), Ris L → Ris (layF x L)
  | .mk op cls ps, d, hg, L, h => by
    unfold Wf at hg
    obtain ⟨-, -, -, -, -, hr, hps⟩ := hg
    have h2 : Ris ((L ++ [z0]) ++ [z0]) := h.two [] false rising_nil
    rw [layF]
    split
    · exact h.two cls true hr
    · split
      · exact h2.join _ _
      · split
        · exact (seq_ris ps (d + 1) hps _ _ h2).join _ _
        · split
          · exact alt_ris ps (d + 1) hps _ _ h2
          · exact one_ris op ps (d + 1) hps _ _ h2
theorem seq_ris : ∀ (ps : List Nd) (d : Nat), WfL d ps → ∀ (L : List Sta) (a : Nat), Ris L → Ris (seqF ps L a).1
  | [], d, _, L, a, h => by rw [seqF]; exact h
  | p :: r, d, hg, L, a, h => by
    unfold WfL at hg
    rw [seqF]
    exact seq_ris r d hg.2 _ _ ((lay_ris p d hg.1 L h).join _ _)
theorem alt_ris : ∀ (ps : List Nd) (d : Nat), WfL d ps → ∀ (L : List Sta) (n : Nat), Ris L → Ris (altF ps L n)
  | [], d, _, L, n, h => by rw [altF]; exact h
  | p :: r, d, hg, L, n, h => by
    unfold WfL at hg
    rw [altF]
    exact alt_ris r d hg.2 _ _ (((lay_ris p d hg.1 L h).join _ _).join _ _)
theorem one_ris : ∀ (op : Int) (ps : List Nd) (d : Nat), WfL d ps → ∀ (L : List Sta) (n : Nat), Ris L → Ris (oneF op ps L n)
  | op, [], d, _, L, n, h => by rw [oneF]; exact h
  | op, p :: r, d, hg, L, n, h => by
    unfold WfL at hg
    have h1 := (((lay_ris p d hg.1 L h).join n [(L.length : Int), (n : Int) + 1]).join (L.length + 1) [(n : Int) + 1])
    rw [oneF]
    split
    · exact h1.join _ _
    · exact h1
end

/-- a list of states as New lays it -/
structure Laws (S : List Sta) : Prop where
  pos : 1 < S.length
  len : S.length ≤ 1000
  fine : Fine S S.length
  few : ∀ i, (at_ S i).free.length ≤ 100000
  ris : Ris S

theorem mach_laws {x : Nd} (h : RightX x) : Laws (mach x) := by
  have hg := Wf_good x 1 h.1
  have hl := mach_len hg
  have hc := cnt_pos x
  have h2 := h.2
  refine ⟨by omega, by omega, by rw [hl]; exact mach_fine hg, fun i => ?_, lay_ris x 1 h.1 [] (fun i => by simp [at_, z0]; exact rising_nil)⟩
  by_cases hi : i < (mach x).length
  · rw [at_get hi]
    have h3 := free_le hi
    have h4 := edges_lay x []
    have h5 : edges (mach x) + 2 ≤ 6 * cnt x := by
      have h6 : edges ([] : List Sta) = 0 := by simp [edges]
      have h7 : edges (mach x) + 2 ≤ edges [] + 6 * cnt x := h4
      omega
    omega
  · have : at_ (mach x) i = z0 := by unfold at_; simp [List.getElem?_eq_none (Nat.le_of_not_lt hi)]
    rw [this]; simp [z0]

/-- the states behind one class more -/
noncomputable def stepL (S : List Sta) (s : List Int) (c : Int) : List Int := closedL S ((s.filter fun n => (at_ S n.toNat).takes.any fun x => c == x).map (· + 1))

theorem closedL_range {S : List Sta} {l : List Int} {v : Int} (h : v ∈ closedL S l) : 0 ≤ v ∧ v < S.length := by
  obtain ⟨k, rfl, h1, -⟩ := mem_closedL.1 h
  omega

open Classical in
theorem closedL_length (S : List Sta) (l : List Int) : (closedL S l).length ≤ S.length := by
  unfold closedL
  rw [List.length_map]
  exact Nat.le_trans (List.length_filter_le _ _) (by simp)

theorem start_any (w : World) (m : Nat) (S : List Sta) (hM : MachR w m S) (hS : Laws S) :
    Calls Try.prog 81 #[.pointer (some ⟨m, 0, none⟩)] w (ClosedPost w S [0]) := by
  have HM := Lib.hid hM
  have HS := Lib.hid hS
  obtain ⟨pl, cl, m0, mc, m1, m2, mlt, mx⟩ := hM.get
  clear mx m0 m2 hM hS mc
  go_enter Try.func81, Try.ntmps81
  go_wp2_with fail
  have hb := below_alloc1 w (.cells #[.int .i64 0] 3)
  have hl := HS.out.len
  have hp := HS.out.pos
  refine (closed_any _ m S S.length (HM.out.to hb) rfl (by omega) (by omega) HS.out.fine HS.out.few _ [0] (Raw.of_block (cs := [.int .i64 0]) (heap_alloc_new _ _)) (by simp) (by simp; omega)).mono ?_
  rintro e w1 ⟨v, rfl, hown, hb1⟩
  have HOW := Lib.hid (hown.based hb.size)
  have HB := Lib.hid (hb.trans (hb1.mono hb.size))
  clear hown hb hb1 hl hp
  go_wp2_with fail
  go_ret
  exact ⟨_, rfl, HOW.out, HB.out⟩

theorem accepts_any (w : World) (m : Nat) (S : List Sta) (hM : MachR w m S) (v : Value) (s : List Int) (hv : Ints w v s) (hlen : s.length ≤ 1000000) :
    Calls Try.prog 106 #[.pointer (some ⟨m, 0, none⟩), v] w fun e w' => e = .returned (.bool (s.any fun x => 1 == x)) ∧ w = w' := by
  obtain ⟨pl, cl, m0, mc, m1, m2, mlt, mx⟩ := hM.get
  have HC := Lib.hid (contains_ints w v s 1 (by omega) hv)
  generalize s.any (fun x => 1 == x) = b at *
  clear mx m0 m1 hM hv mc
  go_enter Try.func106, Try.ntmps106
  go_wp2_with fail
  refine HC.out.mono ?_
  rintro e w' ⟨rfl, rfl⟩
  go_wp2_with fail
  go_ret
  exact ⟨rfl, rfl⟩

def stepTo (S : List Sta) (s : List Int) (c : Int) : List Int := (s.filter fun n => (at_ S n.toNat).takes.any fun x => c == x).map (· + 1)

theorem stepTo_snoc {S : List Sta} {s : List Int} {c : Int} {k : Nat} (hk : k < s.length) (b : Bool) (hb : ((at_ S s[k].toNat).takes.any fun x => c == x) = b) : stepTo S (s.take (k + 1)) c = stepTo S (s.take k) c ++ (if b then [s[k] + 1] else []) := by
  unfold stepTo
  rw [List.take_succ_eq_append_getElem hk, List.filter_append, List.map_append]
  congr 1
  simp only [List.filter_cons, List.filter_nil, hb]
  cases b <;> simp

theorem stepTo_len (S : List Sta) (s : List Int) (c : Int) : (stepTo S s c).length ≤ s.length := by
  unfold stepTo
  rw [List.length_map]
  exact List.length_filter_le _ _

set_option maxRecDepth 100000 in
set_option maxHeartbeats 4000000 in
theorem step_any (w : World) (m : Nat) (S : List Sta) (hM : MachR w m S) (hS : Laws S) (v : Value) (s : List Int) (c : Int) (hv : Ints w v s) (hlen : s.length ≤ 100000) (hs : ∀ v ∈ s, 0 ≤ v ∧ v < S.length) :
    Calls Try.prog 103 #[.pointer (some ⟨m, 0, none⟩), v, .int .i64 c] w (ClosedPost w S (stepTo S s c)) := by
  have HM := Lib.hid hM
  have HS := Lib.hid hS
  have HSR := Lib.hid hs
  obtain ⟨p, cp, rfl, hc, hx⟩ := hv.get
  have HX := Lib.hid hx
  clear hM hS hv hx hs
  go_enter Try.func103, Try.ntmps103
  go_wp2_with fail
  go_loopw [7, 12] (fun u i wr => ∃ k : Nat, i = .int .i64 k ∧ k ≤ s.length ∧ OwnL intE 3 1 w.heap.size wr u (stepTo S (s.take k) c) ∧ Below w.heap.size w wr) (fun _ i _ => s.length - (intOf i).toNat)
  case atStart => exact ⟨0, rfl, by omega, OwnL.nil _, Below.refl _ _⟩
  case round =>
    obtain ⟨k, rfl, h1, hown, hb⟩ := hrel
    obtain ⟨pu, cu, hu⟩ := hown.form
    subst hu
    have hl := stepTo_len S (s.take k) c
    rw [List.length_take] at hl
    have HOW := Lib.hid hown
    have HB := Lib.hid hb
    have HL := Lib.hid hl
    have hbs := hb.size
    clear hown hl
    by_cases hk : k < s.length
    · obtain ⟨bb, off, rfl, hbl, hxx⟩ := HX.out (by omega)
      have c0 := cell_below hb hbl (hxx k hk)
      obtain ⟨n, hne⟩ : ∃ n, n = s[k] := ⟨_, rfl⟩
      have hnr := HSR.out n (by rw [hne]; exact List.getElem_mem hk)
      obtain ⟨j, rfl⟩ : ∃ j : Nat, n = j := ⟨n.toNat, by omega⟩
      rw [← hne] at c0
      have HNE := Lib.hid hne
      have hjl : j < S.length := by omega
      obtain ⟨pl, cl, m0, mc, -, -, mlt, mx⟩ := HM.out.get
      obtain ⟨bl, offl, rfl, bllt, mx⟩ := mx (by omega)
      obtain ⟨fv, tv, -, -, l2, -, htv⟩ := mx j hjl
      have hat := at_get hjl
      rw [← hat] at htv
      have k0 := cell_below hb mlt m0
      have k2 := cell_below hb bllt l2
      have hris := HS.out.ris j
      have hrl := rising_len hris
      have HCN := Lib.hid (contains_ints wr tv (at_ S j).takes c (by omega) (htv.to hb (Nat.le_refl _)))
      have HSN := Lib.hid (stepTo_snoc (S := S) (c := c) hk _ rfl)
      rw [← hne, Int.toNat_natCast] at HSN
      generalize (at_ S j).takes.any (fun x => c == x) = b at *
      have j0 : (0 : Int) ≤ j := by omega
      have j1 : (j : Int) < S.length := by omega
      have j2 := HS.out.len
      have hkk : (k : Int) < s.length := by omega
      have hk0 : (0 : Int) ≤ k := by omega
      clear hxx hne hnr mx l2 htv hat m0 hris hrl
      go_wp2_with fail
      refine HCN.out.mono ?_
      rintro e w1 ⟨rfl, rfl⟩
      cases b
      · have HREL := Lib.hid (show OwnL intE 3 1 w.heap.size wr (.slice pu (stepTo S (s.take k) c).length cu) (stepTo S (s.take (k + 1)) c) by rw [HSN.out]; simp; exact HOW.out)
        clear hb
        go_wp2_with fail
        go_roundw
        case rel => exact ⟨k + 1, by go_num, by omega, HREL.out, HB.out⟩
        case measure => simp [intOf]; omega
      · have hap := below_alloc1 wr (.cells #[.int .i64 ((j : Int) + 1)] 3)
        have HNEW := Lib.hid (ReadL.one (E := intE) (sz := 1) wr 3 ((j : Int) + 1) [.int .i64 ((j : Int) + 1)] (by simp [Value.oneCell']) rfl)
        have HAP := Lib.hid hap
        clear hb hap
        go_wp2_with (refine wpList_append_ints rfl (.tmp 39) (.tmp 42) rfl (.slice pu (stepTo S (s.take k) c).length cu) (stepTo S (s.take k) c) rfl (base := w.heap.size) (HOW.out.below HAP.out (Nat.le_refl _)) _ [(j : Int) + 1] rfl HNEW.out (by have := HL.out; simp; omega) (Nat.le_trans hbs HAP.out.size) ?_; intro p1 c1 w4 hown4 hg4 hlie4)
        have HREL := Lib.hid (show OwnL intE 3 1 w.heap.size w4 (.slice p1 ((stepTo S (s.take k) c).length + [(j : Int) + 1].length) c1) (stepTo S (s.take (k + 1)) c) ∧ Below w.heap.size w w4 by
          refine ⟨by rw [HSN.out]; exact hown4, ?_⟩
          have h1 := HB.out.trans (HAP.out.mono hbs)
          exact h1.trans ((Fr.grown (F := fun q => (Value.slice pu (stepTo S (s.take k) c).length cu).ownBlock = some q) hg4 (fun q h => h)).below h1.size (fun q hq => (HOW.out.lt q hq).1)))
        clear hown4 hg4 hlie4
        go_wp2_with fail
        go_roundw
        case rel => exact ⟨k + 1, by go_num, by omega, HREL.out.1, HREL.out.2⟩
        case measure => simp [intOf]; omega
    · have hkk : ¬ (k : Int) < s.length := by omega
      have hke : s.take k = s := List.take_of_length_le (by omega)
      have HKE := Lib.hid hke
      clear hke
      go_wp2_with fail
      have hl := HL.out
      rw [HKE.out] at hl ⊢
      have hM1 := HM.out.to hb
      have h2 := HS.out.len
      have h3 := HS.out.pos
      have hi : Ints wr (.slice pu (stepTo S s c).length cu) (stepTo S s c) := by have := HOW.out.read.ints; rwa [HKE.out] at this
      refine (closed_any wr m S S.length hM1 rfl (by omega) (by omega) HS.out.fine HS.out.few _ (stepTo S s c) hi (by omega) ?_).mono ?_
      · intro v hv
        unfold stepTo at hv
        simp only [List.mem_map, List.mem_filter] at hv
        obtain ⟨n, ⟨h4, h5⟩, rfl⟩ := hv
        have h6 := HSR.out n h4
        have h7 : (at_ S n.toNat).takes ≠ [] := fun h => by rw [h] at h5; simp at h5
        have h8 := (HS.out.fine.takes _ h7).2
        omega
      rintro e w1 ⟨v, rfl, hown, hb1⟩
      have HOW1 := Lib.hid (hown.based hbs)
      have HB1 := Lib.hid (hb.trans (hb1.mono hbs))
      clear hown hb1 hl hM1 h2 h3 hi hb
      go_wp2_with fail
      go_ret
      exact ⟨_, rfl, HOW1.out, HB1.out⟩

/-- the states behind a row -/
noncomputable def runL (S : List Sta) (row : List Int) : List Int := row.foldl (fun s c => closedL S (stepTo S s c)) (closedL S [0])

theorem runL_snoc (S : List Sta) (row : List Int) (c : Int) : runL S (row ++ [c]) = closedL S (stepTo S (runL S row) c) := by simp [runL]

theorem runL_closed (S : List Sta) (row : List Int) : ∃ l, runL S row = closedL S l := by
  rcases List.eq_nil_or_concat row with rfl | ⟨r, c, rfl⟩
  · exact ⟨_, rfl⟩
  · exact ⟨_, by rw [List.concat_eq_append, runL_snoc]⟩

theorem runL_range {S : List Sta} {row : List Int} {v : Int} (h : v ∈ runL S row) : 0 ≤ v ∧ v < S.length := by
  obtain ⟨l, e⟩ := runL_closed S row
  rw [e] at h
  exact closedL_range h

theorem runL_length (S : List Sta) (row : List Int) : (runL S row).length ≤ S.length := by
  obtain ⟨l, e⟩ := runL_closed S row
  rw [e]; exact closedL_length S l

end Go.Proofs.Ythmaokjhncokdaa

