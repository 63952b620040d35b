import Derived.Test.YthmaokjhncokdaaRows
import Derived.Test.YthmaokjhncokdaaSR
import Derived.Test.YthmaokjhncokdaaBP
import Derived.Test.YthmaokjhncokdaaB1
/-
  SegFirst answers true for every input, and leaves it as it was. No condition.
-/
set_option linter.unusedVariables false
namespace Go.Proofs.Ythmaokjhncokdaa
open Go.ChangeShapes Go.WideShapes Go.ChangeAt Go.RowKit

theorem segFirst_params : ∀ t ∈ Try.f10.params.toList, Try.prog.readableRec t = true ∧ t < Try.prog.types.size := by
  rw [Try.params10]
  intro t ht
  simp at ht
  rcases ht with rfl | rfl | rfl
  all_goals exact ⟨by kernel_rfl, of_decide_eq_true (by kernel_rfl)⟩

set_option maxRecDepth 100000 in
theorem segFirst_lifted (os : Os) (started : os.Started) (H : Type) (enc : TypeId × Value → H) :
    ReturnsInHanded {} Try.checked os 10 .any (Rows.segFirstSpec.pre6 enc Try.prog Try.f10 Rows.segFirstRow.domain false) (Rows.segFirstSpec.post enc Try.prog Try.f10 false true false false) := by
  refine returnsInHanded_of_change_sized (C := Try.checked) own started (by kernel_rfl) Try.func10
    (ChangeSpec.witness6 (enc := enc) (C := Try.checked) false ⟨#[], #[.agg #[.slice none 0 0, .slice none 0 0], .slice none 0 0, .bool false], []⟩ 8 (by kernel_rfl) (by kernel_rfl) (by kernel_rfl) (by kernel_rfl)) ?_
  intro W base args ds gs before hval0 hW hcnd hsz0 _
  have hval : ∀ (j : Nat) t v, Try.f10.params[j]? = some t → args[j]? = some v → Value.okWide Try.prog W .any base t v := hval0
  have hW' := hW
  obtain ⟨p, q, hA0, hV, rfl, hfz, hnd⟩ := hW
  have hA : DataW.TrodAll enc Try.prog W 0 (fun _ => true) true Try.f10.params.toList args.toList ds p := hA0
  have hsz : (DataW.weightsEach Try.prog (Try.f10.params.toList ++ Rows.segFirstSpec.plain.varTypes Try.prog) (ds ++ gs)).all (· ≤ reachBytes) = true := hsz0
  rw [Try.params10] at hA hval hsz
  obtain ⟨v0, vs0, d0, ds0, p0, q0, hargs, rfl, rfl, h0, rr0⟩ := trodAll_cons hA
  obtain ⟨v1, vs1, d1, ds1, p1, q1, rfl, rfl, rfl, h1, rr1⟩ := trodAll_cons rr0
  obtain ⟨v2, vs2, d2, ds2, p2, q2, rfl, rfl, rfl, h2, rr2⟩ := trodAll_cons rr1
  obtain ⟨rfl, rfl, rfl⟩ := trodAll_nil rr2
  obtain rfl : args = #[v0, v1, v2] := by cases args; simp_all
  have hs0 := sized_arg hsz 0 25 d0 rfl rfl
  obtain ⟨pc0, nc0, cc0, rv0, rs0, rfl, hcc0, hpc0, hnc0, hr0, hl0⟩ := ruleset_open (hval 0 25 v0 rfl rfl) h0 hs0
  have hs1 := sized_arg hsz 1 46 d1 rfl rfl
  obtain ⟨xs1, hx1, hb1, hw1⟩ := ints_open (hval 1 46 v1 rfl rfl) h1 hs1
  obtain ⟨b2, rfl, rfl, rfl⟩ := open_bool Try.underlying4 (hval 2 4 v2 rfl rfl) h2
  refine (first_law W pc0 nc0 cc0 hcc0 hpc0 rv0 rs0 hr0 (by have := hl0; unfold maxLen at this; omega) v1 xs1 hx1 (by have := hb1; unfold R at this; omega) b2).mono fun e W' ⟨he, hb⟩ => ?_
  subst he
  refine ⟨_, rfl, law_post (t := 4) laidOut segFirst_params (by kernel_rfl) Try.underlying4 rfl ?_ hW' hb⟩
  intro ds hds
  match ds, hds with
  | [d0, d1, d2], _ => exact ⟨rfl, rfl, rfl⟩

theorem segFirst : Rows.SegFirstSaid :=
  OpenClaim.holds_of_wide 10 Try.f10 rfl rfl rfl rfl rfl rfl rfl ⟨rfl, rfl, rfl, rfl, rfl⟩ rfl rfl rfl rfl rfl (by kernel_rfl) Try.func10 (by kernel_rfl)
    (of_decide_eq_true (by kernel_rfl)) (by unfold Func.isWrapper; first | (rw [if_pos (by decide +kernel)]; kernel_rfl) | (rw [if_neg (by decide +kernel)]; exact ⟨rfl, rfl⟩))
    (fun os started H enc _ => segFirst_lifted os started H enc)
#print axioms segFirst
end Go.Proofs.Ythmaokjhncokdaa

