/-
  NfaRights answers true for every input, and leaves it as it was. No condition.
-/
import Derived.Test.YtodkeiadaodehaaRows
import Derived.Test.YtodkeiadaodehaaMM
import Derived.Test.YtodkeiadaodehaaKP
import Derived.Test.YtodkeiadaodehaaOwn
set_option linter.unusedVariables false
namespace Go.Proofs.Ytodkeiadaodehaa
open Go.ChangeShapes Go.WideShapes Go.ChangeAt Go.RowKit

theorem nfaRights_params : ∀ t ∈ Try.f7.params.toList, Try.prog.readableRec t = true ∧ t < Try.prog.types.size := by
  rw [Try.params7]
  intro t ht
  simp at ht
  rcases ht with rfl
  all_goals exact ⟨by kernel_rfl, of_decide_eq_true (by kernel_rfl)⟩

set_option maxRecDepth 100000 in
theorem nfaRights_lifted (os : Os) (started : os.Started) (H : Type) (enc : TypeId × Value → H) :
    ReturnsInHanded {} Try.checked os 7 .any (Rows.nfaRightsSpec.pre6 enc Try.prog Try.f7 Rows.nfaRightsRow.domain false) (Rows.nfaRightsSpec.post enc Try.prog Try.f7 false true false false) := by
  refine returnsInHanded_of_change_sized (C := Try.checked) own started (by kernel_rfl) Try.func7
    (ChangeSpec.witness6 (enc := enc) (C := Try.checked) false ⟨#[], #[.agg #[.int .i64 0, .slice none 0 0, .slice none 0 0]], []⟩ 8 (by kernel_rfl) (by kernel_rfl) (by kernel_rfl) (by kernel_rfl)) ?_
  intro W base args ds gs before hval0 hW hcnd hsz0 _
  have hval : ∀ (j : Nat) t v, Try.f7.params[j]? = some t → args[j]? = some v → Value.okWide Try.prog W .any base t v := hval0
  have hW' := hW
  obtain ⟨p, q, hA0, hV, rfl, hfz, hnd⟩ := hW
  have hA : DataW.TrodAll enc Try.prog W 0 (fun _ => true) true Try.f7.params.toList args.toList ds p := hA0
  have hsz : (DataW.weightsEach Try.prog (Try.f7.params.toList ++ Rows.nfaRightsSpec.plain.varTypes Try.prog) (ds ++ gs)).all (· ≤ reachBytes) = true := hsz0
  rw [Try.params7] at hA hval hsz
  obtain ⟨v0, vs0, d0, ds0, p0, q0, hargs, rfl, rfl, h0, rr0⟩ := trodAll_cons hA
  obtain ⟨rfl, rfl, rfl⟩ := trodAll_nil rr0
  obtain rfl : args = #[v0] := by cases args; simp_all
  have hs0 := sized_arg hsz 0 25 d0 rfl rfl
  obtain ⟨x0, a0, b0, c0, rfl, hx0⟩ := node_open (hval 0 25 v0 rfl rfl) h0 hs0
  refine (rights_law W x0 _ _ _ hx0).mono fun e W' ⟨he, hb⟩ => ?_
  subst he
  refine ⟨_, rfl, law_post (t := 4) laidOut nfaRights_params (by kernel_rfl) Try.underlying4 rfl ?_ hW' hb⟩
  intro ds hds
  match ds, hds with
  | [d0], _ => exact ⟨rfl, rfl, rfl⟩

theorem nfaRights : Rows.NfaRightsSaid :=
  OpenClaim.holds_of_wide 7 Try.f7 rfl rfl rfl rfl rfl rfl rfl ⟨rfl, rfl, rfl, rfl, rfl⟩ rfl rfl rfl rfl rfl (by kernel_rfl) Try.func7 (by kernel_rfl)
    (of_decide_eq_true (by kernel_rfl)) (by unfold Func.isWrapper; first | (rw [if_pos (by decide +kernel)]; kernel_rfl) | (rw [if_neg (by decide +kernel)]; exact ⟨rfl, rfl⟩))
    (fun os started H enc _ => nfaRights_lifted os started H enc)
#print axioms nfaRights
end Go.Proofs.Ytodkeiadaodehaa
