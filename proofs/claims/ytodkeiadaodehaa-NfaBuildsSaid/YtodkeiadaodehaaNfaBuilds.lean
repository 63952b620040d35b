/-
  NfaBuilds answers true for every input, and leaves it as it was. No condition.
-/
import Derived.Test.YtodkeiadaodehaaRows
import Derived.Test.YtodkeiadaodehaaMA
import Derived.Test.YtodkeiadaodehaaKP
import Derived.Test.YtodkeiadaodehaaOwn
set_option linter.unusedVariables false
namespace Go.Proofs.Ytodkeiadaodehaa
open Go.ChangeShapes Go.WideShapes Go.ChangeAt Go.RowKit

theorem nfaBuilds_params : ∀ t ∈ Try.f4.params.toList, Try.prog.readableRec t = true ∧ t < Try.prog.types.size := by
  rw [Try.params4]
  intro t ht
  simp at ht
  rcases ht with rfl | rfl | rfl
  all_goals exact ⟨by kernel_rfl, of_decide_eq_true (by kernel_rfl)⟩

set_option maxRecDepth 100000 in
theorem nfaBuilds_lifted (os : Os) (started : os.Started) (H : Type) (enc : TypeId × Value → H) :
    ReturnsInHanded {} Try.checked os 4 .any (Rows.nfaBuildsSpec.pre6 enc Try.prog Try.f4 Rows.nfaBuildsRow.domain false) (Rows.nfaBuildsSpec.post enc Try.prog Try.f4 false true false false) := by
  refine returnsInHanded_of_change_sized (C := Try.checked) own started (by kernel_rfl) Try.func4
    (ChangeSpec.witness6 (enc := enc) (C := Try.checked) false ⟨#[], #[.agg #[.int .i64 0, .slice none 0 0, .slice none 0 0], .agg #[.int .i64 0, .slice none 0 0, .slice none 0 0], .slice none 0 0], []⟩ 8 (by kernel_rfl) (by kernel_rfl) (by kernel_rfl) (by kernel_rfl)) ?_
  intro W base args ds gs before hval0 hW hcnd hsz0 _
  have hval : ∀ (j : Nat) t v, Try.f4.params[j]? = some t → args[j]? = some v → Value.okWide Try.prog W .any base t v := hval0
  have hW' := hW
  obtain ⟨p, q, hA0, hV, rfl, hfz, hnd⟩ := hW
  have hA : DataW.TrodAll enc Try.prog W 0 (fun _ => true) true Try.f4.params.toList args.toList ds p := hA0
  have hsz : (DataW.weightsEach Try.prog (Try.f4.params.toList ++ Rows.nfaBuildsSpec.plain.varTypes Try.prog) (ds ++ gs)).all (· ≤ reachBytes) = true := hsz0
  rw [Try.params4] at hA hval hsz
  obtain ⟨v0, vs0, d0, ds0, p0, q0, hargs, rfl, rfl, h0, rr0⟩ := trodAll_cons hA
  obtain ⟨v1, vs1, d1, ds1, p1, q1, rfl, rfl, rfl, h1, rr1⟩ := trodAll_cons rr0
  obtain ⟨v2, vs2, d2, ds2, p2, q2, rfl, rfl, rfl, h2, rr2⟩ := trodAll_cons rr1
  obtain ⟨rfl, rfl, rfl⟩ := trodAll_nil rr2
  obtain rfl : args = #[v0, v1, v2] := by cases args; simp_all
  have hs0 := sized_arg hsz 0 25 d0 rfl rfl
  obtain ⟨x0, a0, b0, c0, rfl, hx0⟩ := node_open (hval 0 25 v0 rfl rfl) h0 hs0
  have hs1 := sized_arg hsz 1 25 d1 rfl rfl
  obtain ⟨x1, a1, b1, c1, rfl, hx1⟩ := node_open (hval 1 25 v1 rfl rfl) h1 hs1
  have hs2 := sized_arg hsz 2 22 d2 rfl rfl
  obtain ⟨xs2, hx2, hb2, hw2⟩ := ints_open (hval 2 22 v2 rfl rfl) h2 hs2
  refine (builds_law W x0 x1 _ _ _ _ _ _ v2 xs2 hx0 hx1 hx2 (by unfold R at hb2; omega)).mono fun e W' ⟨he, hb⟩ => ?_
  subst he
  refine ⟨_, rfl, law_post (t := 4) laidOut nfaBuilds_params (by kernel_rfl) Try.underlying4 rfl ?_ hW' hb⟩
  intro ds hds
  match ds, hds with
  | [d0, d1, d2], _ => exact ⟨rfl, rfl, rfl⟩

theorem nfaBuilds : Rows.NfaBuildsSaid :=
  OpenClaim.holds_of_wide 4 Try.f4 rfl rfl rfl rfl rfl rfl rfl ⟨rfl, rfl, rfl, rfl, rfl⟩ rfl rfl rfl rfl rfl (by kernel_rfl) Try.func4 (by kernel_rfl)
    (of_decide_eq_true (by kernel_rfl)) (by unfold Func.isWrapper; first | (rw [if_pos (by decide +kernel)]; kernel_rfl) | (rw [if_neg (by decide +kernel)]; exact ⟨rfl, rfl⟩))
    (fun os started H enc _ => nfaBuilds_lifted os started H enc)
#print axioms nfaBuilds
end Go.Proofs.Ytodkeiadaodehaa
