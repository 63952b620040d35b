/-
  Bits; rules of small classes. Plain theorems; no program.
-/
import Derived.Test.YtphgjppeindbaaaV
set_option linter.unusedVariables false
set_option linter.unusedSimpArgs false
namespace Go.Proofs.Ytphgjppeindbaaa
open Go.RowKit

theorem bits_and_le (x : Int) (m : Nat) (hm : m < 9223372036854775808) : 0 ≤ bits .and .i64 x m ∧ bits .and .i64 x m ≤ m := by
  have h1 : (BitVec.ofInt 64 x &&& BitVec.ofInt 64 (m : Int)).toNat ≤ m := by
    rw [BitVec.toNat_and]
    refine Nat.le_trans Nat.and_le_right ?_
    rw [BitVec.toNat_ofInt]
    omega
  have h2 : bits .and .i64 x m = ((BitVec.ofInt 64 x &&& BitVec.ofInt 64 (m : Int)).toNat : Int) := by
    have h : bits .and .i64 x m = IntKind.wrap .i64 ((BitVec.ofInt 64 x &&& BitVec.ofInt 64 (m : Int)).toNat : Int) := rfl
    rw [h]
    generalize (BitVec.ofInt 64 x &&& BitVec.ofInt 64 (m : Int)).toNat = z at *
    have e : (z : Int) % 18446744073709551616 = z := by omega
    show (if (true && decide ((z : Int) % 18446744073709551616 ≥ 9223372036854775808)) = true then (z : Int) % 18446744073709551616 - 18446744073709551616 else (z : Int) % 18446744073709551616) = z
    rw [e]
    simp
    omega
  omega

theorem anyC_mono {q r : Int → Bool} (h : ∀ c, q c = true → r c = true) : ∀ (x : Nd), anyC q x = true → anyC r x = true
  | .mk op cls ps, hx => by
    rw [anyC_mk, Bool.or_eq_true] at hx
    rcases hx with hx | hx
    · obtain ⟨c, hc, hq⟩ := List.any_eq_true.1 hx
      exact anyC_cls hc (h c hq)
    · obtain ⟨y, hy, hq⟩ := List.any_eq_true.1 hx
      have := List.sizeOf_lt_of_mem hy
      exact anyC_part hy (anyC_mono h y hq)
  termination_by x => SizeOf.sizeOf x
  decreasing_by simp; omega

theorem small_cls {x : Nd} {c : Int} (h : anyC gt3 x = false) (hc : anyC (eqC c) x = true) : c ≤ 3 := by
  by_cases h3 : c > 3
  · have := anyC_mono (q := eqC c) (r := gt3) (fun d hd => by simp [eqC] at hd; simp [gt3]; omega) x hc
    rw [h] at this; cases this
  · omega

/-- texts that differ only in classes above 3 -/
def alike (s u : List Int) : Prop := s.length = u.length ∧ ∀ i (h : i < s.length) (h' : i < u.length), (s[i] ≤ 3 → u[i] = s[i]) ∧ (3 < s[i] → 3 < u[i])

theorem alike_fwd {s u : List Int} (h : alike s u) {i : Nat} {c : Int} (hc : s[i]? = some c) (h3 : c ≤ 3) : u[i]? = some c := by
  obtain ⟨hi, rfl⟩ := List.getElem?_eq_some_iff.1 hc
  have hi' : i < u.length := by have := h.1; omega
  rw [List.getElem?_eq_getElem hi']
  exact congrArg some (((h.2 i hi hi').1) h3)
theorem alike_bwd {s u : List Int} (h : alike s u) {i : Nat} {c : Int} (hc : u[i]? = some c) (h3 : c ≤ 3) : s[i]? = some c := by
  obtain ⟨hi, rfl⟩ := List.getElem?_eq_some_iff.1 hc
  have hi' : i < s.length := by have := h.1; omega
  rw [List.getElem?_eq_getElem hi']
  have h1 := h.2 i hi' hi
  by_cases h4 : s[i] ≤ 3
  · exact congrArg some (h1.1 h4).symm
  · have := h1.2 (by omega); omega

theorem alike_M {s u : List Int} (h : alike s u) {x : Nd} (hx : anyC gt3 x = false) {a b : Nat} : M s x a b ↔ M u x a b :=
  ⟨M_map (n := b) x (fun i c _ hc hq => alike_fwd h hc (small_cls hx hq)) (Nat.le_refl _), M_map (n := b) x (fun i c _ hc hq => alike_bwd h hc (small_cls hx hq)) (Nat.le_refl _)⟩

/-- neither side has a class above 3 -/
def smallR (r : Rl) : Bool := !(anyC gt3 r.left || anyC gt3 r.right)

theorem alike_fits {s u : List Int} (h : alike s u) {r : Rl} (hr : smallR r = true) (p : Int) : fitsB r s p = fitsB r u p := by
  simp only [smallR, Bool.not_eq_true', Bool.or_eq_false_iff] at hr
  rw [Bool.eq_iff_iff, fitsB_iff, fitsB_iff, h.1]
  unfold FitsAt
  simp only [alike_M h hr.1, alike_M h hr.2, h.1]

theorem find_congr {l : List Rl} {q r : Rl → Bool} (h : ∀ x ∈ l, q x = r x) : l.find? q = l.find? r := by
  induction l with
  | nil => rfl
  | cons x t ih =>
    rw [List.find?_cons, List.find?_cons, h x (by simp), ih (fun y hy => h y (by simp [hy]))]

theorem alike_bnds {s u : List Int} (h : alike s u) {l : List Rl} (hl : ∀ r ∈ l, smallR r = true) : bnds l s = bnds l u := by
  unfold bnds
  rw [h.1]
  refine List.map_congr_left fun p _ => ?_
  unfold bndB
  rw [h.1, find_congr (fun x hx => alike_fits h (hl x hx) p)]
end Go.Proofs.Ytphgjppeindbaaa
