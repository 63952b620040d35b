/-
  Matching goes forward; bits. No condition beyond what each theorem names.
-/
import Derived.Test.YtmooflmhbpckjaaKU
set_option linter.unusedVariables false
set_option linter.unusedSimpArgs false
namespace Go.Proofs.Ytmooflmhbpckjaa
open Go.RowKit

theorem Mseq_le {t : List Int} : ∀ {l : List Nd} {a b : Nat}, Mseq t l a b → a ≤ b
  | [], a, b, h => by simp only [Mseq] at h; omega
  | x :: r, a, b, h => by
    simp only [Mseq] at h
    obtain ⟨c, h1, h2⟩ := h
    exact Nat.le_trans (M_le h1) (Mseq_le h2)

theorem Malt_le {t : List Int} {l : List Nd} {a b : Nat} (h : Malt t l a b) : a ≤ b := by
  obtain ⟨x, _, h⟩ := Malt_mem.1 h
  exact M_le h
theorem bits_and_le (x : Int) (m : Nat) (hm : m < 9223372036854775808) : 0 ≤ bits .and .i64 x m ∧ bits .and .i64 x m ≤ m := by
  have h1 : (BitVec.ofInt 64 x &&& BitVec.ofInt 64 (m : Int)).toNat ≤ m := by
    rw [BitVec.toNat_and]
    refine Nat.le_trans Nat.and_le_right ?_
    rw [BitVec.toNat_ofInt]
    omega
  have h2 : bits .and .i64 x m = ((BitVec.ofInt 64 x &&& BitVec.ofInt 64 (m : Int)).toNat : Int) := by
    have h : bits .and .i64 x m = IntKind.wrap .i64 ((BitVec.ofInt 64 x &&& BitVec.ofInt 64 (m : Int)).toNat : Int) := rfl
    rw [h]
    generalize (BitVec.ofInt 64 x &&& BitVec.ofInt 64 (m : Int)).toNat = z at *
    have e : (z : Int) % 18446744073709551616 = z := by omega
    show (if (true && decide ((z : Int) % 18446744073709551616 ≥ 9223372036854775808)) = true then (z : Int) % 18446744073709551616 - 18446744073709551616 else (z : Int) % 18446744073709551616) = z
    rw [e]
    simp
    omega
  omega

end Go.Proofs.Ytmooflmhbpckjaa
