import Derived.Test.YthmaokjhncokdaaBP
import Derived.Test.YthmaokjhncokdaaB2
/-
  A list of strings as an argument. Plain theorems; no condition.
-/
set_option linter.unusedVariables false
set_option linter.unusedSimpArgs false
set_option maxRecDepth 100000
namespace Go.Proofs.Ythmaokjhncokdaa
open Go.ChangeShapes Go.WideShapes Go.ChangeAt Go.RowKit Go.Deep
/-- a string, by its cell -/
def strE (x : ByteArray) (row : List Value) : Prop := row = [.string x]
section
variable {H : Type} {enc : TypeId × Value → H} {w : World} {base : Nat} {spare : Nat → Bool} {held : Bool}
theorem strs_open {r : Reach} {b0 : Nat} {v : Value} {d : DataW H} {p : List MemPlace} (hv : Value.okWide Try.prog w r b0 22 v) (h : DataW.Trod enc Try.prog w base spare held 22 v d p) (hs : Sized 22 d) : ∃ xs, ReadL strE 1 w v xs ∧ xs.length ≤ maxLen := by
  obtain ⟨a0, len0, cap0, rfl⟩ := okWide_slice Try.underlying22 hv
  obtain ⟨fuel, hf⟩ := h
  obtain ⟨v, n, rows, D, -, e, ⟨h1, h2⟩, -, hm, h4⟩ := slice_of Try.underlying22 (by rw [cellsStr]; omega) hf hs
  simp only [Value.cells, List.cons.injEq, and_true] at e
  subst e
  rw [cellsStr] at h1
  have hex : ∀ i, i < rows.length → ∃ y : ByteArray, rows[i]? = some [.string y] := by
    intro i hi
    obtain ⟨g, -⟩ := h4 i hi
    obtain ⟨y, e, -, -⟩ := DataW.trod_string Try.underlying9 g
    exact ⟨y, by rw [List.getElem?_eq_getElem hi, e]⟩
  obtain ⟨f, hf⟩ := choose_lt hex
  refine ⟨(List.range rows.length).map f, ⟨rows, by simpa using h2, by simp, fun r hr => ?_, fun i hi => ?_⟩, by simpa using hm⟩
  · obtain ⟨i, hi, rfl⟩ := List.getElem_of_mem hr
    have := hf i hi
    rw [List.getElem?_eq_getElem hi] at this
    rw [Option.some.inj this]
    exact ⟨rfl, by simp [Value.oneCell']⟩
  · have hi' : i < rows.length := by simpa using hi
    exact ⟨_, hf i hi', by simp [strE]⟩
end
end Go.Proofs.Ythmaokjhncokdaa

