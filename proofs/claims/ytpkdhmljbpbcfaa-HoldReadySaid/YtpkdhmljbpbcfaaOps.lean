/-
  What an argument of operations reads as. Plain theorems; no condition.
-/
import Derived.Test.YtpkdhmljbpbcfaaRow
import Derived.Test.YtpkdhmljbpbcfaaT4
set_option linter.unusedVariables false
set_option linter.unusedSimpArgs false
namespace Go.Proofs.Ytpkdhmljbpbcfaa
open Go.ChangeShapes Go.WideShapes Go.ChangeAt Go.RowKit Go.Deep
section
variable {H : Type} {enc : TypeId × Value → H} {w : World} {base : Nat} {spare : Nat → Bool} {held : Bool}

theorem cells28 : Try.prog.cellsOf 28 = 2 := by kernel_rfl
theorem cells30 : Try.prog.cellsOf 30 = 7 := by kernel_rfl
theorem cells3 : Try.prog.cellsOf 3 = 1 := by kernel_rfl
theorem cells4 : Try.prog.cellsOf 4 = 1 := by kernel_rfl
theorem cells21 : Try.prog.cellsOf 21 = 1 := by kernel_rfl

theorem id_of {fuel : Nat} {cs : List Value} {x : DataW H × List MemPlace} (h : DataW.trod enc Try.prog w base spare held fuel 28 cs = some x) : ∃ a b : Int, cs = [.int .i64 a, .int .i64 b] := by
  obtain ⟨xs, n, _, rfl, hl, hlen, hf⟩ := DataW.trod_struct Try.underlying28 h
  rw [cells28] at hl
  match cs, hl with
  | [c0, c1], _ =>
    have hxl : xs.length = 2 := by simpa using hlen
    have h0 := hf 0 _ rfl
    have h1 := hf 1 _ rfl
    simp only [List.getElem_toArray, List.getElem_cons_zero, List.getElem_cons_succ, cells3] at h0 h1
    rw [List.getElem?_eq_getElem (show 0 < xs.length by omega)] at h0
    rw [List.getElem?_eq_getElem (show 1 < xs.length by omega)] at h1
    obtain ⟨a, e0, -⟩ := DataW.trod_int Try.underlying3 h0
    obtain ⟨b, e1, -⟩ := DataW.trod_int Try.underlying3 h1
    simp at e0 e1
    exact ⟨a, b, by rw [e0, e1]⟩

theorem op_of {fuel : Nat} {cs : List Value} {x : DataW H × List MemPlace} (h : DataW.trod enc Try.prog w base spare held fuel 30 cs = some x) : ∃ o : OpV, cs = o.cells := by
  obtain ⟨xs, n, _, rfl, hl, hlen, hf⟩ := DataW.trod_struct Try.underlying30 h
  rw [cells30] at hl
  match cs, hl with
  | [c0, c1, c2, c3, c4, c5, c6], _ =>
    have hxl : xs.length = 5 := by simpa using hlen
    have h0 := hf 0 _ rfl
    have h1 := hf 1 _ rfl
    have h2 := hf 2 _ rfl
    have h3 := hf 3 _ rfl
    have h4 := hf 4 _ rfl
    simp only [List.getElem_toArray, List.getElem_cons_zero, List.getElem_cons_succ, cells3, cells4, cells21, cells28] at h0 h1 h2 h3 h4
    rw [List.getElem?_eq_getElem (show 0 < xs.length by omega)] at h0
    rw [List.getElem?_eq_getElem (show 1 < xs.length by omega)] at h1
    rw [List.getElem?_eq_getElem (show 2 < xs.length by omega)] at h2
    rw [List.getElem?_eq_getElem (show 3 < xs.length by omega)] at h3
    rw [List.getElem?_eq_getElem (show 4 < xs.length by omega)] at h4
    obtain ⟨a, b, e0⟩ := id_of h0
    obtain ⟨c, e1, -⟩ := DataW.trod_int Try.underlying3 h1
    obtain ⟨d, e2, -⟩ := DataW.trod_bool Try.underlying4 h2
    obtain ⟨e, f, e3⟩ := id_of h3
    obtain ⟨g, e4, -⟩ := DataW.trod_int Try.underlying21 h4
    simp at e0 e1 e2 e3 e4
    exact ⟨⟨a, b, c, d, e, f, g⟩, by simp [OpV.cells, e0, e1, e2, e3, e4]⟩

/-- an argument that is a slice of operations -/
theorem ops_open {r : Reach} {b0 : Nat} {v : Value} {d : DataW H} {p : List MemPlace} (hv : Value.okWide Try.prog w r b0 22 v) (h : DataW.Trod enc Try.prog w base (fun _ => true) held 22 v d p) :
    ∃ xs : List OpV, Rd w v xs ∧ xs.length ≤ maxLen := by
  obtain ⟨a0, len0, cap0, rfl⟩ := okWide_slice Try.underlying22 hv
  obtain ⟨fuel, hf⟩ := h
  rcases open_slice Try.underlying22 hf with ⟨h1, -⟩ | ⟨a, len, cap, m, n, D, Pl, h1, hb, hl, hmx, hm, -, hi⟩
  · simp only [Value.cells, List.cons.injEq, and_true] at h1
    rw [h1]
    exact ⟨[], ⟨none, 0, rfl, fun h => by simp at h⟩, by simp [maxLen]⟩
  · simp only [Value.cells, List.cons.injEq, and_true] at h1
    rw [h1]
    simp only [if_true] at hm
    subst hm
    rw [cells30] at hi
    have hex : ∀ i, i < len → ∃ o : OpV, w.cells? base (a.add (i * 7)) 7 = some o.cells := by
      intro i hil
      obtain ⟨cs', hc, ht⟩ := hi i (by omega)
      obtain ⟨o, rfl⟩ := op_of ht
      exact ⟨o, hc⟩
    obtain ⟨f, hf⟩ := choose_lt hex
    refine ⟨(List.range len).map f, ⟨some a, m, by simp, fun h0 => ?_⟩, by simp; omega⟩
    simp only [List.length_map, List.length_range] at h0
    obtain ⟨b, off, spot⟩ := a
    have hcell : ∀ i, i < len → ∀ j, j < 7 → w.cell? (((⟨b, off, spot⟩ : Addr).add (i * 7)).add j) = (f i).cells[j]? := fun i hil j hj => (World.cells?_some (hf i hil)).2.2 j hj
    have hspot : spot = none := by
      have := hcell 0 h0 0 (by omega)
      simpa [Addr.add] using World.cell?_spot (this.trans rfl)
    subst hspot
    refine ⟨b, off, rfl, fun j hj => ?_⟩
    simp only [List.length_map, List.length_range] at hj
    simp only [List.getElem_map, List.getElem_range]
    have key : ∀ k, k < 7 → w.cell? ⟨b, off + j * 7 + k, none⟩ = (f j).cells[k]? := by
      intro k hk
      have := hcell j hj k hk
      rw [add_plain, add_plain] at this
      exact this
    exact ⟨key 0 (by omega), key 1 (by omega), key 2 (by omega), key 3 (by omega), key 4 (by omega), key 5 (by omega), key 6 (by omega)⟩
end
end Go.Proofs.Ytpkdhmljbpbcfaa
