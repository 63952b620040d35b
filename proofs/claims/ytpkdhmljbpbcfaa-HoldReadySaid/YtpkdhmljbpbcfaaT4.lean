/-
  Lists of operations by author and number, and how a hold lies in memory. No condition beyond what each theorem names.
-/
import Derived.Test.YtpkdhmljbpbcfaaT3
set_option linter.unusedVariables false
set_option linter.unusedSimpArgs false
namespace Go.Proofs.Ytpkdhmljbpbcfaa
open Go.RowKit

def lt (a b : OpV) : Prop := a.author < b.author ∨ (a.author = b.author ∧ a.seq < b.seq)
def Sorted (xs : List OpV) : Prop := xs.Pairwise lt
def sameId (author seq : Int) (o : OpV) : Bool := o.author == author && o.seq == seq
def pos (author seq : Int) (xs : List OpV) : Nat := xs.findIdx (fits author seq)

theorem pos_le (author seq : Int) (xs : List OpV) : pos author seq xs ≤ xs.length := List.findIdx_le_length

theorem pos_fits {author seq : Int} {xs : List OpV} (hs : Sorted xs) {i : Nat} (hi : i < xs.length) : fits author seq xs[i] = decide (pos author seq xs ≤ i) := by
  by_cases h : pos author seq xs ≤ i
  · have hp : pos author seq xs < xs.length := by omega
    have h1 : fits author seq (xs[pos author seq xs]'hp) = true := List.findIdx_getElem (w := hp)
    simp only [h, decide_true]
    by_cases e : pos author seq xs = i
    · simpa [e] using h1
    · have h2 : lt (xs[pos author seq xs]'hp) xs[i] := (List.pairwise_iff_getElem.1 hs) _ _ hp hi (by omega)
      simp only [fits, lt, Bool.or_eq_true, Bool.and_eq_true, decide_eq_true_eq] at h1 h2 ⊢
      omega
  · have h1 := List.not_of_lt_findIdx (p := fits author seq) (xs := xs) (i := i) (by simpa [pos] using h)
    simp [h] 
    simpa using h1

theorem pos_any {author seq : Int} {xs : List OpV} (hs : Sorted xs) : xs.any (sameId author seq) = decide (∃ h : pos author seq xs < xs.length, sameId author seq (xs[pos author seq xs]'h) = true) := by
  rw [Bool.eq_iff_iff, decide_eq_true_iff, List.any_eq_true]
  constructor
  · rintro ⟨o, ho, he⟩
    obtain ⟨j, hj, rfl⟩ := List.getElem_of_mem ho
    have hf : fits author seq xs[j] = true := by
      simp only [sameId, fits, Bool.and_eq_true, beq_iff_eq, Bool.or_eq_true, decide_eq_true_eq] at he ⊢; omega
    rw [pos_fits hs hj, decide_eq_true_iff] at hf
    have hp : pos author seq xs < xs.length := by omega
    refine ⟨hp, ?_⟩
    by_cases e : pos author seq xs = j
    · simpa [e] using he
    · have h1 : fits author seq (xs[pos author seq xs]'hp) = true := List.findIdx_getElem (w := hp)
      have h2 : lt (xs[pos author seq xs]'hp) xs[j] := (List.pairwise_iff_getElem.1 hs) _ _ hp hj (by omega)
      simp only [sameId, fits, lt, Bool.and_eq_true, beq_iff_eq, Bool.or_eq_true, decide_eq_true_eq] at he h1 h2 ⊢
      omega
  · rintro ⟨hp, he⟩
    exact ⟨_, List.getElem_mem hp, he⟩

/-- operations as cells -/
def flat (xs : List OpV) : List Value := xs.flatMap OpV.cells
theorem length_flat (xs : List OpV) : (flat xs).length = xs.length * 7 := by
  induction xs with
  | nil => rfl
  | cons o r ih => simp [flat, List.flatMap_cons, OpV.cells] at ih ⊢; omega

theorem flat_get {xs : List OpV} {i : Nat} (hi : i < xs.length) {j : Nat} (hj : j < 7) : (flat xs)[i * 7 + j]? = (xs[i].cells)[j]? := by
  induction xs generalizing i with
  | nil => simp at hi
  | cons o r ih =>
    cases i with
    | zero => simp only [flat, List.flatMap_cons]; rw [List.getElem?_append_left (by simp [OpV.cells]; omega)]; simp
    | succ i =>
      simp only [flat, List.flatMap_cons]
      rw [List.getElem?_append_right (by simp [OpV.cells]; omega)]
      have := ih (i := i) (by simpa using hi)
      simp only [flat] at this
      rw [show (i + 1) * 7 + j - o.cells.length = i * 7 + j by simp [OpV.cells]; omega, this]
      simp

/-- a hold: room, operations; F: its blocks -/
structure HoldAt (w : World) (F : Nat → Prop) (bh : Nat) (room : Int) (v : Value) (xs : List OpV) : Prop where
  head : w.heap[bh]? = some (.cells #[.int .i64 room, v] 55 (0, 0))
  row : w.ownsRow 0 30 7 v xs.length (flat xs)
  own : F bh
  own' : ∀ k, v.ownBlock = some k → F k
  lt : ∀ k, F k → k < w.heap.size
  sorted : Sorted xs

theorem ownsRow_rd {w : World} {v : Value} {xs : List OpV} (h : w.ownsRow 0 30 7 v xs.length (flat xs)) : Rd w v xs := by
  rcases h.2 with ⟨rfl, h0⟩ | ⟨g, cap, cur, rfl, -, hg, -, -, hs, ht⟩
  · exact ⟨none, 0, by rw [h0], fun h => by omega⟩
  · refine ⟨_, cap, rfl, fun _ => ⟨g, 0, rfl, fun j hj => ?_⟩⟩
    have key : ∀ i, i < 7 → w.cell? ⟨g, 0 + j * 7 + i, none⟩ = (xs[j].cells)[i]? := by
      intro i hi
      have h1 := h.cells (g := g) rfl (0 + j * 7 + i)
      have h2 := flat_get hj hi
      have h3 : i < xs[j].cells.length := by simp [OpV.cells]; omega
      rw [List.getElem?_eq_getElem h3] at h2 ⊢
      have h4 := h1 _ (by rw [Nat.zero_add]; exact h2)
      have hadd : (⟨g, 0, none⟩ : Addr).add (0 + j * 7 + i) = ⟨g, 0 + j * 7 + i, none⟩ := by unfold Addr.add; split <;> simp_all
      rw [hadd] at h4; exact h4
    exact ⟨key 0 (by omega), key 1 (by omega), key 2 (by omega), key 3 (by omega), key 4 (by omega), key 5 (by omega), key 6 (by omega)⟩

end Go.Proofs.Ytpkdhmljbpbcfaa
