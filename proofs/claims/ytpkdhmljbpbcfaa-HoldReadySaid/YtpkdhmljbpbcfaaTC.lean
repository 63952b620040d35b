/-
  What Add makes of a list. No condition beyond what each theorem names.
-/
import Derived.Test.YtpkdhmljbpbcfaaTB
set_option linter.unusedVariables false
set_option linter.unusedSimpArgs false
namespace Go.Proofs.Ytpkdhmljbpbcfaa
open Go.RowKit

def ins (xs : List OpV) (i : Nat) (o : OpV) : List OpV := xs.take i ++ o :: xs.drop i
def addTo (room : Int) (xs : List OpV) (o : OpV) : List OpV :=
  if xs.any (sameId o.author o.seq) then xs else if room ≤ xs.length then xs else ins xs (pos o.author o.seq xs) o
def addErr (room : Int) (xs : List OpV) (o : OpV) : Int :=
  if xs.any (sameId o.author o.seq) then 0 else if room ≤ xs.length then 8 else 0

theorem sorted_insert {xs : List OpV} (hs : Sorted xs) (o : OpV) (hn : xs.any (sameId o.author o.seq) = false) : Sorted (ins xs (pos o.author o.seq xs) o) := by
  have hle := pos_le o.author o.seq xs
  have hall : ∀ p ∈ xs, ¬ (p.author = o.author ∧ p.seq = o.seq) := by
    intro p hp ⟨h1, h2⟩
    have := List.any_eq_false.1 hn p hp
    simp [sameId, h1, h2] at this
  unfold ins
  have hsplit : xs = xs.take (pos o.author o.seq xs) ++ xs.drop (pos o.author o.seq xs) := (List.take_append_drop _ _).symm
  have h12 := hs
  rw [hsplit] at h12
  obtain ⟨h1, h2, h3⟩ := List.pairwise_append.1 h12
  refine List.pairwise_append.2 ⟨h1, List.pairwise_cons.2 ⟨?_, h2⟩, ?_⟩
  · intro p hp
    obtain ⟨j, hj, rfl⟩ := List.getElem_of_mem hp
    simp at hj
    have hf := pos_fits (author := o.author) (seq := o.seq) hs (i := pos o.author o.seq xs + j) (by omega)
    have ha := hall _ (List.getElem_mem (l := xs) (n := pos o.author o.seq xs + j) (by omega))
    simp only [fits, List.getElem_drop, lt] at *
    simp at hf
    omega
  · intro p hp q hq
    obtain ⟨j, hj, rfl⟩ := List.getElem_of_mem hp
    simp at hj
    rcases List.mem_cons.1 hq with rfl | hq
    · have hf := pos_fits (author := q.author) (seq := q.seq) hs (i := j) (by omega)
      have ha := hall _ (List.getElem_mem (l := xs) (n := j) (by omega))
      have hd : decide (pos q.author q.seq xs ≤ j) = false := by simp; omega
      rw [hd] at hf
      simp only [fits, Bool.or_eq_false_iff, Bool.and_eq_false_iff, decide_eq_false_iff_not] at hf
      simp only [List.getElem_take, lt]
      omega
    · exact h3 _ hp _ hq

theorem flat_insert {xs : List OpV} {i : Nat} (hi : i ≤ xs.length) (o : OpV) {z : List Value} (hz : z.length = 7) :
    splice (splice (flat xs ++ z) ((i + 1) * 7) (flat (xs.drop i))) (i * 7) o.cells = flat (ins xs i o) := by
  have h1 : (flat (xs.take i)).length = i * 7 := by rw [length_flat, List.length_take]; congr 1; omega
  have h2 : (flat (xs.drop i)).length = (xs.length - i) * 7 := by rw [length_flat, List.length_drop]
  have h0 : flat xs = flat (xs.take i) ++ flat (xs.drop i) := by rw [← flat_append, List.take_append_drop]
  have h5 : o.cells.length = 7 := rfl
  have hc : flat [o] = o.cells := by simp [flat]
  unfold ins
  rw [show xs.take i ++ o :: xs.drop i = xs.take i ++ ([o] ++ xs.drop i) from rfl, flat_append, flat_append, hc]
  generalize flat (xs.drop i) = D at *
  generalize flat (xs.take i) = T at *
  rw [h0]
  unfold splice
  have hl : ((T ++ D ++ z).take ((i + 1) * 7)).length = (i + 1) * 7 := by simp; omega
  have he : (T ++ D ++ z).drop ((i + 1) * 7 + D.length) = [] := List.drop_of_length_le (by simp; omega)
  rw [he, List.append_nil]
  rw [List.take_append_of_le_length (by omega), List.take_take, show min (i * 7) ((i + 1) * 7) = i * 7 by omega, List.append_assoc T D z, List.take_left' h1, ← List.append_assoc T D z]
  rw [h5, show i * 7 + 7 = (i + 1) * 7 by omega, List.drop_left' hl]
end Go.Proofs.Ytpkdhmljbpbcfaa
