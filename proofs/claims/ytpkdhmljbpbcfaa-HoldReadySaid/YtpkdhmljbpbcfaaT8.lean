/-
  Rows of cells that are written in part. No condition beyond what each theorem names.
-/
import Derived.Test.YtpkdhmljbpbcfaaT7
set_option linter.unusedVariables false
set_option linter.unusedSimpArgs false
namespace Go.Proofs.Ytpkdhmljbpbcfaa
open Go.RowKit

theorem enters34 : Enters Try.prog 34 := fun _ _ => by kernel_rfl

theorem ownsRow_cur {w : World} {base : Nat} {e : TypeId} {size : Nat} {n cap : Nat} {g : Nat} {xs : List Value} (h : w.ownsRow base e size (.slice (some ⟨g, 0, none⟩) n cap) n xs) :
    ∃ cur, w.heap[g]? = some (.cells cur e (0, 0)) ∧ xs.length ≤ cur.size ∧ cur.size = cap * size ∧ n ≤ cap ∧ cur.toList.take (n * size) = xs ∧
      ∀ off cs, off + cs.length ≤ xs.length → (w.setRow g (splice cur.toList off cs).toArray).ownsRow base e size (.slice (some ⟨g, 0, none⟩) n cap) n (splice xs off cs) := by
  obtain ⟨hl, h⟩ := h
  rcases h with ⟨h, -⟩ | ⟨g', cap', cur, hv, hb, hg, hn, hm, hs, ht⟩
  · cases h
  · cases hv
    have hsz : n * size ≤ cur.size := by rw [hs]; exact Nat.mul_le_mul_right _ hn
    refine ⟨cur, hg, by omega, hs, hn, ht, fun off cs hfit => ⟨?_, .inr ⟨g, cap, _, rfl, hb, setRow_heap w g cur _ e _ hg, hn, hm, ?_, ?_⟩⟩⟩
    · rw [length_splice _ _ _ hfit]; exact hl
    · have := length_splice cur.toList off cs (by simp; omega)
      simpa using this.trans (by simpa using hs)
    · rw [hl] at hfit
      subst ht
      simp only [splice]
      rw [List.take_append, List.take_append, List.take_take, List.drop_take]
      simp only [List.length_take, Array.length_toList]
      rw [List.take_take, show min off (n * size) = off by omega, show min (n * size) off = off by omega, show min off cur.size = off by omega]
      rw [List.take_of_length_le (l := cs) (by omega)]
      congr 3
      omega

theorem ownsRow_shrink {w : World} {base : Nat} {e : TypeId} {size : Nat} {n cap : Nat} {g : Nat} {xs : List Value} (h : w.ownsRow base e size (.slice (some ⟨g, 0, none⟩) n cap) n xs) {m : Nat} (hm : m ≤ n)
    {cur : Array Value} (hg : w.heap[g]? = some (.cells cur e (0, 0))) {cs : List Value} (hfit : m * size + cs.length ≤ cur.size) :
    (w.setRow g (splice cur.toList (m * size) cs).toArray).ownsRow base e size (.slice (some ⟨g, 0, none⟩) m cap) m (xs.take (m * size)) := by
  obtain ⟨hl, h⟩ := h
  rcases h with ⟨h, -⟩ | ⟨g', cap', cur', hv, hb, hg', hn, hmx, hs, ht⟩
  · cases h
  · cases hv
    rw [hg] at hg'
    cases hg'
    have hmn := Nat.mul_le_mul_right size hm
    refine ⟨by rw [List.length_take]; omega, .inr ⟨g, cap, _, rfl, hb, setRow_heap w g cur _ e _ hg, by omega, hmx, ?_, ?_⟩⟩
    · have := length_splice cur.toList (m * size) cs (by simpa using hfit)
      simpa using this.trans (by simpa using hs)
    · subst ht
      simp only [splice]
      rw [List.take_append_of_le_length (by simp; omega), List.take_take, List.take_take]
      congr 1
      omega

theorem ownsRow_less {w : World} {base : Nat} {e : TypeId} {size : Nat} {n cap : Nat} {g : Nat} {xs : List Value} (h : w.ownsRow base e size (.slice (some ⟨g, 0, none⟩) n cap) n xs) {m : Nat} (hm : m ≤ n) :
    w.ownsRow base e size (.slice (some ⟨g, 0, none⟩) m cap) m (xs.take (m * size)) := by
  obtain ⟨hl, h⟩ := h
  rcases h with ⟨h, -⟩ | ⟨g', cap', cur', hv, hb, hg', hn, hmx, hs, ht⟩
  · cases h
  · cases hv
    have hmn := Nat.mul_le_mul_right size hm
    refine ⟨by rw [List.length_take]; omega, .inr ⟨g, cap, _, rfl, hb, hg', by omega, hmx, hs, ?_⟩⟩
    subst ht
    rw [List.take_take]
    congr 1
    omega

theorem flat_append (xs ys : List OpV) : flat (xs ++ ys) = flat xs ++ flat ys := by simp [flat]

theorem flat_take (xs : List OpV) (i : Nat) : flat (xs.take i) = (flat xs).take (i * 7) := by
  by_cases h : i ≤ xs.length
  · have h1 : flat xs = flat (xs.take i) ++ flat (xs.drop i) := by rw [← flat_append, List.take_append_drop]
    rw [h1, List.take_left' (by rw [length_flat, List.length_take]; congr 1; omega)]
  · rw [List.take_of_length_le (by omega), List.take_of_length_le (by rw [length_flat]; omega)]


theorem flat_set {xs : List OpV} {i : Nat} (hi : i < xs.length) (o : OpV) : flat (xs.set i o) = splice (flat xs) (i * 7) o.cells := by
  have h1 : xs.set i o = xs.take i ++ o :: xs.drop (i + 1) := List.set_eq_take_append_cons_drop ▸ by simp [hi]
  have h2 : flat xs = flat (xs.take i) ++ (flat [xs[i]] ++ flat (xs.drop (i + 1))) := by
    rw [← flat_append, ← flat_append]; congr 1; simp
  have h3 : (flat (xs.take i)).length = i * 7 := by rw [length_flat]; simp; omega
  rw [h1, show (o :: xs.drop (i + 1)) = [o] ++ xs.drop (i + 1) from rfl, flat_append, flat_append, h2]
  unfold splice
  rw [List.take_left' h3]
  congr 1
  have h4 : flat [o] = o.cells := by simp [flat]
  rw [h4]; congr 1
  have h5 : o.cells.length = 7 := rfl
  rw [h5, ← List.append_assoc, List.drop_left' (by rw [List.length_append, h3, length_flat]; simp)]

theorem filter_take_succ (xs : List OpV) (q : OpV → Bool) (j : Nat) (hj : j < xs.length) : (xs.take (j + 1)).filter (fun o => !q o) = (xs.take j).filter (fun o => !q o) ++ (if q xs[j] then [] else [xs[j]]) := by
  rw [List.take_succ_eq_append_getElem hj, List.filter_append]
  cases h : q xs[j] <;> simp [h]
end Go.Proofs.Ytpkdhmljbpbcfaa
