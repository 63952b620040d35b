/-
  A part of an element of a list of one's own is stored. No condition beyond what each theorem names.
-/
import Derived.Test.YtmooflmhbpckjaaKV
set_option linter.unusedVariables false
set_option linter.unusedSimpArgs false
namespace Go.Proofs.Ytmooflmhbpckjaa
open Go.RowKit

theorem splice_mid {α : Type} (A r B : List α) (o : Nat) (vals : List α) (h : o + vals.length ≤ r.length) : splice (A ++ (r ++ B)) (A.length + o) vals = A ++ (splice r o vals ++ B) := by
  simp only [splice]
  rw [List.take_append, List.drop_append]
  rw [List.take_of_length_le (by omega), List.drop_eq_nil_of_le (by omega)]
  rw [show A.length + o - A.length = o by omega, show A.length + o + vals.length - A.length = o + vals.length by omega]
  rw [List.take_append_of_le_length (by omega), List.drop_append_of_le_length (by omega)]
  simp

theorem splice_pre {α : Type} (L R : List α) (j : Nat) (vals : List α) (h : j + vals.length ≤ L.length) : splice (L ++ R) j vals = splice L j vals ++ R := by
  have := splice_mid ([] : List α) L R j vals h
  simpa using this

theorem flatten_set {sz : Nat} {rows : List (List Value)} (hr : ∀ r ∈ rows, r.length = sz) {k : Nat} {row : List Value} (hk : rows[k]? = some row) (o : Nat) (vals : List Value) (h : o + vals.length ≤ sz) :
    splice rows.flatten (k * sz + o) vals = (rows.set k (splice row o vals)).flatten := by
  obtain ⟨hk', rfl⟩ := List.getElem?_eq_some_iff.1 hk
  have e1 : rows = rows.take k ++ (rows[k] :: rows.drop (k + 1)) := by rw [List.getElem_cons_drop, List.take_append_drop]
  have e2 : rows.set k (splice rows[k] o vals) = rows.take k ++ (splice rows[k] o vals :: rows.drop (k + 1)) := by
    rw [List.set_eq_take_append_cons_drop, if_pos hk']
  rw [e2, List.flatten_append, List.flatten_cons]
  have hl : (rows.take k).flatten.length = k * sz := by
    rw [flatten_length (sz := sz) (fun r hr' => hr r (List.mem_of_mem_take hr')), List.length_take, Nat.min_eq_left (by omega)]
  have hrl : rows[k].length = sz := hr _ (List.getElem_mem hk')
  have := splice_mid (rows.take k).flatten rows[k] (rows.drop (k + 1)).flatten o vals (by omega)
  rw [hl] at this
  rw [← this]
  congr 1
  rw [← List.flatten_cons, ← List.flatten_append, ← e1]

section
variable {α : Type} {E : α → List Value → Prop} {T : TypeId} {sz base : Nat} {w : World} {v : Value} {xs : List α}

/-- an element of a list of one's own is stored in part: the rest as it was -/
theorem OwnL.store (h : OwnL E T sz base w v xs) (hs : 0 < sz) {k : Nat} (hk : k < xs.length) : ∃ g cap cur row, v = .slice (some ⟨g, 0, none⟩) xs.length cap ∧ base ≤ g ∧ w.heap[g]? = some (.cells cur T) ∧ cellsAt w g (k * sz) row ∧ row.length = sz ∧ (∀ u ∈ row, u.oneCell' = true) ∧ E xs[k] row ∧
    (k + 1) * sz ≤ cur.size ∧ ∀ o vals, o + vals.length ≤ sz → (∀ u ∈ vals, u.oneCell' = true) → ∀ x', E x' (splice row o vals) → ∀ w', w'.heap[g]? = some (.cells (splice cur.toList (k * sz + o) vals).toArray T) → OwnL E T sz base w' v (xs.set k x') := by
  obtain ⟨rows, ⟨o1, o2⟩, r1, r2, r3⟩ := h
  have hlen : rows.flatten.length = rows.length * sz := flatten_length (fun r hr => (r2 r hr).1)
  rcases o2 with ⟨-, h0⟩ | ⟨g, cap, cur, rfl, hg, hh, hnc, hcm, hcs, htk⟩
  · omega
  obtain ⟨row, hrow, hE⟩ := r3 k hk
  have hkr : k < rows.length := by omega
  have hmem : row ∈ rows := List.mem_of_getElem? hrow
  have hk1 : (k + 1) * sz ≤ rows.length * sz := Nat.mul_le_mul_right _ (by omega)
  have hcz : rows.length * sz ≤ cur.size := by rw [hcs]; exact Nat.mul_le_mul_right _ (by omega)
  have hsplit : cur.toList = rows.flatten ++ cur.toList.drop (xs.length * sz) := by rw [← htk, List.take_append_drop]
  refine ⟨g, cap, cur, row, rfl, hg, hh, fun j u hu => ?_, (r2 row hmem).1, (r2 row hmem).2, hE, by omega, ?_⟩
  · have hj : j < sz := by have := (List.getElem?_eq_some_iff.1 hu).1; rw [(r2 row hmem).1] at this; exact this
    have h1 := flatten_get (fun r hr => (r2 r hr).1) hrow j hj
    rw [hu] at h1
    have h2 : cur.toList[k * sz + j]? = some u := by
      rw [hsplit, List.getElem?_append_left (by have := (List.getElem?_eq_some_iff.1 h1).1; exact this)]
      exact h1
    simp only [World.cell?, hh]
    simpa using h2
  · intro o vals ho hv x' hx' w' hw'
    have hfit : k * sz + o + vals.length ≤ rows.flatten.length := by rw [hlen]; rw [Nat.add_mul] at hk1; omega
    have hfs := flatten_set (fun r hr => (r2 r hr).1) hrow o vals ho
    have hls : (splice row o vals).length = sz := by rw [length_splice _ _ _ (by rw [(r2 row hmem).1]; exact ho)]; exact (r2 row hmem).1
    refine ⟨rows.set k (splice row o vals), ⟨?_, .inr ⟨g, cap, (splice cur.toList (k * sz + o) vals).toArray, by rw [List.length_set], hg, hw', by rw [List.length_set]; exact hnc, hcm, ?_, ?_⟩⟩, by simp [r1], fun r hr => ?_, fun i hi => ?_⟩
    · rw [← hfs, length_splice _ _ _ hfit, hlen, List.length_set, r1]
    · rw [List.size_toArray, length_splice _ _ _ (by simp; omega)]; simpa using hcs
    · rw [List.length_set, hsplit, splice_pre _ _ _ _ hfit, hfs]
      have hl2 : (rows.set k (splice row o vals)).flatten.length = xs.length * sz := by rw [← hfs, length_splice _ _ _ hfit, hlen, r1]
      simp only [List.toList_toArray]
      rw [← hl2, List.take_left']
      rfl
    · rcases List.mem_or_eq_of_mem_set hr with hr | rfl
      · exact r2 r hr
      · refine ⟨hls, fun u hu => ?_⟩
        simp only [splice, List.mem_append] at hu
        rcases hu with hu | hu | hu
        · exact (r2 row hmem).2 u (List.mem_of_mem_take hu)
        · exact hv u hu
        · exact (r2 row hmem).2 u (List.mem_of_mem_drop hu)
    · rw [List.length_set] at hi
      by_cases hik : i = k
      · subst hik
        exact ⟨splice row o vals, by rw [List.getElem?_set_self hkr], by rw [List.getElem_set_self]; exact hx'⟩
      · obtain ⟨r', h1, h2⟩ := r3 i hi
        exact ⟨r', by rw [List.getElem?_set_ne (by omega)]; exact h1, by rw [List.getElem_set_ne (by omega)]; exact h2⟩
end

end Go.Proofs.Ytmooflmhbpckjaa
