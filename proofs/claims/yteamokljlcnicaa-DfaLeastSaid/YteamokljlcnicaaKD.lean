/-
  slices.Reverse of expressions. No condition beyond what each theorem names.
-/
import Derived.Test.YteamokljlcnicaaKA
import Derived.RegionTactic
import Derived.BigRegion
set_option linter.unusedVariables false
set_option linter.unusedSimpArgs false
namespace Go.Proofs.Yteamokljlcnicaa
open Go.RowKit

/-- three cells in a row -/
def three (w : World) (g o : Nat) (r : List Value) : Prop := ∃ x y z, r = [x, y, z] ∧ w.cell? ⟨g, o, none⟩ = some x ∧ w.cell? ⟨g, o + 1, none⟩ = some y ∧ w.cell? ⟨g, o + 2, none⟩ = some z

/-- the cells of an expression -/
def ndRow (r : List Value) : Prop := ∃ op p l c q m d, r = [.int .i64 op, .slice p l c, .slice q m d]

/-- a row of expressions that may be written -/
def NRow (w : World) (g : Nat) (rows : List (List Value)) : Prop := (∀ o, w.frozen? ⟨g, o, none⟩ = false) ∧ ∀ i r, rows[i]? = some r → ndRow r ∧ three w g (i * 3) r

theorem cell_set (w : World) (g o : Nat) (u : Value) (o' : Nat) (hc : (w.cell? ⟨g, o, none⟩).isSome) : (w.setCell ⟨g, o, none⟩ u).cell? ⟨g, o', none⟩ = if o' = o then some u else w.cell? ⟨g, o', none⟩ := by
  unfold World.cell? World.setCell at *
  cases h : w.heap[g]? with
  | none => simp [h] at hc
  | some b =>
    cases b <;> simp [h] at hc
    rename_i c t f
    simp [Array.getElem?_modify, h, Array.getElem?_setIfInBounds]
    by_cases e : o' = o
    · subst e; simp [hc]
    · simp [e, Ne.symm e]

theorem frozen_set (w : World) (g o : Nat) (u : Value) (o' : Nat) : (w.setCell ⟨g, o, none⟩ u).frozen? ⟨g, o', none⟩ = w.frozen? ⟨g, o', none⟩ := by
  unfold World.frozen? World.setCell
  simp only [Array.getElem?_modify, if_true]
  cases h : w.heap[g]? with
  | none => simp
  | some b => cases b <;> simp

theorem three_set {w : World} {g o : Nat} {r : List Value} (a b c : Value) (h : three w g o r) :
    let w' := ((w.setCell ⟨g, o, none⟩ a).setCell ⟨g, o + 1, none⟩ b).setCell ⟨g, o + 2, none⟩ c
    three w' g o [a, b, c] ∧ (∀ o', w'.frozen? ⟨g, o', none⟩ = w.frozen? ⟨g, o', none⟩) ∧ ∀ o' r', (o' + 2 < o ∨ o + 2 < o') → three w g o' r' → three w' g o' r' := by
  obtain ⟨x, y, z, rfl, h0, h1, h2⟩ := h
  have e1 := cell_set w g o a
  have e2 := cell_set (w.setCell ⟨g, o, none⟩ a) g (o + 1) b
  have e3 := cell_set ((w.setCell ⟨g, o, none⟩ a).setCell ⟨g, o + 1, none⟩ b) g (o + 2) c
  have key : ∀ o', (((w.setCell ⟨g, o, none⟩ a).setCell ⟨g, o + 1, none⟩ b).setCell ⟨g, o + 2, none⟩ c).cell? ⟨g, o', none⟩ = if o' = o + 2 then some c else if o' = o + 1 then some b else if o' = o then some a else w.cell? ⟨g, o', none⟩ := by
    intro o'
    have k1 : ∀ o', (w.setCell ⟨g, o, none⟩ a).cell? ⟨g, o', none⟩ = if o' = o then some a else w.cell? ⟨g, o', none⟩ := fun o' => e1 o' (by rw [h0]; rfl)
    have k2 : ∀ o', ((w.setCell ⟨g, o, none⟩ a).setCell ⟨g, o + 1, none⟩ b).cell? ⟨g, o', none⟩ = if o' = o + 1 then some b else if o' = o then some a else w.cell? ⟨g, o', none⟩ := fun o' => by
      rw [e2 o' (by rw [k1, if_neg (by omega), h1]; rfl), k1]
    rw [e3 o' (by rw [k2, if_neg (by omega), if_neg (by omega), h2]; rfl), k2]
  refine ⟨⟨a, b, c, rfl, ?_, ?_, ?_⟩, fun o' => ?_, fun o' r' hd ⟨x', y', z', e, g0, g1, g2⟩ => ⟨x', y', z', e, ?_, ?_, ?_⟩⟩
  · rw [key, if_neg (by omega), if_neg (by omega), if_pos rfl]
  · rw [key, if_neg (by omega), if_pos rfl]
  · rw [key, if_pos rfl]
  · rw [frozen_set, frozen_set, frozen_set]
  · rw [key, if_neg (by omega), if_neg (by omega), if_neg (by omega), g0]
  · rw [key, if_neg (by omega), if_neg (by omega), if_neg (by omega), g1]
  · rw [key, if_neg (by omega), if_neg (by omega), if_neg (by omega), g2]

theorem NRow.set {w : World} {g : Nat} {rows : List (List Value)} (h : NRow w g rows) {i : Nat} (hi : i < rows.length) {a b c : Value} (hr : ndRow [a, b, c]) :
    NRow (((w.setCell ⟨g, i * 3, none⟩ a).setCell ⟨g, i * 3 + 1, none⟩ b).setCell ⟨g, i * 3 + 2, none⟩ c) g (rows.set i [a, b, c]) := by
  obtain ⟨h1, h2⟩ := h
  obtain ⟨k1, k2, k3⟩ := three_set a b c (h2 i _ (List.getElem?_eq_getElem hi)).2
  refine ⟨fun o => (k2 o).trans (h1 o), fun j r hj => ?_⟩
  by_cases e : i = j
  · subst e
    rw [List.getElem?_set_self hi] at hj
    cases hj
    exact ⟨hr, k1⟩
  · rw [List.getElem?_set_ne e] at hj
    obtain ⟨g1, g2⟩ := h2 j r hj
    exact ⟨g1, k3 _ _ (by omega) g2⟩

theorem NRow.drew {w : World} {g : Nat} {rows : List (List Value)} (h : NRow w g rows) : NRow w.drew g rows := ⟨fun o => h.1 o, fun i r hi => (h.2 i r hi)⟩

theorem Fr.drew {F : Nat → Prop} {w w' : World} (h : Fr F w w') : Fr F w w'.drew := ⟨h.os, h.tape, h.output, h.size, h.block⟩

/-- turned round as far as k from both ends -/
def turnTo (rows : List (List Value)) (k : Nat) : List (List Value) :=
  (List.range rows.length).map fun p => if p < k ∨ rows.length ≤ p + k then rows[rows.length - 1 - p]?.getD [] else rows[p]?.getD []

theorem turnTo_length (rows : List (List Value)) (k : Nat) : (turnTo rows k).length = rows.length := by simp [turnTo]

theorem turnTo_zero (rows : List (List Value)) : turnTo rows 0 = rows := by
  apply List.ext_getElem
  · simp [turnTo]
  · intro i h1 h2; simp [turnTo, h2, show ¬ rows.length ≤ i by omega]

theorem turnTo_get {rows : List (List Value)} {k p : Nat} (h1 : k ≤ p) (h2 : p + k < rows.length) : (turnTo rows k)[p]? = rows[p]? := by
  have : p < rows.length := by omega
  simp [turnTo, this, show ¬ p < k by omega, show ¬ rows.length ≤ p + k by omega]

theorem turnTo_succ {rows : List (List Value)} {k j : Nat} (h : k + j + 1 = rows.length) (hk : k < j) : ((turnTo rows k).set k (rows[j]'(by omega))).set j (rows[k]'(by omega)) = turnTo rows (k + 1) := by
  apply List.ext_getElem
  · simp [turnTo]
  · intro i h1 h2
    have h3 : i < rows.length := by simpa [turnTo] using h2
    rw [List.getElem_set]
    by_cases e : j = i
    · subst e
      simp [turnTo, show rows.length ≤ j + (k + 1) by omega, show rows.length - 1 - j = k by omega, show k < rows.length by omega]
    · rw [if_neg e, List.getElem_set]
      by_cases e' : k = i
      · subst e'
        simp [turnTo, show rows.length - 1 - k = j by omega, show j < rows.length by omega]
      · rw [if_neg e']
        by_cases h4 : i < k ∨ rows.length ≤ i + k
        · simp [turnTo, h4, show i < k + 1 ∨ rows.length ≤ i + (k + 1) by omega]
        · simp [turnTo, h4, show ¬ (i < k + 1 ∨ rows.length ≤ i + (k + 1)) by omega]

theorem turnTo_all {rows : List (List Value)} {k : Nat} {j : Int} (h : (k : Int) + j + 1 = rows.length) (hk : ¬ (k : Int) < j) : turnTo rows k = rows.reverse := by
  apply List.ext_getElem
  · simp [turnTo]
  · intro i h1 h2
    have h3 : i < rows.length := by simpa [turnTo] using h1
    rw [List.getElem_reverse]
    by_cases h4 : i < k ∨ rows.length ≤ i + k
    · simp [turnTo, h4, show rows.length - 1 - i < rows.length by omega]
    · simp only [turnTo, List.getElem_map, List.getElem_range, if_neg h4]
      have : rows.length - 1 - i = i := by omega
      simp [this, h3]

theorem NRow.fr {F : Nat → Prop} {w w' : World} (hf : Fr F w w') {g : Nat} {rows : List (List Value)} (h : NRow w g rows) (hg : g < w.heap.size) (hn : ¬ F g) : NRow w' g rows := by
  have hc : ∀ o, w'.cell? ⟨g, o, none⟩ = w.cell? ⟨g, o, none⟩ := fun o => World.cell?_of_block (w := w) (hf.block g hg hn)
  refine ⟨fun o => (World.frozen?_of_block (w := w) (hf.block g hg hn)).trans (h.1 o), fun i r hi => ?_⟩
  obtain ⟨h1, x, y, z, e, h2, h3, h4⟩ := h.2 i r hi
  exact ⟨h1, x, y, z, e, (hc _).trans h2, (hc _).trans h3, (hc _).trans h4⟩

end Go.Proofs.Yteamokljlcnicaa
