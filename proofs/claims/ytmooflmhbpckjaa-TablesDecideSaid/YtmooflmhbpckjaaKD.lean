/-
  slices.Reverse of expressions. No condition beyond what each theorem names.
-/
import Derived.Test.YtmooflmhbpckjaaKA
import Derived.RegionTactic
import Derived.BigRegion
set_option linter.unusedVariables false
set_option linter.unusedSimpArgs false
namespace Go.Proofs.Ytmooflmhbpckjaa
open Go.RowKit

/-- three cells in a row -/
def three (w : World) (g o : Nat) (r : List Value) : Prop := ∃ x y z, r = [x, y, z] ∧ w.cell? ⟨g, o, none⟩ = some x ∧ w.cell? ⟨g, o + 1, none⟩ = some y ∧ w.cell? ⟨g, o + 2, none⟩ = some z

/-- the cells of an expression -/
def ndRow (r : List Value) : Prop := ∃ op p l c q m d, r = [.int .i64 op, .slice p l c, .slice q m d]

/-- a row of expressions that may be written -/
def NRow (w : World) (g : Nat) (rows : List (List Value)) : Prop := (∀ o, w.frozen? ⟨g, o, none⟩ = false) ∧ ∀ i r, rows[i]? = some r → ndRow r ∧ three w g (i * 3) r

theorem cell_set (w : World) (g o : Nat) (u : Value) (o' : Nat) (hc : (w.cell? ⟨g, o, none⟩).isSome) : (w.setCell ⟨g, o, none⟩ u).cell? ⟨g, o', none⟩ = if o' = o then some u else w.cell? ⟨g, o', none⟩ := by
  unfold World.cell? World.setCell at *
  cases h : w.heap[g]? with
  | none => simp [h] at hc
  | some b =>
    cases b <;> simp [h] at hc
    rename_i c t f
    simp [Array.getElem?_modify, h, Array.getElem?_setIfInBounds]
    by_cases e : o' = o
    · subst e; simp [hc]
    · simp [e, Ne.symm e]

theorem frozen_set (w : World) (g o : Nat) (u : Value) (o' : Nat) : (w.setCell ⟨g, o, none⟩ u).frozen? ⟨g, o', none⟩ = w.frozen? ⟨g, o', none⟩ := by
  unfold World.frozen? World.setCell
  simp only [Array.getElem?_modify, if_true]
  cases h : w.heap[g]? with
  | none => simp
  | some b => cases b <;> simp

theorem three_set {w : World} {g o : Nat} {r : List Value} (a b c : Value) (h : three w g o r) :
    let w' := ((w.setCell ⟨g, o, none⟩ a).setCell ⟨g, o + 1, none⟩ b).setCell ⟨g, o + 2, none⟩ c
    three w' g o [a, b, c] ∧ (∀ o', w'.frozen? ⟨g, o', none⟩ = w.frozen? ⟨g, o', none⟩) ∧ ∀ o' r', (o' + 2 < o ∨ o + 2 < o') → three w g o' r' → three w' g o' r' := by
  obtain ⟨x, y, z, rfl, h0, h1, h2⟩ := h
  have e1 := cell_set w g o a
  have e2 := cell_set (w.setCell ⟨g, o, none⟩ a) g (o + 1) b
  have e3 := cell_set ((w.setCell ⟨g, o, none⟩ a).setCell ⟨g, o + 1, none⟩ b) g (o + 2) c
  have key : ∀ o', (((w.setCell ⟨g, o, none⟩ a).setCell ⟨g, o + 1, none⟩ b).setCell ⟨g, o + 2, none⟩ c).cell? ⟨g, o', none⟩ = if o' = o + 2 then some c else if o' = o + 1 then some b else if o' = o then some a else w.cell? ⟨g, o', none⟩ := by
    intro o'
    have k1 : ∀ o', (w.setCell ⟨g, o, none⟩ a).cell? ⟨g, o', none⟩ = if o' = o then some a else w.cell? ⟨g, o', none⟩ := fun o' => e1 o' (by rw [h0]; rfl)
    have k2 : ∀ o', ((w.setCell ⟨g, o, none⟩ a).setCell ⟨g, o + 1, none⟩ b).cell? ⟨g, o', none⟩ = if o' = o + 1 then some b else if o' = o then some a else w.cell? ⟨g, o', none⟩ := fun o' => by
      rw [e2 o' (by rw [k1, if_neg (by omega), h1]; rfl), k1]
    rw [e3 o' (by rw [k2, if_neg (by omega), if_neg (by omega), h2]; rfl), k2]
  refine ⟨⟨a, b, c, rfl, ?_, ?_, ?_⟩, fun o' => ?_, fun o' r' hd ⟨x', y', z', e, g0, g1, g2⟩ => ⟨x', y', z', e, ?_, ?_, ?_⟩⟩
  · rw [key, if_neg (by omega), if_neg (by omega), if_pos rfl]
  · rw [key, if_neg (by omega), if_pos rfl]
  · rw [key, if_pos rfl]
  · rw [frozen_set, frozen_set, frozen_set]
  · rw [key, if_neg (by omega), if_neg (by omega), if_neg (by omega), g0]
  · rw [key, if_neg (by omega), if_neg (by omega), if_neg (by omega), g1]
  · rw [key, if_neg (by omega), if_neg (by omega), if_neg (by omega), g2]

theorem NRow.set {w : World} {g : Nat} {rows : List (List Value)} (h : NRow w g rows) {i : Nat} (hi : i < rows.length) {a b c : Value} (hr : ndRow [a, b, c]) :
    NRow (((w.setCell ⟨g, i * 3, none⟩ a).setCell ⟨g, i * 3 + 1, none⟩ b).setCell ⟨g, i * 3 + 2, none⟩ c) g (rows.set i [a, b, c]) := by
  obtain ⟨h1, h2⟩ := h
  obtain ⟨k1, k2, k3⟩ := three_set a b c (h2 i _ (List.getElem?_eq_getElem hi)).2
  refine ⟨fun o => (k2 o).trans (h1 o), fun j r hj => ?_⟩
  by_cases e : i = j
  · subst e
    rw [List.getElem?_set_self hi] at hj
    cases hj
    exact ⟨hr, k1⟩
  · rw [List.getElem?_set_ne e] at hj
    obtain ⟨g1, g2⟩ := h2 j r hj
    exact ⟨g1, k3 _ _ (by omega) g2⟩

theorem NRow.drew {w : World} {g : Nat} {rows : List (List Value)} (h : NRow w g rows) : NRow w.drew g rows := ⟨fun o => h.1 o, fun i r hi => (h.2 i r hi)⟩

theorem Fr.drew {F : Nat → Prop} {w w' : World} (h : Fr F w w') : Fr F w w'.drew := ⟨h.os, h.tape, h.output, h.size, h.block⟩

/-- turned round as far as k from both ends -/
def turnTo (rows : List (List Value)) (k : Nat) : List (List Value) :=
  (List.range rows.length).map fun p => if p < k ∨ rows.length ≤ p + k then rows[rows.length - 1 - p]?.getD [] else rows[p]?.getD []

theorem turnTo_length (rows : List (List Value)) (k : Nat) : (turnTo rows k).length = rows.length := by simp [turnTo]

theorem turnTo_zero (rows : List (List Value)) : turnTo rows 0 = rows := by
  apply List.ext_getElem
  · simp [turnTo]
  · intro i h1 h2; simp [turnTo, h2, show ¬ rows.length ≤ i by omega]

theorem turnTo_get {rows : List (List Value)} {k p : Nat} (h1 : k ≤ p) (h2 : p + k < rows.length) : (turnTo rows k)[p]? = rows[p]? := by
  have : p < rows.length := by omega
  simp [turnTo, this, show ¬ p < k by omega, show ¬ rows.length ≤ p + k by omega]

theorem turnTo_succ {rows : List (List Value)} {k j : Nat} (h : k + j + 1 = rows.length) (hk : k < j) : ((turnTo rows k).set k (rows[j]'(by omega))).set j (rows[k]'(by omega)) = turnTo rows (k + 1) := by
  apply List.ext_getElem
  · simp [turnTo]
  · intro i h1 h2
    have h3 : i < rows.length := by simpa [turnTo] using h2
    rw [List.getElem_set]
    by_cases e : j = i
    · subst e
      simp [turnTo, show rows.length ≤ j + (k + 1) by omega, show rows.length - 1 - j = k by omega, show k < rows.length by omega]
    · rw [if_neg e, List.getElem_set]
      by_cases e' : k = i
      · subst e'
        simp [turnTo, show rows.length - 1 - k = j by omega, show j < rows.length by omega]
      · rw [if_neg e']
        by_cases h4 : i < k ∨ rows.length ≤ i + k
        · simp [turnTo, h4, show i < k + 1 ∨ rows.length ≤ i + (k + 1) by omega]
        · simp [turnTo, h4, show ¬ (i < k + 1 ∨ rows.length ≤ i + (k + 1)) by omega]

theorem turnTo_all {rows : List (List Value)} {k : Nat} {j : Int} (h : (k : Int) + j + 1 = rows.length) (hk : ¬ (k : Int) < j) : turnTo rows k = rows.reverse := by
  apply List.ext_getElem
  · simp [turnTo]
  · intro i h1 h2
    have h3 : i < rows.length := by simpa [turnTo] using h1
    rw [List.getElem_reverse]
    by_cases h4 : i < k ∨ rows.length ≤ i + k
    · simp [turnTo, h4, show rows.length - 1 - i < rows.length by omega]
    · simp only [turnTo, List.getElem_map, List.getElem_range, if_neg h4]
      have : rows.length - 1 - i = i := by omega
      simp [this, h3]

theorem NRow.fr {F : Nat → Prop} {w w' : World} (hf : Fr F w w') {g : Nat} {rows : List (List Value)} (h : NRow w g rows) (hg : g < w.heap.size) (hn : ¬ F g) : NRow w' g rows := by
  have hc : ∀ o, w'.cell? ⟨g, o, none⟩ = w.cell? ⟨g, o, none⟩ := fun o => World.cell?_of_block (w := w) (hf.block g hg hn)
  refine ⟨fun o => (World.frozen?_of_block (w := w) (hf.block g hg hn)).trans (h.1 o), fun i r hi => ?_⟩
  obtain ⟨h1, x, y, z, e, h2, h3, h4⟩ := h.2 i r hi
  exact ⟨h1, x, y, z, e, (hc _).trans h2, (hc _).trans h3, (hc _).trans h4⟩

set_option maxHeartbeats 1000000 in
theorem rev_any (w : World) (g n cap : Nat) (rows : List (List Value)) (hl : rows.length = n) (hn : n ≤ 9000000000000000000) (hg : g < w.heap.size) (hr : NRow w g rows) :
    Calls Try.prog 34 #[.slice (some ⟨g, 0, none⟩) n cap] w fun e w' => NRow w' g rows.reverse ∧ Fr (fun k => k = g) w w' ∧ ∃ v, e = .returned v := by
  have HR0 := Lib.hid hr
  have HL := Lib.hid hl
  clear hr hl
  go_enter Try.func34, Try.ntmps34
  go_wp2_with fail
  go_loopw [2, 3] (fun u v wr => ∃ (k : Nat) (j : Int), u = .int .i64 k ∧ v = .int .i64 j ∧ k + j + 1 = n ∧ NRow wr g (turnTo rows k) ∧ Fr (fun k => k = g) w wr) (fun _ v _ => (intOf v + 1).toNat)
  case atStart => exact ⟨0, _, rfl, rfl, by omega, by rw [turnTo_zero]; exact HR0.out, Fr.refl _ _⟩
  case round =>
    obtain ⟨k, j, rfl, rfl, hkj, hrw, hfr⟩ := hrel
    have HR := Lib.hid hrw
    have HFR := Lib.hid hfr
    have hgr : g < wr.heap.size := Nat.lt_of_lt_of_le hg hfr.size
    have hf : ∀ o, wr.frozen? ⟨g, o, none⟩ = false := hrw.1
    clear hrw hfr
    by_cases hlt : (k : Int) < j
    · obtain ⟨j, rfl⟩ : ∃ m : Nat, j = m := ⟨j.toNat, by omega⟩
      have hkj' : k + j + 1 = rows.length := by have := HL.out; omega
      have hkl : k < rows.length := by omega
      have hjl : j < rows.length := by omega
      obtain ⟨⟨o1, p1, l1, c1, q1, m1, d1, e1⟩, x, y, z, e2, x0, x1, x2⟩ := HR.out.2 k rows[k] (by rw [turnTo_get (Nat.le_refl _) (by omega)]; simp [hkl])
      rw [e1] at e2
      injection e2 with a1 a2
      injection a2 with a2 a3
      injection a3 with a3
      subst a1 a2 a3
      obtain ⟨⟨o2, p2, l2, c2, q2, m2, d2, e3⟩, x, y, z, e4, y0, y1, y2⟩ := HR.out.2 j rows[j] (by rw [turnTo_get (by omega) (by omega)]; simp [hjl])
      rw [e3] at e4
      injection e4 with a1 a2
      injection a2 with a2 a3
      injection a3 with a3
      subst a1 a2 a3
      have i0 : (0 : Int) ≤ k := by omega
      have i1 : (k : Int) < n := by omega
      have j0 : (0 : Int) ≤ j := by omega
      have j1 : (j : Int) < n := by omega
      have ne1 : ¬ k = j := by omega
      have ne2 : ¬ k * 3 = j * 3 := by omega
      have hnew := turnTo_succ hkj' (by omega)
      have hset := (HR.out.set (i := k) (by rw [turnTo_length]; exact hkl) (a := .int .i64 o2) (b := .slice p2 l2 c2) (c := .slice q2 m2 d2) ⟨_, _, _, _, _, _, _, rfl⟩).set (i := j) (by rw [List.length_set, turnTo_length]; exact hjl) (a := .int .i64 o1) (b := .slice p1 l1 c1) (c := .slice q1 m1 d1) ⟨_, _, _, _, _, _, _, rfl⟩
      rw [← e1, ← e3, hnew] at hset
      have HSET := Lib.hid hset
      have E1 := Lib.hid e1
      have E3 := Lib.hid e3
      have HKJ := Lib.hid hkj'
      clear hset hnew e1 e3 hkj'
      go_wp2
      go_region
      go_wp2
      go_roundw
      case rel =>
        refine ⟨k + 1, (j : Int) - 1, by go_num, rfl, by omega, NRow.drew HSET.out, Fr.drew ?_⟩
        have fs : ∀ (W : World) (o : Nat) (u : Value), Fr (fun k => k = g) W (W.setCell ⟨g, o, none⟩ u) := fun W o u => Fr.setCell (F := fun k => k = g) W rfl u
        have ft : ∀ {a b c : World}, Fr (fun k => k = g) a b → Fr (fun k => k = g) b c → Fr (fun k => k = g) a c := fun h k => h.trans k (fun _ _ h => h)
        exact ft HFR.out (ft (fs _ _ _) (ft (fs _ _ _) (ft (fs _ _ _) (ft (fs _ _ _) (ft (fs _ _ _) (fs _ _ _))))))
      case measure => (simp [intOf]; try omega)
    · go_wp2
      go_end0
      exact ⟨by rw [← turnTo_all (by rw [HL.out]; exact hkj) (by omega)]; exact HR.out, HFR.out, _, rfl⟩

end Go.Proofs.Ytmooflmhbpckjaa
