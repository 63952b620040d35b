import Derived.Test.YthmaokjhncokdaaB1
import Derived.Maps.AppendAt
import Derived.Deep.CutBlock
import Derived.Deep.DeepCutAuto
import Derived.RegionTactic
import Derived.BigRegion
/-
  slices.Index, Contains, Clone of ints. No condition beyond what each theorem names.
-/
set_option linter.unusedVariables false
set_option linter.unusedSimpArgs false
namespace Go.Proofs.Ythmaokjhncokdaa
open Go.RowKit

def idxOf {α : Type} (q : α → Bool) (xs : List α) : Int := match xs.findIdx? q with | some i => (i : Int) | none => -1

theorem idxOf_some {α : Type} {q : α → Bool} {xs : List α} {k : Nat} (hk : k < xs.length) (h1 : ∀ j (h : j < xs.length), j < k → q xs[j] = false) (h2 : q xs[k] = true) : idxOf q xs = k := by
  have : xs.findIdx? q = some k := by
    rw [List.findIdx?_eq_some_iff_getElem]
    exact ⟨hk, h2, fun j hj => by simp [h1 j (by omega) hj]⟩
  simp [idxOf, this]

theorem idxOf_none {α : Type} {q : α → Bool} {xs : List α} (h1 : ∀ j (h : j < xs.length), q xs[j] = false) : idxOf q xs = -1 := by
  have : xs.findIdx? q = none := by
    rw [List.findIdx?_eq_none_iff]
    intro x hx
    obtain ⟨j, hj, rfl⟩ := List.getElem_of_mem hx
    exact h1 j hj
  simp [idxOf, this]

theorem idxOf_ge {α : Type} (q : α → Bool) (xs : List α) : decide (0 ≤ idxOf q xs) = xs.any q := by
  unfold idxOf
  cases h : xs.findIdx? q with
  | none =>
    rw [List.findIdx?_eq_none_iff] at h
    have : xs.any q = false := by simpa using h
    simp [this]
  | some i =>
    rw [List.findIdx?_eq_some_iff_getElem] at h
    obtain ⟨hi, h1, -⟩ := h
    have : xs.any q = true := List.any_eq_true.2 ⟨xs[i], List.getElem_mem hi, h1⟩
    simp [this]

theorem ret_val {a b : Value} (h : a = b) : Ending.returned a = .returned b := by rw [h]

set_option maxHeartbeats 400000 in
theorem index_ints (w : World) (v : Value) (xs : List Int) (c : Int) (hn : xs.length ≤ 9223372036854775807) (hv : Ints w v xs) :
    Calls Try.prog 116 #[v, .int .i64 c] w fun e w' => e = .returned (.int .i64 (idxOf (fun x => c == x) xs)) ∧ w = w' := by
  obtain ⟨p, cap, rfl, hcap, hx⟩ := hv.get
  have HX := Lib.hid hx
  obtain ⟨n, hlen⟩ : ∃ n, n = xs.length := ⟨_, rfl⟩
  rw [← hlen] at hn hcap ⊢
  have HL := Lib.hid hlen
  clear hlen hx hv
  go_enter Try.func116, Try.ntmps116
  go_wp2
  go_loop [8] (fun i => ∃ k : Nat, i = .int .i64 k ∧ k ≤ n ∧ (∀ j (h : j < xs.length), j < k → (c == xs[j]) = false)) (fun i => n - (intOf i).toNat)
  case atStart => exact ⟨0, rfl, by omega, by intro j hj h; omega⟩
  case round =>
    obtain ⟨k, rfl, h1, h2⟩ := hrel
    have H2 := Lib.hid h2
    clear h2
    by_cases hlt : k < n
    · have hl : k < xs.length := HL.out ▸ hlt
      obtain ⟨b, off, rfl, hb, hy⟩ := HX.out (by omega)
      have hc := hy k hl
      clear hy
      cases hq : c == xs[k]
      · have HQ := Lib.hid hq
        go_wp2
        go_round
        case rel => exact ⟨k + 1, by go_num, by omega, fun j hj hjk => by
          by_cases e : j = k
          · subst e; exact HQ.out
          · exact H2.out j hj (by omega)⟩
        case measure => simp [intOf]; omega
      · have HQ := Lib.hid hq
        go_wp2
        go_ret
        exact ⟨ret_int (idxOf_some hl (fun j hj h => H2.out j hj h) HQ.out).symm, rfl⟩
    · go_wp2
      go_ret
      exact ⟨ret_int (idxOf_none (fun j hj => H2.out j hj (by have := HL.out; omega))).symm, rfl⟩

theorem contains_ints (w : World) (v : Value) (xs : List Int) (c : Int) (hn : xs.length ≤ 9223372036854775807) (hv : Ints w v xs) :
    Calls Try.prog 113 #[v, .int .i64 c] w fun e w' => e = .returned (.bool (xs.any (fun x => c == x))) ∧ w = w' := by
  have HI := Lib.hid (index_ints w v xs c hn hv)
  have HG := Lib.hid (idxOf_ge (fun x => c == x) xs)
  clear hv
  generalize idxOf (fun x => c == x) xs = i at *
  go_enter Try.func113, Try.ntmps113
  go_wp2_with fail
  refine HI.out.mono ?_
  rintro e w' ⟨rfl, rfl⟩
  go_wp2
  go_ret
  exact ⟨ret_val (by rw [← HG.out]; rfl), rfl⟩

theorem infoE3 : (Try.prog.info? 3).map (fun i => (i.zero, i.size, i.bytes)) = some (some (.int .i64 0), 1, 8) := by kernel_rfl

set_option maxHeartbeats 400000 in
/-- slices.Clone: the same cells in a block of its own -/
theorem clone_ints (w : World) (v : Value) (n : Nat) (cs : List Value) (hn : n * 8 ≤ 140737488355328) (hl : cs.length = n * 1) (h1 : ∀ u ∈ cs, u.oneCell' = true) (hv : Raw w v n cs) :
    Calls Try.prog 47 #[v] w fun e w' => ∃ v', e = .returned v' ∧ w'.ownsRow w.heap.size 3 1 v' n cs ∧ Below w.heap.size w w' := by
  obtain ⟨p, cap, rfl, hcap, hx⟩ := hv
  cases p with
  | none =>
    have h0 : cs = [] := by
      cases cs with
      | nil => rfl
      | cons a r => obtain ⟨b, off, h, -⟩ := hx (by simp); cases h
    subst h0
    have hn0 : n = 0 := by simp at hl; omega
    subst hn0
    clear hx
    have heq : ∀ w, (binOp .eql 46 (.slice none 0 cap) (.slice none 0 0)).run Try.prog w = .ok (.bool true) w := fun w => Lib.run_eql_slice_nil w 46 3 none 0 cap 0 0 Try.underlying46
    go_enter Try.func47, Try.ntmps47
    go_wp2
    go_ret
    exact ⟨_, rfl, World.ownsRow_nil _ _ _ _, Below.refl _ _⟩
  | some ad =>
    have heq : ∀ w, (binOp .eql 46 (.slice (some ad) n cap) (.slice none 0 0)).run Try.prog w = .ok (.bool false) w := fun w => Lib.run_eql_slice_nil w 46 3 _ _ _ _ _ Try.underlying46
    obtain ⟨i0, hi, hz0, hz1, hz2⟩ := info_parts infoE3
    have hcells : ∀ j u, cs[j]? = some u → (w.alloc (.cells #[] 3)).cell? (ad.add j) = some u := by
      intro j u hu
      have hj : j < cs.length := (List.getElem?_eq_some_iff.1 hu).1
      obtain ⟨b, off, he, hc⟩ := hx (by omega)
      cases he
      have h1 := hc j u hu
      rw [show (⟨b, off, none⟩ : Addr).add j = ⟨b, off + j, none⟩ by unfold Addr.add; split <;> simp_all, World.cell?_alloc_lt _ _ _ (World.block_lt_of_cell? w _ h1)]
      exact h1
    have HC := Lib.hid hcells
    have HL := Lib.hid hl
    have H1 := Lib.hid h1
    have hown : (w.alloc (.cells #[] 3)).ownsRow w.heap.size 3 1 (.slice (some ⟨w.heap.size, 0, none⟩) 0 0) 0 [] := World.ownsRow_made w #[] 0 (Nat.le_refl _) (by unfold maxLen; omega) rfl
    have hb : Below w.heap.size w (w.alloc (.cells #[] 3)) := (Below.refl _ _).alloc (Nat.le_refl _) _
    clear hcells hx hl h1
    go_enter Try.func47, Try.ntmps47
    go_wp2_with (at_builtin; refine wpList_append_own _ rfl (.tmp 5) (.tmp 6) 46 rfl w.heap.size 3 i0 _ 1 8 Try.underlying46 hi hz0 hz1 hz2 rfl (by decide) _ 0 [] rfl hown ad n cap cs rfl HL.out HC.out H1.out (by unfold maxLen; omega) (by omega) (by simp) ?_)
    intro v' w' h1 h2 h3
    clear h3 heq
    go_wp2
    go_ret
    exact ⟨_, rfl, h1, hb.grown h2 (by simp) (by intro k hk; simp [Value.ownBlock] at hk; omega)⟩

end Go.Proofs.Ythmaokjhncokdaa

/-
  slices.Reverse of expressions. No condition beyond what each theorem names.
-/
set_option linter.unusedVariables false
set_option linter.unusedSimpArgs false
namespace Go.Proofs.Ythmaokjhncokdaa
open Go.RowKit

/-- three cells in a row -/
def three (w : World) (g o : Nat) (r : List Value) : Prop := ∃ x y z, r = [x, y, z] ∧ w.cell? ⟨g, o, none⟩ = some x ∧ w.cell? ⟨g, o + 1, none⟩ = some y ∧ w.cell? ⟨g, o + 2, none⟩ = some z

/-- the cells of an expression -/
def ndRow (r : List Value) : Prop := ∃ op p l c q m d, r = [.int .i64 op, .slice p l c, .slice q m d]

/-- a row of expressions that may be written -/
def NRow (w : World) (g : Nat) (rows : List (List Value)) : Prop := (∀ o, w.frozen? ⟨g, o, none⟩ = false) ∧ ∀ i r, rows[i]? = some r → ndRow r ∧ three w g (i * 3) r

theorem cell_set (w : World) (g o : Nat) (u : Value) (o' : Nat) (hc : (w.cell? ⟨g, o, none⟩).isSome) : (w.setCell ⟨g, o, none⟩ u).cell? ⟨g, o', none⟩ = if o' = o then some u else w.cell? ⟨g, o', none⟩ := by
  unfold World.cell? World.setCell at *
  cases h : w.heap[g]? with
  | none => simp [h] at hc
  | some b =>
    cases b <;> simp [h] at hc
    rename_i c t f
    simp [Array.getElem?_modify, h, Array.getElem?_setIfInBounds]
    by_cases e : o' = o
    · subst e; simp [hc]
    · simp [e, Ne.symm e]

theorem frozen_set (w : World) (g o : Nat) (u : Value) (o' : Nat) : (w.setCell ⟨g, o, none⟩ u).frozen? ⟨g, o', none⟩ = w.frozen? ⟨g, o', none⟩ := by
  unfold World.frozen? World.setCell
  simp only [Array.getElem?_modify, if_true]
  cases h : w.heap[g]? with
  | none => simp
  | some b => cases b <;> simp

theorem three_set {w : World} {g o : Nat} {r : List Value} (a b c : Value) (h : three w g o r) :
    let w' := ((w.setCell ⟨g, o, none⟩ a).setCell ⟨g, o + 1, none⟩ b).setCell ⟨g, o + 2, none⟩ c
    three w' g o [a, b, c] ∧ (∀ o', w'.frozen? ⟨g, o', none⟩ = w.frozen? ⟨g, o', none⟩) ∧ ∀ o' r', (o' + 2 < o ∨ o + 2 < o') → three w g o' r' → three w' g o' r' := by
  obtain ⟨x, y, z, rfl, h0, h1, h2⟩ := h
  have e1 := cell_set w g o a
  have e2 := cell_set (w.setCell ⟨g, o, none⟩ a) g (o + 1) b
  have e3 := cell_set ((w.setCell ⟨g, o, none⟩ a).setCell ⟨g, o + 1, none⟩ b) g (o + 2) c
  have key : ∀ o', (((w.setCell ⟨g, o, none⟩ a).setCell ⟨g, o + 1, none⟩ b).setCell ⟨g, o + 2, none⟩ c).cell? ⟨g, o', none⟩ = if o' = o + 2 then some c else if o' = o + 1 then some b else if o' = o then some a else w.cell? ⟨g, o', none⟩ := by
    intro o'
    have k1 : ∀ o', (w.setCell ⟨g, o, none⟩ a).cell? ⟨g, o', none⟩ = if o' = o then some a else w.cell? ⟨g, o', none⟩ := fun o' => e1 o' (by rw [h0]; rfl)
    have k2 : ∀ o', ((w.setCell ⟨g, o, none⟩ a).setCell ⟨g, o + 1, none⟩ b).cell? ⟨g, o', none⟩ = if o' = o + 1 then some b else if o' = o then some a else w.cell? ⟨g, o', none⟩ := fun o' => by
      rw [e2 o' (by rw [k1, if_neg (by omega), h1]; rfl), k1]
    rw [e3 o' (by rw [k2, if_neg (by omega), if_neg (by omega), h2]; rfl), k2]
  refine ⟨⟨a, b, c, rfl, ?_, ?_, ?_⟩, fun o' => ?_, fun o' r' hd ⟨x', y', z', e, g0, g1, g2⟩ => ⟨x', y', z', e, ?_, ?_, ?_⟩⟩
  · rw [key, if_neg (by omega), if_neg (by omega), if_pos rfl]
  · rw [key, if_neg (by omega), if_pos rfl]
  · rw [key, if_pos rfl]
  · rw [frozen_set, frozen_set, frozen_set]
  · rw [key, if_neg (by omega), if_neg (by omega), if_neg (by omega), g0]
  · rw [key, if_neg (by omega), if_neg (by omega), if_neg (by omega), g1]
  · rw [key, if_neg (by omega), if_neg (by omega), if_neg (by omega), g2]

theorem NRow.set {w : World} {g : Nat} {rows : List (List Value)} (h : NRow w g rows) {i : Nat} (hi : i < rows.length) {a b c : Value} (hr : ndRow [a, b, c]) :
    NRow (((w.setCell ⟨g, i * 3, none⟩ a).setCell ⟨g, i * 3 + 1, none⟩ b).setCell ⟨g, i * 3 + 2, none⟩ c) g (rows.set i [a, b, c]) := by
  obtain ⟨h1, h2⟩ := h
  obtain ⟨k1, k2, k3⟩ := three_set a b c (h2 i _ (List.getElem?_eq_getElem hi)).2
  refine ⟨fun o => (k2 o).trans (h1 o), fun j r hj => ?_⟩
  by_cases e : i = j
  · subst e
    rw [List.getElem?_set_self hi] at hj
    cases hj
    exact ⟨hr, k1⟩
  · rw [List.getElem?_set_ne e] at hj
    obtain ⟨g1, g2⟩ := h2 j r hj
    exact ⟨g1, k3 _ _ (by omega) g2⟩

theorem NRow.drew {w : World} {g : Nat} {rows : List (List Value)} (h : NRow w g rows) : NRow w.drew g rows := ⟨fun o => h.1 o, fun i r hi => (h.2 i r hi)⟩

theorem Fr.drew {F : Nat → Prop} {w w' : World} (h : Fr F w w') : Fr F w w'.drew := ⟨h.os, h.tape, h.output, h.size, h.block⟩

/-- turned round as far as k from both ends -/
def turnTo (rows : List (List Value)) (k : Nat) : List (List Value) :=
  (List.range rows.length).map fun p => if p < k ∨ rows.length ≤ p + k then rows[rows.length - 1 - p]?.getD [] else rows[p]?.getD []

theorem turnTo_length (rows : List (List Value)) (k : Nat) : (turnTo rows k).length = rows.length := by simp [turnTo]

theorem turnTo_zero (rows : List (List Value)) : turnTo rows 0 = rows := by
  apply List.ext_getElem
  · simp [turnTo]
  · intro i h1 h2; simp [turnTo, h2, show ¬ rows.length ≤ i by omega]

theorem turnTo_get {rows : List (List Value)} {k p : Nat} (h1 : k ≤ p) (h2 : p + k < rows.length) : (turnTo rows k)[p]? = rows[p]? := by
  have : p < rows.length := by omega
  simp [turnTo, this, show ¬ p < k by omega, show ¬ rows.length ≤ p + k by omega]

theorem turnTo_succ {rows : List (List Value)} {k j : Nat} (h : k + j + 1 = rows.length) (hk : k < j) : ((turnTo rows k).set k (rows[j]'(by omega))).set j (rows[k]'(by omega)) = turnTo rows (k + 1) := by
  apply List.ext_getElem
  · simp [turnTo]
  · intro i h1 h2
    have h3 : i < rows.length := by simpa [turnTo] using h2
    rw [List.getElem_set]
    by_cases e : j = i
    · subst e
      simp [turnTo, show rows.length ≤ j + (k + 1) by omega, show rows.length - 1 - j = k by omega, show k < rows.length by omega]
    · rw [if_neg e, List.getElem_set]
      by_cases e' : k = i
      · subst e'
        simp [turnTo, show rows.length - 1 - k = j by omega, show j < rows.length by omega]
      · rw [if_neg e']
        by_cases h4 : i < k ∨ rows.length ≤ i + k
        · simp [turnTo, h4, show i < k + 1 ∨ rows.length ≤ i + (k + 1) by omega]
        · simp [turnTo, h4, show ¬ (i < k + 1 ∨ rows.length ≤ i + (k + 1)) by omega]

theorem turnTo_all {rows : List (List Value)} {k : Nat} {j : Int} (h : (k : Int) + j + 1 = rows.length) (hk : ¬ (k : Int) < j) : turnTo rows k = rows.reverse := by
  apply List.ext_getElem
  · simp [turnTo]
  · intro i h1 h2
    have h3 : i < rows.length := by simpa [turnTo] using h1
    rw [List.getElem_reverse]
    by_cases h4 : i < k ∨ rows.length ≤ i + k
    · simp [turnTo, h4, show rows.length - 1 - i < rows.length by omega]
    · simp only [turnTo, List.getElem_map, List.getElem_range, if_neg h4]
      have : rows.length - 1 - i = i := by omega
      simp [this, h3]

theorem NRow.fr {F : Nat → Prop} {w w' : World} (hf : Fr F w w') {g : Nat} {rows : List (List Value)} (h : NRow w g rows) (hg : g < w.heap.size) (hn : ¬ F g) : NRow w' g rows := by
  have hc : ∀ o, w'.cell? ⟨g, o, none⟩ = w.cell? ⟨g, o, none⟩ := fun o => World.cell?_of_block (w := w) (hf.block g hg hn)
  refine ⟨fun o => (World.frozen?_of_block (w := w) (hf.block g hg hn)).trans (h.1 o), fun i r hi => ?_⟩
  obtain ⟨h1, x, y, z, e, h2, h3, h4⟩ := h.2 i r hi
  exact ⟨h1, x, y, z, e, (hc _).trans h2, (hc _).trans h3, (hc _).trans h4⟩

set_option maxHeartbeats 1000000 in
theorem rev_any (w : World) (g n cap : Nat) (rows : List (List Value)) (hl : rows.length = n) (hn : n ≤ 9000000000000000000) (hg : g < w.heap.size) (hr : NRow w g rows) :
    Calls Try.prog 55 #[.slice (some ⟨g, 0, none⟩) n cap] w fun e w' => NRow w' g rows.reverse ∧ Fr (fun k => k = g) w w' ∧ ∃ v, e = .returned v := by
  have HR0 := Lib.hid hr
  have HL := Lib.hid hl
  clear hr hl
  go_enter Try.func55, Try.ntmps55
  go_wp2_with fail
  go_loopw [2, 3] (fun u v wr => ∃ (k : Nat) (j : Int), u = .int .i64 k ∧ v = .int .i64 j ∧ k + j + 1 = n ∧ NRow wr g (turnTo rows k) ∧ Fr (fun k => k = g) w wr) (fun _ v _ => (intOf v + 1).toNat)
  case atStart => exact ⟨0, _, rfl, rfl, by omega, by rw [turnTo_zero]; exact HR0.out, Fr.refl _ _⟩
  case round =>
    obtain ⟨k, j, rfl, rfl, hkj, hrw, hfr⟩ := hrel
    have HR := Lib.hid hrw
    have HFR := Lib.hid hfr
    have hgr : g < wr.heap.size := Nat.lt_of_lt_of_le hg hfr.size
    have hf : ∀ o, wr.frozen? ⟨g, o, none⟩ = false := hrw.1
    clear hrw hfr
    by_cases hlt : (k : Int) < j
    · obtain ⟨j, rfl⟩ : ∃ m : Nat, j = m := ⟨j.toNat, by omega⟩
      have hkj' : k + j + 1 = rows.length := by have := HL.out; omega
      have hkl : k < rows.length := by omega
      have hjl : j < rows.length := by omega
      obtain ⟨⟨o1, p1, l1, c1, q1, m1, d1, e1⟩, x, y, z, e2, x0, x1, x2⟩ := HR.out.2 k rows[k] (by rw [turnTo_get (Nat.le_refl _) (by omega)]; simp [hkl])
      rw [e1] at e2
      injection e2 with a1 a2
      injection a2 with a2 a3
      injection a3 with a3
      subst a1 a2 a3
      obtain ⟨⟨o2, p2, l2, c2, q2, m2, d2, e3⟩, x, y, z, e4, y0, y1, y2⟩ := HR.out.2 j rows[j] (by rw [turnTo_get (by omega) (by omega)]; simp [hjl])
      rw [e3] at e4
      injection e4 with a1 a2
      injection a2 with a2 a3
      injection a3 with a3
      subst a1 a2 a3
      have i0 : (0 : Int) ≤ k := by omega
      have i1 : (k : Int) < n := by omega
      have j0 : (0 : Int) ≤ j := by omega
      have j1 : (j : Int) < n := by omega
      have ne1 : ¬ k = j := by omega
      have ne2 : ¬ k * 3 = j * 3 := by omega
      have hnew := turnTo_succ hkj' (by omega)
      have hset := (HR.out.set (i := k) (by rw [turnTo_length]; exact hkl) (a := .int .i64 o2) (b := .slice p2 l2 c2) (c := .slice q2 m2 d2) ⟨_, _, _, _, _, _, _, rfl⟩).set (i := j) (by rw [List.length_set, turnTo_length]; exact hjl) (a := .int .i64 o1) (b := .slice p1 l1 c1) (c := .slice q1 m1 d1) ⟨_, _, _, _, _, _, _, rfl⟩
      rw [← e1, ← e3, hnew] at hset
      have HSET := Lib.hid hset
      have E1 := Lib.hid e1
      have E3 := Lib.hid e3
      have HKJ := Lib.hid hkj'
      clear hset hnew e1 e3 hkj'
      go_wp2
      go_region
      go_wp2
      go_roundw
      case rel =>
        refine ⟨k + 1, (j : Int) - 1, by go_num, rfl, by omega, NRow.drew HSET.out, Fr.drew ?_⟩
        have fs : ∀ (W : World) (o : Nat) (u : Value), Fr (fun k => k = g) W (W.setCell ⟨g, o, none⟩ u) := fun W o u => Fr.setCell (F := fun k => k = g) W rfl u
        have ft : ∀ {a b c : World}, Fr (fun k => k = g) a b → Fr (fun k => k = g) b c → Fr (fun k => k = g) a c := fun h k => h.trans k (fun _ _ h => h)
        exact ft HFR.out (ft (fs _ _ _) (ft (fs _ _ _) (ft (fs _ _ _) (ft (fs _ _ _) (ft (fs _ _ _) (fs _ _ _))))))
      case measure => (simp [intOf]; try omega)
    · go_wp2
      go_end0
      exact ⟨by rw [← turnTo_all (by rw [HL.out]; exact hkj) (by omega)]; exact HR.out, HFR.out, _, rfl⟩

end Go.Proofs.Ythmaokjhncokdaa

/-
  Expressions as rows; matching. No condition beyond what each theorem names.
-/
set_option linter.unusedVariables false
set_option linter.unusedSimpArgs false
namespace Go.Proofs.Ythmaokjhncokdaa
open Go.RowKit

/-- one character on -/
def one (t : List Int) (cls : List Int) (p q : Nat) : Prop := q = p + 1 ∧ ∃ c, t[p]? = some c ∧ c ∈ cls
theorem M_0 {t : List Int} {cls : List Int} {ps : List Nd} (p q : Nat) : M t (.mk 0 cls ps) p q ↔ p = q := by unfold M; simp

theorem M_1 {t : List Int} {cls : List Int} {ps : List Nd} (p q : Nat) : M t (.mk 1 cls ps) p q ↔ one t cls p q := by unfold M; simp [one]

theorem M_2 {t : List Int} {cls : List Int} {ps : List Nd} (p q : Nat) : M t (.mk 2 cls ps) p q ↔ Mseq t ps p q := by unfold M; simp

theorem M_3 {t : List Int} {cls : List Int} {ps : List Nd} (p q : Nat) : M t (.mk 3 cls ps) p q ↔ Malt t ps p q := by unfold M; simp

theorem M_4 {t : List Int} {cls : List Int} {ps : List Nd} (p q : Nat) : M t (.mk 4 cls ps) p q ↔ ps.length = 1 ∧ Star (Malt t ps) p q := by unfold M; simp

theorem M_5 {t : List Int} {cls : List Int} {ps : List Nd} (p q : Nat) : M t (.mk 5 cls ps) p q ↔ ps.length = 1 ∧ (p = q ∨ Malt t ps p q) := by unfold M; simp

theorem M_else {t : List Int} {op : Int} {cls : List Int} {ps : List Nd} (h0 : op ≠ 0) (h1 : op ≠ 1) (h2 : op ≠ 2) (h3 : op ≠ 3) (h4 : op ≠ 4) (h5 : op ≠ 5) (p q : Nat) : ¬ M t (.mk op cls ps) p q := by unfold M; simp [*]

theorem no_places (n : Nat) (q : Nat) : ¬ tr (List.replicate n false) q := by
  unfold tr; rw [List.getElem?_replicate]; split <;> simp
theorem NodeIs.form {w : World} {x : Nd} {a b c : Value} (h : NodeIs w x a b c) : ∃ op p l c1 q m d, a = .int .i64 op ∧ b = .slice p l c1 ∧ c = .slice q m d := by
  obtain ⟨op, cls, ps⟩ := x
  rw [nodeIs_iff] at h
  obtain ⟨rfl, h1, -, -, h2⟩ := h
  obtain ⟨p, c1, rfl, -⟩ := h1.get
  obtain ⟨q, d, rfl, -⟩ := h2.get
  exact ⟨_, _, _, _, _, _, _, rfl, rfl, rfl⟩

theorem Nodes.rows {w : World} {v : Value} {ns : List Nd} (h : Nodes w v ns) : ∃ rows : List (List Value), Raw w v ns.length rows.flatten ∧ rows.length = ns.length ∧ rows.flatten.length = ns.length * 3 ∧
    (∀ u ∈ rows.flatten, u.oneCell' = true) ∧ (∀ r ∈ rows, ndRow r) ∧ ∀ i (h : i < ns.length), ∃ x y z, rows[i]? = some [x, y, z] ∧ NodeIs w ns[i] x y z := by
  obtain ⟨rows, ⟨h1, h2⟩, h3, h4⟩ := h
  have hnd : ∀ r ∈ rows, ndRow r := by
    intro r hr
    obtain ⟨i, hi, rfl⟩ := List.getElem_of_mem hr
    obtain ⟨x, y, z, h5, h6⟩ := h4 i (by omega)
    obtain ⟨op, p, l, c1, q, m, d, rfl, rfl, rfl⟩ := h6.form
    rw [List.getElem?_eq_getElem hi] at h5
    exact ⟨op, p, l, c1, q, m, d, Option.some.inj h5⟩
  refine ⟨rows, by rwa [h3] at h2, h3, by rw [flatten_length h1, h3], fun u hu => ?_, hnd, h4⟩
  obtain ⟨r, hr, hu⟩ := List.mem_flatten.1 hu
  obtain ⟨op, p, l, c1, q, m, d, rfl⟩ := hnd r hr
  simp at hu
  rcases hu with rfl | rfl | rfl <;> rfl

theorem Nodes.mk {w : World} {v : Value} {ns : List Nd} {rows : List (List Value)} (h1 : Raw w v ns.length rows.flatten) (h2 : rows.length = ns.length) (h3 : ∀ r ∈ rows, ndRow r) (h4 : ∀ i (h : i < ns.length), ∃ x y z, rows[i]? = some [x, y, z] ∧ NodeIs w ns[i] x y z) : Nodes w v ns :=
  ⟨rows, ⟨fun r hr => by obtain ⟨op, p, l, c1, q, m, d, rfl⟩ := h3 r hr; rfl, by rwa [h2]⟩, h2, h4⟩

theorem NRow.of_own {w : World} {base g n cap : Nat} {rows : List (List Value)} (h : w.ownsRow base 52 3 (.slice (some ⟨g, 0, none⟩) n cap) n rows.flatten) (hr : ∀ r ∈ rows, ndRow r) : NRow w g rows := by
  have hraw := Raw.of_own h
  obtain ⟨h1, h2⟩ := h
  rcases h2 with ⟨h3, -⟩ | ⟨g', cap', cur, h3, -, h4, -⟩
  · cases h3
  · cases h3
    refine ⟨fun o => by simp [World.frozen?, h4], fun i r hi => ⟨hr r (List.mem_of_getElem? hi), ?_⟩⟩
    have hrows : Rows w 3 (.slice (some ⟨g, 0, none⟩) n cap) rows := ⟨fun r hr' => by obtain ⟨op, p, l, c1, q, m, d, rfl⟩ := hr r hr'; rfl, by
      have e : rows.length = n := by
        have := flatten_length (sz := 3) (rows := rows) (fun r hr' => by obtain ⟨op, p, l, c1, q, m, d, rfl⟩ := hr r hr'; rfl)
        omega
      rw [e]; exact hraw⟩
    obtain ⟨p, c, h5, -, h6⟩ := hrows.get (by omega)
    obtain ⟨b, off, h7, -, h8⟩ := h6 (by have := (List.getElem?_eq_some_iff.1 hi).1; omega)
    injection h5 with h5
    subst h5
    cases h7
    obtain ⟨op, p, l, c1, q, m, d, rfl⟩ := hr r (List.mem_of_getElem? hi)
    have h9 := h8 i _ hi
    exact ⟨_, _, _, rfl, by simpa using h9 0 _ rfl, by simpa using h9 1 _ rfl, by simpa using h9 2 _ rfl⟩

theorem NRow.raw {w : World} {g n cap : Nat} {rows : List (List Value)} (h : NRow w g rows) (hl : rows.length = n) (hn : n ≤ cap) : Raw w (.slice (some ⟨g, 0, none⟩) n cap) n rows.flatten := by
  refine ⟨_, cap, rfl, hn, fun h0 => ⟨g, 0, rfl, fun j u hu => ?_⟩⟩
  have h3 : ∀ r ∈ rows, r.length = 3 := fun r hr => by
    obtain ⟨i, hi, rfl⟩ := List.getElem_of_mem hr
    obtain ⟨⟨op, p, l, c1, q, m, d, e⟩, -⟩ := h.2 i _ (List.getElem?_eq_getElem hi)
    rw [e]; rfl
  have hj := (List.getElem?_eq_some_iff.1 hu).1
  rw [flatten_length h3] at hj
  have hi : j / 3 < rows.length := by omega
  have := flatten_get h3 (List.getElem?_eq_getElem hi) (j % 3) (Nat.mod_lt _ (by omega))
  rw [show j / 3 * 3 + j % 3 = j by omega, hu] at this
  obtain ⟨-, x, y, z, e, c0, c1, c2⟩ := h.2 (j / 3) _ (List.getElem?_eq_getElem hi)
  rw [e] at this
  have hm : j % 3 = 0 ∨ j % 3 = 1 ∨ j % 3 = 2 := by omega
  rcases hm with hm | hm | hm <;> rw [hm] at this <;> simp at this <;> subst this
  · rw [show 0 + j = j / 3 * 3 by omega]; exact c0
  · rw [show 0 + j = j / 3 * 3 + 1 by omega]; exact c1
  · rw [show 0 + j = j / 3 * 3 + 2 by omega]; exact c2

/-- slices.Reverse of whatever the call owns -/
theorem rev_own (w : World) (base n : Nat) (v : Value) (rows : List (List Value)) (hn : n ≤ 9000000000000000000) (hl : rows.length = n) (hr : ∀ r ∈ rows, ndRow r) (h : w.ownsRow base 52 3 v n rows.flatten) :
    Calls Try.prog 55 #[v] w fun e w' => Raw w' v n rows.reverse.flatten ∧ Fr (fun k => base ≤ k) w w' ∧ ∃ u, e = .returned u := by
  have h' := h
  obtain ⟨h1, h2⟩ := h'
  rcases h2 with ⟨rfl, rfl⟩ | ⟨g, cap, cur, rfl, hb, hg, hnc, -⟩
  · have : rows = [] := by simpa using hl
    subst this
    clear h h1 hl hr
    go_enter Try.func55, Try.ntmps55
    go_wp2_with fail
    go_loopw [2, 3] (fun u v wr => u = .int .i64 0 ∧ v = .int .i64 (-1) ∧ wr = w) (fun _ v _ => 0)
    case atStart => exact ⟨rfl, rfl, rfl⟩
    case round =>
      obtain ⟨rfl, rfl, rfl⟩ := hrel
      go_wp2
      go_end0
      exact ⟨⟨none, 0, rfl, Nat.le_refl _, fun h => by simp at h⟩, Fr.refl _ _, _, rfl⟩
  · refine (rev_any w g n cap rows hl hn (Array.getElem?_eq_some_iff.1 hg).1 (NRow.of_own h hr)).mono fun e w' ⟨k1, k2, k3⟩ => ⟨k1.raw (by simpa using hl) hnc, k2.mono (fun k _ hk => by subst hk; exact hb), k3⟩
theorem Malt_take {t : List Int} {ps : List Nd} {k : Nat} (h : k < ps.length) (p q : Nat) : Malt t (ps.take (k + 1)) p q ↔ Malt t (ps.take k) p q ∨ M t ps[k] p q := by
  rw [Malt_mem, Malt_mem, List.take_succ_eq_append_getElem h]
  simp only [List.mem_append, List.mem_singleton]
  constructor
  · rintro ⟨x, h1 | rfl, h2⟩
    · exact .inl ⟨x, h1, h2⟩
    · exact .inr h2
  · rintro (⟨x, h1, h2⟩ | h2)
    · exact ⟨x, .inl h1, h2⟩
    · exact ⟨_, .inr rfl, h2⟩

theorem malt_one {t : List Int} {ps : List Nd} (h : ps.length = 1) (p q : Nat) : M t (ps[0]'(by omega)) p q ↔ Malt t ps p q := by
  match ps, h with
  | [x], _ => simp [Malt]

theorem Bools.ne {w : World} {pf : Option Addr} {n cap : Nat} {bs : List Bool} (h : Bools w (.slice pf n cap) bs) (h0 : 0 < bs.length) : ∀ j, pf.map (·.block) = some j → j < w.heap.size := by
  obtain ⟨b, off, cap', he, -, hb, -⟩ := Raw.lt h (by simpa using h0)
  injection he with he
  subst he
  intro j hj
  obtain rfl : b = j := by simpa using hj
  exact hb

theorem Bools.fr {F : Nat → Prop} {w w' : World} {v : Value} {bs : List Bool} (h : Bools w v bs) (hf : Fr F w w') (hn : 0 < bs.length → ∀ k, v.ownBlock = some k → ¬ F k) : Bools w' v bs := Raw.fr hf h (by simpa using hn)

theorem ownBlock_map (pf : Option Addr) (n c : Nat) : (Value.slice pf n c).ownBlock = pf.map (·.block) := by cases pf <;> rfl

end Go.Proofs.Ythmaokjhncokdaa

/-
  Lists of one's own, and what append makes of them. No condition beyond what each theorem names.
-/
set_option linter.unusedVariables false
set_option linter.unusedSimpArgs false
namespace Go.Proofs.Ythmaokjhncokdaa
open Go.RowKit

/-- v owns, from block base on, elements of sz cells each, which are as E says -/
def OwnL {α : Type} (E : α → List Value → Prop) (T : TypeId) (sz base : Nat) (w : World) (v : Value) (xs : List α) : Prop :=
  ∃ rows : List (List Value), w.ownsRow base T sz v xs.length rows.flatten ∧ rows.length = xs.length ∧ (∀ r ∈ rows, r.length = sz ∧ ∀ u ∈ r, u.oneCell' = true) ∧ ∀ i (h : i < xs.length), ∃ row, rows[i]? = some row ∧ E xs[i] row

/-- a slice whose elements are as E says -/
def ReadL {α : Type} (E : α → List Value → Prop) (sz : Nat) (w : World) (v : Value) (xs : List α) : Prop :=
  ∃ rows : List (List Value), Raw w v xs.length rows.flatten ∧ rows.length = xs.length ∧ (∀ r ∈ rows, r.length = sz ∧ ∀ u ∈ r, u.oneCell' = true) ∧ ∀ i (h : i < xs.length), ∃ row, rows[i]? = some row ∧ E xs[i] row

section
variable {α : Type} {E : α → List Value → Prop} {T : TypeId} {sz base : Nat} {w : World} {v : Value} {xs : List α}

theorem OwnL.read (h : OwnL E T sz base w v xs) : ReadL E sz w v xs := by
  obtain ⟨rows, h1, h2⟩ := h
  exact ⟨rows, Raw.of_own h1, h2⟩

theorem OwnL.nil (w : World) : OwnL E T sz base w (.slice none 0 0) [] := ⟨[], World.ownsRow_nil _ _ _ _, rfl, by simp, fun i h => by simp at h⟩

theorem OwnL.form (h : OwnL E T sz base w v xs) : ∃ p cap, v = .slice p xs.length cap := by
  obtain ⟨rows, ⟨h1, h2⟩, -⟩ := h
  rcases h2 with ⟨rfl, h3⟩ | ⟨g, cap, cur, rfl, -⟩
  · exact ⟨none, 0, by rw [h3]⟩
  · exact ⟨_, _, rfl⟩

theorem OwnL.lt (h : OwnL E T sz base w v xs) : ∀ k, v.ownBlock = some k → base ≤ k ∧ k < w.heap.size := by
  obtain ⟨rows, h1, -⟩ := h
  exact h1.lt

theorem OwnL.mono {F : α → List Value → Prop} (h : OwnL E T sz base w v xs) (hf : ∀ x r, E x r → F x r) : OwnL F T sz base w v xs := by
  obtain ⟨rows, h1, h2, h3, h4⟩ := h
  exact ⟨rows, h1, h2, h3, fun i hi => by obtain ⟨row, g1, g2⟩ := h4 i hi; exact ⟨row, g1, hf _ _ g2⟩⟩

theorem ownsRow_keep {w w' : World} {cs : List Value} {n : Nat} {G : Nat → Prop} (h : w.ownsRow base T sz v n cs) (hf : Fr G w w') (hn : ∀ k, v.ownBlock = some k → ¬ G k) : w'.ownsRow base T sz v n cs := by
  refine ⟨h.1, ?_⟩
  rcases h.2 with h1 | ⟨g, cap, cur, rfl, h1, h2, h3⟩
  · exact .inl h1
  · exact .inr ⟨g, cap, cur, rfl, h1, by rw [hf.block g (Array.getElem?_eq_some_iff.1 h2).1 (hn g rfl)]; exact h2, h3⟩

theorem OwnL.fr {w' : World} {G : Nat → Prop} (h : OwnL E T sz base w v xs) (hf : Fr G w w') (hn : ∀ k, v.ownBlock = some k → ¬ G k) : OwnL E T sz base w' v xs := by
  obtain ⟨rows, h1, h2⟩ := h
  exact ⟨rows, ownsRow_keep h1 hf hn, h2⟩

theorem OwnL.below {w' : World} {B : Nat} (h : OwnL E T sz base w v xs) (hb : Below B w w') (hB : w.heap.size ≤ B) : OwnL E T sz base w' v xs :=
  h.fr (Fr.of_belowB hb) (fun k hk => by have := (h.lt k hk).2; omega)

theorem ReadL.below {w' : World} {B : Nat} (h : ReadL E sz w v xs) (hb : Below B w w') (hB : w.heap.size ≤ B) : ReadL E sz w' v xs := by
  obtain ⟨rows, h1, h2⟩ := h
  exact ⟨rows, h1.below hb hB, h2⟩
end

theorem run_append_none {P : Program} {w : World} (base : Nat) (t ty e : TypeId) (i : TypeInfo) (size : Nat) (ht : P.underlying t = some (.slice e)) (hi : P.info? e = some i)
    (v : Value) (n : Nat) (xs : List Value) (hown : w.ownsRow base e size v n xs) (c : Nat) :
    (Builtin.append_ #[t, t] ty #[v, .slice none 0 c]).run P w = .ok v w := by
  rcases hown.2 with ⟨rfl, rfl⟩ | ⟨g, cap, cur, rfl, _, _, hnc, _⟩
  · simp [Builtin.append_, run_underlying ht, sizeOf, typeInfo, hi, Builtin.lenOf, Builtin.firstCells]
  · simp [Builtin.append_, run_underlying ht, sizeOf, typeInfo, hi, Builtin.lenOf, Builtin.firstCells, hnc, storeCells]

/-- append to a list of one's own: the list, longer, in its old row or in a new one -/
theorem wpList_append_L {P : Program} {α : Type} {E : α → List Value → Prop} {T : TypeId} {sz base : Nat} {ops : Array Oper} {rest : List Oper} {o : Oper} {a : Act} {w : World} {Q : Exit → Act → World → Prop} (hgd : o.guard = none) (s x : Operand) (t : TypeId)
    (ho : o.op = .call { callee := .builtin .append, args := #[s, x], argTypes := #[t, t] }) (i : TypeInfo) (z : Value) (by_ : Nat) (ht : P.underlying t = some (.slice T)) (hi : P.info? T = some i) (hz : i.zero = some z) (hsize : i.size = sz) (hby : i.bytes = by_) (hzs : z.cells.size = sz) (hsz : 0 < sz)
    (v : Value) (xs : List α) (hs : a.eval s = v) (hown : OwnL E T sz base w v xs) (xv : Value) (ns : List α) (hx : a.eval x = xv) (hr : ReadL E sz w xv ns) (h63 : xs.length + ns.length ≤ maxLen) (hbytes : (xs.length + ns.length) * by_ ≤ 140737488355328) (hbase : base ≤ w.heap.size)
    (h : ∀ p c w', OwnL E T sz base w' (.slice p (xs.length + ns.length) c) (xs ++ ns) → w.grownBy w' v.ownBlock → ((Value.slice p (xs.length + ns.length) c).ownBlock = v.ownBlock ∨ (Value.slice p (xs.length + ns.length) c).ownBlock = some w.heap.size) → wpList P ops Q rest (a.put o.dst (.slice p (xs.length + ns.length) c)) w') : wpList P ops Q (o :: rest) a w := by
  obtain ⟨rows, o1, o2, o3, o4⟩ := hown
  obtain ⟨nrows, n1, n2, n3, n4⟩ := hr
  have hnl : nrows.flatten.length = ns.length * sz := by rw [flatten_length (fun r hr => (n3 r hr).1), n2]
  have hform := o1.2
  have key : ∀ v' w', w'.ownsRow base T sz v' (xs.length + ns.length) (rows.flatten ++ nrows.flatten) → w.grownBy w' v.ownBlock → (v'.ownBlock = v.ownBlock ∨ v'.ownBlock = some w.heap.size) → wpList P ops Q rest (a.put o.dst v') w' := by
    intro v' w' k1 k2 k3
    have hv : ∃ p c, v' = .slice p (xs.length + ns.length) c := by
      rcases k1.2 with ⟨rfl, h3⟩ | ⟨g, cap, cur, rfl, -⟩
      · exact ⟨none, 0, by rw [h3]⟩
      · exact ⟨_, _, rfl⟩
    obtain ⟨p, c, rfl⟩ := hv
    refine h p c w' ⟨rows ++ nrows, ?_, by simp [o2, n2], fun r hr => ?_, fun i hi => ?_⟩ k2 k3
    · rw [List.flatten_append, List.length_append]; exact k1
    · rcases List.mem_append.1 hr with hr | hr
      · exact o3 r hr
      · exact n3 r hr
    · by_cases hlt : i < xs.length
      · obtain ⟨row, g1, g2⟩ := o4 i hlt
        exact ⟨row, by rw [List.getElem?_append_left (by omega)]; exact g1, by rw [List.getElem_append_left hlt]; exact g2⟩
      · have hi' : i - xs.length < ns.length := by simp at hi; omega
        obtain ⟨row, g1, g2⟩ := n4 (i - xs.length) hi'
        exact ⟨row, by rw [List.getElem?_append_right (by omega), o2]; exact g1, by rw [List.getElem_append_right (by omega)]; exact g2⟩
  obtain ⟨p, cap, rfl, hcap, hxx⟩ := n1
  cases p with
  | none =>
    have h0 : ns.length = 0 := by
      rcases Nat.eq_zero_or_pos ns.length with h | h
      · exact h
      · obtain ⟨b, off, e, -⟩ := hxx (by rw [hnl]; exact Nat.mul_pos h hsz)
        cases e
    have h1 : nrows.flatten = [] := List.eq_nil_of_length_eq_zero (by rw [hnl, h0, Nat.zero_mul])
    refine wpList_plain hgd fun K hK => ?_
    rw [h0] at hx
    have hrun := run_append_none (P := P) (w := w) base t o.type T i sz ht hi v _ _ o1 cap
    unfold Oper.wp
    simp [execOp, ho, resolve, invoke, builtin, hs, hx, hrun, Result.andThen]
    refine hK _ _ (key v w ?_ (World.grownBy.mk rfl rfl rfl (Nat.le_refl _) (fun _ _ _ => rfl)) (.inl rfl))
    rw [h1, h0]
    simpa using o1
  | some ad =>
    refine wpList_append_own_at (P := P) w hgd s x t ho base T i z sz by_ ht hi hz hsize hby hzs hsz v xs.length rows.flatten hs o1 ad ns.length cap nrows.flatten hx hnl (fun j u hu => ?_) (fun u hu => ?_) h63 hbytes hbase (fun v' w' k1 k2 _ k3 => key v' w' k1 k2 k3)
    · obtain ⟨b, off, e, hc⟩ := hxx (by have := (List.getElem?_eq_some_iff.1 hu).1; omega)
      cases e
      rw [show (⟨b, off, none⟩ : Addr).add j = ⟨b, off + j, none⟩ by unfold Addr.add; split <;> simp_all]
      exact hc j u hu
    · obtain ⟨r, hr, hu⟩ := List.mem_flatten.1 hu
      exact (n3 r hr).2 u hu

/-- the elements of a block that has just been made -/
theorem ReadL.block {α : Type} {E : α → List Value → Prop} {sz : Nat} {w : World} {g n : Nat} {cs : List Value} {T : TypeId} (h : w.heap[g]? = some (.cells cs.toArray T (0, 0))) (xs : List α) (rows : List (List Value)) (hr : rows.flatten = cs) (hn : n = xs.length) (hl : rows.length = xs.length)
    (h1 : ∀ r ∈ rows, r.length = sz ∧ ∀ u ∈ r, u.oneCell' = true) (h2 : ∀ i (h : i < xs.length), ∃ row, rows[i]? = some row ∧ E xs[i] row) : ReadL E sz w (.slice (some ⟨g, 0, none⟩) n n) xs := by
  subst hr
  subst hn
  exact ⟨rows, Raw.of_block h, hl, h1, h2⟩

def intE (x : Int) (row : List Value) : Prop := row = [.int .i64 x]

theorem flatten_ints {xs : List Int} {rows : List (List Value)} (hl : rows.length = xs.length) (h : ∀ i (h : i < xs.length), ∃ row, rows[i]? = some row ∧ intE xs[i] row) : rows.flatten = xs.map (Value.int .i64) := by
  have : rows = xs.map fun x => [.int .i64 x] := by
    apply List.ext_getElem
    · simp [hl]
    · intro i h1 h2
      obtain ⟨row, g1, g2⟩ := h i (by omega)
      rw [List.getElem?_eq_getElem h1] at g1
      cases g1
      rw [g2]; simp
  rw [this]
  clear this h hl
  induction xs with
  | nil => rfl
  | cons x r ih => simp [ih]

theorem ReadL.ints {w : World} {v : Value} {xs : List Int} (h : ReadL intE 1 w v xs) : Ints w v xs := by
  obtain ⟨rows, h1, h2, h3, h4⟩ := h
  unfold Ints
  rwa [flatten_ints h2 h4] at h1

theorem Ints.readL {w : World} {v : Value} {xs : List Int} (h : Ints w v xs) : ReadL intE 1 w v xs := by
  refine ⟨xs.map fun x => [.int .i64 x], ?_, by simp, fun r hr => ?_, fun i hi => ⟨_, by simp [hi], rfl⟩⟩
  · have : (xs.map fun x => [Value.int .i64 x]).flatten = xs.map (Value.int .i64) := by
      clear h
      induction xs with
      | nil => rfl
      | cons x r ih => simp [ih]
    rw [this]; exact h
  · obtain ⟨x, -, rfl⟩ := List.mem_map.1 hr
    simp [Value.oneCell']

theorem RuleIs.cells {w : World} {r : Rl} {row : List Value} (h : RuleIs w r row) : row.length = 8 ∧ ∀ u ∈ row, u.oneCell' = true := by
  obtain ⟨a, b, c, d, e, f, rfl, h1, h2⟩ := h
  obtain ⟨o1, p1, l1, c1, q1, m1, d1, rfl, rfl, rfl⟩ := h1.form
  obtain ⟨o2, p2, l2, c2, q2, m2, d2, rfl, rfl, rfl⟩ := h2.form
  refine ⟨rfl, fun u hu => ?_⟩
  simp at hu
  rcases hu with rfl | rfl | rfl | rfl | rfl | rfl | rfl | rfl <;> rfl

theorem ReadL.rules {w0 w : World} {v : Value} {rs : List Rl} (h : ReadL (RuleIs w0) 8 w v rs) (hb : Below w0.heap.size w0 w) : Rules w v rs := by
  obtain ⟨rows, h1, h2, h3, h4⟩ := h
  refine ⟨rows, ⟨fun r hr => (h3 r hr).1, by rwa [h2]⟩, h2, fun i hi => ?_⟩
  obtain ⟨row, g1, g2⟩ := h4 i hi
  exact ⟨row, g1, g2.to hb (Nat.le_refl _)⟩

theorem Rules.readL {w : World} {v : Value} {rs : List Rl} (h : Rules w v rs) : ReadL (RuleIs w) 8 w v rs := by
  obtain ⟨rows, ⟨h1, h2⟩, h3, h4⟩ := h
  refine ⟨rows, by rwa [h3] at h2, h3, fun r hr => ?_, h4⟩
  obtain ⟨i, hi, rfl⟩ := List.getElem_of_mem hr
  obtain ⟨row, g1, g2⟩ := h4 i (by omega)
  rw [List.getElem?_eq_getElem hi] at g1
  cases g1
  exact g2.cells

end Go.Proofs.Ythmaokjhncokdaa

/-
  append of ints; blocks. No condition beyond what each theorem names.
-/
set_option linter.unusedVariables false
set_option linter.unusedSimpArgs false
namespace Go.Proofs.Ythmaokjhncokdaa
open Go.RowKit

theorem Ints.take {w : World} {p : Option Addr} {n cap : Nat} {xs : List Int} (h : Ints w (.slice p n cap) xs) {k : Nat} (hk : k ≤ n) : Ints w (.slice p k cap) (xs.take k) := by
  obtain ⟨p', c', he, hc, hx⟩ := h
  injection he with he1 he2 he3
  subst he1 he2 he3
  have hl : (xs.take k).length = k := by rw [List.length_take]; omega
  refine ⟨p, cap, by rw [hl], by omega, fun h0 => ?_⟩
  obtain ⟨b, off, hb, hx⟩ := hx (by simp at h0 ⊢; omega)
  refine ⟨b, off, hb, fun j u hu => hx j u ?_⟩
  rw [List.map_take, List.getElem?_take] at hu
  split at hu
  · exact hu
  · cases hu

theorem ReadL.get {α : Type} {E : α → List Value → Prop} {sz : Nat} {w : World} {v : Value} {rs : List α} (h : ReadL E sz w v rs) (hs : 0 < sz) : ∃ p cap, v = .slice p rs.length cap ∧ rs.length ≤ cap ∧ (0 < rs.length → ∃ b off, p = some ⟨b, off, none⟩ ∧ b < w.heap.size ∧
    ∀ i (h : i < rs.length), ∃ row, cellsAt w b (off + i * sz) row ∧ E rs[i] row) := by
  obtain ⟨rows, h1, h2, h3, h4⟩ := h
  have hr : Rows w sz v rows := ⟨fun r hr => (h3 r hr).1, by rwa [h2]⟩
  obtain ⟨p, cap, rfl, h5, h6⟩ := hr.get hs
  rw [h2] at h5 h6
  refine ⟨p, cap, by rw [h2], h5, fun h0 => ?_⟩
  obtain ⟨b, off, rfl, h7, h8⟩ := h6 h0
  refine ⟨b, off, rfl, h7, fun i hi => ?_⟩
  obtain ⟨row, h9, h10⟩ := h4 i hi
  exact ⟨row, h8 i _ h9, h10⟩

theorem infoInt : (Try.prog.info? 3).map (fun i => (i.zero, i.size, i.bytes)) = some (some (.int .i64 0), 1, 8) := by kernel_rfl

section
variable {ops : Array Oper} {rest : List Oper} {o : Oper} {a : Act} {w : World} {Q : Exit → Act → World → Prop} {base : Nat}
theorem wpList_append_ints (hgd : o.guard = none) (s x : Operand) (ho : o.op = .call { callee := .builtin .append, args := #[s, x], argTypes := #[46, 46] })
    (v : Value) (xs : List Int) (hs : a.eval s = v) (hown : OwnL intE 3 1 base w v xs) (xv : Value) (ns : List Int) (hx : a.eval x = xv) (hr : ReadL intE 1 w xv ns) (hlen : xs.length + ns.length ≤ 1000000) (hbase : base ≤ w.heap.size)
    (h : ∀ p c w', OwnL intE 3 1 base w' (.slice p (xs.length + ns.length) c) (xs ++ ns) → w.grownBy w' v.ownBlock → ((Value.slice p (xs.length + ns.length) c).ownBlock = v.ownBlock ∨ (Value.slice p (xs.length + ns.length) c).ownBlock = some w.heap.size) → wpList Try.prog ops Q rest (a.put o.dst (.slice p (xs.length + ns.length) c)) w') : wpList Try.prog ops Q (o :: rest) a w := by
  obtain ⟨i0, hi, hz0, hz1, hz2⟩ := info_parts infoInt
  exact wpList_append_L hgd s x 46 ho i0 _ 8 Try.underlying46 hi hz0 hz1 hz2 rfl (by decide) v xs hs hown xv ns hx hr (by unfold maxLen; omega) (by omega) hbase h

end
theorem abs_plan {P : Program} {ops : Array Oper} {S : World → Prop} {Q : Exit → Act → World → Prop} {p : Plan} {a : Act} {w : World} (h : ∀ W, W = w → Plan.wp P ops S Q p a W) : Plan.wp P ops S Q p a w := h w rfl

theorem below_alloc1 (W : World) (o : Obj) : Below W.heap.size W (W.alloc o) := (Below.refl _ _).alloc (Nat.le_refl _) _

/-- an empty list of one's own, in a new block -/
theorem OwnL.made {α : Type} {E : α → List Value → Prop} {T : TypeId} {sz base : Nat} (w : World) (hb : base ≤ w.heap.size) : OwnL E T sz base (w.alloc (.cells #[] T)) (.slice (some ⟨w.heap.size, 0, none⟩) 0 0) [] :=
  ⟨[], World.ownsRow_made w #[] 0 hb (by unfold maxLen; omega) (by simp), rfl, by simp, fun i h => by simp at h⟩

/-- one element, in a new block -/
theorem ReadL.one {α : Type} {E : α → List Value → Prop} {sz : Nat} (w : World) (T : TypeId) (x : α) (row : List Value) (h1 : row.length = sz ∧ ∀ u ∈ row, u.oneCell' = true) (h2 : E x row) : ReadL E sz (w.alloc (.cells row.toArray T)) (.slice (some ⟨w.heap.size, 0, none⟩) 1 1) [x] :=
  ReadL.block (cs := row) (heap_alloc_new w _) [x] [row] (by simp) rfl rfl (fun r hr => by rw [List.mem_singleton.1 hr]; exact h1) (fun i hi => by
    obtain rfl : i = 0 := by simpa using hi
    exact ⟨row, rfl, h2⟩)

theorem ReadL.fr {α : Type} {E : α → List Value → Prop} {sz : Nat} {w w' : World} {v : Value} {xs : List α} {G : Nat → Prop} (h : ReadL E sz w v xs) (hf : Fr G w w') (hn : ∀ k, v.ownBlock = some k → ¬ G k) : ReadL E sz w' v xs := by
  obtain ⟨rows, h1, h2, h3, h4⟩ := h
  exact ⟨rows, h1.fr hf (fun _ => hn), h2, h3, h4⟩

/-- a list read apart from the one that grew -/
theorem ReadL.grown {α : Type} {E : α → List Value → Prop} {sz : Nat} {w w' : World} {v : Value} {xs : List α} {r : Option Nat} (h : ReadL E sz w v xs) (hg : w.grownBy w' r) (hn : ∀ k, v.ownBlock = some k → r ≠ some k) : ReadL E sz w' v xs :=
  h.fr (Fr.grown (F := fun k => r = some k) hg (fun _ h => h)) (fun k hk => hn k hk)

/-- one element of one's own, in a new block -/
theorem OwnL.block1 {α : Type} {E : α → List Value → Prop} {sz base : Nat} (w : World) (T : TypeId) (x : α) (row : List Value) (h1 : row.length = sz ∧ ∀ u ∈ row, u.oneCell' = true) (h2 : E x row) (hb : base ≤ w.heap.size) : OwnL E T sz base (w.alloc (.cells row.toArray T)) (.slice (some ⟨w.heap.size, 0, none⟩) 1 1) [x] :=
  ⟨[row], by simpa using World.ownsRow_lit (e := T) (size := sz) w row.toArray 1 hb (by unfold maxLen; omega) (by simp [h1.1]), rfl, fun r hr => by rw [List.mem_singleton.1 hr]; exact h1, fun i hi => by
    obtain rfl : i = 0 := by simpa using hi
    exact ⟨row, rfl, h2⟩⟩

theorem nodeZ (w : World) : NodeIs w (.mk 0 [] []) (.int .i64 0) (.slice none 0 0) (.slice none 0 0) := by
  rw [nodeIs_iff]
  exact ⟨rfl, Ints.nil _, by unfold R; simp, by unfold R; simp, [], ⟨by simp, none, 0, rfl, by simp, fun h => by simp at h⟩, rfl, fun i h => by simp at h⟩

end Go.Proofs.Ythmaokjhncokdaa

/-
  Variables of several cells. No condition beyond what each theorem names.
-/
set_option linter.unusedVariables false
set_option linter.unusedSimpArgs false
namespace Go.Proofs.Ythmaokjhncokdaa
open Go.RowKit

theorem cells8 {w : World} {B : Nat} {a b c d e f g h : Value} {T : TypeId} (hb : w.heap[B]? = some (.cells #[a, b, c, d, e, f, g, h] T)) : w.cell? ⟨B, 0, none⟩ = some a ∧ w.cell? ⟨B, 1, none⟩ = some b ∧ w.cell? ⟨B, 2, none⟩ = some c ∧ w.cell? ⟨B, 3, none⟩ = some d ∧
    w.cell? ⟨B, 4, none⟩ = some e ∧ w.cell? ⟨B, 5, none⟩ = some f ∧ w.cell? ⟨B, 6, none⟩ = some g ∧ w.cell? ⟨B, 7, none⟩ = some h := by
  refine ⟨?_, ?_, ?_, ?_, ?_, ?_, ?_, ?_⟩ <;> simp [World.cell?, hb]

theorem cells3 {w : World} {B : Nat} {a b c : Value} {T : TypeId} (hb : w.heap[B]? = some (.cells #[a, b, c] T)) : w.cell? ⟨B, 0, none⟩ = some a ∧ w.cell? ⟨B, 1, none⟩ = some b ∧ w.cell? ⟨B, 2, none⟩ = some c := by
  refine ⟨?_, ?_, ?_⟩ <;> simp [World.cell?, hb]

theorem at_lt {w : World} {B : Nat} {o : Obj} (h : w.heap[B]? = some o) : B < w.heap.size := (Array.getElem?_eq_some_iff.1 h).1

theorem fz_at {w : World} {B : Nat} {cur : Array Value} {T : TypeId} (hb : w.heap[B]? = some (.cells cur T)) (i : Nat) : w.frozen? ⟨B, i, none⟩ = false := by simp [World.frozen?, hb]

theorem blk_set {w : World} {B : Nat} {cur : Array Value} {T : TypeId} (hb : w.heap[B]? = some (.cells cur T)) (i : Nat) (u : Value) : (w.setCell ⟨B, i, none⟩ u).heap[B]? = some (.cells (cur.setIfInBounds i u) T) := by
  simp [World.setCell, Array.getElem?_modify, hb]

section
variable {P : Program} {ops : Array Oper} {rest : List Oper} {o : Oper} {a : Act} {w : World} {Q : Exit → Act → World → Prop}
/-- a variable of several cells is stored whole -/
theorem wpList_store_obj (hgd : o.guard = none) (x y : Operand) (T : TypeId) (ho : o.op = .store T x y) (b : Nat) (hx : a.eval x = .pointer (some ⟨b, 0, none⟩)) (row : List Value) (hy : a.eval y = .agg row.toArray) (cur : Array Value) (e : TypeId)
    (hg : w.heap[b]? = some (.cells cur e)) (hsz : (P.info? T).map (·.size) = some row.length) (hl : cur.size = row.length) (h1 : ∀ c ∈ row, c.oneCell' = true)
    (h : ∀ w', w'.heap[b]? = some (.cells row.toArray e) → Fr (fun k => k = b) w w' → wpList P ops Q rest (a.put o.dst undef) w') : wpList P ops Q (o :: rest) a w := by
  refine wpList_store_row hgd x y T ho b 0 hx _ hy cur e (by simpa [Value.cells] using hsz) hg (by simp [Value.cells, hl]) (by simpa [Value.cells] using h1) ?_
  refine h _ ?_ (Fr.setRow (F := fun k => k = b) _ rfl _)
  rw [setRow_heap w b _ _ e (0, 0) hg]
  congr 2
  simp [splice, Value.cells, hl]

end
end Go.Proofs.Ythmaokjhncokdaa

/-
  Matching goes forward; bits. No condition beyond what each theorem names.
-/
set_option linter.unusedVariables false
set_option linter.unusedSimpArgs false
namespace Go.Proofs.Ythmaokjhncokdaa
open Go.RowKit

theorem Mseq_le {t : List Int} : ∀ {l : List Nd} {a b : Nat}, Mseq t l a b → a ≤ b
  | [], a, b, h => by simp only [Mseq] at h; omega
  | x :: r, a, b, h => by
    simp only [Mseq] at h
    obtain ⟨c, h1, h2⟩ := h
    exact Nat.le_trans (M_le h1) (Mseq_le h2)

theorem Malt_le {t : List Int} {l : List Nd} {a b : Nat} (h : Malt t l a b) : a ≤ b := by
  obtain ⟨x, _, h⟩ := Malt_mem.1 h
  exact M_le h
theorem bits_and_le (x : Int) (m : Nat) (hm : m < 9223372036854775808) : 0 ≤ bits .and .i64 x m ∧ bits .and .i64 x m ≤ m := by
  have h1 : (BitVec.ofInt 64 x &&& BitVec.ofInt 64 (m : Int)).toNat ≤ m := by
    rw [BitVec.toNat_and]
    refine Nat.le_trans Nat.and_le_right ?_
    rw [BitVec.toNat_ofInt]
    omega
  have h2 : bits .and .i64 x m = ((BitVec.ofInt 64 x &&& BitVec.ofInt 64 (m : Int)).toNat : Int) := by
    have h : bits .and .i64 x m = IntKind.wrap .i64 ((BitVec.ofInt 64 x &&& BitVec.ofInt 64 (m : Int)).toNat : Int) := rfl
    rw [h]
    generalize (BitVec.ofInt 64 x &&& BitVec.ofInt 64 (m : Int)).toNat = z at *
    have e : (z : Int) % 18446744073709551616 = z := by omega
    show (if (true && decide ((z : Int) % 18446744073709551616 ≥ 9223372036854775808)) = true then (z : Int) % 18446744073709551616 - 18446744073709551616 else (z : Int) % 18446744073709551616) = z
    rw [e]
    simp
    omega
  omega

end Go.Proofs.Ythmaokjhncokdaa

/-
  A part of an element of a list of one's own is stored. No condition beyond what each theorem names.
-/
set_option linter.unusedVariables false
set_option linter.unusedSimpArgs false
namespace Go.Proofs.Ythmaokjhncokdaa
open Go.RowKit

theorem splice_mid {α : Type} (A r B : List α) (o : Nat) (vals : List α) (h : o + vals.length ≤ r.length) : splice (A ++ (r ++ B)) (A.length + o) vals = A ++ (splice r o vals ++ B) := by
  simp only [splice]
  rw [List.take_append, List.drop_append]
  rw [List.take_of_length_le (by omega), List.drop_eq_nil_of_le (by omega)]
  rw [show A.length + o - A.length = o by omega, show A.length + o + vals.length - A.length = o + vals.length by omega]
  rw [List.take_append_of_le_length (by omega), List.drop_append_of_le_length (by omega)]
  simp

theorem splice_pre {α : Type} (L R : List α) (j : Nat) (vals : List α) (h : j + vals.length ≤ L.length) : splice (L ++ R) j vals = splice L j vals ++ R := by
  have := splice_mid ([] : List α) L R j vals h
  simpa using this

theorem flatten_set {sz : Nat} {rows : List (List Value)} (hr : ∀ r ∈ rows, r.length = sz) {k : Nat} {row : List Value} (hk : rows[k]? = some row) (o : Nat) (vals : List Value) (h : o + vals.length ≤ sz) :
    splice rows.flatten (k * sz + o) vals = (rows.set k (splice row o vals)).flatten := by
  obtain ⟨hk', rfl⟩ := List.getElem?_eq_some_iff.1 hk
  have e1 : rows = rows.take k ++ (rows[k] :: rows.drop (k + 1)) := by rw [List.getElem_cons_drop, List.take_append_drop]
  have e2 : rows.set k (splice rows[k] o vals) = rows.take k ++ (splice rows[k] o vals :: rows.drop (k + 1)) := by
    rw [List.set_eq_take_append_cons_drop, if_pos hk']
  rw [e2, List.flatten_append, List.flatten_cons]
  have hl : (rows.take k).flatten.length = k * sz := by
    rw [flatten_length (sz := sz) (fun r hr' => hr r (List.mem_of_mem_take hr')), List.length_take, Nat.min_eq_left (by omega)]
  have hrl : rows[k].length = sz := hr _ (List.getElem_mem hk')
  have := splice_mid (rows.take k).flatten rows[k] (rows.drop (k + 1)).flatten o vals (by omega)
  rw [hl] at this
  rw [← this]
  congr 1
  rw [← List.flatten_cons, ← List.flatten_append, ← e1]

section
variable {α : Type} {E : α → List Value → Prop} {T : TypeId} {sz base : Nat} {w : World} {v : Value} {xs : List α}

/-- an element of a list of one's own is stored in part: the rest as it was -/
theorem OwnL.store (h : OwnL E T sz base w v xs) (hs : 0 < sz) {k : Nat} (hk : k < xs.length) : ∃ g cap cur row, v = .slice (some ⟨g, 0, none⟩) xs.length cap ∧ base ≤ g ∧ w.heap[g]? = some (.cells cur T) ∧ cellsAt w g (k * sz) row ∧ row.length = sz ∧ (∀ u ∈ row, u.oneCell' = true) ∧ E xs[k] row ∧
    (k + 1) * sz ≤ cur.size ∧ ∀ o vals, o + vals.length ≤ sz → (∀ u ∈ vals, u.oneCell' = true) → ∀ x', E x' (splice row o vals) → ∀ w', w'.heap[g]? = some (.cells (splice cur.toList (k * sz + o) vals).toArray T) → OwnL E T sz base w' v (xs.set k x') := by
  obtain ⟨rows, ⟨o1, o2⟩, r1, r2, r3⟩ := h
  have hlen : rows.flatten.length = rows.length * sz := flatten_length (fun r hr => (r2 r hr).1)
  rcases o2 with ⟨-, h0⟩ | ⟨g, cap, cur, rfl, hg, hh, hnc, hcm, hcs, htk⟩
  · omega
  obtain ⟨row, hrow, hE⟩ := r3 k hk
  have hkr : k < rows.length := by omega
  have hmem : row ∈ rows := List.mem_of_getElem? hrow
  have hk1 : (k + 1) * sz ≤ rows.length * sz := Nat.mul_le_mul_right _ (by omega)
  have hcz : rows.length * sz ≤ cur.size := by rw [hcs]; exact Nat.mul_le_mul_right _ (by omega)
  have hsplit : cur.toList = rows.flatten ++ cur.toList.drop (xs.length * sz) := by rw [← htk, List.take_append_drop]
  refine ⟨g, cap, cur, row, rfl, hg, hh, fun j u hu => ?_, (r2 row hmem).1, (r2 row hmem).2, hE, by omega, ?_⟩
  · have hj : j < sz := by have := (List.getElem?_eq_some_iff.1 hu).1; rw [(r2 row hmem).1] at this; exact this
    have h1 := flatten_get (fun r hr => (r2 r hr).1) hrow j hj
    rw [hu] at h1
    have h2 : cur.toList[k * sz + j]? = some u := by
      rw [hsplit, List.getElem?_append_left (by have := (List.getElem?_eq_some_iff.1 h1).1; exact this)]
      exact h1
    simp only [World.cell?, hh]
    simpa using h2
  · intro o vals ho hv x' hx' w' hw'
    have hfit : k * sz + o + vals.length ≤ rows.flatten.length := by rw [hlen]; rw [Nat.add_mul] at hk1; omega
    have hfs := flatten_set (fun r hr => (r2 r hr).1) hrow o vals ho
    have hls : (splice row o vals).length = sz := by rw [length_splice _ _ _ (by rw [(r2 row hmem).1]; exact ho)]; exact (r2 row hmem).1
    refine ⟨rows.set k (splice row o vals), ⟨?_, .inr ⟨g, cap, (splice cur.toList (k * sz + o) vals).toArray, by rw [List.length_set], hg, hw', by rw [List.length_set]; exact hnc, hcm, ?_, ?_⟩⟩, by simp [r1], fun r hr => ?_, fun i hi => ?_⟩
    · rw [← hfs, length_splice _ _ _ hfit, hlen, List.length_set, r1]
    · rw [List.size_toArray, length_splice _ _ _ (by simp; omega)]; simpa using hcs
    · rw [List.length_set, hsplit, splice_pre _ _ _ _ hfit, hfs]
      have hl2 : (rows.set k (splice row o vals)).flatten.length = xs.length * sz := by rw [← hfs, length_splice _ _ _ hfit, hlen, r1]
      simp only [List.toList_toArray]
      rw [← hl2, List.take_left']
      rfl
    · rcases List.mem_or_eq_of_mem_set hr with hr | rfl
      · exact r2 r hr
      · refine ⟨hls, fun u hu => ?_⟩
        simp only [splice, List.mem_append] at hu
        rcases hu with hu | hu | hu
        · exact (r2 row hmem).2 u (List.mem_of_mem_take hu)
        · exact hv u hu
        · exact (r2 row hmem).2 u (List.mem_of_mem_drop hu)
    · rw [List.length_set] at hi
      by_cases hik : i = k
      · subst hik
        exact ⟨splice row o vals, by rw [List.getElem?_set_self hkr], by rw [List.getElem_set_self]; exact hx'⟩
      · obtain ⟨r', h1, h2⟩ := r3 i hi
        exact ⟨r', by rw [List.getElem?_set_ne (by omega)]; exact h1, by rw [List.getElem_set_ne (by omega)]; exact h2⟩
end

end Go.Proofs.Ythmaokjhncokdaa

/-
  Expressions, and the blocks that they lie in. No condition beyond what each theorem names.
-/
set_option linter.unusedVariables false
set_option linter.unusedSimpArgs false
namespace Go.Proofs.Ythmaokjhncokdaa
open Go.RowKit

/-- the block of a slice that is not empty is one of these -/
def Lies (F : Nat → Prop) (v : Value) (n : Nat) : Prop := 0 < n → ∀ k, v.ownBlock = some k → F k

/-- an expression, by its three cells, and all that it reaches lies in these blocks -/
def NodeF (F : Nat → Prop) (w : World) : Nd → Value → Value → Value → Prop
  | .mk op cls parts, a, b, c => a = .int .i64 op ∧ Ints w b cls ∧ Lies F b cls.length ∧ cls.length * 8 ≤ R ∧ parts.length * 56 ≤ R ∧
      ∃ rows : List (List Value), Rows w 3 c rows ∧ Lies F c parts.length ∧ rows.length = parts.length ∧ ∀ i (h : i < parts.length), ∃ x y z, rows[i]? = some [x, y, z] ∧ NodeF F w parts[i] x y z
  termination_by x => SizeOf.sizeOf x
  decreasing_by exact Nd.part_lt h

def NodesF (F : Nat → Prop) (w : World) (v : Value) (ns : List Nd) : Prop :=
  ∃ rows : List (List Value), Rows w 3 v rows ∧ Lies F v ns.length ∧ rows.length = ns.length ∧ ∀ i (h : i < ns.length), ∃ x y z, rows[i]? = some [x, y, z] ∧ NodeF F w ns[i] x y z

theorem nodeF_iff {F : Nat → Prop} {w : World} {op : Int} {cls : List Int} {parts : List Nd} {a b c : Value} : NodeF F w (.mk op cls parts) a b c ↔ a = .int .i64 op ∧ Ints w b cls ∧ Lies F b cls.length ∧ cls.length * 8 ≤ R ∧ parts.length * 56 ≤ R ∧ NodesF F w c parts := by
  rw [NodeF]; rfl

theorem Lies.mono {F G : Nat → Prop} {v : Value} {n : Nat} (h : Lies F v n) (hg : ∀ k, F k → G k) : Lies G v n := fun h0 k hk => hg k (h h0 k hk)

theorem NodeF.is {F : Nat → Prop} {w : World} : ∀ (x : Nd) {a b c : Value}, NodeF F w x a b c → NodeIs w x a b c
  | .mk op cls parts, a, b, c, h => by
    rw [nodeF_iff] at h
    rw [nodeIs_iff]
    obtain ⟨h1, h2, -, h3, h4, rows, h5, -, h7, h8⟩ := h
    refine ⟨h1, h2, h3, h4, rows, h5, h7, fun i hi => ?_⟩
    obtain ⟨x, y, z, h9, h10⟩ := h8 i hi
    exact ⟨x, y, z, h9, NodeF.is parts[i] h10⟩
  termination_by x => SizeOf.sizeOf x
  decreasing_by exact Nd.part_lt hi

theorem NodeF.mono {F G : Nat → Prop} {w : World} (hg : ∀ k, F k → G k) : ∀ (x : Nd) {a b c : Value}, NodeF F w x a b c → NodeF G w x a b c
  | .mk op cls parts, a, b, c, h => by
    rw [nodeF_iff] at *
    obtain ⟨h1, h2, h2', h3, h4, rows, h5, h6, h7, h8⟩ := h
    refine ⟨h1, h2, h2'.mono hg, h3, h4, rows, h5, h6.mono hg, h7, fun i hi => ?_⟩
    obtain ⟨x, y, z, h9, h10⟩ := h8 i hi
    exact ⟨x, y, z, h9, NodeF.mono hg parts[i] h10⟩
  termination_by x => SizeOf.sizeOf x
  decreasing_by exact Nd.part_lt hi

theorem NodeF.fr {F G : Nat → Prop} {w w' : World} (hf : Fr G w w') (hg : ∀ k, F k → ¬ G k) : ∀ (x : Nd) {a b c : Value}, NodeF F w x a b c → NodeF F w' x a b c
  | .mk op cls parts, a, b, c, h => by
    rw [nodeF_iff] at *
    obtain ⟨h1, h2, h2', h3, h4, rows, ⟨h5, h5'⟩, h6, h7, h8⟩ := h
    refine ⟨h1, Raw.fr hf h2 (fun h0 k hk => hg k (h2' (by simpa using h0) k hk)), h2', h3, h4, rows, ⟨h5, Raw.fr hf h5' (fun h0 k hk => hg k (h6 (by
      rw [flatten_length h5] at h0
      rw [← h7]
      exact Nat.pos_of_mul_pos_left h0 |> fun _ => by
        rcases Nat.eq_zero_or_pos rows.length with h | h
        · rw [h] at h0; simp at h0
        · exact h) k hk))⟩, h6, h7, fun i hi => ?_⟩
    obtain ⟨x, y, z, h9, h10⟩ := h8 i hi
    exact ⟨x, y, z, h9, NodeF.fr hf hg parts[i] h10⟩
  termination_by x => SizeOf.sizeOf x
  decreasing_by exact Nd.part_lt hi

/-- what may be read lies in the blocks that there are -/
theorem Raw.lies {w : World} {v : Value} {n m : Nat} {cs : List Value} (h : Raw w v n cs) (h0 : 0 < m → 0 < cs.length) : Lies (fun k => k < w.heap.size) v m := by
  intro hm k hk
  obtain ⟨b, off, cap, rfl, -, hb, -⟩ := h.lt (h0 hm)
  simp only [Value.ownBlock, Option.some.injEq] at hk
  subst hk
  exact hb

theorem NodeIs.foot {w : World} : ∀ (x : Nd) {a b c : Value}, NodeIs w x a b c → NodeF (fun k => k < w.heap.size) w x a b c
  | .mk op cls parts, a, b, c, h => by
    rw [nodeIs_iff] at h
    rw [nodeF_iff]
    obtain ⟨h1, h2, h3, h4, rows, ⟨h5, h5'⟩, h7, h8⟩ := h
    refine ⟨h1, h2, Raw.lies h2 (by simp), h3, h4, rows, ⟨h5, h5'⟩, Raw.lies h5' (fun h => by rw [flatten_length h5, h7]; omega), h7, fun i hi => ?_⟩
    obtain ⟨x, y, z, h9, h10⟩ := h8 i hi
    exact ⟨x, y, z, h9, NodeIs.foot parts[i] h10⟩
  termination_by x => SizeOf.sizeOf x
  decreasing_by exact Nd.part_lt hi

theorem NodeF.below {F : Nat → Prop} {B : Nat} {w w' : World} (hb : Below B w w') (hB : w.heap.size ≤ B) (x : Nd) {a b c : Value} (h : NodeF F w x a b c) : NodeF F w' x a b c :=
  NodeF.fr (G := fun _ => False) ⟨hb.os, hb.tape, hb.output, hb.size, fun k hk _ => hb.block k (by omega)⟩ (fun _ _ h => h) x h

theorem NodesF.get {F : Nat → Prop} {w : World} {v : Value} {ns : List Nd} (h : NodesF F w v ns) : ∃ p cap, v = .slice p ns.length cap ∧ ns.length ≤ cap ∧ (0 < ns.length → ∃ b off, p = some ⟨b, off, none⟩ ∧ b < w.heap.size ∧ F b ∧
    ∀ i (h : i < ns.length), ∃ x y z, w.cell? ⟨b, off + i * 3, none⟩ = some x ∧ w.cell? ⟨b, off + i * 3 + 1, none⟩ = some y ∧ w.cell? ⟨b, off + i * 3 + 2, none⟩ = some z ∧ NodeF F w ns[i] x y z) := by
  obtain ⟨rows, h1, h1', h2, h3⟩ := h
  obtain ⟨p, cap, rfl, h4, h5⟩ := h1.get (by omega)
  rw [h2] at h5 h4 h1'
  refine ⟨p, cap, by rw [h2], h4, fun h0 => ?_⟩
  obtain ⟨b, off, rfl, h6, h7⟩ := h5 h0
  refine ⟨b, off, rfl, h6, h1' h0 b rfl, fun i hi => ?_⟩
  obtain ⟨x, y, z, h8, h9⟩ := h3 i hi
  have h10 := h7 i _ h8
  exact ⟨x, y, z, h10 0 x rfl, h10 1 y rfl, h10 2 z rfl, h9⟩

/-- an expression in a row of three cells -/
def nodeE (F : Nat → Prop) (w : World) (x : Nd) (row : List Value) : Prop := ∃ a b c, row = [a, b, c] ∧ NodeF F w x a b c

theorem nodeE.fr {F G : Nat → Prop} {w w' : World} {x : Nd} {row : List Value} (h : nodeE F w x row) (hf : Fr G w w') (hg : ∀ k, F k → ¬ G k) : nodeE F w' x row := by
  obtain ⟨a, b, c, rfl, h⟩ := h
  exact ⟨a, b, c, rfl, h.fr hf hg⟩
theorem nodeE.mono {F G : Nat → Prop} {w : World} {x : Nd} {row : List Value} (h : nodeE F w x row) (hg : ∀ k, F k → G k) : nodeE G w x row := by
  obtain ⟨a, b, c, rfl, h⟩ := h
  exact ⟨a, b, c, rfl, h.mono hg⟩
theorem nodeE.cells {F : Nat → Prop} {w : World} {x : Nd} {row : List Value} (h : nodeE F w x row) : row.length = 3 ∧ ∀ u ∈ row, u.oneCell' = true := by
  obtain ⟨a, b, c, rfl, h⟩ := h
  obtain ⟨op, p, l, c1, q, m, d, rfl, rfl, rfl⟩ := (h.is).form
  refine ⟨rfl, fun u hu => ?_⟩
  simp at hu
  rcases hu with rfl | rfl | rfl <;> rfl

theorem ReadL.nodesF {F : Nat → Prop} {w : World} {v : Value} {ns : List Nd} (h : ReadL (nodeE F w) 3 w v ns) (hl : Lies F v ns.length) : NodesF F w v ns := by
  obtain ⟨rows, h1, h2, h3, h4⟩ := h
  refine ⟨rows, ⟨fun r hr => (h3 r hr).1, by rwa [h2]⟩, hl, h2, fun i hi => ?_⟩
  obtain ⟨row, g1, a, b, c, rfl, g2⟩ := h4 i hi
  exact ⟨a, b, c, g1, g2⟩

theorem infoNode : (Try.prog.info? 52).map (fun i => (i.zero, i.size, i.bytes)) = some (some (.agg #[.int .i64 0, .slice none 0 0, .slice none 0 0]), 3, 56) := by kernel_rfl

section
variable {ops : Array Oper} {rest : List Oper} {o : Oper} {a : Act} {w : World} {Q : Exit → Act → World → Prop} {base : Nat}

theorem wpList_append_nodes {E : Nd → List Value → Prop} (hgd : o.guard = none) (s x : Operand) (ho : o.op = .call { callee := .builtin .append, args := #[s, x], argTypes := #[50, 50] })
    (v : Value) (xs : List Nd) (hs : a.eval s = v) (hown : OwnL E 52 3 base w v xs) (xv : Value) (ns : List Nd) (hx : a.eval x = xv) (hr : ReadL E 3 w xv ns) (hlen : (xs.length + ns.length) * 56 ≤ R + 56) (hbase : base ≤ w.heap.size)
    (h : ∀ p c w', OwnL E 52 3 base w' (.slice p (xs.length + ns.length) c) (xs ++ ns) → w.grownBy w' v.ownBlock → ((Value.slice p (xs.length + ns.length) c).ownBlock = v.ownBlock ∨ (Value.slice p (xs.length + ns.length) c).ownBlock = some w.heap.size) → wpList Try.prog ops Q rest (a.put o.dst (.slice p (xs.length + ns.length) c)) w') : wpList Try.prog ops Q (o :: rest) a w := by
  obtain ⟨i0, hi, hz0, hz1, hz2⟩ := info_parts infoNode
  unfold R at hlen
  exact wpList_append_L hgd s x 50 ho i0 _ 56 Try.underlying50 hi hz0 hz1 hz2 rfl (by decide) v xs hs hown xv ns hx hr (by unfold maxLen; omega) (by omega) hbase h
end

end Go.Proofs.Ythmaokjhncokdaa

/-
  The walk stops ahead of an operation that is named. No condition.
-/
set_option linter.unusedVariables false
set_option linter.unusedSimpArgs false
namespace Go.Proofs.Ythmaokjhncokdaa
open Go.RowKit

/-- here the walk stops -/
structure Halt (p : Prop) : Prop where
  go : p

section
variable {ops : Array Oper} {rest : List Oper} {o : Oper} {a : Act} {w : World} {Q : Exit → Act → World → Prop}
theorem stop_at (x : Op) (ho : o.op = x) (h : Halt (wpList Try.prog ops Q (o :: rest) a w)) : wpList Try.prog ops Q (o :: rest) a w := h.go
end
end Go.Proofs.Ythmaokjhncokdaa

