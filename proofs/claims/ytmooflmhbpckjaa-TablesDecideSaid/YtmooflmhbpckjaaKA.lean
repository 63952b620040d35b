/-
  slices.Index, Contains, Clone of ints. No condition beyond what each theorem names.
-/
import Derived.Test.YtmooflmhbpckjaaSpec
import Derived.Test.YtmooflmhbpckjaaMix
import Derived.Maps.AppendAt
import Derived.Deep.CutBlock
import Derived.Deep.DeepCutAuto
set_option linter.unusedVariables false
set_option linter.unusedSimpArgs false
namespace Go.Proofs.Ytmooflmhbpckjaa
open Go.RowKit

def idxOf {α : Type} (q : α → Bool) (xs : List α) : Int := match xs.findIdx? q with | some i => (i : Int) | none => -1

theorem idxOf_some {α : Type} {q : α → Bool} {xs : List α} {k : Nat} (hk : k < xs.length) (h1 : ∀ j (h : j < xs.length), j < k → q xs[j] = false) (h2 : q xs[k] = true) : idxOf q xs = k := by
  have : xs.findIdx? q = some k := by
    rw [List.findIdx?_eq_some_iff_getElem]
    exact ⟨hk, h2, fun j hj => by simp [h1 j (by omega) hj]⟩
  simp [idxOf, this]

theorem idxOf_none {α : Type} {q : α → Bool} {xs : List α} (h1 : ∀ j (h : j < xs.length), q xs[j] = false) : idxOf q xs = -1 := by
  have : xs.findIdx? q = none := by
    rw [List.findIdx?_eq_none_iff]
    intro x hx
    obtain ⟨j, hj, rfl⟩ := List.getElem_of_mem hx
    exact h1 j hj
  simp [idxOf, this]

theorem idxOf_ge {α : Type} (q : α → Bool) (xs : List α) : decide (0 ≤ idxOf q xs) = xs.any q := by
  unfold idxOf
  cases h : xs.findIdx? q with
  | none =>
    rw [List.findIdx?_eq_none_iff] at h
    have : xs.any q = false := by simpa using h
    simp [this]
  | some i =>
    rw [List.findIdx?_eq_some_iff_getElem] at h
    obtain ⟨hi, h1, -⟩ := h
    have : xs.any q = true := List.any_eq_true.2 ⟨xs[i], List.getElem_mem hi, h1⟩
    simp [this]

theorem ret_val {a b : Value} (h : a = b) : Ending.returned a = .returned b := by rw [h]

set_option maxHeartbeats 400000 in
theorem index_ints (w : World) (v : Value) (xs : List Int) (c : Int) (hn : xs.length ≤ 9223372036854775807) (hv : Ints w v xs) :
    Calls Try.prog 88 #[v, .int .i64 c] w fun e w' => e = .returned (.int .i64 (idxOf (fun x => c == x) xs)) ∧ w = w' := by
  obtain ⟨p, cap, rfl, hcap, hx⟩ := hv.get
  have HX := Lib.hid hx
  obtain ⟨n, hlen⟩ : ∃ n, n = xs.length := ⟨_, rfl⟩
  rw [← hlen] at hn hcap ⊢
  have HL := Lib.hid hlen
  clear hlen hx hv
  go_enter Try.func88, Try.ntmps88
  go_wp2
  go_loop [8] (fun i => ∃ k : Nat, i = .int .i64 k ∧ k ≤ n ∧ (∀ j (h : j < xs.length), j < k → (c == xs[j]) = false)) (fun i => n - (intOf i).toNat)
  case atStart => exact ⟨0, rfl, by omega, by intro j hj h; omega⟩
  case round =>
    obtain ⟨k, rfl, h1, h2⟩ := hrel
    have H2 := Lib.hid h2
    clear h2
    by_cases hlt : k < n
    · have hl : k < xs.length := HL.out ▸ hlt
      obtain ⟨b, off, rfl, hb, hy⟩ := HX.out (by omega)
      have hc := hy k hl
      clear hy
      cases hq : c == xs[k]
      · have HQ := Lib.hid hq
        go_wp2
        go_round
        case rel => exact ⟨k + 1, by go_num, by omega, fun j hj hjk => by
          by_cases e : j = k
          · subst e; exact HQ.out
          · exact H2.out j hj (by omega)⟩
        case measure => simp [intOf]; omega
      · have HQ := Lib.hid hq
        go_wp2
        go_ret
        exact ⟨ret_int (idxOf_some hl (fun j hj h => H2.out j hj h) HQ.out).symm, rfl⟩
    · go_wp2
      go_ret
      exact ⟨ret_int (idxOf_none (fun j hj => H2.out j hj (by have := HL.out; omega))).symm, rfl⟩

theorem contains_ints (w : World) (v : Value) (xs : List Int) (c : Int) (hn : xs.length ≤ 9223372036854775807) (hv : Ints w v xs) :
    Calls Try.prog 85 #[v, .int .i64 c] w fun e w' => e = .returned (.bool (xs.any (fun x => c == x))) ∧ w = w' := by
  have HI := Lib.hid (index_ints w v xs c hn hv)
  have HG := Lib.hid (idxOf_ge (fun x => c == x) xs)
  clear hv
  generalize idxOf (fun x => c == x) xs = i at *
  go_enter Try.func85, Try.ntmps85
  go_wp2_with fail
  refine HI.out.mono ?_
  rintro e w' ⟨rfl, rfl⟩
  go_wp2
  go_ret
  exact ⟨ret_val (by rw [← HG.out]; rfl), rfl⟩

theorem infoE3 : (Try.prog.info? 3).map (fun i => (i.zero, i.size, i.bytes)) = some (some (.int .i64 0), 1, 8) := by kernel_rfl

set_option maxHeartbeats 400000 in
/-- slices.Clone: the same cells in a block of its own -/
theorem clone_ints (w : World) (v : Value) (n : Nat) (cs : List Value) (hn : n * 8 ≤ 140737488355328) (hl : cs.length = n * 1) (h1 : ∀ u ∈ cs, u.oneCell' = true) (hv : Raw w v n cs) :
    Calls Try.prog 33 #[v] w fun e w' => ∃ v', e = .returned v' ∧ w'.ownsRow w.heap.size 3 1 v' n cs ∧ Below w.heap.size w w' := by
  obtain ⟨p, cap, rfl, hcap, hx⟩ := hv
  cases p with
  | none =>
    have h0 : cs = [] := by
      cases cs with
      | nil => rfl
      | cons a r => obtain ⟨b, off, h, -⟩ := hx (by simp); cases h
    subst h0
    have hn0 : n = 0 := by simp at hl; omega
    subst hn0
    clear hx
    have heq : ∀ w, (binOp .eql 46 (.slice none 0 cap) (.slice none 0 0)).run Try.prog w = .ok (.bool true) w := fun w => Lib.run_eql_slice_nil w 46 3 none 0 cap 0 0 Try.underlying46
    go_enter Try.func33, Try.ntmps33
    go_wp2
    go_ret
    exact ⟨_, rfl, World.ownsRow_nil _ _ _ _, Below.refl _ _⟩
  | some ad =>
    have heq : ∀ w, (binOp .eql 46 (.slice (some ad) n cap) (.slice none 0 0)).run Try.prog w = .ok (.bool false) w := fun w => Lib.run_eql_slice_nil w 46 3 _ _ _ _ _ Try.underlying46
    obtain ⟨i0, hi, hz0, hz1, hz2⟩ := info_parts infoE3
    have hcells : ∀ j u, cs[j]? = some u → (w.alloc (.cells #[] 3)).cell? (ad.add j) = some u := by
      intro j u hu
      have hj : j < cs.length := (List.getElem?_eq_some_iff.1 hu).1
      obtain ⟨b, off, he, hc⟩ := hx (by omega)
      cases he
      have h1 := hc j u hu
      rw [show (⟨b, off, none⟩ : Addr).add j = ⟨b, off + j, none⟩ by unfold Addr.add; split <;> simp_all, World.cell?_alloc_lt _ _ _ (World.block_lt_of_cell? w _ h1)]
      exact h1
    have HC := Lib.hid hcells
    have HL := Lib.hid hl
    have H1 := Lib.hid h1
    have hown : (w.alloc (.cells #[] 3)).ownsRow w.heap.size 3 1 (.slice (some ⟨w.heap.size, 0, none⟩) 0 0) 0 [] := World.ownsRow_made w #[] 0 (Nat.le_refl _) (by unfold maxLen; omega) rfl
    have hb : Below w.heap.size w (w.alloc (.cells #[] 3)) := (Below.refl _ _).alloc (Nat.le_refl _) _
    clear hcells hx hl h1
    go_enter Try.func33, Try.ntmps33
    go_wp2_with (at_builtin; refine wpList_append_own _ rfl (.tmp 5) (.tmp 6) 46 rfl w.heap.size 3 i0 _ 1 8 Try.underlying46 hi hz0 hz1 hz2 rfl (by decide) _ 0 [] rfl hown ad n cap cs rfl HL.out HC.out H1.out (by unfold maxLen; omega) (by omega) (by simp) ?_)
    intro v' w' h1 h2 h3
    clear h3 heq
    go_wp2
    go_ret
    exact ⟨_, rfl, h1, hb.grown h2 (by simp) (by intro k hk; simp [Value.ownBlock] at hk; omega)⟩

end Go.Proofs.Ytmooflmhbpckjaa
