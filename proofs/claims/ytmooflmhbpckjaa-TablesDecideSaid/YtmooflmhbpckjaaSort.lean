/-
  slices.Sort of ints: the library's contract laid at this program, for a list of one's own, nil too. No condition beyond what each theorem names.
-/
import Derived.Test.YtmooflmhbpckjaaNA
import Derived.Shelf.Sort.Plain
import Derived.Shelf.Lay
import Derived.Ground.NamesProg
import Derived.Sort.OwnSortedInts
set_option linter.unusedVariables false
set_option linter.unusedSimpArgs false
namespace Go.Proofs
open Go.Shelf
shelf_lay Lays.n189 Nm 189 at Try as Try.lays189
end Go.Proofs
namespace Go.Proofs.Ytmooflmhbpckjaa
open Go.Shelf Go.Sort Go.RowKit

set_option maxRecDepth 100000 in
set_option maxHeartbeats 1000000 in
theorem len64_zero (w : World) : Calls Try.prog 99 #[.int .u64 0] w fun e w' => e = .returned (.int .i64 0) ∧ w = w' := by
  have h8 : Lib.len8 0 = 0 := by decide
  go_enter Try.func99, Try.ntmps99
  go_wp2_with fail
  go_ret
  exact ⟨rfl, rfl⟩

set_option maxHeartbeats 1000000 in
theorem len_zero (w : World) : Calls Try.prog 87 #[.int .u64 0] w fun e w' => e = .returned (.int .i64 0) ∧ w = w' := by
  go_enter Try.func87, Try.ntmps87
  go_wp2_with fail
  refine (len64_zero _).mono ?_
  rintro e w' ⟨rfl, rfl⟩
  go_wp2_with fail
  go_ret
  exact ⟨rfl, rfl⟩

set_option maxHeartbeats 1000000 in
theorem insertion_nil (w : World) : Calls Try.prog 89 #[.slice none 0 0, .int .i64 0, .int .i64 0] w fun e w' => e = .returned (.tuple #[]) ∧ w = w' := by
  go_enter Try.func89, Try.ntmps89
  go_wp2_with fail
  go_loop [6] (fun i => i = .int .i64 1) (fun i => 0)
  case atStart => exact rfl
  case round =>
    subst hrel
    go_wp2_with fail
    go_end0
    exact ⟨rfl, rfl⟩

set_option maxRecDepth 100000 in
set_option maxHeartbeats 1000000 in
theorem pdq_nil (w : World) : Calls Try.prog 86 #[.slice none 0 0, .int .i64 0, .int .i64 0, .int .i64 0] w fun e w' => e = .returned (.tuple #[]) ∧ w = w' := by
  go_enter Try.func86, Try.ntmps86
  go_wp2_with fail
  go_loop [1, 2, 3] (fun i j l => i = .int .i64 0 ∧ j = .int .i64 0 ∧ l = .int .i64 0) (fun i j l => 0)
  case atStart => exact ⟨rfl, rfl, rfl⟩
  case round =>
    obtain ⟨rfl, rfl, rfl⟩ := hrel
    go_wp2_with fail
    refine (insertion_nil _).mono ?_
    rintro e w' ⟨rfl, rfl⟩
    go_wp2_with fail
    (try simp only [Exit.inBlock, Exit.then])
    refine bodyPost_ret (results_none rfl _ _ _) rfl ?_
    exact ⟨rfl, rfl⟩

set_option maxHeartbeats 1000000 in
theorem sort_nil (w : World) : Calls Try.prog 78 #[.slice none 0 0] w fun e w' => e = .returned (.tuple #[]) ∧ w = w' := by
  go_enter Try.func78, Try.ntmps78
  go_wp2_with fail
  refine (len_zero _).mono ?_
  rintro e w' ⟨rfl, rfl⟩
  go_wp2_with fail
  refine (pdq_nil _).mono ?_
  rintro e w' ⟨rfl, rfl⟩
  go_wp2_with fail
  go_end0
  exact ⟨rfl, rfl⟩

/-- a list of one's own, sorted in its place -/
theorem sort_own (base : Nat) (w : World) (v : Value) (xs : List Int) (h : OwnL intE 3 1 base w v xs) (hx : xs.length ≤ 1000000) :
    Calls Try.prog 78 #[v] w fun e w' => e = .returned (.tuple #[]) ∧ OwnL intE 3 1 base w' v (xs.mergeSort fun x y => decide (x ≤ y)) ∧ w.grownBy w' v.ownBlock := by
  obtain ⟨rows, h1, h2, h3, h4⟩ := h
  have hf := flatten_ints h2 h4
  rw [hf] at h1
  have h1' := h1
  rcases h1.2 with ⟨rfl, h5⟩ | ⟨g, cap, cur, rfl, hb, hg, hn, hc, hs, ht⟩
  · have : xs = [] := List.eq_nil_of_length_eq_zero h5
    subst this
    refine (sort_nil w).mono ?_
    rintro e w' ⟨rfl, rfl⟩
    exact ⟨rfl, by simp only [List.mergeSort_nil]; exact OwnL.nil _, World.grownBy.mk rfl rfl rfl (Nat.le_refl _) (fun _ _ _ => rfl)⟩
  · rw [Nat.mul_one] at ht
    have hlt : g < w.heap.size := (Array.getElem?_eq_some_iff.1 hg).1
    refine (Any.slices_Sort_int Try.lays189 g 0 cap xs w (holds_of_blockI hg ht) hlt (by omega)).mono ?_
    rintro e w' ⟨rfl, n, os, rfl⟩
    have hlen : (xs.mergeSort fun x y => decide (x ≤ y)).length = xs.length := List.length_mergeSort _
    have hown := ownsRow_sortedI (n := n) (os := os) (ts := xs.mergeSort fun x y => decide (x ≤ y)) hlen hb hg hn hc hs
    rw [← hlen] at hown
    have := ownL_ints hown
    rw [hlen] at this
    exact ⟨rfl, this, grownBy_sortedI _⟩
end Go.Proofs.Ytmooflmhbpckjaa
