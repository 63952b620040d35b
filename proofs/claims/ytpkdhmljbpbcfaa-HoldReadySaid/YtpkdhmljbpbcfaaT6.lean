/-
  Has, Len, Room and New of a hold. No condition beyond what each theorem names.
-/
import Derived.Test.YtpkdhmljbpbcfaaT5
set_option linter.unusedVariables false
set_option linter.unusedSimpArgs false
namespace Go.Proofs.Ytpkdhmljbpbcfaa
open Go.RowKit

/-- what may be a hold's behind a call -/
def grow (F : Nat → Prop) (w w' : World) : Nat → Prop := fun k => k < w'.heap.size ∧ (F k ∨ w.heap.size ≤ k)

/-- a call's end: the hold's blocks alone have turned; it has these operations -/
def HoldPost (w : World) (F : Nat → Prop) (bh : Nat) (room : Int) (xs : List OpV) (e0 : Ending) (e : Ending) (w' : World) : Prop :=
  e = e0 ∧ Fr F w w' ∧ ∃ v', HoldAt w' (grow F w w') bh room v' xs

theorem HoldAt.rd {w : World} {F : Nat → Prop} {bh : Nat} {room : Int} {v : Value} {xs : List OpV} (h : HoldAt w F bh room v xs) : Rd w v xs := ownsRow_rd h.row


theorem HoldAt.below {w w' : World} (hb : Below w.heap.size w w') {F : Nat → Prop} {bh : Nat} {room : Int} {v : Value} {xs : List OpV} (h : HoldAt w F bh room v xs) : HoldAt w' F bh room v xs := by
  obtain ⟨h1, h2, h3, h4, h5, h6⟩ := h
  refine ⟨by rw [hb.block bh (h5 _ h3)]; exact h1, ⟨h2.1, ?_⟩, h3, h4, fun k hk => Nat.lt_of_lt_of_le (h5 k hk) hb.size, h6⟩
  rcases h2.2 with h | ⟨g, cap, cur, rfl, a, b, r⟩
  · exact .inl h
  · exact .inr ⟨g, cap, cur, rfl, a, by rw [hb.block g (h5 _ (h4 g rfl))]; exact b, r⟩

set_option maxHeartbeats 400000 in
theorem has_any (w : World) (F : Nat → Prop) (bh : Nat) (room : Int) (v : Value) (xs : List OpV) (author seq : Int) (hn : xs.length ≤ 1000000) (hh : HoldAt w F bh room v xs) :
    Calls Try.prog 11 #[.pointer (some ⟨bh, 0, none⟩), .int .i64 author, .int .i64 seq] w fun e w' => e = .returned (.bool (xs.any (sameId author seq))) ∧ Below w.heap.size w w' := by
  have HH := Lib.hid hh
  clear hh
  go_enter Try.func11, Try.ntmps11
  go_wp2_with fail
  refine (find_any w bh _ v xs author seq hn HH.out.head HH.out.rd HH.out.sorted).mono ?_
  rintro e w1 ⟨rfl, hb⟩
  go_wp2
  go_ret
  exact ⟨rfl, hb⟩

set_option maxHeartbeats 400000 in
theorem len_any (w : World) (F : Nat → Prop) (bh : Nat) (room : Int) (v : Value) (xs : List OpV) (hn : xs.length ≤ 1000000) (hh : HoldAt w F bh room v xs) :
    Calls Try.prog 13 #[.pointer (some ⟨bh, 0, none⟩)] w fun e w' => e = .returned (.int .i64 xs.length) ∧ w = w' := by
  obtain ⟨ad, cap, hv⟩ := hh.rd.len
  subst hv
  have c1 : w.cell? ⟨bh, 1, none⟩ = some (.slice ad xs.length cap) := by simp [World.cell?, hh.head]
  clear hh
  go_enter Try.func13, Try.ntmps13
  go_wp2
  go_ret
  exact ⟨rfl, rfl⟩

set_option maxHeartbeats 400000 in
theorem room_any (w : World) (F : Nat → Prop) (bh : Nat) (room : Int) (v : Value) (xs : List OpV) (hn : xs.length ≤ 1000000) (h1 : 0 ≤ room) (h2 : room ≤ 9223372036854775807) (hh : HoldAt w F bh room v xs) :
    Calls Try.prog 14 #[.pointer (some ⟨bh, 0, none⟩)] w fun e w' => e = .returned (.int .i64 (room - xs.length)) ∧ Below w.heap.size w w' := by
  obtain ⟨ad, cap, hv⟩ := hh.rd.len
  subst hv
  have c0 : w.cell? ⟨bh, 0, none⟩ = some (.int .i64 room) := by simp [World.cell?, hh.head]
  have c1 : w.cell? ⟨bh, 1, none⟩ = some (.slice ad xs.length cap) := by simp [World.cell?, hh.head]
  clear hh
  go_enter Try.func14, Try.ntmps14
  go_wp2
  go_quiet (fail)
  go_wp2
  go_ret
  exact ⟨rfl, below_drewN (Below.refl _ _) _⟩

theorem hold_new (w : World) (room : Int) : HoldAt (w.alloc (.cells #[.int .i64 room, .slice none 0 0] 55)) (fun k => k = w.heap.size) w.heap.size room (.slice none 0 0) [] :=
  ⟨heap_alloc_new w _, World.ownsRow_nil _ _ _ _, rfl, fun k h => by simp [Value.ownBlock] at h, fun k h => by simp [h], List.Pairwise.nil⟩

set_option maxHeartbeats 400000 in
theorem new_any (w : World) (room : Int) :
    Calls Try.prog 10 #[.int .i64 room] w fun e w' => e = .returned (.pointer (some ⟨w.heap.size, 0, none⟩)) ∧ Below w.heap.size w w' ∧ HoldAt w' (fun k => k = w.heap.size) w.heap.size (max room 0) (.slice none 0 0) [] := by
  go_enter Try.func10, Try.ntmps10
  go_wp2
  all_goals go_ret
  all_goals refine ⟨rfl, (Below.refl _ _).alloc (Nat.le_refl _) _, ?_⟩
  · rw [show max room 0 = 0 by omega]; exact hold_new w 0
  · rw [show max room 0 = room by omega]; exact hold_new w room

end Go.Proofs.Ytpkdhmljbpbcfaa
