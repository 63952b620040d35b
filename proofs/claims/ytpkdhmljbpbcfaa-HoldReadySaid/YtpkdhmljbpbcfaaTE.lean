/-
  Hold.All, and what the closures of the statements answer. No condition beyond what each theorem names.
-/
import Derived.Test.YtpkdhmljbpbcfaaTD
import Derived.Test.YtpkdhmljbpbcfaaRow
set_option linter.unusedVariables false
set_option linter.unusedSimpArgs false
namespace Go.Proofs.Ytpkdhmljbpbcfaa
open Go.RowKit

set_option maxHeartbeats 400000 in
theorem all_any (w : World) (F : Nat → Prop) (bh : Nat) (room : Int) (v : Value) (xs : List OpV) (hn : xs.length ≤ 1000000) (hh : HoldAt w F bh room v xs) :
    Calls Try.prog 18 #[.pointer (some ⟨bh, 0, none⟩)] w fun e w' => ∃ v', e = .returned v' ∧ w'.ownsRow w.heap.size 30 7 v' xs.length (flat xs) ∧ Below w.heap.size w w' := by
  have c1 : w.cell? ⟨bh, 1, none⟩ = some v := by simp [World.cell?, hh.head]
  have HI := Lib.hid (clone_any w v xs hn hh.rd)
  obtain ⟨ad, cap, hv⟩ := hh.rd.len
  subst hv
  clear hh
  go_enter Try.func18, Try.ntmps18
  go_wp2_with fail
  refine HI.out.mono ?_
  rintro e w1 ⟨v', rfl, h1, h2⟩
  have H1 := Lib.hid h1
  clear h1
  go_wp2
  go_ret
  exact ⟨_, rfl, H1.out, h2⟩

theorem enters16 : Enters Try.prog 16 := fun _ _ => by kernel_rfl
theorem enters17 : Enters Try.prog 17 := fun _ _ => by kernel_rfl
theorem enters21 : Enters Try.prog 21 := fun _ _ => by kernel_rfl
theorem enters23 : Enters Try.prog 23 := fun _ _ => by kernel_rfl
theorem enters29 : Enters Try.prog 29 := fun _ _ => by kernel_rfl
theorem enters30 : Enters Try.prog 30 := fun _ _ => by kernel_rfl
theorem enters31 : Enters Try.prog 31 := fun _ _ => by kernel_rfl
theorem enters32 : Enters Try.prog 32 := fun _ _ => by kernel_rfl

theorem all_ops (w : World) (G : Nat → Prop) : Decides 16 #[] (fun _ => true) w G := by
  intro o w1 hf
  clear hf
  go_enter Try.func16, Try.ntmps16
  go_wp2
  go_ret
  exact ⟨rfl, (Below.refl _ _).alloc (Nat.le_refl _) _⟩

theorem none_ops (w : World) (G : Nat → Prop) : Decides 31 #[] (fun _ => false) w G := by
  intro o w1 hf
  clear hf
  go_enter Try.func31, Try.ntmps31
  go_wp2
  go_ret
  exact ⟨rfl, (Below.refl _ _).alloc (Nat.le_refl _) _⟩

/-- what a captured variable holds -/
theorem held_fr {w w1 : World} {G : Nat → Prop} (hf : Fr G w w1) {b : Nat} {v : Value} (h : w.cell? ⟨b, 0, none⟩ = some v) (hG : ¬ G b) : w1.cell? ⟨b, 0, none⟩ = some v ∧ b < w1.heap.size :=
  ⟨hf.cell (p := ⟨b, 0, none⟩) hG h, World.block_lt_of_cell? w1 _ (hf.cell (p := ⟨b, 0, none⟩) hG h)⟩

theorem authors_to (w : World) (G : Nat → Prop) (b : Nat) (a : Int) (h : w.cell? ⟨b, 0, none⟩ = some (.int .i64 a)) (hG : ¬ G b) : Decides 30 #[.pointer (some ⟨b, 0, none⟩)] (fun o => decide (o.author ≤ a)) w G := by
  intro o w1 hf
  obtain ⟨h1, h2⟩ := held_fr hf h hG
  clear hf h
  go_enter Try.func30, Try.ntmps30
  go_wp2
  go_ret
  exact ⟨rfl, (Below.refl _ _).alloc (Nat.le_refl _) _⟩

theorem author_is (w : World) (G : Nat → Prop) (b : Nat) (a : Int) (h : w.cell? ⟨b, 0, none⟩ = some (.int .i64 a)) (hG : ¬ G b) : Decides 32 #[.pointer (some ⟨b, 0, none⟩)] (fun o => o.author == a) w G := by
  intro o w1 hf
  obtain ⟨h1, h2⟩ := held_fr hf h hG
  clear hf h
  go_enter Try.func32, Try.ntmps32
  go_wp2
  go_ret
  exact ⟨rfl, (Below.refl _ _).alloc (Nat.le_refl _) _⟩

theorem seq_to (w : World) (G : Nat → Prop) (b : Nat) (a : Int) (h : w.cell? ⟨b, 0, none⟩ = some (.int .i64 a)) (hG : ¬ G b) : Decides 23 #[.pointer (some ⟨b, 0, none⟩)] (fun o => decide (o.seq ≤ a)) w G := by
  intro o w1 hf
  obtain ⟨h1, h2⟩ := held_fr hf h hG
  clear hf h
  go_enter Try.func23, Try.ntmps23
  go_wp2
  go_ret
  exact ⟨rfl, (Below.refl _ _).alloc (Nat.le_refl _) _⟩

theorem seq_bit (w : World) (G : Nat → Prop) (b : Nat) (a : Int) (h : w.cell? ⟨b, 0, none⟩ = some (.int .i64 a)) (hG : ¬ G b) : Decides 29 #[.pointer (some ⟨b, 0, none⟩)] (fun o => bits .and .i64 o.seq a != 0) w G := by
  intro o w1 hf
  obtain ⟨h1, h2⟩ := held_fr hf h hG
  clear hf h
  go_enter Try.func29, Try.ntmps29
  go_wp2
  go_ret
  exact ⟨rfl, (Below.refl _ _).alloc (Nat.le_refl _) _⟩
end Go.Proofs.Ytpkdhmljbpbcfaa
