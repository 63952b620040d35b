/-
  Two closures more. No condition beyond what each theorem names.
-/
import Derived.Test.YtpkdhmljbpbcfaaTE
set_option linter.unusedVariables false
set_option linter.unusedSimpArgs false
namespace Go.Proofs.Ytpkdhmljbpbcfaa
open Go.RowKit

def bitOr (n : Int) (o : OpV) : Bool := (bits .and .i64 n 1 == 1) || (bits .and .i64 o.seq n != 0)

theorem bit_or (w : World) (G : Nat → Prop) (b : Nat) (a : Int) (h : w.cell? ⟨b, 0, none⟩ = some (.int .i64 a)) (hG : ¬ G b) : Decides 21 #[.pointer (some ⟨b, 0, none⟩)] (bitOr a) w G := by
  intro o w1 hf
  obtain ⟨h1, h2⟩ := held_fr hf h hG
  clear hf h
  cases hb : bits .and .i64 a 1 == 1
  · go_enter Try.func21, Try.ntmps21
    go_wp2
    go_ret
    exact ⟨ret_bool (by simp [bitOr, hb]), (Below.refl _ _).alloc (Nat.le_refl _) _⟩
  · go_enter Try.func21, Try.ntmps21
    go_wp2
    go_ret
    exact ⟨ret_bool (by simp [bitOr, hb]), (Below.refl _ _).alloc (Nat.le_refl _) _⟩

def rem24 (every rest : Int) (o : OpV) : Bool := (bits .and .i64 o.seq 16777215).tmod every == rest

theorem rem_is (w : World) (G : Nat → Prop) (b c : Nat) (every rest : Int) (h : w.cell? ⟨b, 0, none⟩ = some (.int .i64 every)) (hG : ¬ G b) (k : w.cell? ⟨c, 0, none⟩ = some (.int .i64 rest)) (kG : ¬ G c) (h1 : 1 ≤ every) (h2 : every ≤ 8) :
    Decides 17 #[.pointer (some ⟨b, 0, none⟩), .pointer (some ⟨c, 0, none⟩)] (rem24 every rest) w G := by
  intro o w1 hf
  obtain ⟨h3, h4⟩ := held_fr hf h hG
  obtain ⟨k3, k4⟩ := held_fr hf k kG
  clear hf h k
  have he : (every == 0) = false := by rw [beq_eq_false_iff_ne]; omega
  go_enter Try.func17, Try.ntmps17
  go_wp2
  go_quiet (fail)
  go_wp2
  go_ret
  exact ⟨ret_bool (by simp [rem24]), below_drewN ((Below.refl _ _).alloc (Nat.le_refl _) _) _⟩
end Go.Proofs.Ytpkdhmljbpbcfaa
