/-
  The closure of Hold.find answers whether an operation is the searched one or behind it. No condition beyond what each theorem names.
-/
import Derived.Test.YtpkdhmljbpbcfaaLib
set_option linter.unusedVariables false
set_option linter.unusedSimpArgs false
namespace Go.Proofs.Ytpkdhmljbpbcfaa
open Go.RowKit

structure OpV where
  ctr : Int
  author : Int
  seq : Int
  ins : Bool
  rctr : Int
  rauthor : Int
  rune : Int
  deriving DecidableEq, Inhabited

def OpV.cells (o : OpV) : List Value := [.int .i64 o.ctr, .int .i64 o.author, .int .i64 o.seq, .bool o.ins, .int .i64 o.rctr, .int .i64 o.rauthor, .int .i32 o.rune]

/-- the cells of an op at a place -/
def opAt (w : World) (b off : Nat) (o : OpV) : Prop :=
  w.cell? ⟨b, off, none⟩ = some (.int .i64 o.ctr) ∧ w.cell? ⟨b, off + 1, none⟩ = some (.int .i64 o.author) ∧ w.cell? ⟨b, off + 2, none⟩ = some (.int .i64 o.seq) ∧
  w.cell? ⟨b, off + 3, none⟩ = some (.bool o.ins) ∧ w.cell? ⟨b, off + 4, none⟩ = some (.int .i64 o.rctr) ∧ w.cell? ⟨b, off + 5, none⟩ = some (.int .i64 o.rauthor) ∧
  w.cell? ⟨b, off + 6, none⟩ = some (.int .i32 o.rune)

def fits (author seq : Int) (o : OpV) : Bool := decide (author < o.author) || (decide (o.author = author) && decide (seq ≤ o.seq))

set_option maxHeartbeats 400000 in
theorem find1 (w : World) (i : Nat) (n cap : Nat) (bp ba bs bh b off : Nat) (o : OpV) (author seq : Int) (hi : i < n) 
    (g1 : bp < w.heap.size) (g2 : ba < w.heap.size) (g3 : bs < w.heap.size)
    (c1 : w.cell? ⟨bp, 0, none⟩ = some (.pointer (some ⟨bh, 0, none⟩))) (c2 : w.cell? ⟨ba, 0, none⟩ = some (.int .i64 author)) (c3 : w.cell? ⟨bs, 0, none⟩ = some (.int .i64 seq))
    (ch : w.cell? ⟨bh, 1, none⟩ = some (.slice (some ⟨b, off, none⟩) n cap))
    (ko : opAt w b (off + i * 7) o) :
    Calls Try.prog 40 #[.int .i64 i, .pointer (some ⟨bp, 0, none⟩), .pointer (some ⟨ba, 0, none⟩), .pointer (some ⟨bs, 0, none⟩)] w fun e w' => e = .returned (.bool (fits author seq o)) ∧ Below w.heap.size w w' := by
  obtain ⟨k0, k1, k2, k3, k4, k5, k6⟩ := ko
  by_cases t1 : author < o.author
  · go_enter Try.func40, Try.ntmps40
    go_wp2
    go_ret
    exact ⟨by simp [fits, t1], (Below.refl _ _).alloc (Nat.le_refl _) _⟩
  · by_cases t2 : o.author = author
    · go_enter Try.func40, Try.ntmps40
      go_wp2
      go_ret
      exact ⟨by simp [fits, t2], (Below.refl _ _).alloc (Nat.le_refl _) _⟩
    · go_enter Try.func40, Try.ntmps40
      go_wp2
      go_ret
      exact ⟨by simp [fits, t1, t2], (Below.refl _ _).alloc (Nat.le_refl _) _⟩
end Go.Proofs.Ytpkdhmljbpbcfaa
