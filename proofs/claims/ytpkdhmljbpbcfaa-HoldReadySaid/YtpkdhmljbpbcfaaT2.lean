/-
  sort.Search finds where a rising predicate turns. No condition beyond what each theorem names.
-/
import Derived.Test.YtpkdhmljbpbcfaaT1
set_option linter.unusedVariables false
set_option linter.unusedSimpArgs false
namespace Go.Proofs.Ytpkdhmljbpbcfaa
open Go.RowKit

theorem enters40 : Enters Try.prog 40 := fun _ _ => by kernel_rfl

set_option maxHeartbeats 400000 in
theorem search_any (w : World) (n k : Nat) (F : FuncId) (C : Array Value) (hn : n ≤ 1000000) (hk : k ≤ n) (hF : Enters Try.prog F)
    (hp : ∀ (i : Nat) (w1 : World), i < n → Below w.heap.size w w1 → Calls Try.prog F (#[.int .i64 (i : Int)] ++ C) w1 fun e w2 => e = .returned (.bool (decide (k ≤ i))) ∧ Below w1.heap.size w1 w2) :
    Calls Try.prog 39 #[.int .i64 n, .func (.func F) #[] C] w fun e w' => e = .returned (.int .i64 k) ∧ Below w.heap.size w w' := by
  have HP := Lib.hid hp
  clear hp
  unfold Enters at hF
  go_enter Try.func39, Try.ntmps39
  go_wp2
  go_loopw [5, 6, 7] (fun i j _ wr => ∃ i' j' : Nat, i = .int .i64 i' ∧ j = .int .i64 j' ∧ i' ≤ k ∧ k ≤ j' ∧ j' ≤ n ∧ Below w.heap.size w wr) (fun i j _ _ => (intOf j - intOf i).toNat)
  case atStart => exact ⟨0, n, rfl, rfl, by omega, by omega, by omega, Below.refl _ _⟩
  case round =>
    obtain ⟨i', j', rfl, rfl, h1, h2, h3, hb⟩ := hrel
    by_cases hlt : i' < j'
    · obtain ⟨m, hm⟩ : ∃ m, m = (i' + j') / 2 := ⟨_, rfl⟩
      have hm1 : ((i' : Int) + j') / 2 = (m : Int) := by omega
      have hm2 : i' ≤ m := by omega
      have hm3 : m < j' := by omega
      clear hm
      have Hm := Lib.hid hm1
      clear hm1
      by_cases hkm : k ≤ m
      · have hd : decide (k ≤ m) = true := by simpa using hkm
        go_wp2
        rw [Hm.out]
        refine (HP.out m _ (by omega) hb).mono ?_
        rintro e w' ⟨rfl, hb2⟩
        go_wp2
        go_roundw
        case rel => exact ⟨i', m, rfl, rfl, h1, hkm, by omega, hb.trans (hb2.mono hb.size)⟩
        case measure => simp [intOf]; omega
      · have hd : decide (k ≤ m) = false := by simpa using hkm
        go_wp2
        rw [Hm.out]
        refine (HP.out m _ (by omega) hb).mono ?_
        rintro e w' ⟨rfl, hb2⟩
        go_wp2
        go_roundw
        case rel => exact ⟨m + 1, j', by go_num, rfl, by omega, h2, by omega, hb.trans (hb2.mono hb.size)⟩
        case measure => simp [intOf]; omega
    · go_wp2
      go_ret
      exact ⟨by rw [show i' = k from by omega]; rfl, hb⟩
end Go.Proofs.Ytpkdhmljbpbcfaa
