/-
  Masks of small numbers; are two lists of operations the same? No condition beyond what each theorem names.
-/
import Derived.Test.YtpkdhmljbpbcfaaTI
import Derived.Laws.BitsLemmas
set_option linter.unusedVariables false
set_option linter.unusedSimpArgs false
namespace Go.Proofs.Ytpkdhmljbpbcfaa
open Go.RowKit

theorem and_small (m : Nat) (hm : m < 2 ^ 62) (x : Int) : 0 ≤ bits .and .i64 x m ∧ bits .and .i64 x m ≤ m := by
  have hle : ∀ n : Nat, n ≤ m → IntKind.i64.wrap n = n := fun n hn => by rw [IntKind.wrap_i64]; omega
  have e : (BitVec.ofInt 64 (m : Int)).toNat = m := by rw [BitVec.ofInt_natCast, BitVec.toNat_ofNat]; omega
  have h1 : ((BitVec.ofInt 64 x) &&& (BitVec.ofInt 64 (m : Int))).toNat ≤ m := by
    rw [BitVec.toNat_and, e]
    exact Nat.and_le_right
  have h2 : bits .and .i64 x m = ((((BitVec.ofInt 64 x) &&& (BitVec.ofInt 64 (m : Int))).toNat : Nat) : Int) := by
    rw [← hle _ h1]; rfl
  rw [h2]
  omega

theorem and7 (x : Int) : 0 ≤ bits .and .i64 x 7 ∧ bits .and .i64 x 7 ≤ 7 := and_small 7 (by decide) x
theorem and16 (x : Int) : 0 ≤ bits .and .i64 x 65535 ∧ bits .and .i64 x 65535 ≤ 65535 := and_small 65535 (by decide) x

theorem run_neq_op (a b : OpV) (w : World) : (binOp .neq 30 (.agg #[.int .i64 a.ctr, .int .i64 a.author, .int .i64 a.seq, .bool a.ins, .int .i64 a.rctr, .int .i64 a.rauthor, .int .i32 a.rune]) (.agg #[.int .i64 b.ctr, .int .i64 b.author, .int .i64 b.seq, .bool b.ins, .int .i64 b.rctr, .int .i64 b.rauthor, .int .i32 b.rune])).run Try.prog w = .ok (.bool (!decide (a = b))) w := by
  by_cases h0 : a.ctr = b.ctr
  · by_cases h1 : a.author = b.author
    · by_cases h2 : a.seq = b.seq
      · by_cases h3 : a.ins = b.ins
        · by_cases h4 : a.rctr = b.rctr
          · by_cases h5 : a.rauthor = b.rauthor
            · by_cases h6 : a.rune = b.rune
              · simp [go_sem, op_eq, h0, h1, h2, h3, h4, h5, h6]
              · simp [go_sem, op_eq, h0, h1, h2, h3, h4, h5, h6]
            · simp [go_sem, op_eq, h0, h1, h2, h3, h4, h5]
          · simp [go_sem, op_eq, h0, h1, h2, h3, h4]
        · simp [go_sem, op_eq, h0, h1, h2, h3]
      · simp [go_sem, op_eq, h0, h1, h2]
    · simp [go_sem, op_eq, h0, h1]
  · simp [go_sem, op_eq, h0]

theorem take_eq_succ {xs ys : List OpV} {k : Nat} (h : xs.take k = ys.take k) (hx : k < xs.length) (hy : k < ys.length) (e : xs[k] = ys[k]) : xs.take (k + 1) = ys.take (k + 1) := by
  rw [List.take_succ_eq_append_getElem hx, List.take_succ_eq_append_getElem hy, h, e]

set_option maxHeartbeats 400000 in
theorem same_any (w : World) (v u : Value) (xs ys : List OpV) (hv : Rd w v xs) (hu : Rd w u ys) (hn : xs.length ≤ 9000000000000000000) (hm : ys.length ≤ 9000000000000000000) : Calls Try.prog 19 #[v, u] w (Says (decide (xs = ys)) w) := by
  obtain ⟨ad, cap, rfl, hx⟩ := hv
  obtain ⟨bd, dap, rfl, hy⟩ := hu
  have HX := Lib.hid hx
  have HY := Lib.hid hy
  clear hx hy
  by_cases hl : xs.length = ys.length
  · obtain ⟨n, hlen⟩ : ∃ n, n = xs.length := ⟨_, rfl⟩
    have hlen2 : n = ys.length := hlen.trans hl
    rw [← hlen] at hn
    have hb : ((n : Int) == n) = true := by simp
    rw [← hlen, ← hlen2]
    have HL := Lib.hid hlen
    have HL2 := Lib.hid hlen2
    clear hlen hlen2 hl hm
    go_enter Try.func19, Try.ntmps19
    go_wp2
    go_loopw [5] (fun i wr => ∃ k : Nat, i = .int .i64 k ∧ k ≤ n ∧ xs.take k = ys.take k ∧ Below w.heap.size w wr) (fun i _ => n - (intOf i).toNat)
    case atStart => exact ⟨0, rfl, Nat.zero_le _, rfl, Below.refl _ _⟩
    case round =>
      obtain ⟨k, rfl, hk1, hk2, hbw⟩ := hrel
      by_cases hk : k < n
      · have hkx : k < xs.length := by have := HL.out; omega
        have hky : k < ys.length := by have := HL2.out; omega
        obtain ⟨b, off, had, hxc⟩ := HX.out (by omega)
        obtain ⟨c, off2, had2, hyc⟩ := HY.out (by omega)
        subst had
        subst had2
        have ho := hxc k hkx
        have hlt := opAt_lt ho
        have ho2 := hyc k hky
        have hlt2 := opAt_lt ho2
        have HT := Lib.hid (fun e => take_eq_succ hk2 hkx hky e)
        obtain ⟨x, hx⟩ : ∃ x, x = xs[k] := ⟨_, rfl⟩
        obtain ⟨y, hy⟩ : ∃ x, x = ys[k] := ⟨_, rfl⟩
        rw [← hx] at ho HT
        rw [← hy] at ho2 HT
        have HX1 := Lib.hid hx
        have HY1 := Lib.hid hy
        have HK2 := Lib.hid hk2
        clear hx hy hxc hyc hk2
        obtain ⟨k0, k1, k2, k3, k4, k5, k6⟩ := opAt_below hbw hlt ho
        obtain ⟨x0, x1, x2, x3, x4, x5, x6⟩ := opAt_below hbw hlt2 ho2
        clear ho ho2
        have heq := run_neq_op x y
        by_cases e : x = y
        · have e' : decide (x = y) = true := by simpa using e
          have E := Lib.hid e
          clear e
          go_wp2
          go_quiet (fail)
          go_wp2
          go_roundw
          case rel => exact ⟨k + 1, by go_num, by omega, HT.out E.out, below_drewN hbw _⟩
          case measure => simp [intOf]; omega
        · have e' : decide (x = y) = false := by simpa using e
          have E := Lib.hid e
          clear e
          go_wp2
          go_quiet (fail)
          go_wp2
          go_ret
          refine ⟨ret_bool ?_, below_drewN hbw _⟩
          symm
          rw [decide_eq_false_iff_not]
          intro h
          apply E.out
          rw [HX1.out, HY1.out]
          simp [h]
      · have : xs = ys := by
          have h1 := HL.out
          have h2 := HL2.out
          rwa [List.take_of_length_le (by omega), List.take_of_length_le (by omega)] at hk2
        have T := Lib.hid this
        clear this
        go_wp2
        go_ret
        exact ⟨ret_bool (by simp [T.out]), hbw⟩
  · have hb : ((xs.length : Int) == ys.length) = false := by rw [beq_eq_false_iff_ne]; omega
    have hne : decide (xs = ys) = false := by simp; intro h; rw [h] at hl; exact hl rfl
    have HN := Lib.hid hne
    clear hne hl
    go_enter Try.func19, Try.ntmps19
    go_wp2
    go_ret
    exact ⟨ret_bool HN.out.symm, Below.refl _ _⟩
end Go.Proofs.Ytpkdhmljbpbcfaa
