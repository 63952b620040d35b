import Derived.Test.YthmaokjhncokdaaBC
import Derived.Test.YthmaokjhncokdaaB9
import Derived.Test.YthmaokjhncokdaaB7
import Derived.Test.YthmaokjhncokdaaB2
import Derived.Test.YthmaokjhncokdaaB1
import Derived.RangeFuncBox
import Derived.RangeFuncLeaves
import Derived.RangeFuncWrites
import Derived.Shelf.Abstract
import Derived.WalkKit
import Derived.OwnWalkIn
import Derived.TacticsInMore
import Derived.LoopNIn
import Derived.LoopIn
import Derived.Test.YthmaokjhncokdaaBD
import Derived.Test.YthmaokjhncokdaaB5
/-
  seg, plain: where rules say that there are boundaries, and what the machines of tables say. No program, no condition beyond what each theorem names.
-/
set_option linter.unusedVariables false
set_option linter.unusedSimpArgs false
namespace Go.Proofs.Ythmaokjhncokdaa
open Go.RowKit Classical

/-- does a rule fit at a place? -/
noncomputable def ruleB (row : List Int) (i : Nat) (r : Rl) : Bool := fitsE r.left r.start (row.take i) && fitsE (revX r.right) false (row.drop i).reverse
/-- what the first one that fits says -/
noncomputable def saysB (rs : List Rl) (row : List Int) (i : Nat) : Bool := ((rs.find? (ruleB row i)).map (·.brk)).getD true
noncomputable def segAt (rs : List Rl) (row : List Int) (i : Nat) : Bool := decide (0 < row.length) && (decide (i = 0) || (decide (i = row.length) || saysB rs row i))
noncomputable def segL (rs : List Rl) (row : List Int) : List Bool := (List.range (row.length + 1)).map (segAt rs row)

theorem segL_length (rs : List Rl) (row : List Int) : (segL rs row).length = row.length + 1 := by unfold segL; simp
theorem segL_get (rs : List Rl) (row : List Int) {i : Nat} (h : i < (segL rs row).length) : (segL rs row)[i] = segAt rs row i := by
  have h1 : (segL rs row)[i]? = some (segAt rs row i) := by
    rw [segL_length] at h
    unfold segL
    rw [List.getElem?_map, List.getElem?_range h]
    rfl
  exact Option.some.inj ((List.getElem?_eq_getElem h).symm.trans h1)

theorem find_dec (rs : List Rl) (f g : Rl → Bool) : decB rs.length (bitsL (rs.map f) &&& bitsL (rs.map g)) (breaksL rs) = ((rs.find? fun r => f r && g r).map (·.brk)).getD true := by
  have hbit : ∀ j (h : j < rs.length), (bitsL (rs.map f) &&& bitsL (rs.map g)).testBit j = (f rs[j] && g rs[j]) := fun j h => by
    rw [Nat.testBit_and, bitsL_get _ j (by simpa using h), bitsL_get _ j (by simpa using h), List.getElem_map, List.getElem_map]
  cases h : rs.find? (fun r => f r && g r) with
  | none =>
    rw [decB_end]
    · rfl
    · intro j hj
      rw [hbit j hj]
      exact Bool.eq_false_iff.2 (List.find?_eq_none.1 h rs[j] (List.getElem_mem hj))
  | some r =>
    obtain ⟨h1, i, hi, rfl, h3⟩ := List.find?_eq_some_iff_getElem.1 h
    rw [decB_hit hi (by rw [hbit i hi]; exact h1) (fun j hj => by
      rw [hbit j (by omega)]
      exact Eq.mp (Bool.not_eq_true' _) (h3 j hj))]
    unfold breaksL
    rw [bitsL_get _ i (by simpa using hi), List.getElem_map]
    rfl

theorem natsR_to {row : List Int} (h : ∀ c ∈ row, 0 ≤ c) : (natsR row).map (fun (c : Nat) => (c : Int)) = row := by
  unfold natsR
  rw [List.map_map]
  conv => rhs; rw [← List.map_id row]
  refine List.map_congr_left fun c hc => ?_
  have := h c hc
  show ((c.toNat : Nat) : Int) = id c
  simp; omega
/-- what the state behind the first j tells -/
theorem st_bits {L : List (Nd × Bool)} {N : List (List Nat)} {O : List Nat} {cls : Nat} {row : List Int} (hL : ∀ e ∈ L, RightX e.1) (h : Built (autoE L) outN cls (some (N, O.map some))) (hro : RowOk cls row) (j : Nat) : at0 O (stA N row j) = bitsL (L.map fun e => fitsE e.1 e.2 (row.take j)) := by
  have h := (built_bits hL h).2.2.2 (natsR (row.take j)) (fun c hc => by
    unfold natsR at hc
    obtain ⟨x, hx, rfl⟩ := List.mem_map.1 hc
    have := hro x (List.mem_of_mem_take hx)
    omega)
  rw [natsR_to (fun c hc => (hro c (List.mem_of_mem_take hc)).1)] at h
  unfold at0 stA
  rw [h]
  rfl

theorem lefts_right {rs : List Rl} (h : ∀ r ∈ rs, RightX r.left ∧ RightX r.right) : ∀ e ∈ leftsL rs, RightX e.1 := fun e he => by
  unfold leftsL at he
  obtain ⟨r, hr, rfl⟩ := List.mem_map.1 he
  exact (h r hr).1
theorem rights_right {rs : List Rl} (h : ∀ r ∈ rs, RightX r.left ∧ RightX r.right) : ∀ e ∈ rightsL rs, RightX e.1 := fun e he => by
  unfold rightsL at he
  obtain ⟨r, hr, rfl⟩ := List.mem_map.1 he
  exact right_rev (h r hr).2

theorem rowOk_rev {cls : Nat} {row : List Int} (h : RowOk cls row) : RowOk cls row.reverse := fun c hc => h c (List.mem_reverse.1 hc)
theorem rowOk_of_rev {cls : Nat} {row : List Int} (h : RowOk cls row.reverse) : RowOk cls row := fun c hc => h c (List.mem_reverse.2 hc)

theorem take_rev (row : List Int) {i : Nat} (hi : i ≤ row.length) : row.reverse.take (row.length - i) = (row.drop i).reverse := by
  rw [List.take_reverse, show row.length - (row.length - i) = i by omega]

/-- what the two machines' sets come to at a place is what the rules say there -/
theorem place_says {rs : List Rl} {n : Nat} {N M : List (List Nat)} {O U : List Nat} (hr : ∀ r ∈ rs, RightX r.left ∧ RightX r.right) (h1 : Built (autoE (leftsL rs)) outN n (some (N, O.map some))) (h2 : Built (autoE (rightsL rs)) outN n (some (M, U.map some)))
    {row : List Int} (hro : RowOk n row) {i : Nat} (hi : i ≤ row.length) : decB rs.length (at0 O (stA N row i) &&& at0 U (stA M row.reverse (row.length - i))) (breaksL rs) = saysB rs row i := by
  rw [st_bits (lefts_right hr) h1 hro, st_bits (rights_right hr) h2 (rowOk_rev hro), take_rev row hi]
  unfold leftsL rightsL
  rw [List.map_map, List.map_map]
  exact find_dec rs (fun r => fitsE r.left r.start (row.take i)) (fun r => fitsE (revX r.right) false (row.drop i).reverse)
theorem st_lt {L : List (Nd × Bool)} {N : List (List Nat)} {O : List Nat} {cls : Nat} {row : List Int} (hL : ∀ e ∈ L, RightX e.1) (hl : L.length ≤ 40) (h : Built (autoE L) outN cls (some (N, O.map some))) (hro : RowOk cls row) (j : Nat) : at0 O (stA N row j) < 2 ^ 64 := by
  rw [st_bits hL h hro]
  have h1 := bitsL_lt (L.map fun e => fitsE e.1 e.2 (row.take j))
  rw [List.length_map] at h1
  have h2 : (2 : Nat) ^ L.length ≤ 2 ^ 40 := Nat.pow_le_pow_right (by omega) hl
  omega

/-- tables that were compiled of rules -/
def TabsOf (w : World) (T n : Nat) (rs : List Rl) : Prop := ∃ oa ob N O M U, TabAt w T (.pointer (some ⟨oa, 0, none⟩)) (.pointer (some ⟨ob, 0, none⟩)) (breaksL rs) rs.length ∧ MachD w oa n N O ∧ MachD w ob n M U ∧
  CompOk n rs ∧ Built (autoE (leftsL rs)) outN n (some (N, O.map some)) ∧ Built (autoE (rightsL rs)) outN n (some (M, U.map some))
theorem TabsOf.to {w w' : World} {T n : Nat} {rs : List Rl} (h : TabsOf w T n rs) (hb : Below w.heap.size w w') : TabsOf w' T n rs := by
  obtain ⟨oa, ob, N, O, M, U, h1, h2, h3, h4⟩ := h
  exact ⟨oa, ob, N, O, M, U, (hb.block _ (at_lt h1)).trans h1, h2.to hb, h3.to hb, h4⟩
/-- both machines are there -/
def Compiles (n : Nat) (rs : List Rl) : Prop := CompOk n rs ∧ (∃ m, Built (autoE (leftsL rs)) outN n (some m)) ∧ ∃ m, Built (autoE (rightsL rs)) outN n (some m)
/-- what Compile says -/
noncomputable def compC (n : Nat) (rs : List Rl) : Int := if CompOk n rs then (if Compiles n rs then 0 else 7) else 1
/-- what Compile comes to -/
def CompPost2 (w : World) (n : Nat) (rs : List Rl) (e : Ending) (w' : World) : Prop := Below w.heap.size w w' ∧ ∃ q, e = .returned (.tuple #[.pointer q, .int .i64 (compC n rs)]) ∧
  ((compC n rs = 0 ∧ ∃ T, q = some ⟨T, 0, none⟩ ∧ TabsOf w' T n rs) ∨ (compC n rs ≠ 0 ∧ q = none))
theorem CompPost.two {w : World} {n : Nat} {rs : List Rl} {e : Ending} {w' : World} (h : CompPost w n rs e w') : CompPost2 w n rs e w' := by
  obtain ⟨hb, h⟩ := h
  refine ⟨hb, ?_⟩
  rcases h with ⟨h1, rfl⟩ | ⟨h1, h2, rfl⟩ | ⟨h1, T, oa, ob, N, O, M, U, -, h2, h3, rfl, h4, h5, h6⟩
  · have hc : compC n rs = 1 := by unfold compC; rw [if_neg h1]
    rw [hc]
    exact ⟨none, rfl, .inr ⟨by decide, rfl⟩⟩
  · have hn : ¬ Compiles n rs := by
      rintro ⟨-, ⟨m, h3⟩, m', h4⟩
      rcases h2 with h2 | h2
      · cases built_det h2 h3
      · cases built_det h2 h4
    have hc : compC n rs = 7 := by unfold compC; rw [if_pos h1, if_neg hn]
    rw [hc]
    exact ⟨none, rfl, .inr ⟨by decide, rfl⟩⟩
  · have hc : compC n rs = 0 := by unfold compC; rw [if_pos h1, if_pos ⟨h1, ⟨_, h2⟩, _, h3⟩]
    rw [hc]
    exact ⟨_, rfl, .inl ⟨rfl, T, rfl, oa, ob, N, O, M, U, h4, h5, h6, h1, h2, h3⟩⟩
theorem compC_ok {n : Nat} {rs : List Rl} (h : compC n rs = 0) : Compiles n rs := by
  unfold compC at h
  split at h
  · split at h
    · assumption
    · cases h
  · cases h
theorem compC_same {n : Nat} {rs ss : List Rl} (h1 : CompOk n rs ↔ CompOk n ss) (h2 : Compiles n rs ↔ Compiles n ss) : compC n rs = compC n ss := by
  unfold compC
  simp only [h1, h2]
end Go.Proofs.Ythmaokjhncokdaa

/-
  slices.Reverse of ints of one's own. No condition beyond what each theorem names.
-/
set_option linter.unusedVariables false
set_option linter.unusedSimpArgs false
namespace Go.Proofs.Ythmaokjhncokdaa
open Go.RowKit

/-- turned round as far as k from both ends -/
def turnI (xs : List Int) (k : Nat) : List Int :=
  (List.range xs.length).map fun p => if p < k ∨ xs.length ≤ p + k then xs[xs.length - 1 - p]?.getD 0 else xs[p]?.getD 0
theorem turnI_length (xs : List Int) (k : Nat) : (turnI xs k).length = xs.length := by simp [turnI]
theorem turnI_zero (xs : List Int) : turnI xs 0 = xs := by
  apply List.ext_getElem
  · simp [turnI]
  · intro i h1 h2; simp [turnI, h2, show ¬ xs.length ≤ i by omega]
theorem turnI_get {xs : List Int} {k p : Nat} (h1 : k ≤ p) (h2 : p + k < xs.length) : (turnI xs k)[p]? = xs[p]? := by
  have : p < xs.length := by omega
  simp [turnI, this, show ¬ p < k by omega, show ¬ xs.length ≤ p + k by omega]
theorem turnI_succ {xs : List Int} {k j : Nat} (h : k + j + 1 = xs.length) (hk : k < j) : ((turnI xs k).set k (xs[j]'(by omega))).set j (xs[k]'(by omega)) = turnI xs (k + 1) := by
  apply List.ext_getElem
  · simp [turnI]
  · intro i h1 h2
    have h3 : i < xs.length := by simpa [turnI] using h2
    rw [List.getElem_set]
    by_cases e : j = i
    · subst e
      simp [turnI, show xs.length ≤ j + (k + 1) by omega, show xs.length - 1 - j = k by omega, show k < xs.length by omega]
    · rw [if_neg e, List.getElem_set]
      by_cases e' : k = i
      · subst e'
        simp [turnI, show xs.length - 1 - k = j by omega, show j < xs.length by omega]
      · rw [if_neg e']
        by_cases h4 : i < k ∨ xs.length ≤ i + k
        · simp [turnI, h4, show i < k + 1 ∨ xs.length ≤ i + (k + 1) by omega]
        · simp [turnI, h4, show ¬ (i < k + 1 ∨ xs.length ≤ i + (k + 1)) by omega]
theorem turnI_all {xs : List Int} {k : Nat} {j : Int} (h : (k : Int) + j + 1 = xs.length) (hk : ¬ (k : Int) < j) : turnI xs k = xs.reverse := by
  apply List.ext_getElem
  · simp [turnI]
  · intro i h1 h2
    have h3 : i < xs.length := by simpa [turnI] using h1
    rw [List.getElem_reverse]
    by_cases h4 : i < k ∨ xs.length ≤ i + k
    · simp [turnI, h4, show xs.length - 1 - i < xs.length by omega]
    · simp only [turnI, List.getElem_map, List.getElem_range, if_neg h4]
      have : xs.length - 1 - i = i := by omega
      simp [this, h3]

theorem map_set2 (xs : List Int) (tail : List Value) {k j : Nat} (u v : Int) (hk : k < xs.length) (hj : j < xs.length) :
    ((xs.map (Value.int .i64) ++ tail).set k (.int .i64 u)).set j (.int .i64 v) = ((xs.set k u).set j v).map (Value.int .i64) ++ tail := by
  rw [List.set_append_left _ _ (by simpa using hk), List.set_append_left _ _ (by simpa using hj), List.map_set, List.map_set]

set_option maxHeartbeats 1000000 in
theorem rev_ints (w : World) (g n cap : Nat) (xs : List Int) (tail : List Value) (hl : xs.length = n) (hn : n ≤ 9000000000000000000) (hr : VRow w g 3 (xs.map (Value.int .i64) ++ tail)) :
    Calls Try.prog 48 #[.slice (some ⟨g, 0, none⟩) n cap] w fun e w' => VRow w' g 3 (xs.reverse.map (Value.int .i64) ++ tail) ∧ Fr (fun k => k = g) w w' ∧ ∃ v, e = .returned v := by
  have HR0 := Lib.hid hr
  have HL := Lib.hid hl
  clear hr hl
  go_enter Try.func48, Try.ntmps48
  go_wp2_with fail
  go_loopw [2, 3] (fun u v wr => ∃ (k : Nat) (j : Int), u = .int .i64 k ∧ v = .int .i64 j ∧ k + j + 1 = n ∧ VRow wr g 3 ((turnI xs k).map (Value.int .i64) ++ tail) ∧ Fr (fun k => k = g) w wr) (fun _ v _ => (intOf v + 1).toNat)
  case atStart => exact ⟨0, _, rfl, rfl, by omega, by rw [turnI_zero]; exact HR0.out, Fr.refl _ _⟩
  case round =>
    obtain ⟨k, j, rfl, rfl, hkj, hrw, hfr⟩ := hrel
    have HR := Lib.hid hrw
    have HFR := Lib.hid hfr
    have hf : ∀ o, wr.frozen? ⟨g, o, none⟩ = false := hrw.fz
    clear hrw hfr
    by_cases hlt : (k : Int) < j
    · obtain ⟨j, rfl⟩ : ∃ m : Nat, j = m := ⟨j.toNat, by omega⟩
      have hkj' : k + j + 1 = xs.length := by have := HL.out; omega
      have hkl : k < xs.length := by omega
      have hjl : j < xs.length := by omega
      obtain ⟨a, ha⟩ : ∃ a, a = xs[k] := ⟨_, rfl⟩
      obtain ⟨b, hb⟩ : ∃ b, b = xs[j] := ⟨_, rfl⟩
      have x0 := HR.out.cell (i := k) (u := .int .i64 a) (by rw [List.getElem?_append_left (by rw [List.length_map, turnI_length]; exact hkl), List.getElem?_map, turnI_get (Nat.le_refl _) (by omega), List.getElem?_eq_getElem hkl, ha]; rfl)
      have y0 := HR.out.cell (i := j) (u := .int .i64 b) (by rw [List.getElem?_append_left (by rw [List.length_map, turnI_length]; exact hjl), List.getElem?_map, turnI_get (by omega) (by omega), List.getElem?_eq_getElem hjl, hb]; rfl)
      have i0 : (0 : Int) ≤ k := by omega
      have i1 : (k : Int) < n := by omega
      have j0 : (0 : Int) ≤ j := by omega
      have j1 : (j : Int) < n := by omega
      have ne1 : ¬ k = j := by omega
      have hnew := turnI_succ hkj' (by omega)
      rw [← ha, ← hb] at hnew
      have hset := (HR.out.set k (.int .i64 b)).set j (.int .i64 a)
      rw [map_set2 _ _ _ _ (by rw [turnI_length]; exact hkl) (by rw [turnI_length]; exact hjl), hnew] at hset
      have HSET := Lib.hid hset
      clear ha hb hnew hset
      go_wp2
      go_region
      go_wp2
      go_roundw
      case rel =>
        refine ⟨k + 1, (j : Int) - 1, by go_num, rfl, by omega, HSET.out, Fr.drew ?_⟩
        have fs : ∀ (W : World) (o : Nat) (u : Value), Fr (fun k => k = g) W (W.setCell ⟨g, o, none⟩ u) := fun W o u => Fr.setCell (F := fun k => k = g) W rfl u
        have ft : ∀ {a b c : World}, Fr (fun k => k = g) a b → Fr (fun k => k = g) b c → Fr (fun k => k = g) a c := fun h k => h.trans k (fun _ _ h => h)
        exact ft HFR.out (ft (fs _ _ _) (fs _ _ _))
      case measure => (simp [intOf]; try omega)
    · go_wp2
      go_end0
      have e := turnI_all (xs := xs) (k := k) (j := j) (by have := HL.out; omega) (by omega)
      have h := HR.out
      rw [e, List.map_reverse] at h
      exact ⟨h, HFR.out, _, rfl⟩
/-- slices.Reverse of a list of one's own -/
theorem rev_ownI (w : World) (base : Nat) (v : Value) (xs : List Int) (h : OwnL intE 3 1 base w v xs) (hn : xs.length ≤ 1000001) :
    Calls Try.prog 48 #[v] w fun e w' => OwnL intE 3 1 base w' v xs.reverse ∧ Fr (fun k => v.ownBlock = some k) w w' ∧ ∃ u, e = .returned u := by
  by_cases h0 : 0 < xs.length
  · obtain ⟨g, cap, vs, rfl, hb, hV, hnc, hcm, hs, ht⟩ := ints_blk h h0
    have hV2 : VRow w g 3 (xs.map (Value.int .i64) ++ vs.drop xs.length) := by rw [← ht, List.take_append_drop]; exact hV
    refine (rev_ints w g xs.length cap xs (vs.drop xs.length) rfl (by omega) hV2).mono fun e w' ⟨k1, k2, k3⟩ => ⟨?_, k2.mono (fun k _ hk => by subst hk; rfl), k3⟩
    have hl : xs.reverse.length = xs.length := by simp
    have := blk_ints (xs := xs.reverse) (T := 3) hb k1 (by rw [hl]; exact hnc) hcm (by simp; omega) (by rw [hl, List.take_append_of_le_length (by simp)]; rw [List.take_of_length_le (by simp)])
    rwa [hl] at this
  · have hx : xs = [] := List.eq_nil_of_length_eq_zero (by omega)
    subst hx
    obtain ⟨p, cp, rfl⟩ := h.form
    have HO := Lib.hid h
    clear h
    go_enter Try.func48, Try.ntmps48
    go_wp2_with fail
    go_loopw [2, 3] (fun u v wr => u = .int .i64 0 ∧ v = .int .i64 (-1) ∧ wr = w) (fun _ v _ => 0)
    case atStart => exact ⟨rfl, rfl, rfl⟩
    case round =>
      obtain ⟨rfl, rfl, rfl⟩ := hrel
      go_wp2
      go_end0
      exact ⟨HO.out, Fr.refl _ _, _, rfl⟩
end Go.Proofs.Ythmaokjhncokdaa

/-
  seg: Boundaries. No condition beyond what each theorem names.
-/
set_option linter.unusedVariables false
set_option linter.unusedSimpArgs false
namespace Go.Proofs.Ythmaokjhncokdaa
open Go.RowKit Classical

/-- what Boundaries comes to -/
def BoundPost (w : World) (n : Nat) (rs : List Rl) (row : List Int) (e : Ending) (w' : World) : Prop := Below w.heap.size w w' ∧
  ((RowOk n row ∧ ∃ v, e = .returned (.tuple #[v, .int .i64 0]) ∧ Bools w' v (segL rs row)) ∨ (¬ RowOk n row ∧ e = .returned (.tuple #[.slice none 0 0, .int .i64 1])))

theorem breaks_lt9 (rs : List Rl) : breaksL rs < 2 ^ rs.length := by
  have := bitsL_lt (rs.map fun r => r.brk)
  rwa [List.length_map] at this
theorem seg_fill (rs : List Rl) (row : List Int) {k : Nat} (hk : k ≤ row.length) {u : Bool} (hu : u = segAt rs row k) :
    (((List.range k).map (segAt rs row)) ++ List.replicate (row.length + 1 - k) false).set k u = ((List.range (k + 1)).map (segAt rs row)) ++ List.replicate (row.length + 1 - (k + 1)) false := by
  rw [List.set_append_right _ _ (by simp)]
  rw [List.length_map, List.length_range, Nat.sub_self, show row.length + 1 - k = row.length + 1 - (k + 1) + 1 by omega, List.replicate_succ, List.set_cons_zero, List.range_succ, List.map_append, List.append_assoc, hu]
  rfl

set_option maxRecDepth 100000 in
set_option maxHeartbeats 16000000 in
theorem boundaries_any (w : World) (T n : Nat) (rs : List Rl) (ht : TabsOf w T n rs) (v : Value) (row : List Int) (hv : Ints w v row) (hl : row.length ≤ 1000000) :
    Calls Try.prog 27 #[.pointer (some ⟨T, 0, none⟩), v] w (BoundPost w n rs row) := by
  have HT := Lib.hid ht
  obtain ⟨oa, ob, N, O, M, U, hT, hA, hB, hco, hb1, hb2⟩ := ht
  have hk1 := built_bits (lefts_right hco.2.1) hb1
  have hk2 := built_bits (rights_right hco.2.1) hb2
  have HTA := Lib.hid (show ∀ W, Below w.heap.size w W → TabAt W T (.pointer (some ⟨oa, 0, none⟩)) (.pointer (some ⟨ob, 0, none⟩)) (breaksL rs) rs.length from fun W hW => (hW.block _ (at_lt hT)).trans hT)
  have HMB := Lib.hid hB
  have HCO := Lib.hid hco
  have HB1 := Lib.hid hb1
  have HB2 := Lib.hid hb2
  have HOK := Lib.hid (And.intro hk1.1 (And.intro hk1.2.1 (And.intro hk2.1 hk2.2.1)))
  have HRUN := Lib.hid (run_m w oa n N O hA hk1.1 hk1.2.1 v row hv hl)
  have HV := Lib.hid hv
  obtain ⟨p, cp, rfl, hcp, -⟩ := hv.get
  obtain ⟨nr, hnr⟩ : ∃ nr, nr = row.length := ⟨_, rfl⟩
  have HNR := Lib.hid hnr
  rw [← hnr] at hl hcp HRUN HV ⊢
  obtain ⟨y0, y1, y2, y3⟩ := cells4 hT
  have hmk : ∀ w, _ := fun w => make_bools 55 Try.underlying55 w ((nr : Int) + 1) (nr + 1) (by omega) (by omega)
  clear hT hA hB hco hb1 hb2 hk1 hk2 hv hnr
  go_enter Try.func27, Try.ntmps27
  go_wp2_with fail
  refine HRUN.out.mono ?_
  rintro e w1 ⟨hb1, hcase⟩
  have HW1 := Lib.hid hb1
  clear hb1 y0 y1 y2 y3 HRUN
  rcases hcase with ⟨hro, va, rfl, hra⟩ | ⟨hno, rfl⟩
  · obtain ⟨pa, ca, rfl, hca, hga⟩ := hra.at (by omega) (n := nr + 1) (by unfold runsN; rw [List.length_map, List.length_range, ← HNR.out])
    have HGA := Lib.hid hga
    have HRO := Lib.hid hro
    have HCL := Lib.hid (clone_ints w1 (.slice p nr cp) row.length (row.map (Value.int .i64)) (by rw [← HNR.out]; omega) (by simp) (by simp [Value.oneCell']) (HV.out.to HW1.out (Nat.le_refl _)))
    clear hra hga hro
    go_wp2_with fail
    refine HCL.out.mono ?_
    rintro e w2 ⟨v2, rfl, hown, hb2⟩
    have hown2 := ownL_ints hown
    have HO2 := Lib.hid hown2
    have HQ2 := Lib.hid hb2
    have HW2 := Lib.hid (HW1.out.trans (hb2.mono HW1.out.size))
    obtain ⟨p2, c2, rfl⟩ := hown2.form
    have HRV := Lib.hid (rev_ownI w2 w1.heap.size _ row hown2 (by rw [← HNR.out]; omega))
    clear hown hown2 hb2 HCL
    rw [← HNR.out] at HRV HO2 ⊢
    go_wp2_with fail
    refine HRV.out.mono ?_
    rintro e w3 ⟨hown3, hf3, u3, rfl⟩
    have HW3 := Lib.hid (HW2.out.trans ((hf3.below (B := w.heap.size) HW2.out.size (fun k hk => by have := (HO2.out.lt k hk).1; have := HW1.out.size; omega))))
    obtain ⟨y0, y1, y2, y3⟩ := cells4 (HTA.out w3 HW3.out)
    have HQ3 := Lib.hid (HQ2.out.trans ((hf3.below (B := w1.heap.size) HQ2.out.size (fun k hk => (HO2.out.lt k hk).1))))
    have HR3 := Lib.hid (run_m w3 ob n M U (HMB.out.to HW3.out) HOK.out.2.2.1 HOK.out.2.2.2 _ row.reverse hown3.read.ints (by rw [List.length_reverse, ← HNR.out]; exact hl))
    clear hown3 hf3 HRV HO2
    go_wp2_with fail
    refine HR3.out.mono ?_
    rintro e w4 ⟨hb4, hcase⟩
    have HW4 := Lib.hid (HW3.out.trans (hb4.mono HW3.out.size))
    have HW14 := Lib.hid (HQ3.out.trans (hb4.mono HQ3.out.size))
    clear y0 y1 y2 y3 HR3
    rcases hcase with ⟨hro4, vb, rfl, hrb⟩ | ⟨hno, rfl⟩
    · obtain ⟨pb, cb, rfl, hcb, hgb⟩ := hrb.at (by omega) (n := nr + 1) (by unfold runsN; rw [List.length_map, List.length_range, List.length_reverse, ← HNR.out])
      have HGB := Lib.hid hgb
      clear hro4 hrb hgb hb4
      go_upto_region 11 with fail
      refine abs_wp fun W hW => ?_
      obtain ⟨B, hB⟩ : ∃ B, B = w4.heap.size := ⟨_, rfl⟩
      have HROW := Lib.hid (show BRow W B (List.replicate (nr + 1) false) by rw [hW, hB]; unfold BRow; rw [List.map_replicate]; exact heap_alloc_new _ _)
      have HBW := Lib.hid (show Below w4.heap.size w4 W by rw [hW]; exact below_alloc1 _ _)
      rw [← hB]
      have HB := Lib.hid hB
      clear hW hB hmk
      go_wp2_with fail
      go_loopw [48] (fun i wz => ∃ k : Nat, i = .int .i64 k ∧ k ≤ nr + 1 ∧ BRow wz B ((List.range k).map (segAt rs row) ++ List.replicate (row.length + 1 - k) false) ∧ Below w4.heap.size w4 wz) (fun i _ => nr + 1 - (intOf i).toNat)
      case atStart => exact ⟨0, rfl, by omega, by rw [← HNR.out]; simpa using HROW.out, HBW.out⟩
      case round =>
        obtain ⟨k, rfl, hk, hrow, hb⟩ := hrel
        have HBL := Lib.hid hb
        by_cases hkr : k < nr + 1
        · have hki : (k : Int) < (nr : Int) + 1 := by omega
          have hki2 : (k : Int) < ((nr + 1 : Nat) : Int) := by omega
          have hk0 : (0 : Int) ≤ k := by omega
          have hkl : k ≤ row.length := by rw [← HNR.out]; omega
          have hlen : ((List.range k).map (segAt rs row) ++ List.replicate (row.length + 1 - k) false).length = nr + 1 := by have := HNR.out; simp; omega
          have c0 := hrow.cell (i := k) (by rw [hlen]; exact hkr)
          have f0 := hrow.frozen k
          obtain ⟨old, hold⟩ : ∃ old, old = ((List.range k).map (segAt rs row) ++ List.replicate (row.length + 1 - k) false)[k]'(by rw [hlen]; exact hkr) := ⟨_, rfl⟩
          rw [← hold] at c0
          have HSET := Lib.hid (show ∀ u, u = segAt rs row k → BRow (wr.setCell ⟨B, k, none⟩ (.bool u)) B ((List.range (k + 1)).map (segAt rs row) ++ List.replicate (row.length + 1 - (k + 1)) false) from fun u hu => by
            rw [← seg_fill rs row hkl hu]; exact hrow.set k u)
          have HBS := Lib.hid (show ∀ u, Below w4.heap.size w4 (wr.setCell ⟨B, k, none⟩ u) from fun u => hb.trans ((Fr.setCell (F := fun q => q = B) wr (p := ⟨B, k, none⟩) rfl u).below hb.size (fun q hq => by have hq : q = B := hq; have := HB.out; omega)))
          clear hrow hb hold hlen
          by_cases hn0 : nr = 0
          · have hn1 : ¬ (0 : Int) < nr := by omega
            have HU := Lib.hid (show false = segAt rs row k from by unfold segAt; rw [decide_eq_false (by have := HNR.out; omega)]; rfl)
            go_upto_region 14 with fail
            go_region
            go_wp2
            exact ⟨⟨k + 1, by go_num, by omega, HSET.out _ HU.out, (HBS.out _).drew⟩, by simp [intOf]; omega⟩
          · have hn1 : 0 < nr := by omega
            by_cases hk1 : k = 0
            · have hk1p : ((k : Int) = 0) = True := eq_true (by omega)
              have hk1q : ((k : Int) == 0) = true := by rw [hk1]; rfl
              have HU := Lib.hid (show true = segAt rs row k from by unfold segAt; rw [decide_eq_true (by have := HNR.out; omega), decide_eq_true hk1]; rfl)
              clear hk1
              have HOLD := Lib.hid (And.intro c0 f0)
              clear c0 f0
              go_upto_region 14 with fail
              refine wp_region_plan (fun W => Below w4.heap.size w4 W) (.reads [0, 1, 2, 3, 4, 5, 6, 7, 8, 9, 10, 11, 12, 13, 14, 15, 16, 17, 18, 19, 20, 21, 22, 23] (.one 24 (.reads [25, 26, 27] (.one 28 .done)))) 81 (by kernel_rfl) (by kernel_rfl) rfl (fun _ _ _ _ _ h => h) HBL.out.drew ?_
              apply plan_readsW
              · intro W hW
                clear hW
                iterate 24 (refine WR_step (fun K hK => ?_); go_simp; refine hK.out _ ?_; clear hK K)
                exact WR_nil rfl
              refine abs_plan fun W0 hW0 => ?_
              have HB0 := Lib.hid (show Below w4.heap.size w4 W0 by rw [hW0]; exact HBL.out.drew)
              have HO0 := Lib.hid (show W0.cell? ⟨B, k, none⟩ = some (.bool old) ∧ W0.frozen? ⟨B, k, none⟩ = false by rw [hW0]; exact HOLD.out)
              have HS0 := Lib.hid (show BRow (W0.setCell ⟨B, k, none⟩ (.bool true)) B ((List.range (k + 1)).map (segAt rs row) ++ List.replicate (row.length + 1 - (k + 1)) false) ∧ Below w4.heap.size w4 (W0.setCell ⟨B, k, none⟩ (.bool true)) by rw [hW0]; exact ⟨HSET.out _ HU.out, ⟨(HBS.out (.bool true)).os, (HBS.out (.bool true)).tape, (HBS.out (.bool true)).output, (HBS.out (.bool true)).size, (HBS.out (.bool true)).block⟩⟩)
              clear hW0
              refine plan_one rfl ?_
              go_wp2_with fail
              refine Then.mk HB0.out ?_
              apply plan_readsW
              · intro W hW
                clear hW
                iterate 3 (refine WR_step (fun K hK => ?_); go_simp; refine hK.out _ ?_; clear hK K)
                exact WR_nil rfl
              refine plan_one rfl ?_
              obtain ⟨c0, f0⟩ := HO0.out
              go_wp2_with fail
              refine Then.mk HS0.out.2 ?_
              refine plan_done ?_
              go_wp2_with fail
              exact ⟨⟨k + 1, by go_num, by omega, HS0.out.1, HS0.out.2⟩, by simp [intOf]; omega⟩
            · by_cases hk3 : k = nr
              · have hk3p : ((k : Int) = (nr : Int)) = True := eq_true (by omega)
                have hk3q : ((k : Int) == (nr : Int)) = true := by rw [hk3]; simp
                have HU := Lib.hid (show true = segAt rs row k from by unfold segAt; rw [decide_eq_true (show 0 < row.length by have := HNR.out; omega), decide_eq_false hk1, decide_eq_true (show k = row.length by have := HNR.out; omega)]; rfl)
                clear hk3
                have HOLD := Lib.hid (And.intro c0 f0)
                clear c0 f0
                go_upto_region 14 with fail
                refine wp_region_plan (fun W => Below w4.heap.size w4 W) (.reads [0, 1, 2, 3, 4, 5, 6, 7, 8, 9, 10, 11, 12, 13, 14, 15, 16, 17, 18, 19, 20, 21, 22, 23] (.one 24 (.reads [25, 26, 27] (.one 28 .done)))) 81 (by kernel_rfl) (by kernel_rfl) rfl (fun _ _ _ _ _ h => h) HBL.out.drew ?_
                apply plan_readsW
                · intro W hW
                  clear hW
                  iterate 24 (refine WR_step (fun K hK => ?_); go_simp; refine hK.out _ ?_; clear hK K)
                  exact WR_nil rfl
                refine abs_plan fun W0 hW0 => ?_
                have HB0 := Lib.hid (show Below w4.heap.size w4 W0 by rw [hW0]; exact HBL.out.drew)
                have HO0 := Lib.hid (show W0.cell? ⟨B, k, none⟩ = some (.bool old) ∧ W0.frozen? ⟨B, k, none⟩ = false by rw [hW0]; exact HOLD.out)
                have HS0 := Lib.hid (show BRow (W0.setCell ⟨B, k, none⟩ (.bool true)) B ((List.range (k + 1)).map (segAt rs row) ++ List.replicate (row.length + 1 - (k + 1)) false) ∧ Below w4.heap.size w4 (W0.setCell ⟨B, k, none⟩ (.bool true)) by rw [hW0]; exact ⟨HSET.out _ HU.out, ⟨(HBS.out (.bool true)).os, (HBS.out (.bool true)).tape, (HBS.out (.bool true)).output, (HBS.out (.bool true)).size, (HBS.out (.bool true)).block⟩⟩)
                clear hW0
                refine plan_one rfl ?_
                go_wp2_with fail
                refine Then.mk HB0.out ?_
                apply plan_readsW
                · intro W hW
                  clear hW
                  iterate 3 (refine WR_step (fun K hK => ?_); go_simp; refine hK.out _ ?_; clear hK K)
                  exact WR_nil rfl
                refine plan_one rfl ?_
                obtain ⟨c0, f0⟩ := HO0.out
                go_wp2_with fail
                refine Then.mk HS0.out.2 ?_
                refine plan_done ?_
                go_wp2_with fail
                exact ⟨⟨k + 1, by go_num, by omega, HS0.out.1, HS0.out.2⟩, by simp [intOf]; omega⟩
              · have hkr2 : k < row.length := by have := HNR.out; omega
                have hk3i : ¬ (k : Int) = (nr : Int) := by omega
                obtain ⟨jj, hjj⟩ : ∃ jj, jj = nr - k := ⟨_, rfl⟩
                have hnk : IntKind.i64.wrap ((nr : Int) - k) = (jj : Nat) := by
                  rw [show (nr : Int) - k = (jj : Nat) by omega]
                  exact IntWalk.i64_in _ (by omega)
                have hnk0 : (0 : Int) ≤ jj := by omega
                have hnk1 : (jj : Int) < (nr : Int) + 1 := by omega
                obtain ⟨a, ha⟩ : ∃ a, a = at0 O (stA N row k) := ⟨_, rfl⟩
                obtain ⟨b, hb⟩ : ∃ b, b = at0 U (stA M row.reverse (row.length - k)) := ⟨_, rfl⟩
                obtain ⟨bA, oA, rA, rfl, hbA, hcA, hrA⟩ := HGA.out k a (by unfold runsN; rw [List.getElem?_map, List.getElem?_range (by have := HNR.out; omega), ha]; rfl)
                obtain ⟨bB, oB, rB, rfl, hbB, hcB, hrB⟩ := HGB.out jj b (by unfold runsN; rw [List.getElem?_map, List.getElem?_range (by rw [List.length_reverse]; have := HNR.out; omega), hb, hjj, HNR.out]; rfl)
                have HCA := Lib.hid (show ∀ W, Below w4.heap.size w4 W → W.cell? ⟨bA, oA + k, none⟩ = some (.int .u64 (a : Nat)) from fun W hW => by
                  have := hcA 0 (.int .u64 (a : Nat)) (by rw [hrA]; rfl)
                  rw [Nat.mul_one, Nat.add_zero] at this
                  exact cell_below (HW14.out.trans (hW.mono HW14.out.size)) hbA this)
                have HCB := Lib.hid (show ∀ W, Below w4.heap.size w4 W → W.cell? ⟨bB, oB + jj, none⟩ = some (.int .u64 (b : Nat)) from fun W hW => by
                  have := hcB 0 (.int .u64 (b : Nat)) (by rw [hrB]; rfl)
                  rw [Nat.mul_one, Nat.add_zero] at this
                  exact cell_below hW hbB this)
                have HAB := Lib.hid (show a < 2 ^ 64 ∧ b < 2 ^ 64 ∧ decB rs.length (a &&& b) (breaksL rs) = saysB rs row k from by
                  rw [ha, hb]
                  exact ⟨st_lt (lefts_right HCO.out.2.1) (by unfold leftsL; rw [List.length_map]; exact HCO.out.1) HB1.out HRO.out k, st_lt (rights_right HCO.out.2.1) (by unfold rightsL; rw [List.length_map]; exact HCO.out.1) HB2.out (rowOk_rev HRO.out) _, place_says HCO.out.2.1 HB1.out HB2.out HRO.out hkl⟩)
                have HDU := Lib.hid (show decB rs.length (a &&& b) (breaksL rs) = segAt rs row k from by
                  rw [HAB.out.2.2]
                  unfold segAt
                  rw [decide_eq_true (show 0 < row.length by omega), decide_eq_false hk1, decide_eq_false (show ¬ k = row.length by omega)]
                  simp)
                obtain ⟨uu, huu⟩ : ∃ uu, uu = segAt rs row k := ⟨_, rfl⟩
                have HU := Lib.hid huu
                have HBRL := Lib.hid (show breaksL rs < 2 ^ 64 from by
                  have h1 := breaks_lt9 rs
                  have h2 : (2 : Nat) ^ rs.length ≤ 2 ^ 40 := Nat.pow_le_pow_right (by omega) HCO.out.1
                  omega)
                rw [← huu] at HDU
                have hq : ((k : Int) == 0 || (k : Int) == (nr : Int) || uu) = uu := by
                  rw [beq_eq_false_iff_ne.2 (show (k : Int) ≠ 0 by omega), beq_eq_false_iff_ne.2 hk3i]; rfl
                clear ha hb hcA hrA hcB hrB hbA hbB hkr2 huu hjj
                have HOLD := Lib.hid (And.intro c0 f0)
                clear c0 f0
                go_upto_region 14 with fail
                refine wp_region_plan (fun W => Below w4.heap.size w4 W) (.reads [0, 1, 2, 3, 4, 5, 6, 7, 8, 9, 10, 11, 12, 13, 14, 15, 16, 17, 18, 19, 20, 21, 22, 23] (.one 24 (.reads [25, 26, 27] (.one 28 .done)))) 81 (by kernel_rfl) (by kernel_rfl) rfl (fun _ _ _ _ _ h => h) HBL.out.drew ?_
                apply plan_readsW
                · intro W hW
                  have d0 := HCA.out W hW
                  have d1 := HCB.out W hW
                  clear hW
                  iterate 24 (refine WR_step (fun K hK => ?_); go_simp; refine hK.out _ ?_; clear hK K)
                  exact WR_nil rfl
                refine abs_plan fun W0 hW0 => ?_
                have HB0 := Lib.hid (show Below w4.heap.size w4 W0 by rw [hW0]; exact HBL.out.drew)
                have HO0 := Lib.hid (show W0.cell? ⟨B, k, none⟩ = some (.bool old) ∧ W0.frozen? ⟨B, k, none⟩ = false by rw [hW0]; exact HOLD.out)
                have HS0 := Lib.hid (show BRow (W0.setCell ⟨B, k, none⟩ (.bool uu)) B ((List.range (k + 1)).map (segAt rs row) ++ List.replicate (row.length + 1 - (k + 1)) false) ∧ Below w4.heap.size w4 (W0.setCell ⟨B, k, none⟩ (.bool uu)) by rw [hW0]; exact ⟨HSET.out _ HU.out, ⟨(HBS.out (.bool uu)).os, (HBS.out (.bool uu)).tape, (HBS.out (.bool uu)).output, (HBS.out (.bool uu)).size, (HBS.out (.bool uu)).block⟩⟩)
                have HD0 := Lib.hid (decide_any W0 T _ _ (breaksL rs) rs.length a b (HTA.out W0 (HW4.out.trans (HB0.out.mono HW4.out.size))) HAB.out.1 HAB.out.2.1 HBRL.out (by have := HCO.out.1; omega))
                rw [HDU.out] at HD0
                clear hW0
                refine plan_one rfl ?_
                go_wp2_with fail
                refine HD0.out.mono ?_
                rintro e w' ⟨rfl, rfl⟩
                go_wp2_with fail
                refine Then.mk HB0.out ?_
                apply plan_readsW
                · intro W hW
                  clear hW
                  iterate 3 (refine WR_step (fun K hK => ?_); go_simp; refine hK.out _ ?_; clear hK K)
                  exact WR_nil rfl
                refine plan_one rfl ?_
                obtain ⟨c0, f0⟩ := HO0.out
                go_wp2_with fail
                refine Then.mk (by first | exact HS0.out.2 | (rw [hq]; exact HS0.out.2)) ?_
                refine plan_done ?_
                go_wp2_with fail
                exact ⟨⟨k + 1, by go_num, by omega, by first | exact HS0.out.1 | (rw [hq]; exact HS0.out.1), by first | exact HS0.out.2 | (rw [hq]; exact HS0.out.2)⟩, by simp [intOf]; omega⟩
        · have hki : ¬ (k : Int) < (nr : Int) + 1 := by omega
          have HRES := Lib.hid (show Bools wr (.slice (some ⟨B, 0, none⟩) (nr + 1) (nr + 1)) (segL rs row) from by
            have e : (List.range k).map (segAt rs row) ++ List.replicate (row.length + 1 - k) false = segL rs row := by
              have := HNR.out
              rw [show k = row.length + 1 by omega, Nat.sub_self, List.replicate_zero, List.append_nil]; rfl
            rw [e] at hrow
            have := hrow.bools
            rwa [segL_length, ← HNR.out] at this)
          clear hrow hb
          go_wp2_with fail
          go_ret2
          exact ⟨HW4.out.trans (HBL.out.mono HW4.out.size), .inl ⟨HRO.out, _, rfl, HRES.out⟩⟩
    · exact (hno (rowOk_rev HRO.out)).elim
  · have HNO := Lib.hid hno
    clear hno
    go_wp2_with fail
    go_ret2
    exact ⟨HW1.out, .inr ⟨HNO.out, rfl⟩⟩
end Go.Proofs.Ythmaokjhncokdaa

/-
  seg, plain: the boundary next to a place. No program, no condition beyond what each theorem names.
-/
set_option linter.unusedVariables false
set_option linter.unusedSimpArgs false
namespace Go.Proofs.Ythmaokjhncokdaa

def truesL (bs : List Bool) : List Nat := (List.range bs.length).filter fun i => bs[i]?.getD false
theorem trues_mem {bs : List Bool} {i : Nat} : i ∈ truesL bs ↔ tr bs i := by
  unfold truesL tr
  rw [List.mem_filter, List.mem_range]
  constructor
  · rintro ⟨h, h2⟩
    rw [List.getElem?_eq_getElem h] at h2 ⊢
    simpa using h2
  · intro h
    rw [h]
    exact ⟨(List.getElem?_eq_some_iff.1 h).1, rfl⟩
theorem trues_lt (bs : List Bool) : (truesL bs).Pairwise (· < ·) := List.pairwise_lt_range.filter _

/-- the last of them below a place, or the beginning -/
def prevF (l : List Nat) (a : Int) : Nat := ((l.filter fun (i : Nat) => decide ((i : Int) < a)).getLast?).getD 0
/-- the first of them above a place, or the end -/
def nextF (l : List Nat) (a : Int) (d : Nat) : Nat := (l.find? fun (i : Nat) => decide (a < (i : Int))).getD d

theorem prevF_snoc (l : List Nat) (a : Int) (i : Nat) : prevF (l ++ [i]) a = if (i : Int) < a then i else prevF l a := by
  unfold prevF
  rw [List.filter_append]
  split
  · rename_i h
    rw [List.filter_cons_of_pos (by simpa using h)]
    simp
  · rename_i h
    rw [List.filter_cons_of_neg (by simpa using h)]
    simp
theorem nextF_hit {pre : List Nat} {i : Nat} {rest : List Nat} {a : Int} {d : Nat} (h : ∀ j ∈ pre, ¬ a < (j : Int)) (hi : a < (i : Int)) : nextF (pre ++ i :: rest) a d = i := by
  unfold nextF
  rw [List.find?_append, List.find?_eq_none.2 (fun j hj => by simpa using h j hj), Option.none_or, List.find?_cons_of_pos (by simpa using hi)]
  rfl
theorem nextF_none {l : List Nat} {a : Int} {d : Nat} (h : ∀ j ∈ l, ¬ a < (j : Int)) : nextF l a d = d := by
  unfold nextF
  rw [List.find?_eq_none.2 (fun j hj => by simpa using h j hj)]
  rfl
/-- what comes above a place does not matter for the one below it -/
theorem prevF_prefix {pre : List Nat} {rest : List Nat} {a : Int} (h : ∀ j ∈ rest, ¬ (j : Int) < a) : prevF (pre ++ rest) a = prevF pre a := by
  unfold prevF
  rw [List.filter_append, (List.filter_eq_nil_iff (l := rest)).2 (fun j hj => by simpa using h j hj), List.append_nil]

theorem nextF_spec (bs : List Bool) (a : Int) (d : Nat) : (tr bs (nextF (truesL bs) a d) ∧ a < (nextF (truesL bs) a d : Nat) ∧ ∀ j : Nat, a < (j : Int) → j < nextF (truesL bs) a d → ¬ tr bs j) ∨ (nextF (truesL bs) a d = d ∧ ∀ j : Nat, a < (j : Int) → ¬ tr bs j) := by
  cases h : (truesL bs).find? fun (i : Nat) => decide (a < (i : Int)) with
  | none =>
    right
    refine ⟨by unfold nextF; rw [h]; rfl, fun j hj ht => ?_⟩
    have := List.find?_eq_none.1 h j (trues_mem.2 ht)
    simp at this
    omega
  | some k =>
    left
    have e : nextF (truesL bs) a d = k := by unfold nextF; rw [h]; rfl
    rw [e]
    obtain ⟨h1, us, bs', h2, h3⟩ := List.find?_eq_some_iff_append.1 h
    refine ⟨trues_mem.1 (by rw [h2]; simp), by simpa using h1, fun j hj hjk ht => ?_⟩
    have hm := trues_mem.2 ht
    have hs := trues_lt bs
    rw [h2] at hm hs
    rcases List.mem_append.1 hm with hm | hm
    · have := h3 j hm
      simp at this
      omega
    · rcases List.mem_cons.1 hm with rfl | hm
      · omega
      · have := (List.pairwise_cons.1 (List.pairwise_append.1 hs).2.1).1 j hm
        omega
theorem prevF_spec (bs : List Bool) (a : Int) : (tr bs (prevF (truesL bs) a) ∧ (prevF (truesL bs) a : Nat) < a ∧ ∀ j : Nat, (j : Int) < a → prevF (truesL bs) a < j → ¬ tr bs j) ∨ (prevF (truesL bs) a = 0 ∧ ∀ j : Nat, (j : Int) < a → ¬ tr bs j) := by
  have hs : ((truesL bs).filter fun (i : Nat) => decide ((i : Int) < a)).Pairwise (· < ·) := (trues_lt bs).filter _
  have hm : ∀ j : Nat, j ∈ (truesL bs).filter (fun (i : Nat) => decide ((i : Int) < a)) ↔ tr bs j ∧ (j : Int) < a := fun j => by rw [List.mem_filter, trues_mem]; simp
  have e : prevF (truesL bs) a = (((truesL bs).filter fun (i : Nat) => decide ((i : Int) < a)).getLast?).getD 0 := rfl
  rw [e]
  generalize (truesL bs).filter (fun (i : Nat) => decide ((i : Int) < a)) = l at *
  cases h : l.getLast? with
  | none =>
    right
    refine ⟨rfl, fun j hj ht => ?_⟩
    have := (hm j).2 ⟨ht, hj⟩
    rw [List.getLast?_eq_none_iff.1 h] at this
    cases this
  | some k =>
    left
    obtain ⟨ys, rfl⟩ := List.getLast?_eq_some_iff.1 h
    have hk := (hm k).1 (by simp)
    refine ⟨hk.1, hk.2, fun j hj hjk ht => ?_⟩
    have hjm := (hm j).2 ⟨ht, hj⟩
    rcases List.mem_append.1 hjm with hjm | hjm
    · have := (List.pairwise_append.1 hs).2.2 j hjm k (by simp)
      have hjk : k < j := hjk
      omega
    · have hjk : k < j := hjk
      rw [List.mem_singleton.1 hjm] at hjk
      omega
end Go.Proofs.Ythmaokjhncokdaa

/-
  seg: places, around, Next, Prev. No condition beyond what each theorem names.
-/
set_option linter.unusedVariables false
set_option linter.unusedSimpArgs false
namespace Go.Proofs.Ythmaokjhncokdaa
open Go.RowKit Go.Shelf

attribute [local go_sem] Oper.semAt_some

/-- those below k -/
def truesK (bs : List Bool) (k : Nat) : List Nat := (List.range k).filter fun i => bs[i]?.getD false
theorem truesK_zero (bs : List Bool) : truesK bs 0 = [] := rfl
theorem truesK_succ (bs : List Bool) (k : Nat) : truesK bs (k + 1) = truesK bs k ++ (if bs[k]?.getD false then [k] else []) := by
  unfold truesK
  rw [List.range_succ, List.filter_append]
  cases h : bs[k]?.getD false
  · rw [List.filter_cons_of_neg (by simp [h])]; rfl
  · rw [List.filter_cons_of_pos (by simp [h])]; rfl
theorem truesK_all (bs : List Bool) : truesK bs bs.length = truesL bs := rfl
theorem truesK_len (bs : List Bool) (k : Nat) : (truesK bs k).length ≤ k := by
  unfold truesK
  exact Nat.le_trans (List.length_filter_le _ _) (by simp)
theorem truesK_prefix (bs : List Bool) {k : Nat} (hk : k ≤ bs.length) : truesK bs k <+: truesL bs := by
  unfold truesK truesL
  have e : List.range bs.length = List.range k ++ (List.range (bs.length - k)).map (k + ·) := by
    rw [show bs.length = k + (bs.length - k) by omega, List.range_add, Nat.add_sub_cancel_left]
  rw [e, List.filter_append]
  exact List.prefix_append _ _

/-- block b, if it is of cells, stays as it is -/
def KpB (b : Nat) (W W' : World) : Prop := ∀ o : Obj, W.heap[b]? = some o → o.isCells = true → W'.heap[b]? = some o
theorem KpB.refl (b : Nat) (W : World) : KpB b W W := fun _ h _ => h
theorem KpB.trans {b : Nat} {A B C : World} (h : KpB b A B) (k : KpB b B C) : KpB b A C := fun o h1 h2 => k o (h o h1 h2) h2
theorem KpB.put {b : Nat} (W : World) (l : Nat) (o o' : Obj) (hl : W.heap[l]? = some o) (ho : o.isCells = false) : KpB b W (W.putObj l o') := fun u h1 h2 => by
  by_cases e : b = l
  · subst e
    rw [hl] at h1
    cases h1
    rw [ho] at h2
    cases h2
  · rw [World.putObj_heap_other e]; exact h1
theorem KpB.set {b : Nat} (W : World) (k : Nat) (hk : b ≠ k) (i : Nat) (u : Value) : KpB b W (W.setCell ⟨k, i, none⟩ u) := fun o h1 _ => (Below.heap_setCell _ _ _ _ hk).trans h1

set_option maxRecDepth 100000 in
set_option maxHeartbeats 2000000 in
theorem places1_in (F : Fence) (n : Nat) (h7 : F.fn 97) (hro : F.round = none) (hn : 1 ≤ n) (l Bs b off len cap : Nat) (bs : List Bool) (hlen : bs.length = len) (hreach : len ≤ 1000001) (O : Obj) (hO : O.isCells = true) (J Jx : List Nat → World → Prop)
    (hY : ∀ pre x W, J pre W → pre.length < len → YieldAt F (n - 1) Try.prog l #[.int .i64 (x : Nat)] W fun e W' =>
      (e = .returned (.bool true) ∧ J (pre ++ [x]) W' ∧ KpB b W W') ∨ (e = .returned (.bool false) ∧ Jx (pre ++ [x]) W'))
    (W : World) (hWO : W.heap[b]? = some O) (hBs : W.cell? ⟨Bs, 0, none⟩ = some (.slice (some ⟨b, off, none⟩) len cap)) (hc : ∀ j, j < len → W.cell? ⟨b, off + j, none⟩ = some (.bool (bs[j]?.getD false))) (h0 : J [] W) :
    CallsIn F n Try.prog 97 #[.func (.yield l) #[] #[], .pointer (some ⟨Bs, 0, none⟩)] W fun e W' => (∃ v, e = .returned v) ∧
      ((∃ ys, ys = truesL bs ∧ J ys W') ∨ (∃ pre, pre <+: truesL bs ∧ Jx pre W')) := by
  refine callsIn_of_wp Try.func97 rfl h7 ?_ hro
  simp only [Try.ntmps97, List.size_toArray, List.length_cons, List.length_nil, Nat.reduceAdd, Nat.reduceSub, Array.replicate_succ, Array.replicate_zero, List.push_toArray, List.append_toArray, List.nil_append, List.cons_append]
  gi_wp2
  gi_loopw [7] (fun i wr => ∃ k : Nat, k ≤ len ∧ i = .int .i64 k ∧ J (truesK bs k) wr ∧ KpB b W wr)
    (fun i _ => len - (intOf i).toNat)
  case atStart => exact ⟨0, Nat.zero_le _, rfl, h0, KpB.refl _ _⟩
  case round =>
    obtain ⟨k, hk, rfl, hJs, hnx⟩ := hrel
    by_cases hlt : k < len
    · have hcx : wr.cell? ⟨b, off + k, none⟩ = some (.bool (bs[k]?.getD false)) := (World.cell?_of_block (w := W) ((hnx O hWO hO).trans hWO.symm)).trans (hc k hlt)
      have hsucc := truesK_succ bs k
      have hpl : (truesK bs k).length < len := Nat.lt_of_le_of_lt (truesK_len bs k) hlt
      have hY' := hY _ k wr hJs hpl
      have hki : (k : Int) < len := by omega
      have hk0 : (0 : Int) ≤ k := by omega
      cases hv : bs[k]?.getD false
      · rw [hv] at hcx hsucc
        simp only [Bool.false_eq_true, if_false, List.append_nil] at hsucc
        clear hY' hY
        gi_wp2
        refine ⟨fun _ h => (by cases h), ?_⟩
        gi_wp2
        go_roundw
        case rel => exact ⟨k + 1, by omega, by simp, by rw [hsucc]; exact hJs, hnx⟩
        case measure => simp [intOf]; omega
      · rw [hv] at hcx hsucc
        simp only [if_true] at hsucc
        obtain ⟨fn, tmps, assign, body, hy, hR⟩ := hY'
        gi_wp2
        refine hR.mono ?_
        rintro e W3 (⟨rfl, hJ3, hk3⟩ | ⟨rfl, hJx3⟩)
        · gi_wp2
          go_roundw
          case rel => exact ⟨k + 1, by omega, by simp, by rw [hsucc]; exact hJ3, hnx.trans hk3⟩
          case measure => simp [intOf]; omega
        · gi_wp2
          refine bodyPost_ret (results_none rfl _ _ _) rfl ?_
          exact ⟨⟨_, rfl⟩, .inr ⟨_, by rw [← hsucc]; exact truesK_prefix bs (by omega), hJx3⟩⟩
    · obtain rfl : k = len := by omega
      gi_wp2
      go_end0
      exact ⟨⟨_, rfl⟩, .inl ⟨_, by rw [← hlen]; exact (truesK_all bs), hJs⟩⟩

set_option maxHeartbeats 1000000 in
theorem places_in (F : Fence) (n : Nat) (h5 : F.fn 75) (hro : F.round = none) (a : Option Addr) (len cap : Nat) (w : World) :
    CallsIn F n Try.prog 75 #[.slice a len cap] w fun e w' => e = .returned (.func (.func 97) #[] #[.pointer (some ⟨w.heap.size, 0, none⟩)]) ∧ w' = w.alloc (.cells #[.slice a len cap] 55) := by
  refine callsIn_of_wp Try.func75 rfl h5 ?_ hro
  simp only [Try.ntmps75, List.size_toArray, List.length_cons, List.length_nil, Nat.reduceAdd, Nat.reduceSub, Array.replicate_succ, Array.replicate_zero, List.push_toArray, List.append_toArray, List.nil_append, List.cons_append]
  gi_wp2
  go_ret
  exact ⟨rfl, rfl⟩

/-- places(l) hands back what tells all boundaries, rising -/
theorem places_stops (F : Fence) (n : Nat) (h7 : F.fn 97) (hro : F.round = none) (hn : 1 ≤ n) (Bs b off len cap : Nat) (bs : List Bool) (hlen : bs.length = len) (hreach : len ≤ 1000001) (O : Obj) (hO : O.isCells = true) (w : World) (hBs : Bs < w.heap.size) (hwO : w.heap[b]? = some O)
    (hc : w.cell? ⟨Bs, 0, none⟩ = some (.slice (some ⟨b, off, none⟩) len cap)) (hI : ∀ j, j < len → w.cell? ⟨b, off + j, none⟩ = some (.bool (bs[j]?.getD false))) :
    SeqStopsK F n Try.prog 97 #[.pointer (some ⟨Bs, 0, none⟩)] (fun x : Nat => #[Value.int .i64 (x : Nat)]) (KpB b) (fun ys => ys = truesL bs) (fun pre => pre <+: truesL bs) len w := fun l J Jx W hW _ _ hY h0 => by
  have hc' := (hW.cell (p := ⟨Bs, 0, none⟩) hBs).trans hc
  have hbW := (hW.block b (Array.getElem?_eq_some_iff.1 hwO).1)
  exact places1_in F n h7 hro hn l Bs b off len cap bs hlen hreach O hO J Jx hY W (hbW.trans hwO) hc' (fun j hj => (World.cell?_of_block (w := w) hbW).trans (hI j hj)) h0

theorem four_allocs (w : World) (o1 o2 o3 o4 : Obj) (W : World) (hW : W = (((w.alloc o1).alloc o2).alloc o3).alloc o4) :
    Below w.heap.size w W ∧ W.heap[w.heap.size]? = some o1 ∧ W.heap[w.heap.size + 1]? = some o2 ∧ W.heap[w.heap.size + 1 + 1]? = some o3 ∧ W.heap[w.heap.size + 1 + 1 + 1]? = some o4 ∧ W.heap.size = w.heap.size + 4 := by
  obtain ⟨a1, a2, a3⟩ := two_allocs w o1 o2 _ rfl
  obtain ⟨b1, b2, b3⟩ := two_allocs ((w.alloc o1).alloc o2) o3 o4 W hW
  have hs : ((w.alloc o1).alloc o2).heap.size = w.heap.size + 1 + 1 := by simp
  rw [hs] at b1 b2 b3
  refine ⟨a1.trans (b1.mono (by omega)), (b1.block _ (by omega)).trans a2, (b1.block _ (by omega)).trans a3, b2, b3, by rw [hW]; simp⟩

theorem cell_one {w : World} {B : Nat} {a : Value} {T : TypeId} (hb : w.heap[B]? = some (.cells #[a] T)) : w.cell? ⟨B, 0, none⟩ = some a := by simp [World.cell?, hb]

/-- around's variables -/
def ArBl (g : Nat) (a p q c : Int) (W : World) : Prop := W.heap[g]? = some (.cells #[.int .i64 a] 3) ∧ W.heap[g + 1]? = some (.cells #[.int .i64 p] 3) ∧ W.heap[g + 1 + 1]? = some (.cells #[.int .i64 q] 3) ∧ W.heap[g + 1 + 1 + 1]? = some (.cells #[.int .i64 c] 29)
def ArAt (w : World) (g : Nat) (a p q c : Int) (W : World) : Prop := Below g w W ∧ ArBl g a p q c W
section
variable {w W : World} {g : Nat} {a p q c : Int}
theorem ArBl.grown {W' : World} {row : Option Nat} (h : ArBl g a p q c W) (hg : W.grownBy W' row) (hr : ∀ r, row = some r → ∃ o : Obj, W.heap[r]? = some o ∧ o.isCells = false) : ArBl g a p q c W' :=
  ⟨(grownBy_keeps_cells hg hr h.1 rfl).trans h.1, (grownBy_keeps_cells hg hr h.2.1 rfl).trans h.2.1, (grownBy_keeps_cells hg hr h.2.2.1 rfl).trans h.2.2.1, (grownBy_keeps_cells hg hr h.2.2.2 rfl).trans h.2.2.2⟩
/-- a row of bools lies elsewhere -/
theorem ArAt.ne (h : ArAt w g a p q c W) {b o : Nat} {u : Bool} (hc : W.cell? ⟨b, o, none⟩ = some (.bool u)) : b ≠ g ∧ b ≠ g + 1 ∧ b ≠ g + 1 + 1 ∧ b ≠ g + 1 + 1 + 1 := by
  have key : ∀ k (x : Int) T, W.heap[k]? = some (.cells #[.int .i64 x] T) → b ≠ k := fun k x T hk e => by
    subst e
    rcases o with _ | o
    · simp [World.cell?, hk] at hc
    · simp [World.cell?, hk] at hc
  exact ⟨key _ _ _ h.2.1, key _ _ _ h.2.2.1, key _ _ _ h.2.2.2.1, key _ _ _ h.2.2.2.2⟩
theorem ArAt.cells (h : ArAt w g a p q c W) : W.cell? ⟨g, 0, none⟩ = some (.int .i64 a) ∧ W.cell? ⟨g + 1, 0, none⟩ = some (.int .i64 p) ∧ W.cell? ⟨g + 1 + 1, 0, none⟩ = some (.int .i64 q) ∧ W.cell? ⟨g + 1 + 1 + 1, 0, none⟩ = some (.int .i64 c) := ⟨cell_one h.2.1, cell_one h.2.2.1, cell_one h.2.2.2.1, cell_one h.2.2.2.2⟩
theorem ArAt.fz (h : ArAt w g a p q c W) : W.frozen? ⟨g, 0, none⟩ = false ∧ W.frozen? ⟨g + 1, 0, none⟩ = false ∧ W.frozen? ⟨g + 1 + 1, 0, none⟩ = false ∧ W.frozen? ⟨g + 1 + 1 + 1, 0, none⟩ = false := ⟨fz_at h.2.1 0, fz_at h.2.2.1 0, fz_at h.2.2.2.1 0, fz_at h.2.2.2.2 0⟩
theorem below_set {B : Nat} {w W : World} (h : Below B w W) (k : Nat) (hk : B ≤ k) (i : Nat) (u : Value) : Below B w (W.setCell ⟨k, i, none⟩ u) := h.trans ((Below.refl B W).setCell (p := ⟨k, i, none⟩) hk u)
theorem set_ne {W : World} {k j : Nat} (h : j ≠ k) (i : Nat) (u : Value) : (W.setCell ⟨k, i, none⟩ u).heap[j]? = W.heap[j]? := Below.heap_setCell _ _ _ _ h
theorem ArAt.put1 (h : ArAt w g a p q c W) (u : Int) : ArAt w g a u q c (W.setCell ⟨g + 1, 0, none⟩ (.int .i64 u)) :=
  ⟨below_set h.1 _ (by omega) _ _, (set_ne (by omega) _ _).trans h.2.1, blk_set h.2.2.1 0 _, (set_ne (by omega) _ _).trans h.2.2.2.1, (set_ne (by omega) _ _).trans h.2.2.2.2⟩
theorem ArAt.put2 (h : ArAt w g a p q c W) (u : Int) : ArAt w g a p u c (W.setCell ⟨g + 1 + 1, 0, none⟩ (.int .i64 u)) :=
  ⟨below_set h.1 _ (by omega) _ _, (set_ne (by omega) _ _).trans h.2.1, (set_ne (by omega) _ _).trans h.2.2.1, blk_set h.2.2.2.1 0 _, (set_ne (by omega) _ _).trans h.2.2.2.2⟩
theorem ArAt.put3 (h : ArAt w g a p q c W) (u : Int) : ArAt w g a p q u (W.setCell ⟨g + 1 + 1 + 1, 0, none⟩ (.int .i64 u)) :=
  ⟨below_set h.1 _ (by omega) _ _, (set_ne (by omega) _ _).trans h.2.1, (set_ne (by omega) _ _).trans h.2.2.1, (set_ne (by omega) _ _).trans h.2.2.2.1, blk_set h.2.2.2.2 0 _⟩
theorem ArAt.drew (h : ArAt w g a p q c W) : ArAt w g a p q c W.drew := ⟨h.1.drew, h.2⟩
theorem ArAt.kept (h : ArAt w g a p q c W) {W' : World} {B : Nat} (hb : Below B W W') (hB : g + 1 + 1 + 1 < B) : ArAt w g a p q c W' :=
  ⟨h.1.trans (hb.mono (by omega)), (hb.block _ (by omega)).trans h.2.1, (hb.block _ (by omega)).trans h.2.2.1, (hb.block _ (by omega)).trans h.2.2.2.1, (hb.block _ (by omega)).trans h.2.2.2.2⟩
end

/-- what around comes to: the one below, the one above, or why not -/
def aroundV (n : Nat) (rs : List Rl) (row : List Int) (at_ : Int) (v : Int × Int × Int) : Prop :=
  (¬ RowOk n row ∧ v = (0, 0, 1)) ∨ (RowOk n row ∧ (at_ < 0 ∨ (row.length : Int) < at_) ∧ v = (0, 0, 3)) ∨
  (RowOk n row ∧ 0 ≤ at_ ∧ at_ ≤ row.length ∧ v = (((prevF (truesL (segL rs row)) at_ : Nat) : Int), ((nextF (truesL (segL rs row)) at_ row.length : Nat) : Int), 0))

theorem around_res {tmps : Array Value} {w W : World} {g : Nat} {a p q c : Int} (h : ArAt w g a p q c W) (h6 : tmps[6]?.getD undef = .pointer (some ⟨g + 1, 0, none⟩)) (h7 : tmps[7]?.getD undef = .pointer (some ⟨g + 1 + 1, 0, none⟩)) (h8 : tmps[8]?.getD undef = .pointer (some ⟨g + 1 + 1 + 1, 0, none⟩)) :
    (results Try.f51 tmps).run Try.prog W = .ok (.tuple #[.int .i64 p, .int .i64 q, .int .i64 c]) W := by
  obtain ⟨y0, y1, y2, y3⟩ := h.cells
  simp [results, Try.results51, go_sem, h6, h7, h8, y1, y2, y3]

set_option maxRecDepth 100000 in
set_option maxHeartbeats 4000000 in
theorem around_any (w : World) (T n : Nat) (rs : List Rl) (ht : TabsOf w T n rs) (v : Value) (row : List Int) (hv : Ints w v row) (hl : row.length ≤ 1000000) (at_ : Int) :
    Calls Try.prog 51 #[.pointer (some ⟨T, 0, none⟩), v, .int .i64 at_] w fun e w' => ∃ p q c, e = .returned (.tuple #[.int .i64 p, .int .i64 q, .int .i64 c]) ∧ aroundV n rs row at_ (p, q, c) ∧ Below w.heap.size w w' := by
  have HT := Lib.hid ht
  have HV := Lib.hid hv
  obtain ⟨p, cp, rfl, hcp, -⟩ := hv.get
  clear ht hv
  refine (callsIn_wide (n := 4)).1 ?_
  refine callsIn_of_wp_marks Try.func51 rfl trivial ?_ rfl
  refine wpIn_wide.2 ?_
  simp only [Try.ntmps51, List.size_toArray, List.length_cons, List.length_nil, Nat.reduceAdd, Nat.reduceSub, Array.replicate_succ, Array.replicate_zero, List.push_toArray, List.append_toArray, List.nil_append, List.cons_append]
  go_upto_region 1 with fail
  refine abs_wp fun W hW => ?_
  obtain ⟨g, hg⟩ : ∃ g, g = w.heap.size := ⟨_, rfl⟩
  rw [← hg]
  have HG := Lib.hid hg
  have hal := four_allocs w _ _ _ _ W hW
  rw [← hg] at hal
  have HBW := Lib.hid hal.1
  have HA0 := Lib.hid hal.2.1
  have HA1 := Lib.hid hal.2.2.1
  have HA2 := Lib.hid hal.2.2.2.1
  have HA3 := Lib.hid hal.2.2.2.2.1
  have HSZ := Lib.hid hal.2.2.2.2.2
  clear hal
  clear hW hg
  have HB := Lib.hid (boundaries_any W T n rs (HT.out.to (by rw [← HG.out]; exact HBW.out)) (.slice p row.length cp) row (HV.out.to (B := g) HBW.out (by rw [HG.out]; exact Nat.le_refl _)) hl)
  go_wp2_with fail
  refine HB.out.mono ?_
  rintro e w1 ⟨hb1, hcase⟩
  have HAR := Lib.hid (show ArAt w g at_ 0 0 0 w1 from ⟨HBW.out.trans (hb1.mono (by have := HSZ.out; have := HG.out; omega)), (hb1.block _ (at_lt HA0.out)).trans HA0.out, (hb1.block _ (at_lt HA1.out)).trans HA1.out, (hb1.block _ (at_lt HA2.out)).trans HA2.out, (hb1.block _ (at_lt HA3.out)).trans HA3.out⟩)
  have HS1 := Lib.hid hb1.size
  clear hb1 HB
  have x3 := HAR.out.cells.2.2.2
  have f3 := HAR.out.fz.2.2.2
  rcases hcase with ⟨hro, va, rfl, hra⟩ | ⟨hno, rfl⟩
  · have HRO := Lib.hid hro
    have HRA := Lib.hid hra
    obtain ⟨pa, ca, rfl, hca, hga⟩ := hra.get
    obtain ⟨bo, oo, rfl, hbo, hcl⟩ := hga (by rw [segL_length]; omega)
    have hne := HAR.out.ne (hcl 0 (by rw [segL_length]; omega))
    have HNE := Lib.hid hne
    clear hga
    obtain ⟨nr, hnr⟩ : ∃ nr, nr = row.length := ⟨_, rfl⟩
    have HNR := Lib.hid hnr
    have HSL := Lib.hid (segL_length rs row)
    have HCL := Lib.hid (show ∀ j, j < row.length + 1 → w1.cell? ⟨bo, oo + j, none⟩ = some (.bool ((segL rs row)[j]?.getD false)) from fun j hj => by
      have h := hcl j (by rw [segL_length]; exact hj)
      rw [List.getElem?_eq_getElem (by rw [segL_length]; exact hj)]
      exact h)
    obtain ⟨O, hwO⟩ : ∃ O, w1.heap[bo]? = some O := ⟨_, Array.getElem?_eq_getElem hbo⟩
    have HO := Lib.hid (show O.isCells = true from by
      obtain ⟨o, ho, hc⟩ := cells_of_cell (hcl 0 (by rw [segL_length]; omega))
      rw [show w1.heap[bo]? = some o from ho] at hwO
      cases hwO
      exact hc)
    have HWO := Lib.hid hwO
    clear hcl hwO hne hbo
    rw [segL_length] at hca
    rw [segL_length] at HRA ⊢
    rw [← hnr] at hl hcp hca HRA HSL HCL ⊢
    clear hro hra hnr
    go_upto_region 2 with fail
    refine abs_wp fun w2 hw2 => ?_
    have HAR2 := Lib.hid (show ArAt w g at_ 0 0 0 w2 by rw [hw2]; exact HAR.out.put3 0)
    obtain ⟨y0, y1, y2, y3⟩ := HAR2.out.cells
    obtain ⟨g0, g1, g2, g3⟩ := HAR2.out.fz
    have HWO2 := Lib.hid (show w2.heap[bo]? = some O by rw [hw2]; exact (set_ne HNE.out.2.2.2 _ _).trans HWO.out)
    have HCL2 := Lib.hid (show ∀ j, j < nr + 1 → w2.cell? ⟨bo, oo + j, none⟩ = some (.bool ((segL rs row)[j]?.getD false)) from fun j hj => (World.cell?_of_block (w := w1) (HWO2.out.trans HWO.out.symm)).trans (HCL.out j hj))
    clear hw2 x3 f3
    by_cases ha0 : at_ < 0
    · go_wp2_with fail
      have HAR3 := Lib.hid (((HAR2.out.put1 0).put2 0).put3 3)
      exact ⟨_, around_res HAR3.out rfl rfl rfl, 0, 0, 3, rfl, .inr (.inl ⟨HRO.out, .inl ha0, rfl⟩), by rw [← HG.out]; exact HAR3.out.1⟩
    · by_cases ha1 : (nr : Int) < at_
      · go_wp2_with fail
        have HAR3 := Lib.hid (((HAR2.out.put1 0).put2 0).put3 3)
        exact ⟨_, around_res HAR3.out rfl rfl rfl, 0, 0, 3, rfl, .inr (.inl ⟨HRO.out, .inr (by rw [← HNR.out]; exact ha1), rfl⟩), by rw [← HG.out]; exact HAR3.out.1⟩
      · have HPL := Lib.hid (callsIn_wide.1 (places_in Fence.wide 4 trivial rfl (some ⟨bo, oo, none⟩) (nr + 1) ca w2))
        go_wp2_with fail
        refine HPL.out.mono ?_
        rintro e w3 ⟨rfl, hw3⟩
        clear y0 y1 y2 y3 g0 g1 g2 g3
        have HB23 := Lib.hid (show Below w2.heap.size w2 w3 by rw [hw3]; exact below_alloc1 _ _)
        have HAR3 := Lib.hid (show ArAt w g at_ 0 0 0 w3 from HAR2.out.kept HB23.out (at_lt HAR2.out.2.2.2.2))
        have HN3 := Lib.hid (show w3.heap[w2.heap.size]? = some (.cells #[.slice (some ⟨bo, oo, none⟩) (nr + 1) ca] 55) by rw [hw3]; exact heap_alloc_new _ _)
        have HWO3 := Lib.hid (show w3.heap[bo]? = some O from (HB23.out.block _ (at_lt HWO2.out)).trans HWO2.out)
        have HCL3 := Lib.hid (show ∀ j, j < nr + 1 → w3.cell? ⟨bo, oo + j, none⟩ = some (.bool ((segL rs row)[j]?.getD false)) from fun j hj => (World.cell?_of_block (w := w2) (HWO3.out.trans HWO2.out.symm)).trans (HCL2.out j hj))
        have HST := Lib.hid (places_stops Fence.wide 3 trivial rfl (by omega) w2.heap.size bo oo (nr + 1) ca (segL rs row) HSL.out (by omega) O HO.out w3 (at_lt HN3.out) HWO3.out (cell_one HN3.out) HCL3.out)
        have HGW3 := Lib.hid (show g ≤ w3.heap.size from by have := at_lt HAR3.out.2.1; omega)
        clear hw3
        go_wp2_with fail
        refine (wpIn_wide (n := 4)).1 ?_
        refine wpIn_rangeFunc_ownG rfl (by omega) (gf := 97) (lb := #[.pointer (some ⟨w2.heap.size, 0, none⟩)]) rfl trivial (enters_of Try.func97 (by kernel_rfl) rfl)
          HST.out KpB.trans (fun W l o o' _ hl ho _ => KpB.put W l o o' hl ho) (Below.refl _ _) (fun _ => rfl)
          (fun pre W => Below g w W ∧ ((∀ j ∈ pre, ¬ at_ < ((j : Nat) : Int)) ∧ ArBl g at_ (prevF pre at_ : Nat) 0 0 W))
          (fun c pre W => Below g w W ∧ (c = .ret ∧ ∃ ini x, pre = ini ++ [x] ∧ (∀ j ∈ ini, ¬ at_ < ((j : Nat) : Int)) ∧ at_ < ((x : Nat) : Int) ∧ ArBl g at_ (prevF ini at_ : Nat) (x : Nat) 0 W))
          (OwnFrom.and (ownFrom_below (by rw [HG.out]; exact Nat.le_refl _) HGW3.out) (Own.from (fun s A B row hs hg hr => ⟨hs.1, hs.2.grown hg hr⟩) _))
          (fun c => OwnFrom.and (ownFrom_below (by rw [HG.out]; exact Nat.le_refl _) HGW3.out) (Own.from (fun s A B row hs hg hr => by obtain ⟨hc, ini, x, e1, e2, e3, e4⟩ := hs; exact ⟨hc, ini, x, e1, e2, e3, e4.grown hg hr⟩) _))
          ⟨HAR3.out.1, by simp, HAR3.out.2⟩
          (fun x => { tmps := #[.pointer (some ⟨T, 0, none⟩), .slice p nr cp, .int .i64 at_, undef, undef, .pointer (some ⟨g, 0, none⟩), .pointer (some ⟨g + 1, 0, none⟩), .pointer (some ⟨g + 1 + 1, 0, none⟩), .pointer (some ⟨g + 1 + 1 + 1, 0, none⟩), .slice (some ⟨bo, oo, none⟩) (nr + 1) ca, .int .i64 (x : Nat),
            .tuple #[.slice (some ⟨bo, oo, none⟩) (nr + 1) ca, .int .i64 0], .pointer (some ⟨T, 0, none⟩), .slice p nr cp, .tuple #[.slice (some ⟨bo, oo, none⟩) (nr + 1) ca, .int .i64 0], .slice (some ⟨bo, oo, none⟩) (nr + 1) ca, .int .i64 0, .int .i64 0, .bool false, undef, .int .i64 at_, .bool false, .bool false, .int .i64 at_, .slice p nr cp, .int .i64 nr, .bool false, .bool false,
            .slice (some ⟨bo, oo, none⟩) (nr + 1) ca, .func (.func 97) #[] #[.pointer (some ⟨w2.heap.size, 0, none⟩)], .int .i64 (x : Nat), undef, undef, undef, undef, undef, undef, undef, undef, undef, undef, undef, undef], defers := [] })
          ?assign ?body ?done ?stop
        case assign =>
          intro l x W K hK
          gi_wp2
          exact hK
        case body =>
          rintro l pre x V ⟨hb, hpre, hbl⟩ _
          have HB := Lib.hid hb
          have HPRE := Lib.hid hpre
          have HBL := Lib.hid hbl
          obtain ⟨y0, y1, y2, y3⟩ := (show ArAt w g at_ (prevF pre at_ : Nat) 0 0 V from ⟨hb, hbl⟩).cells
          obtain ⟨g0, g1, g2, g3⟩ := (show ArAt w g at_ (prevF pre at_ : Nat) 0 0 V from ⟨hb, hbl⟩).fz
          clear hb hpre hbl
          have hK1 : ∀ (X : World) (u : Value), KpB bo X (X.setCell ⟨g + 1, 0, none⟩ u) := fun X u => KpB.set X _ HNE.out.2.1 0 u
          by_cases hx : ((x : Nat) : Int) < at_
          · have hx2 : ¬ at_ < ((x : Nat) : Int) := by omega
            have HN := Lib.hid (show ArAt w g at_ (prevF (pre ++ [x]) at_ : Nat) 0 0 (V.setCell ⟨g + 1, 0, none⟩ (.int .i64 (x : Nat))) from by
              rw [prevF_snoc, if_pos hx]
              exact (show ArAt w g at_ (prevF pre at_ : Nat) 0 0 V from ⟨HB.out, HBL.out⟩).put1 x)
            have HKP := Lib.hid (hK1 V (.int .i64 (x : Nat)))
            clear hK1
            gi_wp2
            exact ⟨(KeepsOthers.setCell _ _ _).from _, HKP.out, HN.out.1, fun j hj => by
              rcases List.mem_append.1 hj with hj | hj
              · exact HPRE.out j hj
              · rw [List.mem_singleton.1 hj]; exact hx2, HN.out.2⟩
          · by_cases hx2 : at_ < ((x : Nat) : Int)
            · have HN := Lib.hid ((((show ArAt w g at_ (prevF pre at_ : Nat) 0 0 V from ⟨HB.out, HBL.out⟩).put1 (prevF pre at_ : Nat)).put2 (x : Nat)).put3 0)
              clear hK1
              gi_wp2
              exact ⟨((KeepsOthers.setCell _ _ _).trans ((KeepsOthers.setCell _ _ _).trans (KeepsOthers.setCell _ _ _))).from _, HN.out.1, rfl, pre, x, rfl, HPRE.out, hx2, HN.out.2⟩
            · have HN := Lib.hid (show ArAt w g at_ (prevF (pre ++ [x]) at_ : Nat) 0 0 V from by
                rw [prevF_snoc, if_neg hx]
                exact ⟨HB.out, HBL.out⟩)
              clear hK1
              gi_wp2
              exact ⟨KeepsFrom.refl _ _, KpB.refl _ _, HN.out.1, fun j hj => by
                rcases List.mem_append.1 hj with hj | hj
                · exact HPRE.out j hj
                · rw [List.mem_singleton.1 hj]; exact hx2, HN.out.2⟩
        case done =>
          rintro D ys V hD rfl ⟨hb, hpre, hbl⟩ hK
          have HAT := Lib.hid (show ArAt w g at_ (prevF (truesL (segL rs row)) at_ : Nat) 0 0 V from ⟨hb, hbl⟩)
          have HN := Lib.hid (((HAT.out.put1 (prevF (truesL (segL rs row)) at_ : Nat)).put2 (nr : Nat)).put3 0)
          have HPRE := Lib.hid hpre
          have HK := Lib.hid hK
          have HDD := Lib.hid hD
          obtain ⟨y0, y1, y2, y3⟩ := HAT.out.cells
          obtain ⟨g0, g1, g2, g3⟩ := HAT.out.fz
          obtain ⟨pv, hpv⟩ : ∃ pv, pv = prevF (truesL (segL rs row)) at_ := ⟨_, rfl⟩
          have HPV := Lib.hid hpv
          rw [← hpv] at y1 HN
          clear hb hpre hbl hK hpv hD
          go_wp2_with fail
          have hK' := (KeepsOthers.setCell _ ⟨g + 1 + 1 + 1, 0, none⟩ (.int .i64 0)).same D _ ((KeepsOthers.setCell _ ⟨g + 1 + 1, 0, none⟩ (.int .i64 (nr : Nat))).same D _ ((KeepsOthers.setCell V ⟨g + 1, 0, none⟩ (.int .i64 (pv : Nat))).same D _ HK.out rfl) rfl) rfl
          refine ⟨by simp, .inl ⟨_, _, rfl, run_takeDeferred hK', ?_⟩⟩
          have HFIN := Lib.hid (show ArAt w g at_ pv nr 0 _ from ⟨HN.out.1.trans (belowK_b (w := w3) (n₀ := g) HGW3.out _ D _ (.deferred none) HDD.out hK' rfl rfl), HN.out.2.grown (grownBy_putObj' _ D (.deferred none)) (fun r e => by cases e; exact ⟨_, hK', rfl⟩)⟩)
          exact ⟨_, around_res HFIN.out rfl rfl rfl, _, _, _, rfl, .inr (.inr ⟨HRO.out, by omega, by rw [← HNR.out]; omega, by rw [HPV.out, nextF_none (fun j hj => by have := HPRE.out j hj; omega), ← HNR.out]⟩), by rw [← HG.out]; exact HFIN.out.1⟩
        case stop =>
          rintro D c pre V hD hp ⟨hb, rfl, ini, x, rfl, hini, hx, hbl⟩ hK
          have HFIN := Lib.hid (show ArAt w g at_ (prevF ini at_ : Nat) (x : Nat) 0 (V.putObj D (.deferred none)) from ⟨hb.trans (belowK_b (w := w3) (n₀ := g) HGW3.out _ D _ (.deferred none) hD hK rfl rfl), hbl.grown (grownBy_putObj' _ D (.deferred none)) (fun r e => by cases e; exact ⟨_, hK, rfl⟩)⟩)
          have HK := Lib.hid hK
          have HV := Lib.hid (show prevF (truesL (segL rs row)) at_ = prevF ini at_ ∧ nextF (truesL (segL rs row)) at_ row.length = x from by
            obtain ⟨rest, hrest⟩ := hp
            rw [List.append_assoc] at hrest
            have hs := trues_lt (segL rs row)
            rw [← hrest] at hs ⊢
            refine ⟨prevF_prefix fun j hj => ?_, nextF_hit hini hx⟩
            rcases List.mem_cons.1 hj with rfl | hj
            · omega
            · have h2 := (List.pairwise_cons.1 (List.pairwise_append.1 hs).2.1).1 j hj
              omega)
          clear hb hini hbl hK hp
          gi_wp2
          refine ⟨by simp, .inl ⟨_, _, rfl, run_takeDeferred HK.out, ?_⟩⟩
          exact ⟨_, around_res HFIN.out rfl rfl rfl, _, _, _, rfl, .inr (.inr ⟨HRO.out, by omega, by rw [← HNR.out]; omega, by rw [HV.out.1, HV.out.2]⟩), by rw [← HG.out]; exact HFIN.out.1⟩
  · have HNO := Lib.hid hno
    clear hno
    go_upto_region 2 with fail
    refine abs_wp fun w2 hw2 => ?_
    have HAR2 := Lib.hid (show ArAt w g at_ 0 0 1 w2 by rw [hw2]; exact HAR.out.put3 1)
    obtain ⟨y0, y1, y2, y3⟩ := HAR2.out.cells
    obtain ⟨g0, g1, g2, g3⟩ := HAR2.out.fz
    clear hw2 x3 f3
    go_upto_region 3 with fail
    go_region
    go_wp2
    have HAR3 := Lib.hid (((HAR2.out.put1 0).put2 0).put3 1).drew
    exact ⟨_, around_res HAR3.out rfl rfl rfl, 0, 0, 1, rfl, .inl ⟨HNO.out, rfl⟩, by rw [← HG.out]; exact HAR3.out.1⟩

set_option maxHeartbeats 2000000 in
theorem next_any (w : World) (T n : Nat) (rs : List Rl) (ht : TabsOf w T n rs) (v : Value) (row : List Int) (hv : Ints w v row) (hl : row.length ≤ 1000000) (at_ : Int) :
    Calls Try.prog 31 #[.pointer (some ⟨T, 0, none⟩), v, .int .i64 at_] w fun e w' => ∃ p q c, e = .returned (.tuple #[.int .i64 q, .int .i64 c]) ∧ aroundV n rs row at_ (p, q, c) ∧ Below w.heap.size w w' := by
  have HA := Lib.hid (around_any w T n rs ht v row hv hl at_)
  obtain ⟨p, cp, rfl, hcp, -⟩ := hv.get
  clear ht hv
  go_enter Try.func31, Try.ntmps31
  go_wp2_with fail
  refine HA.out.mono ?_
  rintro e w1 ⟨p1, q1, c1, rfl, hV, hb⟩
  have HV := Lib.hid hV
  have HB := Lib.hid hb
  clear hV hb
  go_wp2_with fail
  go_ret2
  exact ⟨p1, q1, c1, rfl, HV.out, HB.out⟩
set_option maxHeartbeats 2000000 in
theorem prev_any (w : World) (T n : Nat) (rs : List Rl) (ht : TabsOf w T n rs) (v : Value) (row : List Int) (hv : Ints w v row) (hl : row.length ≤ 1000000) (at_ : Int) :
    Calls Try.prog 32 #[.pointer (some ⟨T, 0, none⟩), v, .int .i64 at_] w fun e w' => ∃ p q c, e = .returned (.tuple #[.int .i64 p, .int .i64 c]) ∧ aroundV n rs row at_ (p, q, c) ∧ Below w.heap.size w w' := by
  have HA := Lib.hid (around_any w T n rs ht v row hv hl at_)
  obtain ⟨p, cp, rfl, hcp, -⟩ := hv.get
  clear ht hv
  go_enter Try.func32, Try.ntmps32
  go_wp2_with fail
  refine HA.out.mono ?_
  rintro e w1 ⟨p1, q1, c1, rfl, hV, hb⟩
  have HV := Lib.hid hV
  have HB := Lib.hid hb
  clear hV hb
  go_wp2_with fail
  go_ret2
  exact ⟨p1, q1, c1, rfl, HV.out, HB.out⟩
end Go.Proofs.Ythmaokjhncokdaa

/-
  seg: the small case that must work. No condition beyond what each theorem names.
-/
set_option linter.unusedVariables false
set_option linter.unusedSimpArgs false
namespace Go.Proofs.Ythmaokjhncokdaa
open Go.RowKit Classical

theorem built_of_few {l : List (Nd × Bool)} {classes : Nat} (h : ¬ Built (autoE l) outN classes none) : ∃ m, Built (autoE l) outN classes (some m) := by
  by_cases h1 : TooMany (autoE l) classes
  · exact (h (.inl ⟨rfl, .inl h1⟩)).elim
  · by_cases h2 : 400 < (canonL (langA (autoE l) outN classes (autoE l).start) classes 2000).length
    · exact (h (.inl ⟨rfl, .inr h2⟩)).elim
    · exact ⟨_, .inr ⟨h1, Nat.le_of_not_lt h2, rfl⟩⟩
theorem compC_few {n : Nat} {rs : List Rl} (h : CompOk n rs) (h1 : ¬ Built (autoE (leftsL rs)) outN n none) (h2 : ¬ Built (autoE (rightsL rs)) outN n none) : compC n rs = 0 := by
  unfold compC
  rw [if_pos h, if_pos ⟨h, built_of_few h1, built_of_few h2⟩]
theorem compC_nil : compC 2 [] = 0 := by
  have hb : ¬ Built (autoE []) outN 2 none := rep_set [] false 2 0
  exact compC_few ⟨by simp, by simp, ⟨by omega, by omega, by simp [leftsL], by simp [leftsL]⟩, ⟨by omega, by omega, by simp [rightsL], by simp [rightsL]⟩⟩ hb hb
theorem segL_nil (row : List Int) (h : 0 < row.length) : segL [] row = List.replicate (row.length + 1) true := by
  unfold segL
  rw [List.eq_replicate_iff]
  refine ⟨by simp, fun b hb => ?_⟩
  obtain ⟨i, -, rfl⟩ := List.mem_map.1 hb
  unfold segAt saysB
  rw [decide_eq_true h]
  simp
theorem rules_nil (w : World) : Rules w (.slice none 0 0) [] := ⟨[], ⟨by simp, none, 0, rfl, by simp, fun h => by simp at h⟩, rfl, fun i h => by simp at h⟩
theorem ints_block (w : World) (xs : List Int) (n : Nat) (hn : n = xs.length) (T : TypeId) (cs : Array Value) (hc : cs = (xs.map (Value.int .i64)).toArray) : Ints (w.alloc (.cells cs T)) (.slice (some ⟨w.heap.size, 0, none⟩) n n) xs := by
  subst hn hc
  have := Raw.of_block (n := xs.length) (heap_alloc_new w (.cells (xs.map (Value.int .i64)).toArray T))
  exact this

set_option maxRecDepth 100000 in
set_option maxHeartbeats 8000000 in
theorem shown10 (w : World) : Calls Try.prog 25 #[] w (Says true w) := by
  have HS := Lib.hid (segL_nil [0, 1] (by simp))
  go_enter Try.func25, Try.ntmps25
  go_wp2_with fail
  have HA0 := Lib.hid (below_alloc1 w (.cells #[.string { data := #[97] }, .string { data := #[98] }] 9))
  have HC := Lib.hid ((compile_any (w.alloc (.cells #[.string { data := #[97] }, .string { data := #[98] }] 9)) (some ⟨w.heap.size, 0, none⟩) 2 2 (.slice none 0 0) [] (rules_nil _) (by simp)).mono fun e w' h => CompPost.two h)
  refine HC.out.mono ?_
  rintro e w1 ⟨hb1, q, rfl, hcase⟩
  have HB1 := Lib.hid (HA0.out.trans (hb1.mono HA0.out.size))
  clear hb1 HC
  rw [compC_nil] at hcase ⊢
  obtain ⟨T, rfl, ht⟩ : ∃ T, q = some ⟨T, 0, none⟩ ∧ TabsOf w1 T 2 [] := by
    rcases hcase with ⟨-, h⟩ | ⟨h, -⟩
    · exact h
    · exact (h rfl).elim
  clear hcase
  have HT := Lib.hid ht
  clear ht HA0
  go_wp2_with fail
  have HA1 := Lib.hid (below_alloc1 w1 (.cells #[.int .i64 0, .int .i64 1] 3))
  refine (boundaries_any _ T 2 [] (HT.out.to HA1.out) _ [0, 1] (ints_block w1 [0, 1] 2 rfl _ _ rfl) (by simp)).mono ?_
  rintro e w2 ⟨hb2, hcase⟩
  obtain ⟨v, rfl, hv⟩ : ∃ v, e = .returned (.tuple #[v, .int .i64 0]) ∧ Bools w2 v (segL [] [0, 1]) := by
    rcases hcase with ⟨-, h⟩ | ⟨hno, -⟩
    · exact h
    · exact (hno (by intro c hc; simp at hc; omega)).elim
  clear hcase
  rw [HS.out] at hv
  have HB12 := Lib.hid (HA1.out.trans (hb2.mono HA1.out.size))
  have HV := Lib.hid hv
  obtain ⟨pv, cv, rfl, hcv, hgv⟩ := hv.get
  obtain ⟨bv, ov, rfl, hbv, hcl⟩ := hgv (by simp)
  have HBV := Lib.hid hbv
  have HCL := Lib.hid (show w2.cell? ⟨bv, ov + 0, none⟩ = some (.bool true) ∧ w2.cell? ⟨bv, ov + 1, none⟩ = some (.bool true) ∧ w2.cell? ⟨bv, ov + 2, none⟩ = some (.bool true) from ⟨hcl 0 (by simp), hcl 1 (by simp), hcl 2 (by simp)⟩)
  simp only [List.length_replicate, List.length_cons, List.length_nil, Nat.reduceAdd] at hcv ⊢
  clear hb2 hv hgv hbv hcl
  go_wp2_with fail
  have HA2 := Lib.hid (below_alloc1 w2 (.cells #[.int .i64 2] 3))
  refine (boundaries_any _ T 2 [] (HT.out.to (HB12.out.trans (HA2.out.mono HB12.out.size))) _ [2] (ints_block w2 [2] 1 rfl _ _ rfl) (by simp)).mono ?_
  rintro e w3 ⟨hb3, hcase⟩
  obtain rfl : e = .returned (.tuple #[.slice none 0 0, .int .i64 1]) := by
    rcases hcase with ⟨hro, -⟩ | ⟨-, h⟩
    · exact absurd (hro 2 (by simp)) (by omega)
    · exact h
  clear hcase
  have HB23 := Lib.hid (HA2.out.trans (hb3.mono HA2.out.size))
  clear hb3
  go_wp2_with fail
  have HA3 := Lib.hid (below_alloc1 w3 (.cells #[.int .i64 0, .int .i64 1] 3))
  refine (next_any _ T 2 [] (HT.out.to ((HB12.out.trans (HB23.out.mono HB12.out.size)).trans (HA3.out.mono (Nat.le_trans HB12.out.size HB23.out.size)))) _ [0, 1] (ints_block w3 [0, 1] 2 rfl _ _ rfl) (by simp) 0).mono ?_
  rintro e w4 ⟨p1, q1, c1, rfl, hV, hb4⟩
  have HB34 := Lib.hid (HA3.out.trans (hb4.mono HA3.out.size))
  have HV4 := Lib.hid (show q1 = 1 ∧ c1 = 0 from by
    rcases hV with ⟨hno, -⟩ | ⟨-, h, -⟩ | ⟨-, -, -, h⟩
    · exact (hno (by intro c hc; simp at hc; omega)).elim
    · simp at h
    · rw [HS.out] at h
      injection h with h1 h2
      injection h2 with h2 h3
      exact ⟨h2.trans (by decide), h3⟩)
  obtain ⟨e1, e2⟩ := HV4.out
  subst e1 e2
  clear hV hb4
  go_wp2_with fail
  have HA4 := Lib.hid (below_alloc1 w4 (.cells #[.int .i64 0, .int .i64 1] 3))
  have HB14 := Lib.hid ((HB12.out.trans (HB23.out.mono HB12.out.size)).trans (HB34.out.mono (Nat.le_trans HB12.out.size HB23.out.size)))
  refine (prev_any _ T 2 [] (HT.out.to (HB14.out.trans (HA4.out.mono HB14.out.size))) _ [0, 1] (ints_block w4 [0, 1] 2 rfl _ _ rfl) (by simp) 3).mono ?_
  rintro e w5 ⟨p2, q2, c2, rfl, hV, hb5⟩
  have HB45 := Lib.hid (HA4.out.trans (hb5.mono HA4.out.size))
  have HV5 := Lib.hid (show p2 = 0 ∧ c2 = 3 from by
    rcases hV with ⟨hno, -⟩ | ⟨-, -, h⟩ | ⟨-, h, h2, -⟩
    · exact (hno (by intro c hc; simp at hc; omega)).elim
    · injection h with h1 h2
      injection h2 with h2 h3
      exact ⟨h1, h3⟩
    · simp at h2)
  obtain ⟨e1, e2⟩ := HV5.out
  subst e1 e2
  have HB25 := Lib.hid ((HB23.out.trans (HB34.out.mono HB23.out.size)).trans (HB45.out.mono (Nat.le_trans HB23.out.size HB34.out.size)))
  have z0 := cell_below HB25.out HBV.out HCL.out.1
  have z1 := cell_below HB25.out HBV.out HCL.out.2.1
  have z2 := cell_below HB25.out HBV.out HCL.out.2.2
  have HFIN := Lib.hid (HB1.out.trans ((HB14.out.trans (HB45.out.mono HB14.out.size)).mono HB1.out.size))
  simp only [Nat.add_zero] at z0
  clear hV hb5
  go_wp2_with fail
  go_ret
  exact ⟨rfl, HFIN.out⟩
end Go.Proofs.Ythmaokjhncokdaa

/-
  seg: few (a ruleset of at most eight rules that are not too large). No condition beyond what each theorem names.
-/
set_option linter.unusedVariables false
set_option linter.unusedSimpArgs false
namespace Go.Proofs.Ythmaokjhncokdaa
open Go.RowKit Classical

set_option maxHeartbeats 2000000 in
theorem small10_any (x : Nd) (w : World) (a b c : Value) (hx : NodeIs w x a b c) : Calls Try.prog 46 #[.agg #[a, b, c]] w fun e w' => e = .returned (.bool (smallB x)) ∧ Below w.heap.size w w' := by
  have HX := Lib.hid hx
  obtain ⟨op, pp, l, c1, q, m, d, rfl, rfl, rfl⟩ := hx.form
  clear hx
  go_enter Try.func46, Try.ntmps46
  go_upto_region 1 with fail
  refine abs_wp fun W hW => ?_
  obtain ⟨B, hB⟩ : ∃ B, B = w.heap.size := ⟨_, rfl⟩
  have hbox : W.heap[B]? = some (.cells #[.int .i64 op, .slice pp l c1, .slice q m d] 52) := by rw [hW, hB]; exact heap_alloc_new _ _
  have hbe : Below w.heap.size w W := by rw [hW]; exact below_alloc1 _ _
  rw [← hB]
  have HBE := Lib.hid hbe
  have HBOX := Lib.hid hbox
  obtain ⟨x0, x1, x2⟩ := cells3 hbox
  have HC := Lib.hid (count_any x W _ _ _ (HX.out.to hbe (Nat.le_refl _)))
  clear hW hbox hbe hB
  go_wp2_with fail
  refine HC.out.mono ?_
  rintro e w1 ⟨rfl, hb1⟩
  have HB1 := Lib.hid (HBE.out.trans (hb1.mono HBE.out.size))
  have HBOX1 := Lib.hid ((hb1.block _ (at_lt HBOX.out)).trans HBOX.out)
  clear hb1 x0 x1 x2
  obtain ⟨x0, x1, x2⟩ := cells3 HBOX1.out
  obtain ⟨nC, hnC⟩ : ∃ nC, nC = countT x := ⟨_, rfl⟩
  rw [← hnC]
  by_cases h1 : nC ≤ 30
  · have HS := Lib.hid (stars_any x w1 _ _ _ (HX.out.to HB1.out (Nat.le_refl _)))
    have HN := Lib.hid hnC
    clear hnC
    go_wp2_with fail
    refine HS.out.mono ?_
    rintro e w2 ⟨rfl, hb2⟩
    have HB2 := Lib.hid (HB1.out.trans (hb2.mono HB1.out.size))
    clear hb2 x0 x1 x2
    obtain ⟨nS, hnS⟩ : ∃ nS, nS = starsI x := ⟨_, rfl⟩
    rw [← hnS]
    have HNS := Lib.hid hnS
    clear hnS
    go_wp2_with fail
    go_ret
    exact ⟨ret_val (by unfold smallB; rw [← HN.out, ← HNS.out, decide_eq_true h1]; simp), HB2.out⟩
  · have HN := Lib.hid hnC
    clear hnC
    go_wp2_with fail
    go_ret
    exact ⟨ret_val (by unfold smallB; rw [← HN.out, decide_eq_false (by omega)]; rfl), HB1.out⟩

set_option maxRecDepth 100000 in
set_option maxHeartbeats 8000000 in
theorem few10_any (w0 w : World) (hw0 : Below w0.heap.size w0 w) (pc : Option Addr) (nc cc : Nat) (hcc : nc ≤ cc) (hpc : 0 < nc → ∃ a, pc = some a) (rv : Value) (rs : List Rl) (hr : Rules w0 rv rs) (hl : rs.length ≤ 9223372036854775807) :
    Calls Try.prog 26 #[.agg #[.slice pc nc cc, rv]] w (FewPost9 w0 w nc rs) := by
  obtain ⟨pr, cr, rfl, hcr, hget⟩ := hr.get
  obtain ⟨m, hm⟩ : ∃ m, m = rs.length := ⟨_, rfl⟩
  have HGET := Lib.hid (show ∀ i r, rs[i]? = some r → ∃ b off, pr = some ⟨b, off, none⟩ ∧ b < w0.heap.size ∧ ∃ row, cellsAt w0 b (off + i * 8) row ∧ RuleIs w0 r row from fun i r h => by
    obtain ⟨hi, rfl⟩ := List.getElem?_eq_some_iff.1 h
    obtain ⟨b, off, e, h1, h2⟩ := hget (by omega)
    exact ⟨b, off, e, h1, h2 i hi⟩)
  have HM := Lib.hid hm
  have HPC := Lib.hid hpc
  have HW0 := Lib.hid hw0
  clear hw0
  rw [← hm] at hcr hl ⊢
  clear hr hget hm hpc
  go_enter Try.func26, Try.ntmps26
  go_upto_region 1 with fail
  refine abs_wp fun W hW => ?_
  obtain ⟨bW, hb0, hr0⟩ := two_allocs w _ _ W hW
  obtain ⟨B, hB⟩ : ∃ B, B = w.heap.size := ⟨_, rfl⟩
  rw [← hB] at hb0
  obtain ⟨tB, hb0⟩ : ∃ tB, W.heap[B]? = some (.cells #[.slice pc nc cc, .slice pr m cr] tB) := ⟨_, hb0⟩
  have HBW := Lib.hid bW
  have HBX := Lib.hid hb0
  have HB := Lib.hid hB
  have HR0 := Lib.hid hr0
  rw [← hB]
  obtain ⟨x0, x1⟩ := cells2 hb0
  clear hW bW hb0 hr0 hB
  go_cut [3] (fun v wx => ∃ G pc' cc' tG, v = .pointer (some ⟨G, 0, none⟩) ∧ w.heap.size + 2 ≤ G ∧ wx.heap[G]? = some (.cells #[.slice pc' (min nc 30) cc', .slice none 0 0] tG) ∧ Below W.heap.size W wx)
  case first =>
    cases pc with
    | none =>
      have h0 : nc = 0 := by
        rcases Nat.eq_zero_or_pos nc with h | h
        · exact h
        · obtain ⟨a, ha⟩ := HPC.out h; cases ha
      subst h0
      have HSZ := Lib.hid (show w.heap.size + 2 ≤ W.heap.size by have h1 := at_lt HR0.out; omega)
      go_wp2_with fail
      go_meet
      case rel => exact ⟨_, _, _, _, rfl, HSZ.out, heap_alloc_new _ _, below_alloc1 _ _⟩
    | some ad =>
      have HSZ := Lib.hid (show w.heap.size + 2 ≤ W.heap.size by have h1 := at_lt HR0.out; omega)
      by_cases h30 : nc ≤ 30
      · have h31 : ¬ (30 : Int) < nc := by omega
        have hmin : (min (nc : Int) 30).toNat = min nc 30 := by omega
        go_wp2_with fail
        go_meet
        case rel => exact ⟨W.heap.size, some ad, cc, 25, rfl, HSZ.out, by rw [show min nc 30 = nc by omega]; exact heap_alloc_new _ _, below_alloc1 _ _⟩
      · have h31 : (30 : Int) < nc := by omega
        go_wp2_with fail
        go_meet
        case rel => exact ⟨W.heap.size, some ad, cc, 25, rfl, HSZ.out, by rw [show (min (nc : Int) 30).toNat = min nc 30 by omega]; exact heap_alloc_new _ _, below_alloc1 _ _⟩
  case rest =>
    obtain ⟨G, pc', cc', tG, rfl, hG, hbox, hb⟩ := hcut
    obtain ⟨mn, hmn⟩ : ∃ mn, mn = min nc 30 := ⟨_, rfl⟩
    rw [← hmn] at hbox
    have HMN := Lib.hid hmn
    have HGB := Lib.hid (show B + 1 < G by have := HB.out; omega)
    have HF0 := Lib.hid (show FewAt9 w0 w B G tB tG #[.slice pc nc cc, .slice pr m cr] (.slice pc' mn cc') #[.slice none 0 0, .slice none 0 0] rs 0 wc (.slice none 0 0) from ⟨(hb.block _ (at_lt HBX.out)).trans HBX.out, by rw [HB.out]; exact (hb.block _ (at_lt HR0.out)).trans HR0.out, hbox, OwnL.nil _, by simp [Value.ownBlock], HBW.out.trans (hb.mono HBW.out.size)⟩)
    clear hmn hG hbox hb x0 x1
    go_wp2_with fail
    go_loopw [4] (fun i wz => ∃ k : Nat, i = .int .i64 k ∧ k ≤ m ∧ ∃ pv, (FewAt9 w0 w B G tB tG #[.slice pc nc cc, .slice pr m cr] (.slice pc' mn cc') #[.slice none 0 0, .slice none 0 0] rs k wz pv)) (fun i _ => m - (intOf i).toNat)
    case atStart => exact ⟨0, rfl, by omega, _, HF0.out⟩
    case round =>
      obtain ⟨k, rfl, hk, pv, hf⟩ := hrel
      have HF := Lib.hid hf
      obtain ⟨pq, cq, hpv⟩ := hf.own.form
      obtain ⟨nq, hnq⟩ : ∃ nq, nq = (few9L (rs.take k)).length := ⟨_, rfl⟩
      rw [← hnq] at hpv
      subst hpv
      have HNQ := Lib.hid hnq
      have hq8 : nq ≤ 8 := by rw [hnq]; exact few9_length _
      obtain ⟨x0, x1⟩ := cells2 hf.box
      obtain ⟨y0, y1⟩ := cells2 hf.out
      clear hf hnq
      by_cases hgo : k < m ∧ nq < 8
      · have hki : (k : Int) < m := by omega
        have hk0 : (0 : Int) ≤ k := by omega
        have hqi : (nq : Int) < 8 := by omega
        have hkr : k < rs.length := by rw [← HM.out]; exact hgo.1
        obtain ⟨r, hrk⟩ : ∃ r, rs[k]? = some r := ⟨_, List.getElem?_eq_getElem hkr⟩
        obtain ⟨bp, op, rfl, hbp, row, hcell, hri⟩ := HGET.out k r hrk
        have HRI := Lib.hid hri
        have HSN := Lib.hid (few9_snoc hrk (by rw [← HNQ.out]; exact hgo.2))
        obtain ⟨a1, b1, c1, d1, e1, f1, rfl, hnl, hnr⟩ := hri
        obtain ⟨opx, ppx, lx, c1x, qx, mx, dx, rfl, rfl, rfl⟩ := hnl.form
        obtain ⟨opy, ppy, ly, c1y, qy, my, dy, rfl, rfl, rfl⟩ := hnr.form
        have HNL := Lib.hid hnl
        have HNR := Lib.hid hnr
        obtain ⟨bk, hbk⟩ : ∃ bk, bk = r.brk := ⟨_, rfl⟩
        obtain ⟨st, hst⟩ : ∃ st, st = r.start := ⟨_, rfl⟩
        rw [← hbk, ← hst] at hcell HRI
        have z0 := cell_below (HW0.out.trans (HF.out.below.mono HW0.out.size)) hbp (hcell 0 _ rfl)
        have z1 := cell_below (HW0.out.trans (HF.out.below.mono HW0.out.size)) hbp (hcell 1 _ rfl)
        have z2 := cell_below (HW0.out.trans (HF.out.below.mono HW0.out.size)) hbp (hcell 2 _ rfl)
        have z3 := cell_below (HW0.out.trans (HF.out.below.mono HW0.out.size)) hbp (hcell 3 _ rfl)
        have z4 := cell_below (HW0.out.trans (HF.out.below.mono HW0.out.size)) hbp (hcell 4 _ rfl)
        have z5 := cell_below (HW0.out.trans (HF.out.below.mono HW0.out.size)) hbp (hcell 5 _ rfl)
        have z6 := cell_below (HW0.out.trans (HF.out.below.mono HW0.out.size)) hbp (hcell 6 _ rfl)
        have z7 := cell_below (HW0.out.trans (HF.out.below.mono HW0.out.size)) hbp (hcell 7 _ rfl)
        simp only [Nat.add_zero] at z0
        clear hcell hrk hbk hst hnl hnr hbp hkr
        go_upto_region 6 with fail
        refine abs_wp fun W1 hW1 => ?_
        have HX1 := Lib.hid (show W1.heap[wr.heap.size]? = some (.cells #[.int .i64 opx, .slice ppx lx c1x, .slice qx mx dx, .int .i64 opy, .slice ppy ly c1y, .slice qy my dy, .bool bk, .bool st] 54) by rw [hW1]; exact heap_alloc_new _ _)
        have HD1 := Lib.hid (show Below wr.heap.size wr W1 by rw [hW1]; exact below_alloc1 _ _)
        obtain ⟨X, hX⟩ : ∃ X, X = wr.heap.size := ⟨_, rfl⟩
        rw [← hX] at HX1 ⊢
        have HXE := Lib.hid hX
        have HB1 := Lib.hid (HF.out.below.trans (HD1.out.mono HF.out.below.size))
        clear hW1 hX z0 z1 z2 z3 z4 z5 z6 z7 x0 x1 y0 y1
        obtain ⟨z0, z1, z2, z3, z4, z5, z6, z7⟩ := cells8 HX1.out
        have HS1 := Lib.hid (small10_any r.left W1 _ _ _ (HNL.out.to (HW0.out.trans (HB1.out.mono HW0.out.size)) (Nat.le_refl _)))
        cases hsl : smallB r.left
        · have HSR := Lib.hid (show smallR r = false by unfold smallR; rw [hsl]; rfl)
          rw [hsl] at HS1
          clear hsl
          go_wp2_with fail
          refine HS1.out.mono ?_
          rintro e w2 ⟨rfl, hb2⟩
          have HD2 := Lib.hid (HD1.out.trans (hb2.mono HD1.out.size))
          clear hb2 z0 z1 z2 z3 z4 z5 z6 z7
          have HNX := Lib.hid ((HF.out.keep HD2.out).next (by rw [HSN.out]; simp [HSR.out]))
          go_wp2_with fail
          go_roundw
          case rel => exact ⟨k + 1, by go_num, by omega, _, HNX.out⟩
          case measure => simp [intOf]; omega
        · have HSL := Lib.hid hsl
          rw [hsl] at HS1
          clear hsl
          go_wp2_with fail
          refine HS1.out.mono ?_
          rintro e w2 ⟨rfl, hb2⟩
          have HD2 := Lib.hid (HD1.out.trans (hb2.mono HD1.out.size))
          have HB2 := Lib.hid (HB1.out.trans (hb2.mono HB1.out.size))
          have HX2 := Lib.hid ((hb2.block _ (at_lt HX1.out)).trans HX1.out)
          clear hb2 z0 z1 z2 z3 z4 z5 z6 z7
          obtain ⟨z0, z1, z2, z3, z4, z5, z6, z7⟩ := cells8 HX2.out
          have HS2 := Lib.hid (small10_any r.right w2 _ _ _ (HNR.out.to (HW0.out.trans (HB2.out.mono HW0.out.size)) (Nat.le_refl _)))
          cases hsr : smallB r.right
          · have HSR := Lib.hid (show smallR r = false by unfold smallR; rw [hsr, Bool.and_false])
            rw [hsr] at HS2
            clear hsr
            go_wp2_with fail
            refine HS2.out.mono ?_
            rintro e w3 ⟨rfl, hb3⟩
            have HD3 := Lib.hid (HD2.out.trans (hb3.mono HD2.out.size))
            clear hb3 z0 z1 z2 z3 z4 z5 z6 z7
            have HNX := Lib.hid ((HF.out.keep HD3.out).next (by rw [HSN.out]; simp [HSR.out]))
            go_wp2_with fail
            go_roundw
            case rel => exact ⟨k + 1, by go_num, by omega, _, HNX.out⟩
            case measure => simp [intOf]; omega
          · have HSR := Lib.hid (show smallR r = true by unfold smallR; rw [HSL.out, hsr]; rfl)
            rw [hsr] at HS2
            clear hsr
            go_wp2_with fail
            refine HS2.out.mono ?_
            rintro e w3 ⟨rfl, hb3⟩
            have HD3 := Lib.hid (HD2.out.trans (hb3.mono HD2.out.size))
            have HX3 := Lib.hid ((hb3.block _ (at_lt HX2.out)).trans HX2.out)
            have HF3 := Lib.hid (HF.out.keep HD3.out)
            clear hb3 z0 z1 z2 z3 z4 z5 z6 z7
            obtain ⟨z0, z1, z2, z3, z4, z5, z6, z7⟩ := cells8 HX3.out
            obtain ⟨y0, y1⟩ := cells2 HF3.out.out
            have HAL := Lib.hid (below_alloc1 w3 (.cells #[.int .i64 opx, .slice ppx lx c1x, .slice qx mx dx, .int .i64 opy, .slice ppy ly c1y, .slice qy my dy, .bool bk, .bool st] 54))
            go_wp2_with (refine stop_at (.call { callee := .builtin .append, args := #[.tmp 41, .tmp 43], argTypes := #[23, 23] }) rfl ?_)
            refine ⟨?_⟩
            refine wpList_append_rules rfl (.tmp 41) (.tmp 43) rfl (.slice pq nq cq) (few9L (rs.take k)) nq HNQ.out.symm rfl (HF3.out.own.below HAL.out (Nat.le_refl _)) _ [r] 1 rfl rfl (ReadL.one w3 _ _ [.int .i64 opx, .slice ppx lx c1x, .slice qx mx dx, .int .i64 opy, .slice ppy ly c1y, .slice qy my dy, .bool bk, .bool st] ⟨rfl, by simp [Value.oneCell']⟩ HRI.out) (by omega) (Nat.le_trans HF3.out.below.size HAL.out.size) ?_
            intro p4 c4 w4 hown4 hg4 hlie4
            have hf4 : Fr (fun j => (Value.slice pq nq cq).ownBlock = some j) w3 w4 := (Fr.of_below HAL.out _).trans (Fr.grown (F := fun j => (Value.slice pq nq cq).ownBlock = some j) hg4 (fun k h => h)) (fun _ _ h => h)
            have hz4 : (w3.alloc (.cells #[.int .i64 opx, .slice ppx lx c1x, .slice qx mx dx, .int .i64 opy, .slice ppy ly c1y, .slice qy my dy, .bool bk, .bool st] 54)).heap.size = w3.heap.size + 1 := by simp
            rw [hz4] at hlie4
            have HF4 := Lib.hid hf4
            have HBO4 := Lib.hid ((hf4.block G (at_lt HF3.out.out) HF3.out.apart.2.2).trans HF3.out.out)
            have HFR := Lib.hid (Fr.setCell (F := fun j => j = G) w4 (p := ⟨G, 1, none⟩) rfl (.slice p4 (nq + 1) c4))
            have HNX := Lib.hid (show FewAt9 w0 w B G tB tG #[.slice pc nc cc, .slice (some ⟨bp, op, none⟩) m cr] (.slice pc' mn cc') #[.slice none 0 0, .slice none 0 0] rs (k + 1) (w4.setCell ⟨G, 1, none⟩ (.slice p4 (nq + 1) c4)) (.slice p4 (nq + 1) c4) from by
              have key : ∀ j, (Value.slice pq nq cq).ownBlock ≠ some j → j < w3.heap.size → (Value.slice p4 (nq + 1) c4).ownBlock ≠ some j := fun j h1 h2 he => by
                rcases hlie4 with h | h
                · exact h1 (h ▸ he)
                · rw [he] at h; injection h with h; omega
              have hap := key G HF3.out.apart.2.2 (at_lt HF3.out.out)
              have hgb := HGB.out
              refine ⟨(HFR.out.block B (by have h1 := at_lt HF3.out.box; have h2 := hf4.size; omega) (by omega)).trans ((hf4.block B (at_lt HF3.out.box) HF3.out.apart.1).trans HF3.out.box), (HFR.out.block (B + 1) (by have h1 := at_lt HF3.out.res; have h2 := hf4.size; omega) (by omega)).trans ((hf4.block (B + 1) (at_lt HF3.out.res) HF3.out.apart.2.1).trans HF3.out.res), blk_set HBO4.out 1 (.slice p4 (nq + 1) c4), ?_, ⟨key B HF3.out.apart.1 (at_lt HF3.out.box), key (B + 1) HF3.out.apart.2.1 (at_lt HF3.out.res), hap⟩, ?_⟩
              · rw [HSN.out, HSR.out]
                exact hown4.fr HFR.out (fun j hj he => hap (he ▸ hj))
              · exact (HF3.out.below.trans (hf4.below HF3.out.below.size (fun j hj => (HF3.out.own.lt j hj).1))).trans (HFR.out.below (by have h1 := HF3.out.below.size; have h2 := hf4.size; omega) (fun j hj => by have hj : j = G := hj; have h1 := HB.out; omega)))
            have x2 := (cells2 HBO4.out).2
            have f2 := fz_at HBO4.out 1
            clear hown4 hg4 hlie4 hf4 hz4 y0 y1 z0 z1 z2 z3 z4 z5 z6 z7
            go_wp2_with fail
            go_roundw
            case rel => exact ⟨k + 1, by go_num, by omega, _, HNX.out⟩
            case measure => simp [intOf]; omega
      · have HOUT := Lib.hid (show few9L (rs.take k) = few9L rs from by
          by_cases h : nq < 8
          · have hkm : k = rs.length := by have := HM.out; omega
            rw [hkm, List.take_length]
          · exact few9_full (by rw [← HNQ.out]; exact h))
        by_cases hkm : k < m
        · have hki : (k : Int) < m := by omega
          have hqi : ¬ (nq : Int) < 8 := by omega
          clear hgo
          go_wp2_with (refine wpList_store_obj rfl (.tmp 2) (.tmp 46) 25 rfl (B + 1) rfl [.slice pc' mn cc', .slice pq nq cq] rfl _ _ HF.out.res (by kernel_rfl) rfl (by simp [Value.oneCell']) ?_; intro w5 hb5 hf5)
          obtain ⟨s0, s1⟩ := cells2 hb5
          have hbe : Below w.heap.size w w5 := HF.out.below.trans (hf5.below HF.out.below.size (fun q hq => by have hq : q = B + 1 := hq; have := HB.out; omega))
          refine bodyPost_ret (v := .agg #[.slice pc' mn cc', .slice pq nq cq]) (by simp [results, Try.results26, go_sem, s0, s1]) rfl ⟨pc', cc', _, by rw [HMN.out], by rw [← HOUT.out]; exact HF.out.own.fr hf5 (fun q hq he => HF.out.apart.2.1 (he ▸ hq)), hbe⟩
        · have hki : ¬ (k : Int) < m := by omega
          clear hgo
          go_wp2_with (refine wpList_store_obj rfl (.tmp 2) (.tmp 46) 25 rfl (B + 1) rfl [.slice pc' mn cc', .slice pq nq cq] rfl _ _ HF.out.res (by kernel_rfl) rfl (by simp [Value.oneCell']) ?_; intro w5 hb5 hf5)
          obtain ⟨s0, s1⟩ := cells2 hb5
          have hbe : Below w.heap.size w w5 := HF.out.below.trans (hf5.below HF.out.below.size (fun q hq => by have hq : q = B + 1 := hq; have := HB.out; omega))
          refine bodyPost_ret (v := .agg #[.slice pc' mn cc', .slice pq nq cq]) (by simp [results, Try.results26, go_sem, s0, s1]) rfl ⟨pc', cc', _, by rw [HMN.out], by rw [← HOUT.out]; exact HF.out.own.fr hf5 (fun q hq he => HF.out.apart.2.1 (he ▸ hq)), hbe⟩
end Go.Proofs.Ythmaokjhncokdaa

/-
  Same of the reference of layer 6; what SegWalks has. No condition beyond what each theorem names.
-/
set_option linter.unusedVariables false
set_option linter.unusedSimpArgs false
namespace Go.Proofs.Ythmaokjhncokdaa
open Go.RowKit

theorem says_mk {b c : Bool} {w w' : World} (h : b = c) (hb : Below w.heap.size w w') : Says c w (.returned (.bool b)) w' := ⟨by rw [h], hb⟩
theorem rules_of_read {w : World} {v : Value} {rs : List Rl} (h : ReadL (RuleIs w) 8 w v rs) : Rules w v rs := by
  obtain ⟨rows, h1, h2, h3, h4⟩ := h
  exact ⟨rows, ⟨fun r hr => (h3 r hr).1, by rw [h2]; exact h1⟩, h2, h4⟩

set_option maxRecDepth 100000 in
set_option maxHeartbeats 4000000 in
theorem same_dec (w : World) (u v : Value) (xs ys : List Bool) (hll : ys.length = xs.length) (hl : xs.length ≤ 1000000) (hu : Bools w u xs) (hv : Bools w v ys) : Calls Try.prog 29 #[u, v] w (Says (decide (xs = ys)) w) := by
  obtain ⟨p1, c1, rfl, hc1, hx1⟩ := hu.get
  obtain ⟨p2, c2, rfl, hc2, hx2⟩ := hv.get
  have HX1 := Lib.hid hx1
  have HX2 := Lib.hid hx2
  have HLL := Lib.hid hll
  rw [hll]
  clear hx1 hx2 hu hv hll hc2
  go_enter Try.func29, Try.ntmps29
  go_wp2_with fail
  go_loopw [5] (fun i wr => ∃ (k : Nat), i = .int .i64 k ∧ k ≤ xs.length ∧ (∀ j, j < k → xs[j]? = ys[j]?) ∧ Below w.heap.size w wr) (fun i _ => xs.length - (intOf i).toNat)
  case atStart => exact ⟨0, rfl, by omega, fun _ h => absurd h (Nat.not_lt_zero _), Below.refl _ _⟩
  case round =>
    obtain ⟨k, rfl, h1, heq, hb⟩ := hrel
    have HB := Lib.hid hb
    have HEQ := Lib.hid heq
    by_cases hk : k < xs.length
    · have hk2 : k < ys.length := by have := HLL.out; omega
      obtain ⟨b1, o1, rfl, hl1, hy1⟩ := HX1.out (by omega)
      obtain ⟨b2, o2, rfl, hl2, hy2⟩ := HX2.out (by omega)
      have y1 := cell_below hb hl1 (hy1 k hk)
      have y2 := cell_below hb hl2 (hy2 k hk2)
      have HX := Lib.hid (show xs[k]? = some xs[k] by simp [hk])
      have HY := Lib.hid (show ys[k]? = some ys[k] by simp [hk2])
      generalize xs[k] = xk at *
      generalize ys[k] = yk at *
      clear hb heq hy1 hy2 hk2
      by_cases hne : xk = yk
      · subst hne
        have hne : (xk != xk) = false := by simp
        go_wp2_with fail
        go_quiet (fail)
        go_wp2_with fail
        go_roundw
        case rel => exact ⟨k + 1, by go_num, by omega, fun j hj => by
          by_cases h : j = k
          · subst h; rw [HX.out, HY.out]
          · exact HEQ.out j (by omega), ⟨HB.out.os, HB.out.tape, HB.out.output, HB.out.size, HB.out.block⟩⟩
        case measure => simp [intOf]; omega
      · have HNE := Lib.hid (show xs ≠ ys from fun h => by have h1 := HX.out; rw [h, HY.out] at h1; cases h1; exact hne rfl)
        rcases Bool.eq_false_or_eq_true xk with h | h <;> rcases Bool.eq_false_or_eq_true yk with h' | h'
        all_goals
          first
          | exact absurd (h.trans h'.symm) hne
          | (rw [h] at y1
             rw [h'] at y2
             clear h h' hne
             go_wp2_with fail
             go_quiet (fail)
             go_wp2_with fail
             go_ret
             exact says_mk (decide_eq_false HNE.out).symm ⟨HB.out.os, HB.out.tape, HB.out.output, HB.out.size, HB.out.block⟩)
    · have HE := Lib.hid (show xs = ys from List.ext_getElem? fun i => by
        by_cases h : i < k
        · exact HEQ.out i h
        · rw [List.getElem?_eq_none (by omega), List.getElem?_eq_none (by have := HLL.out; omega)])
      clear hb heq
      go_wp2_with fail
      go_ret
      exact says_mk (decide_eq_true HE.out).symm HB.out

/-! ### from boundary to boundary -/
def thereX (bs : List Bool) (k : Nat) : List Bool := (List.range bs.length).map fun j => if j < k then bs[j]?.getD false else decide (j = k ∧ 0 < k)
def backX (bs : List Bool) (n k : Nat) : List Bool := (List.range bs.length).map fun j => if k < j then bs[j]?.getD false else decide (j = k ∧ k < n)
theorem thereX_length (bs : List Bool) (k : Nat) : (thereX bs k).length = bs.length := by simp [thereX]
theorem backX_length (bs : List Bool) (n k : Nat) : (backX bs n k).length = bs.length := by simp [backX]
theorem thereX_get (bs : List Bool) (k i : Nat) (h : i < (thereX bs k).length) : (thereX bs k)[i] = if i < k then bs[i]?.getD false else decide (i = k ∧ 0 < k) := by simp [thereX]
theorem backX_get (bs : List Bool) (n k i : Nat) (h : i < (backX bs n k).length) : (backX bs n k)[i] = if k < i then bs[i]?.getD false else decide (i = k ∧ k < n) := by simp [backX]
theorem thereX_zero (bs : List Bool) : thereX bs 0 = List.replicate bs.length false := by
  rw [List.eq_replicate_iff]
  refine ⟨thereX_length _ _, fun b hb => ?_⟩
  unfold thereX at hb
  obtain ⟨j, -, rfl⟩ := List.mem_map.1 hb
  simp
theorem backX_top (bs : List Bool) {n : Nat} (hn : bs.length = n + 1) : backX bs n n = List.replicate bs.length false := by
  rw [List.eq_replicate_iff]
  refine ⟨backX_length _ _ _, fun b hb => ?_⟩
  unfold backX at hb
  obtain ⟨j, hj, rfl⟩ := List.mem_map.1 hb
  have := List.mem_range.1 hj
  rw [if_neg (by omega)]
  simp
theorem thereX_step {bs : List Bool} {k q : Nat} (hk : tr bs k) (hkq : k < q) (hq : tr bs q) (hno : ∀ j, k < j → j < q → ¬ tr bs j) : ((thereX bs k).set k true).set q true = thereX bs q := by
  have hql := (List.getElem?_eq_some_iff.1 hq).1
  apply List.ext_getElem
  · simp [thereX]
  · intro i h1 h2
    have h3 : i < bs.length := by simpa [thereX] using h2
    rw [List.getElem_set, List.getElem_set]
    rw [thereX_get, thereX_get]
    by_cases e1 : q = i
    · subst e1
      rw [if_pos rfl, if_neg (by omega)]
      simp; omega
    · rw [if_neg e1]
      by_cases e2 : k = i
      · subst e2
        rw [if_pos rfl, if_pos hkq]
        unfold tr at hk
        rw [hk]; rfl
      · rw [if_neg e2]
        by_cases e3 : i < k
        · rw [if_pos e3, if_pos (by omega)]
        · rw [if_neg e3]
          by_cases e4 : i < q
          · rw [if_pos e4]
            have := hno i (by omega) e4
            unfold tr at this
            rw [List.getElem?_eq_getElem h3] at this ⊢
            simp at this
            simp [this]; omega
          · rw [if_neg e4, decide_eq_false (by omega), decide_eq_false (by omega)]
theorem thereX_end {bs : List Bool} {n : Nat} (hn : bs.length = n + 1) (h : bs[n]? = some (decide (0 < n))) : thereX bs n = bs := by
  apply List.ext_getElem
  · simp [thereX]
  · intro i h1 h2
    rw [thereX_get]
    by_cases e : i < n
    · rw [if_pos e, List.getElem?_eq_getElem h2]; rfl
    · obtain rfl : i = n := by omega
      rw [if_neg e]
      rw [List.getElem?_eq_getElem h2] at h
      rw [Option.some.inj h]
      simp
theorem backX_step {bs : List Bool} {n k p : Nat} (hn : bs.length = n + 1) (hkn : k ≤ n) (hk : tr bs k) (hkp : p < k) (hp : tr bs p) (hno : ∀ j, p < j → j < k → ¬ tr bs j) : ((backX bs n k).set k true).set p true = backX bs n p := by
  apply List.ext_getElem
  · simp [backX]
  · intro i h1 h2
    have h3 : i < bs.length := by simpa [backX] using h2
    rw [List.getElem_set, List.getElem_set]
    rw [backX_get, backX_get]
    by_cases e1 : p = i
    · subst e1
      rw [if_pos rfl, if_neg (by omega)]
      simp; omega
    · rw [if_neg e1]
      by_cases e2 : k = i
      · subst e2
        rw [if_pos rfl, if_pos hkp]
        unfold tr at hk
        rw [hk]; rfl
      · rw [if_neg e2]
        by_cases e3 : k < i
        · rw [if_pos e3, if_pos (by omega)]
        · rw [if_neg e3]
          by_cases e4 : p < i
          · rw [if_pos e4]
            have := hno i e4 (by omega)
            unfold tr at this
            rw [List.getElem?_eq_getElem h3] at this ⊢
            simp at this
            simp [this]; omega
          · rw [if_neg e4, decide_eq_false (by omega), decide_eq_false (by omega)]
theorem backX_end {bs : List Bool} {n : Nat} (hn : bs.length = n + 1) (h : bs[0]? = some (decide (0 < n))) : backX bs n 0 = bs := by
  apply List.ext_getElem
  · simp [backX]
  · intro i h1 h2
    rw [backX_get]
    by_cases e : 0 < i
    · rw [if_pos e, List.getElem?_eq_getElem h2]; rfl
    · obtain rfl : i = 0 := by omega
      rw [if_neg e]
      rw [List.getElem?_eq_getElem h2] at h
      rw [Option.some.inj h]
      simp
theorem segL_at (rs : List Rl) (row : List Int) {i : Nat} (h : i ≤ row.length) : (segL rs row)[i]? = some (segAt rs row i) := by
  unfold segL
  rw [List.getElem?_map, List.getElem?_range (by omega)]
  rfl
theorem seg_first (rs : List Rl) (row : List Int) : (segL rs row)[0]? = some (decide (0 < row.length)) := by
  rw [segL_at rs row (by omega)]
  unfold segAt
  simp
theorem seg_end (rs : List Rl) (row : List Int) : (segL rs row)[row.length]? = some (decide (0 < row.length)) := by
  rw [segL_at rs row (Nat.le_refl _)]
  unfold segAt
  simp
/-- on the way there -/
theorem next_step {rs : List Rl} {row : List Int} {k : Nat} (hk : k < row.length) : ∃ q, nextF (truesL (segL rs row)) (k : Nat) row.length = q ∧ k < q ∧ q ≤ row.length ∧ tr (segL rs row) q ∧ ∀ j, k < j → j < q → ¬ tr (segL rs row) j := by
  have hend : tr (segL rs row) row.length := by
    unfold tr
    rw [seg_end, decide_eq_true (by omega)]
  rcases nextF_spec (segL rs row) (k : Nat) row.length with ⟨h1, h2, h3⟩ | ⟨h1, h2⟩
  · have h4 := (List.getElem?_eq_some_iff.1 h1).1
    rw [segL_length] at h4
    exact ⟨_, rfl, by omega, by omega, h1, fun j hj hq => h3 j (by omega) hq⟩
  · exact absurd hend (h2 _ (by omega))
/-- on the way back -/
theorem prev_step {rs : List Rl} {row : List Int} {k : Nat} (h0 : 0 < k) (hk : k ≤ row.length) : ∃ p, prevF (truesL (segL rs row)) (k : Nat) = p ∧ p < k ∧ tr (segL rs row) p ∧ ∀ j, p < j → j < k → ¬ tr (segL rs row) j := by
  have hbeg : tr (segL rs row) 0 := by
    unfold tr
    rw [seg_first, decide_eq_true (by omega)]
  rcases prevF_spec (segL rs row) (k : Nat) with ⟨h1, h2, h3⟩ | ⟨h1, h2⟩
  · exact ⟨_, rfl, by omega, h1, fun j hj hq => h3 j (by omega) hj⟩
  · exact absurd hbeg (h2 0 (by omega))
end Go.Proofs.Ythmaokjhncokdaa

/-
  seg, plain: the laws of boundaries (SegFirst, SegMirror, SegAll). No program, no condition beyond what each theorem names.
-/
set_option linter.unusedVariables false
set_option linter.unusedSimpArgs false
namespace Go.Proofs.Ythmaokjhncokdaa
open Go.RowKit Classical

def nd0 : Nd := .mk 0 [] []
theorem rev_nd0 : revX nd0 = nd0 := by unfold nd0; rw [revX_mk]; rfl
theorem fit_nd0 : fitB nd0 [] = true := by
  unfold nd0
  rw [fitB_iff]
  simp [M]
theorem fits_nd0 (row : List Int) : fitsE nd0 false row = true := by
  unfold fitsE
  rw [if_neg (by simp), decide_eq_true_iff]
  exact ⟨row.length, Nat.le_refl _, by rw [List.drop_length]; exact fit_nd0⟩
/-- a rule both of whose sides are empty -/
def rl0 (b : Bool) : Rl := ⟨nd0, nd0, b, false⟩
theorem rule_rl0 (b : Bool) (row : List Int) (i : Nat) : ruleB row i (rl0 b) = true := by
  unfold ruleB rl0
  simp only [rev_nd0]
  rw [fits_nd0, fits_nd0]
  rfl
theorem says_first (b : Bool) (rs : List Rl) (row : List Int) (i : Nat) : saysB (rl0 b :: rs) row i = b := by
  unfold saysB
  rw [List.find?_cons, rule_rl0]
  rfl
theorem says_last {r : Rl} (hr : r.brk = true) (rs : List Rl) (row : List Int) (i : Nat) : saysB (rs ++ [r]) row i = saysB rs row i := by
  unfold saysB
  rw [List.find?_append]
  cases rs.find? (ruleB row i) with
  | some x => rfl
  | none =>
    rw [Option.none_or]
    rw [List.find?_cons]
    split
    · simp [hr]
    · rfl
theorem segL_last {r : Rl} (hr : r.brk = true) (rs : List Rl) (row : List Int) : segL (rs ++ [r]) row = segL rs row := by
  unfold segL
  refine List.map_congr_left fun i _ => ?_
  unfold segAt
  rw [says_last hr]

/-! ### all say the same -/
def brkR (b : Bool) (r : Rl) : Rl := { r with brk := b }
theorem rule_brk (b : Bool) (row : List Int) (i : Nat) (r : Rl) : ruleB row i (brkR b r) = ruleB row i r := rfl
theorem says_brk (b : Bool) (rs : List Rl) (row : List Int) (i : Nat) : saysB (rs.map (brkR b)) row i = if (rs.find? (ruleB row i)).isSome then b else true := by
  unfold saysB
  rw [List.find?_map]
  have e : (ruleB row i ∘ brkR b) = ruleB row i := by funext r; rfl
  rw [e]
  cases rs.find? (ruleB row i) <;> rfl
theorem says_yes (rs : List Rl) (row : List Int) (i : Nat) : saysB (rs.map (brkR true)) row i = true := by rw [says_brk]; simp
theorem says_no (rs : List Rl) (row : List Int) (i : Nat) (h : saysB (rs.map (brkR false)) row i = true) : saysB rs row i = true := by
  rw [says_brk] at h
  unfold saysB
  cases hf : rs.find? (ruleB row i) with
  | none => rfl
  | some x => rw [hf] at h; simp at h
theorem seg_yes {rs : List Rl} {row : List Int} (h : 0 < row.length) (i : Nat) : segAt (rs.map (brkR true)) row i = true := by
  unfold segAt
  rw [says_yes]
  simp
  exact h
theorem seg_no {rs : List Rl} {row : List Int} {i : Nat} (h : segAt (rs.map (brkR false)) row i = true) : segAt rs row i = true := by
  unfold segAt at *
  simp only [Bool.and_eq_true, Bool.or_eq_true] at *
  refine ⟨h.1, ?_⟩
  rcases h.2 with h | h | h
  · exact .inl h
  · exact .inr (.inl h)
  · exact .inr (.inr (says_no rs row i h))
theorem lefts_brk (b : Bool) (rs : List Rl) : leftsL (rs.map (brkR b)) = leftsL rs := by unfold leftsL; rw [List.map_map]; rfl
theorem rights_brk (b : Bool) (rs : List Rl) : rightsL (rs.map (brkR b)) = rightsL rs := by unfold rightsL; rw [List.map_map]; rfl
theorem compOk_of {n : Int} {rs ss : List Rl} (hl : leftsL rs = leftsL ss) (hr : rightsL rs = rightsL ss) : CompOk n rs ↔ CompOk n ss := by
  have len : rs.length = ss.length := by
    have := congrArg List.length hl
    unfold leftsL at this
    simpa using this
  have side : ∀ {rs ss : List Rl}, leftsL rs = leftsL ss → rightsL rs = rightsL ss → (∀ r ∈ rs, RightX r.left ∧ RightX r.right) → ∀ r ∈ ss, RightX r.left ∧ RightX r.right := fun {rs ss} hl hr h r hm => by
    have h1 := lefts_right h (r.left, r.start) (by rw [hl]; unfold leftsL; exact List.mem_map.2 ⟨r, hm, rfl⟩)
    have h2 := rights_right h (revX r.right, false) (by rw [hr]; unfold rightsL; exact List.mem_map.2 ⟨r, hm, rfl⟩)
    have h3 := right_rev h2
    rw [rev_rev] at h3
    exact ⟨h1, h3⟩
  unfold CompOk
  rw [len, hl, hr]
  exact ⟨fun ⟨a, b, c⟩ => ⟨a, side hl hr b, c⟩, fun ⟨a, b, c⟩ => ⟨a, side hl.symm hr.symm b, c⟩⟩
theorem compC_of {n : Nat} {rs ss : List Rl} (hl : leftsL rs = leftsL ss) (hr : rightsL rs = rightsL ss) : compC n rs = compC n ss := by
  have h := compOk_of (n := (n : Int)) hl hr
  refine compC_same h ?_
  unfold Compiles
  rw [h, hl, hr]

/-! ### turned round -/
def plainR (r : Rl) : Rl := { r with start := false }
def mirR (r : Rl) : Rl := ⟨revX r.right, revX r.left, r.brk, false⟩
theorem lefts_mir (rs : List Rl) : leftsL (rs.map mirR) = rightsL (rs.map plainR) := by unfold leftsL rightsL; rw [List.map_map, List.map_map]; rfl
theorem rights_mir (rs : List Rl) : rightsL (rs.map mirR) = leftsL (rs.map plainR) := by
  unfold leftsL rightsL
  rw [List.map_map, List.map_map]
  refine List.map_congr_left fun r _ => ?_
  show (revX (revX r.left), false) = (r.left, false)
  rw [rev_rev]
theorem compC_mir {n : Nat} (rs : List Rl) : compC n (rs.map plainR) = compC n (rs.map mirR) := by
  have h1 := lefts_mir rs
  have h2 := rights_mir rs
  have hR : (∀ r ∈ rs.map plainR, RightX r.left ∧ RightX r.right) ↔ ∀ r ∈ rs.map mirR, RightX r.left ∧ RightX r.right := by
    constructor
    · intro h r hr
      obtain ⟨x, hx, rfl⟩ := List.mem_map.1 hr
      have := h (plainR x) (List.mem_map.2 ⟨x, hx, rfl⟩)
      exact ⟨right_rev this.2, right_rev this.1⟩
    · intro h r hr
      obtain ⟨x, hx, rfl⟩ := List.mem_map.1 hr
      have := h (mirR x) (List.mem_map.2 ⟨x, hx, rfl⟩)
      have a := right_rev this.1
      have b := right_rev this.2
      have e1 : revX (mirR x).left = x.right := rev_rev x.right
      have e2 : revX (mirR x).right = x.left := rev_rev x.left
      rw [e1] at a
      rw [e2] at b
      exact ⟨b, a⟩
  have hC : CompOk n (rs.map plainR) ↔ CompOk n (rs.map mirR) := by
    unfold CompOk
    rw [hR, h1, h2, List.length_map, List.length_map]
    exact ⟨fun ⟨a, b, c, d⟩ => ⟨a, b, d, c⟩, fun ⟨a, b, c, d⟩ => ⟨a, b, d, c⟩⟩
  refine compC_same hC ?_
  unfold Compiles
  rw [hC, h1, h2]
  exact ⟨fun ⟨a, b, c⟩ => ⟨a, c, b⟩, fun ⟨a, b, c⟩ => ⟨a, c, b⟩⟩
theorem rule_mir (row : List Int) {i : Nat} (hi : i ≤ row.length) (r : Rl) : ruleB row.reverse (row.length - i) (mirR r) = ruleB row i (plainR r) := by
  unfold ruleB
  rw [take_rev row hi, List.drop_reverse, show row.length - (row.length - i) = i by omega, List.reverse_reverse]
  show (fitsE (revX r.right) false (row.drop i).reverse && fitsE (revX (revX r.left)) false (row.take i)) = (fitsE r.left false (row.take i) && fitsE (revX r.right) false (row.drop i).reverse)
  rw [rev_rev, Bool.and_comm]
theorem says_mir (rs : List Rl) (row : List Int) {i : Nat} (hi : i ≤ row.length) : saysB (rs.map mirR) row.reverse (row.length - i) = saysB (rs.map plainR) row i := by
  unfold saysB
  rw [List.find?_map, List.find?_map]
  have e : (ruleB row.reverse (row.length - i) ∘ mirR) = (ruleB row i ∘ plainR) := by
    funext r
    exact rule_mir row hi r
  rw [e]
  cases rs.find? (ruleB row i ∘ plainR) <;> rfl
theorem seg_mir (rs : List Rl) (row : List Int) {i : Nat} (hi : i ≤ row.length) : segAt (rs.map mirR) row.reverse (row.length - i) = segAt (rs.map plainR) row i := by
  unfold segAt
  rw [says_mir rs row hi, List.length_reverse]
  by_cases h0 : i = 0
  · subst h0; simp
  · by_cases h1 : i = row.length
    · subst h1; simp
    · rw [decide_eq_false (show ¬ row.length - i = 0 by omega), decide_eq_false (show ¬ row.length - i = row.length by omega), decide_eq_false h0, decide_eq_false h1]
end Go.Proofs.Ythmaokjhncokdaa

