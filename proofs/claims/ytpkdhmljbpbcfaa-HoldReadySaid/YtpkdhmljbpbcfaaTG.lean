/-
  The small case of the statements is true. No condition beyond what each theorem names.
-/
import Derived.Test.YtpkdhmljbpbcfaaTH
set_option linter.unusedVariables false
set_option linter.unusedSimpArgs false
namespace Go.Proofs.Ytpkdhmljbpbcfaa
open Go.RowKit

def opX : OpV := ⟨3, 5, 2, false, 0, 0, 0⟩
def opY : OpV := ⟨1, 5, 1, false, 0, 0, 0⟩

theorem add_e {w0 w : World} {Ks : Nat → Prop} {bh : Nat} {room : Int} {xs : List OpV} (h : Has w0 w Ks bh room xs) (hl : xs.length < 1000000) (o : OpV) {ys : List OpV} {n : Int} (h1 : addTo room xs o = ys) (h2 : addErr room xs o = n) :
    Calls Try.prog 12 #[.pointer (some ⟨bh, 0, none⟩), .agg #[.int .i64 o.ctr, .int .i64 o.author, .int .i64 o.seq, .bool o.ins, .int .i64 o.rctr, .int .i64 o.rauthor, .int .i32 o.rune]] w
      (End w0 w Ks bh room ys (.returned (.int .i64 n))) := by subst h1; subst h2; exact add_h h hl o

theorem has_e {w0 w : World} {Ks : Nat → Prop} {bh : Nat} {room : Int} {xs : List OpV} (h : Has w0 w Ks bh room xs) (author seq : Int) {b : Bool} (h1 : xs.any (sameId author seq) = b) :
    Calls Try.prog 11 #[.pointer (some ⟨bh, 0, none⟩), .int .i64 author, .int .i64 seq] w (End w0 w Ks bh room xs (.returned (.bool b))) := by subst h1; exact has_h h author seq

theorem len_e {w0 w : World} {Ks : Nat → Prop} {bh : Nat} {room : Int} {xs : List OpV} (h : Has w0 w Ks bh room xs) {n : Int} (h1 : (xs.length : Int) = n) :
    Calls Try.prog 13 #[.pointer (some ⟨bh, 0, none⟩)] w (End w0 w Ks bh room xs (.returned (.int .i64 n))) := by subst h1; exact len_h h

theorem room_e {w0 w : World} {Ks : Nat → Prop} {bh : Nat} {room : Int} {xs : List OpV} (h : Has w0 w Ks bh room xs) {n : Int} (h1 : room - xs.length = n) :
    Calls Try.prog 14 #[.pointer (some ⟨bh, 0, none⟩)] w (End w0 w Ks bh room xs (.returned (.int .i64 n))) := by subst h1; exact room_h h

theorem ready_all {w0 w : World} {Ks : Nat → Prop} {bh : Nat} {room : Int} {xs : List OpV} (h : Has w0 w Ks bh room xs) {ys : List OpV} {o : OpV} {b : Bool} (h1 : readyRest (fun _ => true) xs = ys) (h2 : readyOut (fun _ => true) xs = (o, b)) :
    Calls Try.prog 15 #[.pointer (some ⟨bh, 0, none⟩), .func (.func 16) #[] #[]] w (End w0 w Ks bh room ys (.returned (.tuple #[.agg #[.int .i64 o.ctr, .int .i64 o.author, .int .i64 o.seq, .bool o.ins, .int .i64 o.rctr, .int .i64 o.rauthor, .int .i32 o.rune], .bool b]))) := by
  have := ready_h h (fun _ => true) 16 #[] enters16 (fun G _ => all_ops w G)
  rw [h1, h2] at this
  exact this

set_option maxRecDepth 100000 in
set_option maxHeartbeats 4000000 in
theorem shown_any (w : World) : Calls Try.prog 9 #[] w (Says true w) := by
  go_enter Try.func9, Try.ntmps9
  go_wp2_with fail
  refine (new_h (Below.refl w.heap.size w) 1 (by decide) (by decide)).mono ?_
  rintro e w1 ⟨rfl, hb1, hh1⟩
  have hh1 := hh1 (fun _ => False) (fun _ h => h.elim)
  have hsz1 : w.heap.size < w1.heap.size := by
    obtain ⟨F, v, h2, -⟩ := hh1.some
    exact h2.lt _ h2.own
  have HH1 := Lib.hid hh1
  clear hh1
  go_wp2_with fail
  refine abs_world fun W hW0 => ?_
  have hW : W = (w1.alloc (opObj opX)).alloc (opObj opY) := hW0
  clear hW0
  have hBW : Below w1.heap.size w1 W := by rw [hW]; exact ((Below.refl _ _).alloc (Nat.le_refl _) _).alloc (by simp) _
  have hx : opAt W w1.heap.size 0 opX := by
    refine opAt_heap ?_
    rw [hW, Below.heap_alloc _ _ _ (by simp)]; exact heap_alloc_new _ _
  have hy : opAt W (w1.heap.size + 1) 0 opY := by
    refine opAt_heap ?_
    rw [hW]
    have := heap_alloc_new (w1.alloc (opObj opX)) (opObj opY)
    simpa using this
  have KX := Lib.hid hx
  have KY := Lib.hid hy
  have hh := HH1.out.more hBW (Ls := fun k => k = w1.heap.size ∨ k = w1.heap.size + 1) (fun k hk => .inr (by
    have h1 : W.heap.size = w1.heap.size + 2 := by rw [hW]; simp
    omega))
  clear hW hBW hx hy
  refine (add_e hh (by simp) opX (ys := [opX]) (n := 0) (by decide) (by decide)).mono ?_
  intro e w2 he
  have KX2 := Lib.hid (he.op (.inl rfl) KX.out)
  have KY2 := Lib.hid (he.op (.inr rfl) KY.out)
  obtain ⟨rfl, hh2, -, -⟩ := he
  clear hh
  obtain ⟨x0, x1, x2, x3, x4, x5, x6⟩ := KX2.out
  simp only [opX, Nat.zero_add] at x0 x1 x2 x3 x4 x5 x6
  go_wp2_with fail
  clear x0 x1 x2 x3 x4 x5 x6
  refine (add_e hh2 (by simp) opX (ys := [opX]) (n := 0) (by decide) (by decide)).mono ?_
  intro e w3 he
  have KX3 := Lib.hid (he.op (.inl rfl) KX2.out)
  have KY3 := Lib.hid (he.op (.inr rfl) KY2.out)
  obtain ⟨rfl, hh3, -, -⟩ := he
  clear hh2
  obtain ⟨x0, x1, x2, x3, x4, x5, x6⟩ := KY3.out
  simp only [opY, Nat.zero_add] at x0 x1 x2 x3 x4 x5 x6
  go_wp2_with fail
  clear x0 x1 x2 x3 x4 x5 x6
  refine (add_e hh3 (by simp) opY (ys := [opX]) (n := 8) (by decide) (by decide)).mono ?_
  intro e w4 he
  have KX4 := Lib.hid (he.op (.inl rfl) KX3.out)
  obtain ⟨rfl, hh4, -, -⟩ := he
  clear hh3
  go_wp2_with fail
  refine (has_e hh4 5 2 (b := true) (by decide)).mono ?_
  intro e w5 he
  have KX5 := Lib.hid (he.op (.inl rfl) KX4.out)
  obtain ⟨rfl, hh5, -, -⟩ := he
  clear hh4
  go_wp2_with fail
  refine (has_e hh5 5 1 (b := false) (by decide)).mono ?_
  intro e w6 he
  have KX6 := Lib.hid (he.op (.inl rfl) KX5.out)
  obtain ⟨rfl, hh6, -, -⟩ := he
  clear hh5
  go_wp2_with fail
  refine (len_e hh6 (n := 1) (by decide)).mono ?_
  intro e w7 he
  have KX7 := Lib.hid (he.op (.inl rfl) KX6.out)
  obtain ⟨rfl, hh7, -, -⟩ := he
  clear hh6
  go_wp2_with fail
  refine (room_e hh7 (n := 0) (by decide)).mono ?_
  intro e w8 he
  have KX8 := Lib.hid (he.op (.inl rfl) KX7.out)
  obtain ⟨rfl, hh8, -, -⟩ := he
  clear hh7
  go_wp2_with fail
  refine (ready_all hh8 (ys := []) (o := opX) (b := true) (by decide) (by decide)).mono ?_
  intro e w9 he
  have KX9 := Lib.hid (he.op (.inl rfl) KX8.out)
  obtain ⟨rfl, hh9, -, -⟩ := he
  clear hh8
  simp only [opX]
  go_wp2_with fail
  refine abs_world fun V hV0 => ?_
  have hV : V = w9.alloc (opObj opX) := hV0
  clear hV0
  have hBV : Below w9.heap.size w9 V := by rw [hV]; exact (Below.refl _ _).alloc (Nat.le_refl _) _
  have hz : opAt V w9.heap.size 0 opX := by
    refine opAt_heap ?_
    rw [hV]; exact heap_alloc_new _ _
  have KZ := Lib.hid hz
  have KXV := Lib.hid (opAt_below hBV (opAt_lt KX9.out) KX9.out)
  have hh := hh9.more hBV (Ls := fun k => k = w1.heap.size ∨ k = w9.heap.size) (fun k hk => by
    rcases hk with rfl | rfl
    · exact .inl (.inl rfl)
    · exact .inr ⟨Nat.le_refl _, opAt_lt hz⟩)
  clear hV hBV hz hh9
  refine (ready_all hh (ys := []) (o := ⟨0, 0, 0, false, 0, 0, 0⟩) (b := false) (by decide) (by decide)).mono ?_
  intro e w10 he
  have KX10 := Lib.hid (he.op (.inl rfl) KXV.out)
  have KZ10 := Lib.hid (he.op (.inr rfl) KZ.out)
  obtain ⟨rfl, hh10, -, -⟩ := he
  clear hh
  obtain ⟨x0, x1, x2, x3, x4, x5, x6⟩ := KX10.out
  obtain ⟨z0, z1, z2, z3, z4, z5, z6⟩ := KZ10.out
  simp only [opX, Nat.zero_add] at x0 x1 x2 x3 x4 x5 x6 z0 z1 z2 z3 z4 z5 z6
  have l1 := opAt_lt KX10.out
  have l2 := opAt_lt KZ10.out
  go_wp2_with fail
  refine abs_world fun U hU0 => ?_
  have hU : Below w10.heap.size w10 U := by rw [hU0]; exact (Below.refl _ _).alloc (Nat.le_refl _) _
  clear hU0
  have hhU := hh10.to hU
  clear hh10 hU
  refine (len_e hhU (n := 0) (by decide)).mono ?_
  intro e w11 he
  obtain ⟨rfl, hh11, -, -⟩ := he
  clear hhU
  go_wp2_with fail
  refine (room_e hh11 (n := 1) (by decide)).mono ?_
  intro e w12 he
  obtain ⟨rfl, hh12, -, -⟩ := he
  clear hh11
  go_wp2
  go_ret
  exact ⟨rfl, hh12.below⟩
end Go.Proofs.Ytpkdhmljbpbcfaa
