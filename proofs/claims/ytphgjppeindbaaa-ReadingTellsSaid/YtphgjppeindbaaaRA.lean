/-
  The reference's small helpers of layer 6: all, either, in, Same. No condition beyond what each theorem names.
-/
import Derived.Test.YtphgjppeindbaaaTurned
set_option linter.unusedVariables false
set_option linter.unusedSimpArgs false
namespace Go.Proofs.Ytphgjppeindbaaa
open Go.RowKit

def boolE (x : Bool) (row : List Value) : Prop := row = [.bool x]

theorem flatten_bools {xs : List Bool} {rows : List (List Value)} (hl : rows.length = xs.length) (h : ∀ i (h : i < xs.length), ∃ row, rows[i]? = some row ∧ boolE xs[i] row) : rows.flatten = xs.map Value.bool := by
  have : rows = xs.map (fun x => [Value.bool x]) := by
    refine List.ext_getElem? fun i => ?_
    by_cases hi : i < xs.length
    · obtain ⟨row, h1, h2⟩ := h i hi
      rw [h1, h2]
      simp [hi]
    · rw [List.getElem?_eq_none (by omega), List.getElem?_eq_none (by simp; omega)]
  rw [this]
  clear this h hl
  induction xs with
  | nil => rfl
  | cons x r ih => simp [ih]
theorem ReadL.bools {w : World} {v : Value} {xs : List Bool} (h : ReadL boolE 1 w v xs) : Bools w v xs := by
  obtain ⟨rows, h1, h2, h3, h4⟩ := h
  rw [flatten_bools h2 h4] at h1
  exact h1
theorem Bools.readL {w : World} {v : Value} {xs : List Bool} (h : Bools w v xs) : ReadL boolE 1 w v xs := by
  refine ⟨xs.map (fun x => [Value.bool x]), ?_, by simp, fun r hr => ?_, fun i hi => ⟨[.bool xs[i]], by simp [hi], rfl⟩⟩
  · have : (xs.map (fun x => [Value.bool x])).flatten = xs.map Value.bool := flatten_bools (by simp) (fun i hi => ⟨[.bool xs[i]], by simp [hi], rfl⟩)
    rw [this]; exact h
  · obtain ⟨x, -, rfl⟩ := List.mem_map.1 hr
    simp [Value.oneCell']

section
variable {ops : Array Oper} {rest : List Oper} {o : Oper} {a : Act} {w : World} {Q : Exit → Act → World → Prop} {base : Nat}
theorem wpList_append_bools (hgd : o.guard = none) (s x : Operand) (ho : o.op = .call { callee := .builtin .append, args := #[s, x], argTypes := #[27, 27] })
    (v : Value) (xs : List Bool) (hs : a.eval s = v) (hown : OwnL boolE 4 1 base w v xs) (xv : Value) (ns : List Bool) (hx : a.eval x = xv) (hr : ReadL boolE 1 w xv ns) (hlen : xs.length + ns.length ≤ 1000000) (hbase : base ≤ w.heap.size)
    (h : ∀ p c w', OwnL boolE 4 1 base w' (.slice p (xs.length + ns.length) c) (xs ++ ns) → w.grownBy w' v.ownBlock → ((Value.slice p (xs.length + ns.length) c).ownBlock = v.ownBlock ∨ (Value.slice p (xs.length + ns.length) c).ownBlock = some w.heap.size) → wpList Try.prog ops Q rest (a.put o.dst (.slice p (xs.length + ns.length) c)) w') : wpList Try.prog ops Q (o :: rest) a w := by
  obtain ⟨i0, hi, hz0, hz1, hz2⟩ := info_parts infoE4
  exact wpList_append_L hgd s x 27 ho i0 _ 1 Try.underlying27 hi hz0 hz1 hz2 rfl (by decide) v xs hs hown xv ns hx hr (by unfold maxLen; omega) (by omega) hbase h
end

set_option maxHeartbeats 2000000 in
theorem all_any (w : World) (n : Nat) (is : Bool) (hn : n ≤ 100000) :
    Calls Try.prog 26 #[.int .i64 n, .bool is] w fun e w' => ∃ v, e = .returned v ∧ OwnL boolE 4 1 w.heap.size w' v (List.replicate (n + 1) is) ∧ Below w.heap.size w w' := by
  go_enter Try.func26, Try.ntmps26
  go_wp2_with fail
  go_loopw [5, 6] (fun v i wr => ∃ k : Nat, i = .int .i64 k ∧ k ≤ n + 1 ∧ OwnL boolE 4 1 w.heap.size wr v (List.replicate k is) ∧ Below w.heap.size w wr) (fun _ i _ => n + 1 - (intOf i).toNat)
  case atStart => exact ⟨0, rfl, by omega, OwnL.nil _, Below.refl _ _⟩
  case round =>
    obtain ⟨k, rfl, h1, hown, hb⟩ := hrel
    have HOWN := Lib.hid hown
    have HB := Lib.hid hb
    by_cases hk : k ≤ n
    · have ha := below_alloc1 wr (.cells #[.bool is] 4)
      have HA := Lib.hid ha
      have HO2 := Lib.hid (hown.below ha (Nat.le_refl _))
      have HRD := Lib.hid (ReadL.one (E := boolE) (sz := 1) wr 4 is [.bool is] (by simp [Value.oneCell']) rfl)
      have HSZ := Lib.hid (Nat.le_trans hb.size ha.size)
      have HLEN := Lib.hid (show (List.replicate k is).length + [is].length ≤ 1000000 by simp; omega)
      clear ha hown hb
      go_wp2_with (at_builtin; refine wpList_append_bools rfl (.tmp 12) (.tmp 14) rfl u5 (List.replicate k is) rfl HO2.out _ [is] rfl HRD.out HLEN.out HSZ.out ?_)
      intro p5 c5 w5 hown hg _
      have HB5 := Lib.hid ((HB.out.trans (HA.out.mono HB.out.size)).grown hg HSZ.out (fun k hk => (HO2.out.lt k hk).1))
      have HOW5 := Lib.hid hown
      clear hown hg
      go_wp2_with fail
      go_roundw
      case rel => exact ⟨k + 1, by go_num, by omega, by rw [List.replicate_succ']; exact HOW5.out, HB5.out⟩
      case measure => simp [intOf]; omega
    · have hkn : k = n + 1 := by omega
      subst hkn
      obtain ⟨p, c, rfl⟩ := hown.form
      clear hown hb
      go_wp2_with fail
      go_ret
      exact ⟨_, rfl, HOWN.out, HB.out⟩

set_option maxHeartbeats 2000000 in
theorem in_any (w : World) (v : Value) (cls : List Int) (c : Int) (hn : cls.length * 8 ≤ R) (hv : Ints w v cls) :
    Calls Try.prog 35 #[v, .int .i64 c] w (Says (decide (c ∈ cls)) w) := by
  obtain ⟨p, cap, rfl, hcap, hx⟩ := hv.get
  unfold R at hn
  have HX := Lib.hid hx
  have HNO := Lib.hid (fun (k : Nat) (h : ∀ j (hj : j < cls.length), j < k → cls[j] ≠ c) (hk : cls.length ≤ k) => show c ∉ cls from fun hm => by
    obtain ⟨j, hj, rfl⟩ := List.getElem_of_mem hm
    exact h j hj (by omega) rfl)
  clear hv hx
  go_enter Try.func35, Try.ntmps35
  go_wp2_with fail
  go_loopw [5] (fun i wr => ∃ k : Nat, i = .int .i64 k ∧ k ≤ cls.length ∧ (∀ j (hj : j < cls.length), j < k → cls[j] ≠ c) ∧ Below w.heap.size w wr) (fun i _ => cls.length - (intOf i).toNat)
  case atStart => exact ⟨0, rfl, by omega, fun _ _ h => absurd h (Nat.not_lt_zero _), Below.refl _ _⟩
  case round =>
    obtain ⟨k, rfl, h1, hno, hb⟩ := hrel
    have HB := Lib.hid hb
    have HN := Lib.hid hno
    by_cases hk : k < cls.length
    · obtain ⟨b, off, rfl, hbl, hy⟩ := HX.out (by omega)
      have y0 := cell_below hb hbl (hy k hk)
      have HM := Lib.hid (List.getElem_mem hk)
      by_cases hc : cls[k] = c
      · have hc' : (cls[k] == c) = true := by simp [hc]
        have HC := Lib.hid (show c ∈ cls by rw [← hc]; exact HM.out)
        clear hc hno hb hy
        go_wp2_with fail
        go_ret
        exact Says.mk (decide_eq_true HC.out).symm HB.out
      · have hc' : (cls[k] == c) = false := by simp [hc]
        have HC := Lib.hid hc
        clear hc hno hb hy
        go_wp2_with fail
        go_roundw
        case rel => exact ⟨k + 1, by go_num, by omega, fun j hj hjk => by
          by_cases hjk2 : j = k
          · subst hjk2; exact HC.out
          · exact HN.out j hj (by omega), HB.out⟩
        case measure => simp [intOf]; omega
    · clear hno hb
      go_wp2_with fail
      go_ret
      exact Says.mk (decide_eq_false (HNO.out k HN.out (by omega))).symm HB.out

/-- the places of both -/
def orB (xs ys : List Bool) (k : Nat) : List Bool := (List.range k).map (fun i => xs[i]?.getD false || ys[i]?.getD false)

set_option maxHeartbeats 2000000 in
theorem either_any (w : World) (u v : Value) (xs ys : List Bool) (hl : xs.length = ys.length) (hn : xs.length ≤ 100000) (hu : Bools w u xs) (hv : Bools w v ys) :
    Calls Try.prog 36 #[u, v] w fun e w' => ∃ v', e = .returned v' ∧ Bools w' v' (orB xs ys xs.length) ∧ Below w.heap.size w w' := by
  obtain ⟨p1, c1, rfl, hc1, hx1⟩ := hu.get
  obtain ⟨p2, c2, rfl, hc2, hx2⟩ := hv.get
  have HX1 := Lib.hid hx1
  have HX2 := Lib.hid hx2
  have HL := Lib.hid hl
  have hys : ys.length ≤ 100000 := by omega
  clear hx1 hx2 hu hv
  go_enter Try.func36, Try.ntmps36
  go_wp2_with fail
  go_loopw [5, 6] (fun t i wr => ∃ k : Nat, i = .int .i64 k ∧ k ≤ xs.length ∧ OwnL boolE 4 1 w.heap.size wr t (orB xs ys k) ∧ Below w.heap.size w wr) (fun _ i _ => xs.length - (intOf i).toNat)
  case atStart => exact ⟨0, rfl, by omega, OwnL.nil _, Below.refl _ _⟩
  case round =>
    obtain ⟨k, rfl, h1, hown, hb⟩ := hrel
    have HOWN := Lib.hid hown
    have HB := Lib.hid hb
    by_cases hk : k < xs.length
    · have hk2 : k < ys.length := by omega
      obtain ⟨b1, o1, rfl, hl1, hy1⟩ := HX1.out (by omega)
      obtain ⟨b2, o2, rfl, hl2, hy2⟩ := HX2.out (by omega)
      have y1 := cell_below hb hl1 (hy1 k hk)
      have y2 := cell_below hb hl2 (hy2 k hk2)
      have HST := Lib.hid (show orB xs ys (k + 1) = orB xs ys k ++ [xs[k] || ys[k]] by unfold orB; rw [List.range_succ, List.map_append]; simp [hk, hk2])
      have HLO := Lib.hid (show (orB xs ys k).length = k by simp [orB])
      generalize xs[k] = xk at *
      generalize ys[k] = yk at *
      have hk2i : (k : Int) < ys.length := by omega
      clear hl hown hy1 hy2
      rcases Bool.eq_false_or_eq_true xk with hxk | hxk <;> rcases Bool.eq_false_or_eq_true yk with hyk | hyk
      · subst hxk hyk
        have ha := below_alloc1 wr (.cells #[.bool true] 4)
        have HA := Lib.hid ha
        have HO2 := Lib.hid (HOWN.out.below ha (Nat.le_refl _))
        have HRD := Lib.hid (ReadL.one (E := boolE) (sz := 1) wr 4 true [.bool true] (by simp [Value.oneCell']) rfl)
        have HSZ := Lib.hid (Nat.le_trans hb.size ha.size)
        have HLEN := Lib.hid (show (orB xs ys k).length + [true].length ≤ 1000000 by rw [HLO.out]; simp; omega)
        clear ha hb
        go_wp2_with (at_builtin; refine wpList_append_bools rfl (.tmp 13) (.tmp 24) rfl u5 (orB xs ys k) rfl HO2.out _ [true] rfl HRD.out HLEN.out HSZ.out ?_)
        intro p5 c5 w5 hown hg _
        have HB5 := Lib.hid ((HB.out.trans (HA.out.mono HB.out.size)).grown hg HSZ.out (fun k hk => (HO2.out.lt k hk).1))
        have HOW5 := Lib.hid hown
        clear hown hg y1 y2
        go_wp2_with fail
        go_roundw
        case rel => exact ⟨k + 1, by go_num, by omega, by rw [HST.out]; exact HOW5.out, HB5.out⟩
        case measure => simp [intOf]; omega
      · subst hxk hyk
        have ha := below_alloc1 wr (.cells #[.bool true] 4)
        have HA := Lib.hid ha
        have HO2 := Lib.hid (HOWN.out.below ha (Nat.le_refl _))
        have HRD := Lib.hid (ReadL.one (E := boolE) (sz := 1) wr 4 true [.bool true] (by simp [Value.oneCell']) rfl)
        have HSZ := Lib.hid (Nat.le_trans hb.size ha.size)
        have HLEN := Lib.hid (show (orB xs ys k).length + [true].length ≤ 1000000 by rw [HLO.out]; simp; omega)
        clear ha hb
        go_wp2_with (at_builtin; refine wpList_append_bools rfl (.tmp 13) (.tmp 24) rfl u5 (orB xs ys k) rfl HO2.out _ [true] rfl HRD.out HLEN.out HSZ.out ?_)
        intro p5 c5 w5 hown hg _
        have HB5 := Lib.hid ((HB.out.trans (HA.out.mono HB.out.size)).grown hg HSZ.out (fun k hk => (HO2.out.lt k hk).1))
        have HOW5 := Lib.hid hown
        clear hown hg y1 y2
        go_wp2_with fail
        go_roundw
        case rel => exact ⟨k + 1, by go_num, by omega, by rw [HST.out]; exact HOW5.out, HB5.out⟩
        case measure => simp [intOf]; omega
      · subst hxk hyk
        have ha := below_alloc1 wr (.cells #[.bool true] 4)
        have HA := Lib.hid ha
        have HO2 := Lib.hid (HOWN.out.below ha (Nat.le_refl _))
        have HRD := Lib.hid (ReadL.one (E := boolE) (sz := 1) wr 4 true [.bool true] (by simp [Value.oneCell']) rfl)
        have HSZ := Lib.hid (Nat.le_trans hb.size ha.size)
        have HLEN := Lib.hid (show (orB xs ys k).length + [true].length ≤ 1000000 by rw [HLO.out]; simp; omega)
        clear ha hb
        go_wp2_with (at_builtin; refine wpList_append_bools rfl (.tmp 13) (.tmp 24) rfl u5 (orB xs ys k) rfl HO2.out _ [true] rfl HRD.out HLEN.out HSZ.out ?_)
        intro p5 c5 w5 hown hg _
        have HB5 := Lib.hid ((HB.out.trans (HA.out.mono HB.out.size)).grown hg HSZ.out (fun k hk => (HO2.out.lt k hk).1))
        have HOW5 := Lib.hid hown
        clear hown hg y1 y2
        go_wp2_with fail
        go_roundw
        case rel => exact ⟨k + 1, by go_num, by omega, by rw [HST.out]; exact HOW5.out, HB5.out⟩
        case measure => simp [intOf]; omega
      · subst hxk hyk
        have ha := below_alloc1 wr (.cells #[.bool false] 4)
        have HA := Lib.hid ha
        have HO2 := Lib.hid (HOWN.out.below ha (Nat.le_refl _))
        have HRD := Lib.hid (ReadL.one (E := boolE) (sz := 1) wr 4 false [.bool false] (by simp [Value.oneCell']) rfl)
        have HSZ := Lib.hid (Nat.le_trans hb.size ha.size)
        have HLEN := Lib.hid (show (orB xs ys k).length + [false].length ≤ 1000000 by rw [HLO.out]; simp; omega)
        clear ha hb
        go_wp2_with (at_builtin; refine wpList_append_bools rfl (.tmp 13) (.tmp 24) rfl u5 (orB xs ys k) rfl HO2.out _ [false] rfl HRD.out HLEN.out HSZ.out ?_)
        intro p5 c5 w5 hown hg _
        have HB5 := Lib.hid ((HB.out.trans (HA.out.mono HB.out.size)).grown hg HSZ.out (fun k hk => (HO2.out.lt k hk).1))
        have HOW5 := Lib.hid hown
        clear hown hg y1 y2
        go_wp2_with fail
        go_roundw
        case rel => exact ⟨k + 1, by go_num, by omega, by rw [HST.out]; exact HOW5.out, HB5.out⟩
        case measure => simp [intOf]; omega
    · obtain ⟨p, c, rfl⟩ := hown.form
      have hke : k = xs.length := by omega
      have HKE := Lib.hid hke
      clear hown hb hl hke
      go_wp2_with fail
      go_ret
      exact ⟨_, rfl, by rw [← HKE.out]; exact HOWN.out.read.bools, HB.out⟩
end Go.Proofs.Ytphgjppeindbaaa
