import Derived.Test.YthmaokjhncokdaaSX
import Derived.Test.YthmaokjhncokdaaSL
import Derived.Test.YthmaokjhncokdaaBF
/-
  The reference of layer 10: Boundaries, Next, Prev. No condition beyond what each theorem names.
-/
set_option linter.unusedVariables false
set_option linter.unusedSimpArgs false
namespace Go.Proofs.Ythmaokjhncokdaa
open Go.RowKit Classical

theorem fits_left (r : Rl) (t : List Int) {p : Nat} (hp : p ≤ t.length) : fitsE r.left r.start (t.take p) = true ↔ ∃ a, M t r.left a p ∧ (r.start = true → a = 0) := by
  cases hs : r.start
  · rw [fits_suffix hp]
    exact ⟨fun ⟨a, _, h⟩ => ⟨a, h, fun h => by cases h⟩, fun ⟨a, h, _⟩ => ⟨a, Nat.le_trans (M_le h) hp, h⟩⟩
  · have e1 : fitsE r.left true (t.take p) = fitB r.left (t.take p) := by unfold fitsE; rw [if_pos rfl]
    rw [e1, fit_take hp]
    exact ⟨fun h => ⟨0, h, fun _ => rfl⟩, fun ⟨a, h, h0⟩ => by rw [h0 rfl] at h; exact h⟩
theorem fits_right (x : Nd) (t : List Int) {p : Nat} (hp : p ≤ t.length) : fitsE (revX x) false (t.drop p).reverse = true ↔ ∃ b, b ≤ t.length ∧ M t x p b := by
  have key : ∀ q, p + q ≤ t.length → (fitB x ((t.drop p).take q) = true ↔ M t x p (p + q)) := fun q hq => by
    have e : (t.drop p).take q = (t.take (p + q)).drop p := by rw [List.drop_take, Nat.add_sub_cancel_left]
    rw [e, fit_drop (by rw [List.length_take]; omega)]
    have hl : (t.take (p + q)).length = p + q := by rw [List.length_take]; omega
    rw [hl, M_take hq]
  unfold fitsE
  rw [if_neg (by simp), decide_eq_true_iff, List.length_reverse, List.length_drop]
  constructor
  · rintro ⟨k, hk, h⟩
    rw [List.drop_reverse, fit_rev, List.length_drop] at h
    exact ⟨p + (t.length - p - k), by omega, (key _ (by omega)).1 h⟩
  · rintro ⟨b, hb, h⟩
    have hpb := M_le h
    refine ⟨t.length - b, by omega, ?_⟩
    rw [List.drop_reverse, fit_rev, List.length_drop]
    refine (key _ (by omega)).2 ?_
    rw [show p + (t.length - p - (t.length - b)) = b by omega]
    exact h
theorem fits_rule (r : Rl) (t : List Int) {p : Nat} (hp : p ≤ t.length) : fitsB r t (p : Nat) = ruleB t p r := by
  rw [Bool.eq_iff_iff, fitsB_iff]
  unfold ruleB FitsAt
  rw [Bool.and_eq_true, fits_left r t hp, fits_right r.right t hp, Int.toNat_natCast]
  exact ⟨fun ⟨_, _, h1, h2⟩ => ⟨h1, h2⟩, fun ⟨h1, h2⟩ => ⟨by omega, by omega, h1, h2⟩⟩
theorem bnds_seg (rs : List Rl) (t : List Int) : bnds rs t = segL rs t := by
  unfold bnds segL
  refine List.map_congr_left fun p hp => ?_
  have hp : p ≤ t.length := by have := List.mem_range.1 hp; omega
  unfold bndB segAt saysB
  have e : (fun r => fitsB r t (p : Nat)) = ruleB t p := by funext r; exact fits_rule r t hp
  rw [e]
  have h0 : (p == 0) = decide (p = 0) := by rw [Bool.eq_iff_iff]; simp
  have h1 : (p == t.length) = decide (p = t.length) := by rw [Bool.eq_iff_iff]; simp
  rw [h0, h1, Bool.or_assoc]
  cases rs.find? (ruleB t p) <;> rfl

theorem nextF_eq {bs : List Bool} {a d j : Nat} (hj : tr bs j) (ha : a < j) (hno : ∀ i, a < i → i < j → ¬ tr bs i) : nextF (truesL bs) (a : Nat) d = j := by
  rcases nextF_spec bs (a : Nat) d with ⟨h1, h2, h3⟩ | ⟨h1, h2⟩
  · rcases Nat.lt_trichotomy (nextF (truesL bs) (a : Nat) d) j with h | h | h
    · exact absurd h1 (hno _ (by omega) h)
    · exact h
    · exact absurd hj (h3 j (by omega) h)
  · exact absurd hj (h2 j (by omega))
theorem nextF_no {bs : List Bool} {a d : Nat} (hno : ∀ i, a < i → ¬ tr bs i) : nextF (truesL bs) (a : Nat) d = d := by
  rcases nextF_spec bs (a : Nat) d with ⟨h1, h2, h3⟩ | ⟨h1, h2⟩
  · exact absurd h1 (hno _ (by omega))
  · exact h1
theorem prevF_eq {bs : List Bool} {a j : Nat} (hj : tr bs j) (ha : j < a) (hno : ∀ i, j < i → i < a → ¬ tr bs i) : prevF (truesL bs) (a : Nat) = j := by
  rcases prevF_spec bs (a : Nat) with ⟨h1, h2, h3⟩ | ⟨h1, h2⟩
  · rcases Nat.lt_trichotomy (prevF (truesL bs) (a : Nat)) j with h | h | h
    · exact absurd hj (h3 j (by omega) h)
    · exact h
    · exact absurd h1 (hno _ h (by omega))
  · exact absurd hj (h2 j (by omega))
theorem prevF_no {bs : List Bool} {a : Nat} (hno : ∀ i, 0 < i → i < a → ¬ tr bs i) : prevF (truesL bs) (a : Nat) = 0 := by
  rcases prevF_spec bs (a : Nat) with ⟨h1, h2, h3⟩ | ⟨h1, h2⟩
  · by_cases h0 : prevF (truesL bs) (a : Nat) = 0
    · exact h0
    · exact absurd h1 (hno _ (by omega) (by omega))
  · exact h1

set_option maxHeartbeats 4000000 in
theorem refNext_any (w : World) (v : Value) (bs : List Bool) (nr a : Nat) (hv : Bools w v bs) (hl : bs.length = nr + 1) (hn : nr ≤ 1000000) (ha : a ≤ nr) :
    Calls Try.prog 33 #[v, .int .i64 (a : Nat)] w fun e w' => e = .returned (.int .i64 (nextF (truesL bs) (a : Nat) nr : Nat)) ∧ Below w.heap.size w w' := by
  obtain ⟨p, c, rfl, hc, hx⟩ := hv.get
  have HX := Lib.hid hx
  have HL := Lib.hid hl
  rw [hl] at hc ⊢
  clear hx hv hl
  go_enter Try.func33, Try.ntmps33
  go_wp2_with fail
  go_loopw [5] (fun i wz => ∃ j : Nat, i = .int .i64 j ∧ a < j ∧ j ≤ nr + 1 ∧ (∀ q, a < q → q < j → ¬ tr bs q) ∧ wz = w) (fun i _ => nr + 1 - (intOf i).toNat)
  case atStart => exact ⟨a + 1, by go_num, by omega, by omega, fun q h1 h2 => by omega, rfl⟩
  case round =>
    obtain ⟨j, rfl, hj1, hj2, hno, rfl⟩ := hrel
    have HNO := Lib.hid hno
    clear hno
    by_cases hjn : j < nr + 1
    · have hji : (j : Int) < (nr : Int) + 1 := by omega
      have hj0 : (0 : Int) ≤ j := by omega
      have hjl : j < bs.length := by rw [HL.out]; exact hjn
      obtain ⟨b, off, rfl, hb, hxc⟩ := HX.out (by omega)
      have d0 := hxc j hjl
      have HTR := Lib.hid (show tr bs j ↔ bs[j] = true from tr_get hjl)
      generalize bs[j] = cur at *
      clear hxc hb hjl
      cases cur
      · go_wp2_with fail
        go_roundw
        case rel => exact ⟨j + 1, by go_num, by omega, by omega, fun q h1 h2 => by
          by_cases e : q = j
          · subst e; intro h; exact absurd (HTR.out.1 h) (by simp)
          · exact HNO.out q h1 (by omega), by first | rfl | trivial⟩
        case measure => simp [intOf]; omega
      · have HR := Lib.hid (nextF_eq (d := nr) (HTR.out.2 rfl) hj1 HNO.out)
        go_wp2_with fail
        go_ret
        exact ⟨ret_val (by rw [HR.out]; rfl), Below.refl _ _⟩
    · have hji : ¬ (j : Int) < (nr : Int) + 1 := by omega
      have HR := Lib.hid (nextF_no (bs := bs) (a := a) (d := nr) (fun i h1 h2 => by
        by_cases e : i < j
        · exact HNO.out i h1 e h2
        · have := (List.getElem?_eq_some_iff.1 h2).1
          rw [HL.out] at this
          omega))
      go_wp2_with fail
      go_ret
      exact ⟨ret_val (by rw [HR.out]; rfl), Below.refl _ _⟩

set_option maxHeartbeats 4000000 in
theorem refPrev_any (w : World) (v : Value) (bs : List Bool) (nr a : Nat) (hv : Bools w v bs) (hl : bs.length = nr + 1) (hn : nr ≤ 1000000) (ha : a ≤ nr) :
    Calls Try.prog 34 #[v, .int .i64 (a : Nat)] w fun e w' => e = .returned (.int .i64 (prevF (truesL bs) (a : Nat) : Nat)) ∧ Below w.heap.size w w' := by
  obtain ⟨p, c, rfl, hc, hx⟩ := hv.get
  have HX := Lib.hid hx
  have HL := Lib.hid hl
  rw [hl] at hc ⊢
  clear hx hv hl
  go_enter Try.func34, Try.ntmps34
  go_wp2_with fail
  go_loopw [5] (fun i wz => ∃ j : Int, i = .int .i64 j ∧ -1 ≤ j ∧ j < a ∧ (∀ q : Nat, j < (q : Int) → 0 < q → q < a → ¬ tr bs q) ∧ wz = w) (fun i _ => (intOf i + 1).toNat)
  case atStart => exact ⟨(a : Int) - 1, by go_num, by omega, by omega, fun q h1 h2 h3 => by omega, rfl⟩
  case round =>
    obtain ⟨j, rfl, hj1, hj2, hno, rfl⟩ := hrel
    have HNO := Lib.hid hno
    clear hno
    by_cases hjn : 0 < j
    · obtain ⟨j, rfl⟩ : ∃ q : Nat, j = q := ⟨j.toNat, by omega⟩
      have hj0 : (0 : Int) ≤ j := by omega
      have hjn1 : (j : Int) < (nr : Int) + 1 := by omega
      have hjl : j < bs.length := by rw [HL.out]; omega
      obtain ⟨b, off, rfl, hb, hxc⟩ := HX.out (by omega)
      have d0 := hxc j hjl
      have HTR := Lib.hid (show tr bs j ↔ bs[j] = true from tr_get hjl)
      generalize bs[j] = cur at *
      clear hxc hb hjl
      cases cur
      · go_wp2_with fail
        go_roundw
        case rel => exact ⟨(j : Int) - 1, by go_num, by omega, by omega, fun q h1 h2 h3 => by
          by_cases e : q = j
          · subst e; intro h; exact absurd (HTR.out.1 h) (by simp)
          · exact HNO.out q (by omega) h2 h3, by first | rfl | trivial⟩
        case measure => (simp [intOf]; try omega)
      · have HR := Lib.hid (prevF_eq (HTR.out.2 rfl) (by omega : j < a) (fun i h1 h2 => HNO.out i (by omega) (by omega) h2))
        go_wp2_with fail
        go_ret
        exact ⟨ret_val (by rw [HR.out]; rfl), Below.refl _ _⟩
    · have HR := Lib.hid (prevF_no (bs := bs) (a := a) (fun i h1 h2 => HNO.out i (by omega) h1 h2))
      go_wp2_with fail
      go_ret
      exact ⟨ret_val (by rw [HR.out]; rfl), Below.refl _ _⟩

set_option maxRecDepth 100000 in
set_option maxHeartbeats 4000000 in
theorem ref10_any (w : World) (pc : Option Addr) (n cc : Nat) (rv v : Value) (rs : List Rl) (row : List Int) (hl : row.length ≤ 50000) (hr : rs.length ≤ 1000000) (hrs : Rules w rv rs) (hv : Ints w v row) :
    Calls Try.prog 28 #[.agg #[.slice pc n cc, rv], v] w fun e w' => Below w.heap.size w w' ∧
      ((RowOk n row ∧ ∃ v', e = .returned (.tuple #[v', .bool true]) ∧ Bools w' v' (segL rs row)) ∨ (¬ RowOk n row ∧ e = .returned (.tuple #[.slice none 0 0, .bool false]))) := by
  obtain ⟨pr, cr, rfl, -, -⟩ := hrs.get
  obtain ⟨p, c, rfl, hc, hx⟩ := hv.get
  obtain ⟨nr, hnr⟩ : ∃ nr, nr = row.length := ⟨_, rfl⟩
  have HX := Lib.hid hx
  have HV := Lib.hid hv
  have HRS := Lib.hid hrs
  have HNR := Lib.hid hnr
  rw [← hnr] at hl hc ⊢
  clear hx hv hrs hnr
  go_enter Try.func28, Try.ntmps28
  go_upto_region 1 with fail
  refine abs_wp fun W hW => ?_
  obtain ⟨B, hB⟩ : ∃ B, B = w.heap.size := ⟨_, rfl⟩
  rw [← hB]
  have HBX := Lib.hid (show W.heap[B]? = some (.cells #[.slice pc n cc, .slice pr rs.length cr] 25) by rw [hW, hB]; exact heap_alloc_new _ _)
  have HBW := Lib.hid (show Below w.heap.size w W by rw [hW]; exact below_alloc1 _ _)
  clear hW hB
  go_wp2_with fail
  go_loopw [6] (fun i wz => ∃ j : Nat, i = .int .i64 j ∧ j ≤ nr ∧ (∀ x ∈ row.take j, 0 ≤ x ∧ x < n) ∧ Below W.heap.size W wz) (fun i _ => nr - (intOf i).toNat)
  case atStart => exact ⟨0, rfl, by omega, by simp, Below.refl _ _⟩
  case round =>
    obtain ⟨j, rfl, hj, hok, hb⟩ := hrel
    have HB := Lib.hid hb
    have HOK := Lib.hid hok
    obtain ⟨x0, x1⟩ := cells2 ((hb.block _ (at_lt HBX.out)).trans HBX.out)
    by_cases hjn : j < nr
    · have hji : (j : Int) < (nr : Int) := by omega
      have hj0 : (0 : Int) ≤ j := by omega
      have hjl : j < row.length := by rw [← HNR.out]; exact hjn
      obtain ⟨b, off, rfl, hbl, hxc⟩ := HX.out (by omega)
      obtain ⟨x, hxe⟩ : ∃ x, x = row[j] := ⟨_, rfl⟩
      have d0 := cell_below (HBW.out.trans (hb.mono HBW.out.size)) hbl (hxc j hjl)
      rw [← hxe] at d0
      have HXE := Lib.hid (show row.take (j + 1) = row.take j ++ [x] from by rw [List.take_succ_eq_append_getElem hjl, hxe])
      have HXM := Lib.hid (show x ∈ row from by rw [hxe]; exact List.getElem_mem hjl)
      have HDN := Lib.hid (show ∀ k, Below W.heap.size W (wr.drewN k) from fun k => ⟨hb.os, hb.tape, hb.output, hb.size, hb.block⟩)
      clear hb hok hxc hbl hxe hjl
      by_cases g1 : x < 0
      · have HNO := Lib.hid (show ¬ RowOk n row from fun h => by have := (h x HXM.out).1; omega)
        go_upto_region 4 with fail
        go_quiet (fail)
        go_wp2_with fail
        go_ret2
        exact ⟨HBW.out.trans ((HDN.out _).mono HBW.out.size), .inr ⟨HNO.out, rfl⟩⟩
      · have g3 : 0 ≤ x := by omega
        by_cases g2 : (n : Int) ≤ x
        · have HNO := Lib.hid (show ¬ RowOk n row from fun h => by have := (h x HXM.out).2; omega)
          go_upto_region 4 with fail
          go_quiet (fail)
          go_wp2_with fail
          go_ret2
          exact ⟨HBW.out.trans ((HDN.out _).mono HBW.out.size), .inr ⟨HNO.out, rfl⟩⟩
        · have g4 : x < (n : Int) := by omega
          have HOKN := Lib.hid (show ∀ y ∈ row.take (j + 1), 0 ≤ y ∧ y < n from fun y hy => by
            rw [HXE.out] at hy
            rcases List.mem_append.1 hy with hy | hy
            · exact HOK.out y hy
            · rw [List.mem_singleton.1 hy]; exact ⟨g3, g4⟩)
          go_upto_region 4 with fail
          go_quiet (fail)
          go_wp2_with fail
          exact ⟨⟨j + 1, by go_num, by omega, HOKN.out, HDN.out _⟩, by simp [intOf]; omega⟩
    · have hji : ¬ (j : Int) < (nr : Int) := by omega
      have HRO := Lib.hid (show RowOk n row from fun c hc => hok c (by rw [List.take_of_length_le (by rw [← HNR.out]; omega)]; exact hc))
      have HWB := Lib.hid (HBW.out.trans (hb.mono HBW.out.size))
      have HRB := Lib.hid (refBounds_any wr (.slice pr rs.length cr) (.slice p nr c) rs row (by rw [← HNR.out]; exact hl) hr (by have := HV.out.to HWB.out (Nat.le_refl _); rwa [← HNR.out] at this) (HRS.out.to HWB.out (Nat.le_refl _)))
      clear hb hok
      go_wp2_with fail
      refine HRB.out.mono ?_
      rintro e w2 ⟨v2, rfl, hv2, hb2⟩
      rw [bnds_seg] at hv2
      have HV2 := Lib.hid hv2
      have HB2 := Lib.hid (HWB.out.trans (hb2.mono HWB.out.size))
      obtain ⟨p2, c2, rfl, hc2, -⟩ := hv2.get
      rw [segL_length] at HV2 ⊢
      clear hv2 hb2 hc2 x0 x1 HRB
      go_wp2_with fail
      go_ret2
      exact ⟨HB2.out, .inl ⟨HRO.out, _, rfl, HV2.out⟩⟩
end Go.Proofs.Ythmaokjhncokdaa

