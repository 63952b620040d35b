/-
  ReadingSame ends true. No condition beyond what each theorem names.
-/
import Derived.Test.YtphgjppeindbaaaW
set_option linter.unusedVariables false
set_option linter.unusedSimpArgs false
namespace Go.Proofs.Ytphgjppeindbaaa
open Go.RowKit

/-- the first classes, each one above 3 made another one above 3 -/
def alikeTo (s u : List Int) (k : Nat) : Prop := u.length = k ∧ ∀ i (h : i < s.length) (h' : i < u.length), (s[i] ≤ 3 → u[i] = s[i]) ∧ (3 < s[i] → 3 < u[i])
theorem alikeTo_step {s u : List Int} {k : Nat} (h : alikeTo s u k) (hk : k < s.length) {c : Int} (h1 : s[k] ≤ 3 → c = s[k]) (h2 : 3 < s[k] → 3 < c) : alikeTo s (u ++ [c]) (k + 1) := by
  refine ⟨by simp [h.1], fun i hi hi' => ?_⟩
  by_cases hj : i < u.length
  · rw [List.getElem_append_left hj]
    exact h.2 i hi hj
  · obtain rfl : i = k := by simp [h.1] at hi' hj; omega
    rw [List.getElem_append_right (by omega)]
    simp only [h.1, Nat.sub_self, List.getElem_singleton]
    exact ⟨h1, h2⟩

set_option maxRecDepth 100000 in
set_option maxHeartbeats 8000000 in
theorem same_law (w : World) (v tv : Value) (rs : List Rl) (t : List Int) (n : Int) (hr : rs.length ≤ 9223372036854775807) (hn : t.length ≤ 9223372036854775807) (hv : Rules w v rs) (ht : Ints w tv t) :
    Calls Try.prog 10 #[v, tv, .int .i64 n] w (Says true w) := by
  have HV := Lib.hid hv
  have HT := Lib.hid ht
  obtain ⟨pv0, cv0, hv0, -⟩ := hv.get
  obtain ⟨pt0, ct0, ht0, -⟩ := ht.get
  subst hv0 ht0
  clear hv ht
  go_enter Try.func10, Try.ntmps10
  go_wp2_with fail
  refine (shown_any w).mono ?_
  rintro e w1 ⟨rfl, hb1⟩
  have HF := Lib.hid (few_any w1 _ _ rs t hr hn (HT.out.to hb1 (Nat.le_refl _)) (HV.out.to hb1 (Nat.le_refl _)))
  have HB1 := Lib.hid hb1
  clear hb1
  go_wp2_with fail
  refine HF.out.mono ?_
  rintro e w2 ⟨v1, v2, rfl, ho1, ho2, hb2⟩
  have HB2 := Lib.hid (HB1.out.trans (hb2.mono HB1.out.size))
  have hRL := (ho1.read.rules hb2)
  have hIN := ho2.read.ints
  have hl10 := fewR_len rs
  have hs16 : (t.take 16).length ≤ 16 := by simp; omega
  generalize fewR rs = l at *
  generalize t.take 16 = s at *
  obtain ⟨p1, c1, rfl, hc1, hx1⟩ := hRL.get
  obtain ⟨p2, c2, rfl, hc2, hx2⟩ := hIN.get
  have HRL := Lib.hid hRL
  have HIN := Lib.hid hIN
  have HX1 := Lib.hid hx1
  have HX2 := Lib.hid hx2
  clear ho1 ho2 hb2 hRL hIN hx1 hx2 HF
  go_wp2_with fail
  go_loopw [8] (fun i wr => ∃ k : Nat, i = .int .i64 k ∧ k ≤ l.length ∧ (∀ j (h : j < l.length), j < k → smallR l[j] = true) ∧ Below w2.heap.size w2 wr) (fun i _ => l.length - (intOf i).toNat)
  case atStart => exact ⟨0, rfl, by omega, fun _ _ h => absurd h (Nat.not_lt_zero _), Below.refl _ _⟩
  case round =>
    obtain ⟨k, rfl, h1, hsm, hb⟩ := hrel
    have HB := Lib.hid hb
    have HSM := Lib.hid hsm
    have hsz := hb.size
    have HBW := Lib.hid (HB2.out.trans (hb.mono HB2.out.size))
    clear hsm
    by_cases hk : k < l.length
    · obtain ⟨bb, off, rfl, hbl, hxx⟩ := HX1.out (by omega)
      obtain ⟨row, hrow, hri⟩ := hxx k hk
      obtain ⟨a, b, c, d, e, f, rfl, hxl, hxr⟩ := hri
      have HXL := Lib.hid (large_any l[k].left wr a b c (hxl.to hb (Nat.le_refl _)))
      have HXR := Lib.hid (fun (W : World) (hb : Below w2.heap.size w2 W) => large_any l[k].right W d e f (hxr.to hb (Nat.le_refl _)))
      have HROW := Lib.hid hrow
      have HST := Lib.hid (no_step (q := fun r => !smallR r) (l := l) (k := k) (fun j hj h => by simp [HSM.out j hj h]) hk)
      have HSR := Lib.hid (show smallR l[k] = !(anyC gt3 l[k].left || anyC gt3 l[k].right) from rfl)
      generalize smallR l[k] = sk at *
      have k0 := cell_below hb hbl (hrow 0 _ rfl)
      have k1 := cell_below hb hbl (hrow 1 _ rfl)
      have k2 := cell_below hb hbl (hrow 2 _ rfl)
      clear hxx hrow hxl hxr hb
      simp only [Nat.add_zero] at k0
      go_wp2_with fail
      refine HXL.out.mono ?_
      rintro e w3 ⟨rfl, hb3⟩
      have HB3 := Lib.hid (HB.out.trans (hb3.mono hsz))
      have HBW3 := Lib.hid (HBW.out.trans (hb3.mono HBW.out.size))
      clear hb3 k0 k1 k2
      cases ha : anyC gt3 l[k].left
      · have HA := Lib.hid ha
        have k3 := cell_below HB3.out hbl (HROW.out 3 _ rfl)
        have k4 := cell_below HB3.out hbl (HROW.out 4 _ rfl)
        have k5 := cell_below HB3.out hbl (HROW.out 5 _ rfl)
        have HXR3 := Lib.hid (HXR.out _ HB3.out)
        clear ha
        go_wp2_with fail
        refine HXR3.out.mono ?_
        rintro e w4 ⟨rfl, hb4⟩
        have HB4 := Lib.hid (HB3.out.trans (hb4.mono HB3.out.size))
        have HBW4 := Lib.hid (HBW3.out.trans (hb4.mono HBW3.out.size))
        clear hb4 k3 k4 k5
        cases hb : anyC gt3 l[k].right
        · have HC := Lib.hid hb
          clear hb
          go_wp2_with fail
          go_roundw
          case rel => exact ⟨k + 1, by go_num, by omega, fun j hj h => by
            by_cases hjk : j = k
            · subst hjk
              show (!(anyC gt3 l[j].left || anyC gt3 l[j].right)) = true
              rw [HA.out, HC.out]; rfl
            · exact HSM.out j hj (by omega), HB4.out⟩
          case measure => simp [intOf]; omega
        · clear hb
          go_wp2_with fail
          go_ret
          exact Says.mk rfl HBW4.out
      · clear ha
        go_wp2_with fail
        go_ret
        exact Says.mk rfl HBW3.out
    · have HALL := Lib.hid (show ∀ r ∈ l, smallR r = true from fun r hr => by
        obtain ⟨j, hj, rfl⟩ := List.getElem_of_mem hr
        exact HSM.out j hj (by omega))
      have HINR := Lib.hid (HIN.out.to hb (Nat.le_refl _))
      have HRLR := Lib.hid (HRL.out.to hb (Nat.le_refl _))
      have HBIT := Lib.hid (bits_and_le n 255 (by omega))
      clear hb
      go_wp2_with fail
      go_loopw [9, 10] (fun u i wz => ∃ (m : Nat) (ys : List Int), i = .int .i64 m ∧ m ≤ s.length ∧ alikeTo s ys m ∧ OwnL intE 3 1 wr.heap.size wz u ys ∧ Below wr.heap.size wr wz) (fun _ i _ => s.length - (intOf i).toNat)
      case atStart => exact ⟨0, [], rfl, by omega, ⟨rfl, fun i _ h => by simp at h⟩, OwnL.nil _, Below.refl _ _⟩
      case round =>
        obtain ⟨m, ys, rfl, h2, hal, hown, hb2⟩ := hrel
        have HB2R := Lib.hid hb2
        have HOWN := Lib.hid hown
        have HAL := Lib.hid hal
        have hyl : ys.length = m := hal.1
        clear hal
        by_cases hk2 : m < s.length
        · obtain ⟨bi, oi, rfl, hbi, hyi⟩ := HX2.out (by omega)
          have y0 := cell_below (HB.out.trans (hb2.mono hsz)) hbi (hyi m hk2)
          clear hyi hb2 hown
          by_cases h3 : s[m] ≤ 3
          · have h3' : ¬ s[m] > 3 := by omega
            have ha := below_alloc1 wr (.cells #[.int .i64 (s[m])] 3)
            have HA := Lib.hid ha
            have HO2 := Lib.hid (HOWN.out.below ha (Nat.le_refl _))
            have HRD := Lib.hid (ReadL.one (E := intE) (sz := 1) wr 3 (s[m]) [.int .i64 (s[m])] (by simp [Value.oneCell']) rfl)
            have HSTEP := Lib.hid (alikeTo_step HAL.out hk2 (c := s[m]) (fun _ => rfl) (fun h => by omega))
            have HYL := Lib.hid hyl
            have hbz := HB2R.out.size
            have HSZ := Lib.hid (Nat.le_trans hbz ha.size)
            clear ha hyl hbz
            go_wp2_with (at_builtin; refine wpList_append_ints rfl (.tmp 57) (.tmp 59) rfl _ ys rfl HO2.out _ [s[m]] rfl HRD.out (by have := HYL.out; simp; omega) HSZ.out ?_)
            intro p5 c5 w5 hown hg _
            have hb5 := (HB2R.out.trans (HA.out.mono HB2R.out.size)).grown hg HSZ.out (fun k hk => (HO2.out.lt k hk).1)
            have HOW5 := Lib.hid hown
            have HB5 := Lib.hid hb5
            clear hown hg hb5 y0
            go_wp2_with fail
            go_roundw
            case rel => exact ⟨m + 1, ys ++ [s[m]], by go_num, by omega, HSTEP.out, HOW5.out, HB5.out⟩
            case measure => simp [intOf]; omega
          · have h3' : s[m] > 3 := by omega
            have hbit : 0 ≤ bits .and .i64 n 255 ∧ bits .and .i64 n 255 ≤ 255 := HBIT.out
            obtain ⟨q, hq⟩ : ∃ q, q = bits .and .i64 n 255 := ⟨_, rfl⟩
            have ha := below_alloc1 wr (.cells #[.int .i64 (4 + bits .and .i64 n 255 + (m : Int))] 3)
            have HA := Lib.hid ha
            have HO2 := Lib.hid (HOWN.out.below ha (Nat.le_refl _))
            have HRD := Lib.hid (ReadL.one (E := intE) (sz := 1) wr 3 (4 + bits .and .i64 n 255 + (m : Int)) [.int .i64 (4 + bits .and .i64 n 255 + (m : Int))] (by simp [Value.oneCell']) rfl)
            have HSTEP := Lib.hid (alikeTo_step HAL.out hk2 (c := 4 + bits .and .i64 n 255 + (m : Int)) (fun h => by omega) (fun h => by omega))
            have HYL := Lib.hid hyl
            have hbz := HB2R.out.size
            have HSZ := Lib.hid (Nat.le_trans hbz ha.size)
            obtain ⟨g1, g2⟩ := hbit
            clear ha hyl hbz
            go_wp2_with (at_builtin; refine wpList_append_ints rfl (.tmp 57) (.tmp 59) rfl _ ys rfl HO2.out _ [4 + bits .and .i64 n 255 + (m : Int)] rfl HRD.out (by have := HYL.out; simp; omega) HSZ.out ?_)
            intro p5 c5 w5 hown hg _
            have hb5 := (HB2R.out.trans (HA.out.mono HB2R.out.size)).grown hg HSZ.out (fun k hk => (HO2.out.lt k hk).1)
            have HOW5 := Lib.hid hown
            have HB5 := Lib.hid hb5
            clear hown hg hb5 y0
            go_wp2_with fail
            go_roundw
            case rel => exact ⟨m + 1, ys ++ [4 + bits .and .i64 n 255 + (m : Int)], by go_num, by omega, HSTEP.out, HOW5.out, HB5.out⟩
            case measure => simp [intOf]; omega
        · have HLIKE := Lib.hid (show alike s ys from ⟨by have := HAL.out.1; omega, HAL.out.2⟩)
          have HBB := Lib.hid (HBW.out.trans (hb2.mono HBW.out.size))
          have HI2 := Lib.hid (HINR.out.to hb2 (Nat.le_refl _))
          have HR2 := Lib.hid (HRLR.out.to hb2 (Nat.le_refl _))
          have HOI := Lib.hid (hown.read.ints)
          have HC1 := Lib.hid (bounds_any wr _ _ l s (by omega) (by omega) HI2.out HR2.out)
          have HYL := Lib.hid hyl
          obtain ⟨pu, cu, hu⟩ := hown.form
          subst hu
          clear hb2 hyl hown
          go_wp2_with fail
          refine HC1.out.mono ?_
          rintro e w3 ⟨va, rfl, hba, hb3⟩
          have HC2 := Lib.hid (bounds_any w3 _ _ l ys (by have := HYL.out; omega) (by omega) (HOI.out.to hb3 (Nat.le_refl _)) (HR2.out.to hb3 (Nat.le_refl _)))
          rw [← alike_bnds HLIKE.out HALL.out] at HC2
          have HB3 := Lib.hid (HBB.out.trans (hb3.mono HBB.out.size))
          have HBA := Lib.hid hba
          clear hb3 hba HC1
          go_wp2_with fail
          refine HC2.out.mono ?_
          rintro e w4 ⟨vb, rfl, hbb, hb4⟩
          have HC3 := Lib.hid (same_any w4 va vb (bnds l s) (by rw [bnds_length]; omega) (HBA.out.to hb4 (Nat.le_refl _)) hbb)
          have HB4 := Lib.hid (HB3.out.trans (hb4.mono HB3.out.size))
          clear hb4 hbb
          go_wp2_with fail
          refine HC3.out.mono ?_
          rintro e w5 ⟨rfl, hb5⟩
          have HB5 := Lib.hid (HB4.out.trans (hb5.mono HB4.out.size))
          clear hb5
          go_wp2_with fail
          go_ret
          exact Says.mk rfl HB5.out
end Go.Proofs.Ytphgjppeindbaaa
