/-
  NfaTurned: what is turned round fits what is turned round. No condition beyond what each theorem names.
-/
import Derived.Test.YtodkeiadaodehaaNV
set_option linter.unusedVariables false
set_option linter.unusedSimpArgs false
namespace Go.Proofs.Ytodkeiadaodehaa
open Go.RowKit

theorem back_snoc {row : List Int} {k : Nat} (hk : k < row.length) : (row.drop k).reverse = (row.drop (k + 1)).reverse ++ [row[k]] := by
  rw [List.drop_eq_getElem_cons hk, List.reverse_cons]

set_option maxRecDepth 100000 in
set_option maxHeartbeats 8000000 in
theorem turned_law (w : World) (x : Nd) (a b c : Value) (v : Value) (t : List Int) (hx : NodeIs w x a b c) (hv : Ints w v t) (hn : t.length ≤ 9223372036854775807) :
    Calls Try.prog 8 #[.agg #[a, b, c], v] w (Says true w) := by
  have HX := Lib.hid hx
  obtain ⟨op, pp, l, c1, q, m, d, rfl, rfl, rfl⟩ := hx.form
  obtain ⟨pt, ct, rfl, hct, hxt⟩ := hv.get
  have HV := Lib.hid hv
  clear hx hv hxt
  go_enter Try.func8, Try.ntmps8
  go_upto_region 1 with fail
  refine abs_wp fun W hW => ?_
  obtain ⟨B, hB⟩ : ∃ B, B = w.heap.size := ⟨_, rfl⟩
  have hbox : W.heap[B]? = some (.cells #[.int .i64 op, .slice pp l c1, .slice q m d] 25) := by rw [hW, hB]; exact heap_alloc_new _ _
  have hbe : Below w.heap.size w W := by rw [hW]; exact below_alloc1 _ _
  rw [← hB]
  have HBE := Lib.hid hbe
  have HBOX := Lib.hid hbox
  clear hW hbox hbe hB
  go_wp2_with fail
  refine (shown_any W).mono ?_
  rintro e w1 ⟨rfl, hb1⟩
  have HB1 := Lib.hid (HBE.out.trans (hb1.mono HBE.out.size))
  have HBOX1 := Lib.hid ((hb1.block _ (at_lt HBOX.out)).trans HBOX.out)
  clear hb1
  -- the row, cut
  obtain ⟨row, hrow⟩ : ∃ row, row = t.take 40 := ⟨_, rfl⟩
  have hrl : row.length = min t.length 40 := by rw [hrow, List.length_take, Nat.min_comm]
  go_upto_region 2 with fail
  go_cut [1] (fun rv wx => Ints w rv row ∧ wx = w1)
  case first =>
    cases pt with
    | none =>
      have h0 : t = [] := by
        obtain ⟨p', c', he, -, hx⟩ := HV.out
        injection he with he1 he2 he3
        subst he1
        cases t with
        | nil => rfl
        | cons x r => obtain ⟨b, off, e, -⟩ := hx (by simp); cases e
      subst h0
      have HI := Lib.hid (show Ints w (.slice none 0 ct) row by rw [hrow]; exact HV.out)
      clear hrow hrl
      go_wp2_with fail
      go_meet
      case rel => exact ⟨HI.out, rfl⟩
    | some ad =>
      by_cases h40 : t.length ≤ 40
      · have h41 : ¬ (40 : Int) < t.length := by omega
        have HI := Lib.hid (show Ints w (.slice (some ad) (min (t.length : Int) 40).toNat ct) row by rw [hrow, List.take_of_length_le h40, show (min (t.length : Int) 40).toNat = t.length by omega]; exact HV.out)
        clear hrow hrl
        go_wp2_with fail
        go_meet
        case rel => exact ⟨HI.out, rfl⟩
      · have h41 : (40 : Int) < t.length := by omega
        have HI := Lib.hid (show Ints w (.slice (some ad) (min (t.length : Int) 40).toNat ct) row by rw [hrow, show (min (t.length : Int) 40).toNat = 40 by omega]; exact HV.out.take (by omega))
        clear hrow hrl
        go_wp2_with fail
        go_meet
        case rel => exact ⟨HI.out, rfl⟩
  case rest =>
    obtain ⟨hi, rfl⟩ := hcut
    obtain ⟨pr, cr, rfl, hcr, hxr⟩ := hi.get
    have hr40 : row.length ≤ 40 := by omega
    have HI := Lib.hid hi
    have HXR := Lib.hid hxr
    obtain ⟨x0, x1, x2⟩ := cells3 HBOX1.out
    have HNEW := Lib.hid (new_any x wc _ _ _ (HX.out.to HB1.out (Nat.le_refl _)))
    clear hi hxr hrow hrl
    go_wp2_with fail
    refine HNEW.out.mono ?_
    rintro e w2 ⟨hb2, ⟨hr, mm, -, rfl, hm⟩ | ⟨hr, rfl⟩⟩
    · have hrx := rightB_iff.1 hr
      have HRX := Lib.hid hrx
      have HM := Lib.hid hm
      have HB2 := Lib.hid (HB1.out.trans (hb2.mono HB1.out.size))
      have HBOX2 := Lib.hid ((hb2.block _ (at_lt HBOX1.out)).trans HBOX1.out)
      clear hb2 hm hr hrx x0 x1 x2
      obtain ⟨x0, x1, x2⟩ := cells3 HBOX2.out
      have HREV := Lib.hid (rev_x x w2 _ _ _ (HX.out.to HB2.out (Nat.le_refl _)))
      go_wp2_with fail
      refine HREV.out.mono ?_
      rintro e w3 ⟨a', b', c', rfl, hn3, hb3⟩
      have HM3 := Lib.hid (HM.out.to hb3)
      have HB3 := Lib.hid (HB2.out.trans (hb3.mono HB2.out.size))
      have HNEW2 := Lib.hid (new_ok (revX x) w3 _ _ _ hn3.is (right_rev HRX.out))
      clear hn3 hb3 x0 x1 x2
      go_wp2_with fail
      refine HNEW2.out.mono ?_
      rintro e w4 ⟨m2, rfl, hm2, hb4⟩
      have HM4 := Lib.hid (HM3.out.to hb4)
      have HM42 := Lib.hid hm2
      have HB4 := Lib.hid (HB3.out.trans (hb4.mono HB3.out.size))
      clear hm2 hb4
      go_wp2_with fail
      go_loopw [10, 11] (fun u i wr => ∃ k : Nat, i = .int .i64 ((k : Int) - 1) ∧ k ≤ row.length ∧ OwnL intE 3 1 w4.heap.size wr u (row.drop k).reverse ∧ Below w4.heap.size w4 wr) (fun _ i _ => (intOf i + 1).toNat)
      case atStart => exact ⟨row.length, rfl, Nat.le_refl _, by rw [List.drop_length]; exact OwnL.nil _, Below.refl _ _⟩
      case round =>
        obtain ⟨k, rfl, h1, hown, hb⟩ := hrel
        obtain ⟨pu, cu, rfl⟩ := hown.form
        have hll : (row.drop k).reverse.length = row.length - k := by simp
        rw [hll] at hown ⊢
        have HLL := Lib.hid hll
        have HOW := Lib.hid hown
        have HB5 := Lib.hid (HB4.out.trans (hb.mono HB4.out.size))
        have HBB := Lib.hid hb
        have hbs := hb.size
        clear hown hll hb
        by_cases hk : 1 ≤ k
        · obtain ⟨j, rfl⟩ : ∃ j, k = j + 1 := ⟨k - 1, by omega⟩
          have hj : j < row.length := by omega
          obtain ⟨bb, off, rfl, hbl, hxx⟩ := HXR.out (by omega)
          have c0 := cell_below HB5.out hbl (hxx j hj)
          have HSN := Lib.hid (back_snoc hj)
          generalize row[j] = ch at *
          have j0 : (0 : Int) ≤ j := by omega
          have j1 : (j : Int) < row.length := by omega
          have e1 : ((j + 1 : Nat) : Int) - 1 = j := by omega
          rw [e1]
          have hap := below_alloc1 wr (.cells #[.int .i64 ch] 3)
          have HNW := Lib.hid (ReadL.one (E := intE) (sz := 1) wr 3 ch [.int .i64 ch] (by simp [Value.oneCell']) rfl)
          have HAP := Lib.hid hap
          clear hxx hap e1
          go_wp2_with (refine wpList_append_ints rfl (.tmp 49) (.tmp 54) rfl (.slice pu (row.length - (j + 1)) cu) (row.drop (j + 1)).reverse rfl (base := w4.heap.size) (HOW.out.below HAP.out (Nat.le_refl _)) _ [ch] rfl HNW.out (by simp; omega) (Nat.le_trans hbs HAP.out.size) ?_; intro p1 c1 w5 hown5 hg5 hlie5)
          have HREL := Lib.hid (show OwnL intE 3 1 w4.heap.size w5 (.slice p1 (row.length - (j + 1) + 1) c1) (row.drop j).reverse ∧ Below w4.heap.size w4 w5 by
            refine ⟨by rw [HSN.out]; have h := hown5; rwa [HLL.out] at h, ?_⟩
            have h1 := HBB.out.trans (HAP.out.mono hbs)
            exact h1.trans ((Fr.grown (F := fun q => (Value.slice pu (row.length - (j + 1)) cu).ownBlock = some q) hg5 (fun q h => h)).below h1.size (fun q hq => (HOW.out.lt q hq).1)))
          clear hown5 hg5 hlie5
          go_wp2_with fail
          go_roundw
          case rel => exact ⟨j, rfl, by omega, HREL.out.1, HREL.out.2⟩
          case measure => simp [intOf]
        · obtain rfl : k = 0 := by omega
          have hneg : ¬ (0 : Int) ≤ ((0 : Nat) : Int) - 1 := by omega
          have HBK := Lib.hid (show Ints wr (.slice pu (row.length - 0) cu) row.reverse by have h := HOW.out.read.ints; rwa [List.drop_zero] at h)
          have H1 := Lib.hid (fit_any wr mm x HRX.out (HM4.out.to HBB.out) (.slice pr row.length cr) row (HI.out.to HB5.out (Nat.le_refl _)) (by omega))
          have HFR := Lib.hid (fit_rev x row)
          go_wp2_with fail
          refine H1.out.mono ?_
          rintro e w6 ⟨rfl, hb6⟩
          have HB6 := Lib.hid (HB5.out.trans (hb6.mono HB5.out.size))
          have H2 := Lib.hid (fit_any w6 m2 (revX x) (right_rev HRX.out) ((HM42.out.to HBB.out).to hb6) (.slice pu (row.length - 0) cu) row.reverse (HBK.out.to hb6 (Nat.le_refl _)) (by simp; omega))
          rw [HFR.out] at H2
          clear hb6
          go_wp2_with fail
          refine H2.out.mono ?_
          rintro e w7 ⟨rfl, hb7⟩
          have HB7 := Lib.hid (HB6.out.trans (hb7.mono HB6.out.size))
          generalize fitB x row = bb at *
          clear hb7
          go_wp2_with fail
          go_ret
          exact ⟨by cases bb <;> rfl, HB7.out⟩
    · have HB2 := Lib.hid (HB1.out.trans (hb2.mono HB1.out.size))
      clear hb2 hr x0 x1 x2
      go_wp2_with fail
      go_ret
      exact ⟨rfl, HB2.out⟩
end Go.Proofs.Ytodkeiadaodehaa
