/-
  NfaFlat: brackets do not matter. No condition beyond what each theorem names.
-/
import Derived.Test.YtodkeiadaodehaaNY
set_option linter.unusedVariables false
set_option linter.unusedSimpArgs false
namespace Go.Proofs.Ytodkeiadaodehaa
open Go.RowKit

theorem fit_flat (x y z : Nd) (row : List Int) (op : Int) (ho : op = 2 ∨ op = 3) : fitB (.mk op [] [.mk op [] [x, y], z]) row = fitB (.mk op [] [x, y, z]) row ∧ fitB (.mk op [] [x, .mk op [] [y, z]]) row = fitB (.mk op [] [x, y, z]) row := by
  rcases ho with rfl | rfl
  · constructor
    · rw [Bool.eq_iff_iff, fitB_iff, fitB_iff, M_2, M_2]
      simp only [Mseq, M_2]
      constructor
      · rintro ⟨c, ⟨d, h1, e, h2, rfl⟩, f, h3, rfl⟩; exact ⟨d, h1, _, h2, _, h3, rfl⟩
      · rintro ⟨d, h1, e, h2, f, h3, rfl⟩; exact ⟨_, ⟨d, h1, _, h2, rfl⟩, _, h3, rfl⟩
    · rw [Bool.eq_iff_iff, fitB_iff, fitB_iff, M_2, M_2]
      simp only [Mseq, M_2]
      constructor
      · rintro ⟨d, h1, c, ⟨e, h2, f, h3, rfl⟩, rfl⟩; exact ⟨d, h1, _, h2, _, h3, rfl⟩
      · rintro ⟨d, h1, e, h2, f, h3, rfl⟩; exact ⟨d, h1, _, ⟨e, h2, _, h3, rfl⟩, rfl⟩
  · constructor
    · rw [Bool.eq_iff_iff, fitB_iff, fitB_iff, M_3, M_3]
      simp only [Malt, M_3, or_false, or_assoc]
    · rw [Bool.eq_iff_iff, fitB_iff, fitB_iff, M_3, M_3]
      simp only [Malt, M_3, or_false, or_assoc]

theorem node_two_at {w : World} {x y : Nd} {a b c d e f : Value} (hx : NodeIs w x a b c) (hy : NodeIs w y d e f) (op : Int) (T : TypeId) (g : Nat) (hg : g = w.heap.size) : NodeIs (w.alloc (.cells #[a, b, c, d, e, f] T)) (.mk op [] [x, y]) (.int .i64 op) (.slice none 0 0) (.slice (some ⟨g, 0, none⟩) 2 2) := by
  subst hg; exact node_two hx hy op T

theorem alloc2 (w : World) (o1 o2 : Obj) (W : World) (hW : W = (w.alloc o1).alloc o2) : Below w.heap.size w W ∧ W.heap[w.heap.size]? = some o1 ∧ W.heap[w.heap.size + 1]? = some o2 := by
  have s1 : (w.alloc o1).heap.size = w.heap.size + 1 := by simp
  have b1 := below_alloc1 w o1
  have b2 := below_alloc1 (w.alloc o1) o2
  subst hW
  refine ⟨b1.trans (b2.mono (by omega)), ?_, ?_⟩
  · rw [b2.block _ (by omega)]; exact heap_alloc_new _ _
  · rw [← s1]; exact heap_alloc_new _ _

set_option maxRecDepth 100000 in
set_option maxHeartbeats 16000000 in
theorem flat_law (w : World) (Xx Xy Xz : Nd) (ax bx cx ay by_ cy az bz cz : Value) (v : Value) (t : List Int) (hxx : NodeIs w Xx ax bx cx) (hxy : NodeIs w Xy ay by_ cy) (hxz : NodeIs w Xz az bz cz) (hv : Ints w v t) (hn : t.length ≤ 9223372036854775807) :
    Calls Try.prog 5 #[.agg #[ax, bx, cx], .agg #[ay, by_, cy], .agg #[az, bz, cz], v] w (Says true w) := by
  have HXx := Lib.hid hxx
  obtain ⟨opx, ppx, lx, c1x, qx, mx, dx, rfl, rfl, rfl⟩ := hxx.form
  clear hxx
  have HXy := Lib.hid hxy
  obtain ⟨opy, ppy, ly, c1y, qy, my, dy, rfl, rfl, rfl⟩ := hxy.form
  clear hxy
  have HXz := Lib.hid hxz
  obtain ⟨opz, ppz, lz, c1z, qz, mz, dz, rfl, rfl, rfl⟩ := hxz.form
  clear hxz
  obtain ⟨pt, ct, rfl, hct, hxt⟩ := hv.get
  have HV := Lib.hid hv
  clear hv hxt
  go_enter Try.func5, Try.ntmps5
  go_upto_region 1 with fail
  refine abs_wp fun W hW => ?_
  obtain ⟨a0, ax, ay, az⟩ := alloc3 w _ _ _ W hW
  have HBE := Lib.hid a0
  obtain ⟨Bx, hBx⟩ : ∃ B, B = w.heap.size := ⟨_, rfl⟩
  obtain ⟨By, hBy⟩ : ∃ B, B = w.heap.size + 1 := ⟨_, rfl⟩
  obtain ⟨Bz, hBz⟩ : ∃ B, B = w.heap.size + 1 + 1 := ⟨_, rfl⟩
  have HBOXx := Lib.hid (show W.heap[Bx]? = some (.cells #[.int .i64 opx, .slice ppx lx c1x, .slice qx mx dx] 25) by rw [hBx]; exact ax)
  have HBOXy := Lib.hid (show W.heap[By]? = some (.cells #[.int .i64 opy, .slice ppy ly c1y, .slice qy my dy] 25) by rw [hBy]; exact ay)
  have HBOXz := Lib.hid (show W.heap[Bz]? = some (.cells #[.int .i64 opz, .slice ppz lz c1z, .slice qz mz dz] 25) by rw [hBz]; exact az)
  rw [← hBz, ← hBy, ← hBx]
  clear hW a0 ax ay az hBx hBy hBz
  go_wp2_with fail
  refine (shown_any W).mono ?_
  rintro e w1 ⟨rfl, hb1⟩
  have HB1 := Lib.hid (HBE.out.trans (hb1.mono HBE.out.size))
  have HBOXx1 := Lib.hid ((hb1.block _ (at_lt HBOXx.out)).trans HBOXx.out)
  have HBOXy1 := Lib.hid ((hb1.block _ (at_lt HBOXy.out)).trans HBOXy.out)
  have HBOXz1 := Lib.hid ((hb1.block _ (at_lt HBOXz.out)).trans HBOXz.out)
  clear hb1
  obtain ⟨row, hrow⟩ : ∃ row, row = t.take 20 := ⟨_, rfl⟩
  have hrl : row.length = min t.length 20 := by rw [hrow, List.length_take, Nat.min_comm]
  go_upto_region 2 with fail
  go_cut [3] (fun rv wx => Ints w rv row ∧ wx = w1)
  case first =>
    cases pt with
    | none =>
      have h0 : t = [] := by
        obtain ⟨p', c', he, -, hx⟩ := HV.out
        injection he with he1 he2 he3
        subst he1
        cases t with
        | nil => rfl
        | cons x r => obtain ⟨b, off, e, -⟩ := hx (by simp); cases e
      subst h0
      have HI := Lib.hid (show Ints w (.slice none 0 ct) row by rw [hrow]; exact HV.out)
      clear hrow hrl
      go_wp2_with fail
      go_meet
      case rel => exact ⟨HI.out, rfl⟩
    | some ad =>
      by_cases h40 : t.length ≤ 20
      · have h41 : ¬ (20 : Int) < t.length := by omega
        have HI := Lib.hid (show Ints w (.slice (some ad) (min (t.length : Int) 20).toNat ct) row by rw [hrow, List.take_of_length_le h40, show (min (t.length : Int) 20).toNat = t.length by omega]; exact HV.out)
        clear hrow hrl
        go_wp2_with fail
        go_meet
        case rel => exact ⟨HI.out, rfl⟩
      · have h41 : (20 : Int) < t.length := by omega
        have HI := Lib.hid (show Ints w (.slice (some ad) (min (t.length : Int) 20).toNat ct) row by rw [hrow, show (min (t.length : Int) 20).toNat = 20 by omega]; exact HV.out.take (by omega))
        clear hrow hrl
        go_wp2_with fail
        go_meet
        case rel => exact ⟨HI.out, rfl⟩
  case rest =>
    obtain ⟨hi, rfl⟩ := hcut
    obtain ⟨pr, cr, rfl, hcr, hxr⟩ := hi.get
    have hr40 : row.length ≤ 20 := by omega
    have HI := Lib.hid hi
    have HXR := Lib.hid hxr
    clear hi hxr hrow hrl
    obtain ⟨yx0, yx1, yx2⟩ := cells3 HBOXx1.out
    obtain ⟨yy0, yy1, yy2⟩ := cells3 HBOXy1.out
    obtain ⟨yz0, yz1, yz2⟩ := cells3 HBOXz1.out
    have HSx := Lib.hid (small_any Xx _ _ _ _ (HXx.out.to HB1.out (Nat.le_refl _)))
    go_wp2_with fail
    refine HSx.out.mono ?_
    rintro e w2 ⟨box, rfl, hsx, hb2⟩
    have HSSx := Lib.hid hsx
    clear hsx
    have HB2 := Lib.hid (HB1.out.trans (hb2.mono HB1.out.size))
    have HBOXx2 := Lib.hid ((hb2.block _ (at_lt HBOXx1.out)).trans HBOXx1.out)
    have HBOXy2 := Lib.hid ((hb2.block _ (at_lt HBOXy1.out)).trans HBOXy1.out)
    have HBOXz2 := Lib.hid ((hb2.block _ (at_lt HBOXz1.out)).trans HBOXz1.out)
    clear yx0 yx1 yx2 yy0 yy1 yy2 yz0 yz1 yz2
    obtain ⟨yx0, yx1, yx2⟩ := cells3 HBOXx2.out
    obtain ⟨yy0, yy1, yy2⟩ := cells3 HBOXy2.out
    obtain ⟨yz0, yz1, yz2⟩ := cells3 HBOXz2.out
    clear hb2
    cases box
    · go_wp2_with fail
      go_ret
      exact ⟨rfl, HB2.out⟩
    · have HSy := Lib.hid (small_any Xy _ _ _ _ (HXy.out.to HB2.out (Nat.le_refl _)))
      go_wp2_with fail
      refine HSy.out.mono ?_
      rintro e w3 ⟨boy, rfl, hsy, hb3⟩
      have HSSy := Lib.hid hsy
      clear hsy
      have HB3 := Lib.hid (HB2.out.trans (hb3.mono HB2.out.size))
      have HBOXx3 := Lib.hid ((hb3.block _ (at_lt HBOXx2.out)).trans HBOXx2.out)
      have HBOXy3 := Lib.hid ((hb3.block _ (at_lt HBOXy2.out)).trans HBOXy2.out)
      have HBOXz3 := Lib.hid ((hb3.block _ (at_lt HBOXz2.out)).trans HBOXz2.out)
      clear yx0 yx1 yx2 yy0 yy1 yy2 yz0 yz1 yz2
      obtain ⟨yx0, yx1, yx2⟩ := cells3 HBOXx3.out
      obtain ⟨yy0, yy1, yy2⟩ := cells3 HBOXy3.out
      obtain ⟨yz0, yz1, yz2⟩ := cells3 HBOXz3.out
      clear hb3
      cases boy
      · go_wp2_with fail
        go_ret
        exact ⟨rfl, HB3.out⟩
      · have HSz := Lib.hid (small_any Xz _ _ _ _ (HXz.out.to HB3.out (Nat.le_refl _)))
        go_wp2_with fail
        refine HSz.out.mono ?_
        rintro e w4 ⟨boz, rfl, hsz, hb4⟩
        have HSSz := Lib.hid hsz
        clear hsz
        have HB4 := Lib.hid (HB3.out.trans (hb4.mono HB3.out.size))
        have HBOXx4 := Lib.hid ((hb4.block _ (at_lt HBOXx3.out)).trans HBOXx3.out)
        have HBOXy4 := Lib.hid ((hb4.block _ (at_lt HBOXy3.out)).trans HBOXy3.out)
        have HBOXz4 := Lib.hid ((hb4.block _ (at_lt HBOXz3.out)).trans HBOXz3.out)
        clear yx0 yx1 yx2 yy0 yy1 yy2 yz0 yz1 yz2
        obtain ⟨yx0, yx1, yx2⟩ := cells3 HBOXx4.out
        obtain ⟨yy0, yy1, yy2⟩ := cells3 HBOXy4.out
        obtain ⟨yz0, yz1, yz2⟩ := cells3 HBOXz4.out
        clear hb4
        cases boz
        · go_wp2_with fail
          go_ret
          exact ⟨rfl, HB4.out⟩
        · have SX := Lib.hid (HSSx.out (by first | rfl | trivial))
          have SY := Lib.hid (HSSy.out (by first | rfl | trivial))
          have SZ := Lib.hid (HSSz.out (by first | rfl | trivial))
          go_wp2_with fail
          go_loopw [10] (fun i wr => ∃ o : Nat, i = .int .i64 o ∧ 2 ≤ o ∧ o ≤ 4 ∧ Below w4.heap.size w4 wr) (fun i _ => (4 - intOf i).toNat)
          case atStart => exact ⟨2, rfl, by omega, by omega, Below.refl _ _⟩
          case round =>
            obtain ⟨o, rfl, o1, o2, hb⟩ := hrel
            have HBr := Lib.hid (HB4.out.trans (hb.mono HB4.out.size))
            have hbr := hb
            have HBB := Lib.hid hb
            have HBOXxr := Lib.hid ((hb.block _ (at_lt HBOXx4.out)).trans HBOXx4.out)
            have HBOXyr := Lib.hid ((hb.block _ (at_lt HBOXy4.out)).trans HBOXy4.out)
            have HBOXzr := Lib.hid ((hb.block _ (at_lt HBOXz4.out)).trans HBOXz4.out)
            clear yx0 yx1 yx2 yy0 yy1 yy2 yz0 yz1 yz2
            obtain ⟨yx0, yx1, yx2⟩ := cells3 HBOXxr.out
            obtain ⟨yy0, yy1, yy2⟩ := cells3 HBOXyr.out
            obtain ⟨yz0, yz1, yz2⟩ := cells3 HBOXzr.out
            clear hb hbr
            by_cases ho : o = 4
            · have ho' : ¬ (o : Int) ≤ 3 := by omega
              go_wp2_with fail
              go_ret
              exact ⟨rfl, HBr.out⟩
            · have ho' : (o : Int) ≤ 3 := by omega
              have ho3 : (o : Int) = 2 ∨ (o : Int) = 3 := by omega
              have HO3 := Lib.hid ho3
              clear ho3
              have HNx := Lib.hid (HXx.out.to HBr.out (Nat.le_refl _))
              have HNy := Lib.hid (HXy.out.to HBr.out (Nat.le_refl _))
              have HNz := Lib.hid (HXz.out.to HBr.out (Nat.le_refl _))
              have HF1 := Lib.hid (fits_any _ _ _ _ _ (node_three HNx.out HNy.out HNz.out (o : Int) 25) ⟨right_three (SX.out.at (by omega)) (SY.out.at (by omega)) (SZ.out.at (by omega)) (by omega) (o : Int) HO3.out, by have := SX.out.cnt; have := SY.out.cnt; have := SZ.out.cnt; simp only [cnt, cntL]; omega⟩)
              go_wp2_with fail
              refine HF1.out.mono ?_
              rintro e v1 ⟨ma, rfl, hma, hc1⟩
              have HC1 := Lib.hid ((below_alloc1 wr (.cells #[.int .i64 opx, .slice ppx lx c1x, .slice qx mx dx, .int .i64 opy, .slice ppy ly c1y, .slice qy my dy, .int .i64 opz, .slice ppz lz c1z, .slice qz mz dz] 25)).trans (hc1.mono (below_alloc1 wr _).size))
              have HMA := Lib.hid hma
              clear hma hc1 HF1
              have HBOXxs := Lib.hid ((HC1.out.block _ (at_lt HBOXxr.out)).trans HBOXxr.out)
              have HBOXys := Lib.hid ((HC1.out.block _ (at_lt HBOXyr.out)).trans HBOXyr.out)
              have HBOXzs := Lib.hid ((HC1.out.block _ (at_lt HBOXzr.out)).trans HBOXzr.out)
              clear yx0 yx1 yx2 yy0 yy1 yy2 yz0 yz1 yz2
              obtain ⟨yx0, yx1, yx2⟩ := cells3 HBOXxs.out
              obtain ⟨yy0, yy1, yy2⟩ := cells3 HBOXys.out
              obtain ⟨yz0, yz1, yz2⟩ := cells3 HBOXzs.out
              have HN2x := Lib.hid (HNx.out.to HC1.out (Nat.le_refl _))
              have HN2y := Lib.hid (HNy.out.to HC1.out (Nat.le_refl _))
              have HN2z := Lib.hid (HNz.out.to HC1.out (Nat.le_refl _))
              have hal := below_alloc1 v1 (.cells #[.int .i64 opx, .slice ppx lx c1x, .slice qx mx dx, .int .i64 opy, .slice ppy ly c1y, .slice qy my dy] 25)
              have HA1 := Lib.hid hal
              have hlz := at_lt HBOXzs.out
              have HF2 := Lib.hid (fits_any _ _ _ _ _ (node_two_at (node_two HN2x.out HN2y.out (o : Int) 25) (HN2z.out.to hal (Nat.le_refl _)) (o : Int) 25 (v1.heap.size + 1) (by simp)) ⟨right_two (right_two (SX.out.at (by omega)) (SY.out.at (by omega)) (by omega) (o : Int) HO3.out) (SZ.out.at (by omega)) (by omega) (o : Int) HO3.out, by have := SX.out.cnt; have := SY.out.cnt; have := SZ.out.cnt; simp only [cnt, cntL]; omega⟩)
              clear hal
              go_wp2_with fail
              refine HF2.out.mono ?_
              rintro e v2 ⟨mb, rfl, hmb, hc2⟩
              have HC2 := Lib.hid (HA1.out.trans (((below_alloc1 _ _).trans (hc2.mono (below_alloc1 _ _).size)).mono HA1.out.size))
              have HMB := Lib.hid hmb
              have HMA2 := Lib.hid (HMA.out.to HC2.out)
              clear hmb hc2 HF2 hlz
              have HBOXxt := Lib.hid ((HC2.out.block _ (at_lt HBOXxs.out)).trans HBOXxs.out)
              have HBOXyt := Lib.hid ((HC2.out.block _ (at_lt HBOXys.out)).trans HBOXys.out)
              have HBOXzt := Lib.hid ((HC2.out.block _ (at_lt HBOXzs.out)).trans HBOXzs.out)
              clear yx0 yx1 yx2 yy0 yy1 yy2 yz0 yz1 yz2
              obtain ⟨yx0, yx1, yx2⟩ := cells3 HBOXxt.out
              obtain ⟨yy0, yy1, yy2⟩ := cells3 HBOXyt.out
              obtain ⟨yz0, yz1, yz2⟩ := cells3 HBOXzt.out
              have HC12 := Lib.hid (HC1.out.trans (HC2.out.mono HC1.out.size))
              have HN3x := Lib.hid (HNx.out.to HC12.out (Nat.le_refl _))
              have HN3y := Lib.hid (HNy.out.to HC12.out (Nat.le_refl _))
              have HN3z := Lib.hid (HNz.out.to HC12.out (Nat.le_refl _))
              have HA2 := Lib.hid (below_alloc1 v2 (.cells #[.int .i64 opy, .slice ppy ly c1y, .slice qy my dy, .int .i64 opz, .slice ppz lz c1z, .slice qz mz dz] 25))
              have HF3 := Lib.hid (fits_any _ _ _ _ _ (node_two_at (HN3x.out.to HA2.out (Nat.le_refl _)) (node_two HN3y.out HN3z.out (o : Int) 25) (o : Int) 25 (v2.heap.size + 1) (by simp)) ⟨right_two (SX.out.at (by omega)) (right_two (SY.out.at (by omega)) (SZ.out.at (by omega)) (by omega) (o : Int) HO3.out) (by omega) (o : Int) HO3.out, by have := SX.out.cnt; have := SY.out.cnt; have := SZ.out.cnt; simp only [cnt, cntL]; omega⟩)
              go_wp2_with fail
              refine HF3.out.mono ?_
              rintro e v3 ⟨mc, rfl, hmc, hc3⟩
              have HC3 := Lib.hid (HA2.out.trans (((below_alloc1 _ _).trans (hc3.mono (below_alloc1 _ _).size)).mono HA2.out.size))
              have HMC := Lib.hid hmc
              have HMA3 := Lib.hid (HMA2.out.to HC3.out)
              have HMB3 := Lib.hid (HMB.out.to HC3.out)
              have HB13 := Lib.hid (HBr.out.trans ((HC12.out.trans (HC3.out.mono HC12.out.size)).mono HBr.out.size))
              have HBB3 := Lib.hid (HBB.out.trans ((HC12.out.trans (HC3.out.mono HC12.out.size)).mono HBB.out.size))
              clear hmc hc3 HF3 yx0 yx1 yx2 yy0 yy1 yy2 yz0 yz1 yz2
              have RX := Lib.hid (show RightX (.mk (o : Int) [] [Xx, Xy, Xz]) from ⟨right_three (SX.out.at (by omega)) (SY.out.at (by omega)) (SZ.out.at (by omega)) (by omega) (o : Int) HO3.out, by have := SX.out.cnt; have := SY.out.cnt; have := SZ.out.cnt; simp only [cnt, cntL]; omega⟩)
              have RY := Lib.hid (show RightX (.mk (o : Int) [] [.mk (o : Int) [] [Xx, Xy], Xz]) from ⟨right_two (right_two (SX.out.at (by omega)) (SY.out.at (by omega)) (by omega) (o : Int) HO3.out) (SZ.out.at (by omega)) (by omega) (o : Int) HO3.out, by have := SX.out.cnt; have := SY.out.cnt; have := SZ.out.cnt; simp only [cnt, cntL]; omega⟩)
              have RZ := Lib.hid (show RightX (.mk (o : Int) [] [Xx, .mk (o : Int) [] [Xy, Xz]]) from ⟨right_two (SX.out.at (by omega)) (right_two (SY.out.at (by omega)) (SZ.out.at (by omega)) (by omega) (o : Int) HO3.out) (by omega) (o : Int) HO3.out, by have := SX.out.cnt; have := SY.out.cnt; have := SZ.out.cnt; simp only [cnt, cntL]; omega⟩)
              obtain ⟨e1, e2⟩ := fit_flat Xx Xy Xz row (o : Int) HO3.out
              have M1 := Lib.hid (fit_any v3 ma _ RX.out HMA3.out (.slice pr row.length cr) row (HI.out.to HB13.out (Nat.le_refl _)) (by omega))
              have M2 := Lib.hid (fun (W' : World) (hb : Below v3.heap.size v3 W') => by
                have h := fit_any W' mb _ RY.out (HMB3.out.to hb) (.slice pr row.length cr) row ((HI.out.to HB13.out (Nat.le_refl _)).to hb (Nat.le_refl _)) (by omega)
                rw [e1] at h
                exact h)
              have M3 := Lib.hid (fun (W' : World) (hb : Below v3.heap.size v3 W') => by
                have h := fit_any W' mc _ RZ.out (HMC.out.to hb) (.slice pr row.length cr) row ((HI.out.to HB13.out (Nat.le_refl _)).to hb (Nat.le_refl _)) (by omega)
                rw [e2] at h
                exact h)
              obtain ⟨is, his⟩ : ∃ is, is = fitB (.mk (o : Int) [] [Xx, Xy, Xz]) row := ⟨_, rfl⟩
              rw [← his] at M1 M2 M3
              clear his e1 e2
              go_wp2_with fail
              refine M1.out.mono ?_
              rintro e u1 ⟨rfl, hu1⟩
              have HU1 := Lib.hid hu1
              clear hu1
              go_wp2_with fail
              refine (M2.out _ HU1.out).mono ?_
              rintro e u2 ⟨rfl, hu2⟩
              have HU2 := Lib.hid (HU1.out.trans (hu2.mono HU1.out.size))
              clear hu2
              have hne : (is != is) = false := by simp
              go_wp2_with fail
              refine (M3.out _ HU2.out).mono ?_
              rintro e u3 ⟨rfl, hu3⟩
              have HU3 := Lib.hid (HU2.out.trans (hu3.mono HU2.out.size))
              clear hu3
              go_wp2_with fail
              go_roundw
              case rel => exact ⟨o + 1, by go_num, by omega, by omega, HBB3.out.trans (HU3.out.mono HBB3.out.size)⟩
              case measure => simp [intOf]; omega
end Go.Proofs.Ytodkeiadaodehaa
