/-
  NfaBuilds: expressions are put together as their rows are. No condition beyond what each theorem names.
-/
import Derived.Test.YtodkeiadaodehaaNZ
set_option linter.unusedVariables false
set_option linter.unusedSimpArgs false
namespace Go.Proofs.Ytodkeiadaodehaa
open Go.RowKit

theorem node_one_at {w : World} {x : Nd} {a b c : Value} (hx : NodeIs w x a b c) (op : Int) (T : TypeId) (g : Nat) (hg : g = w.heap.size) : NodeIs (w.alloc (.cells #[a, b, c] T)) (.mk op [] [x]) (.int .i64 op) (.slice none 0 0) (.slice (some ⟨g, 0, none⟩) 1 1) := by
  subst hg; exact node_one hx op T

open Classical in
/-- is there a place up to the k-th one at which the row can be parted? -/
noncomputable def splitB (x y : Nd) (row : List Int) (k : Nat) : Bool := decide (∃ j, j < k ∧ fitB x (row.take j) = true ∧ fitB y (row.drop j) = true)

theorem splitB_zero (x y : Nd) (row : List Int) : splitB x y row 0 = false := by
  unfold splitB
  exact decide_eq_false (fun ⟨j, h, _⟩ => by omega)

theorem splitB_succ (x y : Nd) (row : List Int) (k : Nat) : splitB x y row (k + 1) = (splitB x y row k || fitB x (row.take k) && fitB y (row.drop k)) := by
  unfold splitB
  rw [Bool.eq_iff_iff, Bool.or_eq_true, Bool.and_eq_true, decide_eq_true_iff, decide_eq_true_iff]
  constructor
  · rintro ⟨j, h1, h2, h3⟩
    by_cases hj : j = k
    · subst hj; exact .inr ⟨h2, h3⟩
    · exact .inl ⟨j, by omega, h2, h3⟩
  · rintro (⟨j, h1, h2, h3⟩ | ⟨h2, h3⟩)
    · exact ⟨j, by omega, h2, h3⟩
    · exact ⟨k, by omega, h2, h3⟩

theorem splitB_all (x y : Nd) (row : List Int) : splitB x y row (row.length + 1) = fitB (.mk 2 [] [x, y]) row := by
  unfold splitB
  rw [Bool.eq_iff_iff, decide_eq_true_iff, fit_seq2]
  constructor
  · rintro ⟨j, h1, h2⟩; exact ⟨j, by omega, h2⟩
  · rintro ⟨j, h1, h2⟩; exact ⟨j, by omega, h2⟩

theorem Ints.drop {w : World} {n cap : Nat} {xs : List Int} {b off : Nat} (h : Ints w (.slice (some ⟨b, off, none⟩) n cap) xs) {k : Nat} (hk : k ≤ n) : Ints w (.slice (some ⟨b, off + k, none⟩) (n - k) (cap - k)) (xs.drop k) := by
  obtain ⟨p', c', he, hc, hx⟩ := h
  injection he with he1 he2 he3
  subst he1 he2 he3
  have hl : (xs.drop k).length = xs.length - k := by rw [List.length_drop]
  refine ⟨_, cap - k, by rw [hl], by omega, fun h0 => ⟨b, off + k, rfl, fun j u hu => ?_⟩⟩
  rw [List.length_map, hl] at h0
  obtain ⟨b', off', hb, hx⟩ := hx (by simp; omega)
  cases hb
  have := hx (k + j) u (by rw [List.map_drop, List.getElem?_drop] at hu; exact hu)
  rwa [Nat.add_assoc]

set_option maxRecDepth 100000 in
set_option maxHeartbeats 16000000 in
theorem builds_law (w : World) (Xx Xy : Nd) (ax bx cx ay by_ cy : Value) (v : Value) (t : List Int) (hxx : NodeIs w Xx ax bx cx) (hxy : NodeIs w Xy ay by_ cy) (hv : Ints w v t) (hn : t.length ≤ 9223372036854775807) :
    Calls Try.prog 4 #[.agg #[ax, bx, cx], .agg #[ay, by_, cy], v] w (Says true w) := by
  have HXx := Lib.hid hxx
  obtain ⟨opx, ppx, lx, c1x, qx, mx, dx, rfl, rfl, rfl⟩ := hxx.form
  clear hxx
  have HXy := Lib.hid hxy
  obtain ⟨opy, ppy, ly, c1y, qy, my, dy, rfl, rfl, rfl⟩ := hxy.form
  clear hxy
  obtain ⟨pt, ct, rfl, hct, hxt⟩ := hv.get
  have HV := Lib.hid hv
  clear hv hxt
  go_enter Try.func4, Try.ntmps4
  go_upto_region 1 with fail
  refine abs_wp fun W hW => ?_
  obtain ⟨a0, ax, ay⟩ := alloc2 w _ _ W hW
  have HBE := Lib.hid a0
  obtain ⟨Bx, hBx⟩ : ∃ B, B = w.heap.size := ⟨_, rfl⟩
  obtain ⟨By, hBy⟩ : ∃ B, B = w.heap.size + 1 := ⟨_, rfl⟩
  have HBOXx := Lib.hid (show W.heap[Bx]? = some (.cells #[.int .i64 opx, .slice ppx lx c1x, .slice qx mx dx] 25) by rw [hBx]; exact ax)
  have HBOXy := Lib.hid (show W.heap[By]? = some (.cells #[.int .i64 opy, .slice ppy ly c1y, .slice qy my dy] 25) by rw [hBy]; exact ay)
  rw [← hBy, ← hBx]
  clear hW a0 ax ay hBx hBy
  go_wp2_with fail
  refine (shown_any W).mono ?_
  rintro e w1 ⟨rfl, hb1⟩
  have HB1 := Lib.hid (HBE.out.trans (hb1.mono HBE.out.size))
  have HBOXx1 := Lib.hid ((hb1.block _ (at_lt HBOXx.out)).trans HBOXx.out)
  have HBOXy1 := Lib.hid ((hb1.block _ (at_lt HBOXy.out)).trans HBOXy.out)
  clear hb1
  obtain ⟨row, hrow⟩ : ∃ row, row = t.take 20 := ⟨_, rfl⟩
  have hrl : row.length = min t.length 20 := by rw [hrow, List.length_take, Nat.min_comm]
  go_upto_region 2 with fail
  go_cut [2] (fun rv wx => Ints w rv row ∧ wx = w1)
  case first =>
    cases pt with
    | none =>
      have h0 : t = [] := by
        obtain ⟨p', c', he, -, hx⟩ := HV.out
        injection he with he1 he2 he3
        subst he1
        cases t with
        | nil => rfl
        | cons x r => obtain ⟨b, off, e, -⟩ := hx (by simp); cases e
      subst h0
      have HI := Lib.hid (show Ints w (.slice none 0 ct) row by rw [hrow]; exact HV.out)
      clear hrow hrl
      go_wp2_with fail
      go_meet
      case rel => exact ⟨HI.out, rfl⟩
    | some ad =>
      by_cases h40 : t.length ≤ 20
      · have h41 : ¬ (20 : Int) < t.length := by omega
        have HI := Lib.hid (show Ints w (.slice (some ad) (min (t.length : Int) 20).toNat ct) row by rw [hrow, List.take_of_length_le h40, show (min (t.length : Int) 20).toNat = t.length by omega]; exact HV.out)
        clear hrow hrl
        go_wp2_with fail
        go_meet
        case rel => exact ⟨HI.out, rfl⟩
      · have h41 : (20 : Int) < t.length := by omega
        have HI := Lib.hid (show Ints w (.slice (some ad) (min (t.length : Int) 20).toNat ct) row by rw [hrow, show (min (t.length : Int) 20).toNat = 20 by omega]; exact HV.out.take (by omega))
        clear hrow hrl
        go_wp2_with fail
        go_meet
        case rel => exact ⟨HI.out, rfl⟩
  case rest =>
    obtain ⟨hi, rfl⟩ := hcut
    obtain ⟨pr, cr, rfl, hcr, hxr⟩ := hi.get
    have hr40 : row.length ≤ 20 := by omega
    have HI := Lib.hid hi
    have HXR := Lib.hid hxr
    clear hi hxr hrow hrl
    obtain ⟨yx0, yx1, yx2⟩ := cells3 HBOXx1.out
    obtain ⟨yy0, yy1, yy2⟩ := cells3 HBOXy1.out
    have HSx := Lib.hid (small_any Xx _ _ _ _ (HXx.out.to HB1.out (Nat.le_refl _)))
    go_wp2_with fail
    refine HSx.out.mono ?_
    rintro e w2 ⟨box, rfl, hsx, hb2⟩
    have HSSx := Lib.hid hsx
    clear hsx
    have HB2 := Lib.hid (HB1.out.trans (hb2.mono HB1.out.size))
    have HBOXx2 := Lib.hid ((hb2.block _ (at_lt HBOXx1.out)).trans HBOXx1.out)
    have HBOXy2 := Lib.hid ((hb2.block _ (at_lt HBOXy1.out)).trans HBOXy1.out)
    clear yx0 yx1 yx2 yy0 yy1 yy2
    obtain ⟨yx0, yx1, yx2⟩ := cells3 HBOXx2.out
    obtain ⟨yy0, yy1, yy2⟩ := cells3 HBOXy2.out
    clear hb2
    cases box
    · go_wp2_with fail
      go_ret
      exact ⟨rfl, HB2.out⟩
    · have HSy := Lib.hid (small_any Xy _ _ _ _ (HXy.out.to HB2.out (Nat.le_refl _)))
      go_wp2_with fail
      refine HSy.out.mono ?_
      rintro e w3 ⟨boy, rfl, hsy, hb3⟩
      have HSSy := Lib.hid hsy
      clear hsy
      have HB3 := Lib.hid (HB2.out.trans (hb3.mono HB2.out.size))
      have HBOXx3 := Lib.hid ((hb3.block _ (at_lt HBOXx2.out)).trans HBOXx2.out)
      have HBOXy3 := Lib.hid ((hb3.block _ (at_lt HBOXy2.out)).trans HBOXy2.out)
      clear yx0 yx1 yx2 yy0 yy1 yy2
      obtain ⟨yx0, yx1, yx2⟩ := cells3 HBOXx3.out
      obtain ⟨yy0, yy1, yy2⟩ := cells3 HBOXy3.out
      clear hb3
      cases boy
      · go_wp2_with fail
        go_ret
        exact ⟨rfl, HB3.out⟩
      · have SX := Lib.hid (HSSx.out (by first | rfl | trivial))
        have SY := Lib.hid (HSSy.out (by first | rfl | trivial))
        have HFa := Lib.hid (fits_any (Xx) w3 _ _ _ (HXx.out.to HB3.out (Nat.le_refl _)) (SX.out.right))
        go_wp2_with fail
        refine HFa.out.mono ?_
        rintro e w4a ⟨ma, rfl, hm, hb⟩
        have HD4a := Lib.hid hb
        have HB4a := Lib.hid (HB3.out.trans (HD4a.out.mono HB3.out.size))
        have HMa := Lib.hid hm
        have HBOXx4a := Lib.hid ((HD4a.out.block _ (at_lt HBOXx3.out)).trans HBOXx3.out)
        have HBOXy4a := Lib.hid ((HD4a.out.block _ (at_lt HBOXy3.out)).trans HBOXy3.out)
        clear yx0 yx1 yx2 yy0 yy1 yy2
        obtain ⟨yx0, yx1, yx2⟩ := cells3 HBOXx4a.out
        obtain ⟨yy0, yy1, yy2⟩ := cells3 HBOXy4a.out
        clear hm hb HFa
        have HFb := Lib.hid (fits_any (Xy) w4a _ _ _ (HXy.out.to HB4a.out (Nat.le_refl _)) (SY.out.right))
        go_wp2_with fail
        refine HFb.out.mono ?_
        rintro e w4b ⟨mb, rfl, hm, hb⟩
        have HD4b := Lib.hid hb
        have HB4b := Lib.hid (HB4a.out.trans (HD4b.out.mono HB4a.out.size))
        have HMb := Lib.hid hm
        have HMa' := Lib.hid (HMa.out.to HD4b.out)
        clear HMa
        have HMa := Lib.hid HMa'.out
        clear HMa'
        have HBOXx4b := Lib.hid ((HD4b.out.block _ (at_lt HBOXx4a.out)).trans HBOXx4a.out)
        have HBOXy4b := Lib.hid ((HD4b.out.block _ (at_lt HBOXy4a.out)).trans HBOXy4a.out)
        clear yx0 yx1 yx2 yy0 yy1 yy2
        obtain ⟨yx0, yx1, yx2⟩ := cells3 HBOXx4b.out
        obtain ⟨yy0, yy1, yy2⟩ := cells3 HBOXy4b.out
        clear hm hb HFb
        have HAs := Lib.hid (below_alloc1 w4b (.cells #[.int .i64 opx, .slice ppx lx c1x, .slice qx mx dx, .int .i64 opy, .slice ppy ly c1y, .slice qy my dy] 25))
        have HFs := Lib.hid (fits_any (.mk 2 [] [Xx, Xy]) _ _ _ _ (node_two (HXx.out.to HB4b.out (Nat.le_refl _)) (HXy.out.to HB4b.out (Nat.le_refl _)) 2 25) (⟨right_two (SX.out.at (by omega)) (SY.out.at (by omega)) (by omega) 2 (.inl rfl), by have := SX.out.cnt; have := SY.out.cnt; simp only [cnt, cntL]; omega⟩))
        go_wp2_with fail
        refine HFs.out.mono ?_
        rintro e w4s ⟨ms, rfl, hm, hb⟩
        have HD4s := Lib.hid (HAs.out.trans (hb.mono HAs.out.size))
        have HB4s := Lib.hid (HB4b.out.trans (HD4s.out.mono HB4b.out.size))
        have HMs := Lib.hid hm
        have HMa' := Lib.hid (HMa.out.to HD4s.out)
        clear HMa
        have HMa := Lib.hid HMa'.out
        clear HMa'
        have HMb' := Lib.hid (HMb.out.to HD4s.out)
        clear HMb
        have HMb := Lib.hid HMb'.out
        clear HMb'
        have HBOXx4s := Lib.hid ((HD4s.out.block _ (at_lt HBOXx4b.out)).trans HBOXx4b.out)
        have HBOXy4s := Lib.hid ((HD4s.out.block _ (at_lt HBOXy4b.out)).trans HBOXy4b.out)
        clear yx0 yx1 yx2 yy0 yy1 yy2
        obtain ⟨yx0, yx1, yx2⟩ := cells3 HBOXx4s.out
        obtain ⟨yy0, yy1, yy2⟩ := cells3 HBOXy4s.out
        clear hm hb HFs
        have HAt := Lib.hid (below_alloc1 w4s (.cells #[.int .i64 opx, .slice ppx lx c1x, .slice qx mx dx, .int .i64 opy, .slice ppy ly c1y, .slice qy my dy] 25))
        have HFt := Lib.hid (fits_any (.mk 3 [] [Xx, Xy]) _ _ _ _ (node_two (HXx.out.to HB4s.out (Nat.le_refl _)) (HXy.out.to HB4s.out (Nat.le_refl _)) 3 25) (⟨right_two (SX.out.at (by omega)) (SY.out.at (by omega)) (by omega) 3 (.inr rfl), by have := SX.out.cnt; have := SY.out.cnt; simp only [cnt, cntL]; omega⟩))
        go_wp2_with fail
        refine HFt.out.mono ?_
        rintro e w4t ⟨mt, rfl, hm, hb⟩
        have HD4t := Lib.hid (HAt.out.trans (hb.mono HAt.out.size))
        have HB4t := Lib.hid (HB4s.out.trans (HD4t.out.mono HB4s.out.size))
        have HMt := Lib.hid hm
        have HMa' := Lib.hid (HMa.out.to HD4t.out)
        clear HMa
        have HMa := Lib.hid HMa'.out
        clear HMa'
        have HMb' := Lib.hid (HMb.out.to HD4t.out)
        clear HMb
        have HMb := Lib.hid HMb'.out
        clear HMb'
        have HMs' := Lib.hid (HMs.out.to HD4t.out)
        clear HMs
        have HMs := Lib.hid HMs'.out
        clear HMs'
        have HBOXx4t := Lib.hid ((HD4t.out.block _ (at_lt HBOXx4s.out)).trans HBOXx4s.out)
        have HBOXy4t := Lib.hid ((HD4t.out.block _ (at_lt HBOXy4s.out)).trans HBOXy4s.out)
        clear yx0 yx1 yx2 yy0 yy1 yy2
        obtain ⟨yx0, yx1, yx2⟩ := cells3 HBOXx4t.out
        obtain ⟨yy0, yy1, yy2⟩ := cells3 HBOXy4t.out
        clear hm hb HFt
        have HAo := Lib.hid (below_alloc1 w4t (.cells #[.int .i64 opx, .slice ppx lx c1x, .slice qx mx dx] 25))
        have HFo := Lib.hid (fits_any (.mk 5 [] [Xx]) _ _ _ _ (node_one (HXx.out.to HB4t.out (Nat.le_refl _)) 5 25) (right_one SX.out 5 (by omega)))
        go_wp2_with fail
        refine HFo.out.mono ?_
        rintro e w4o ⟨mo, rfl, hm, hb⟩
        have HD4o := Lib.hid (HAo.out.trans (hb.mono HAo.out.size))
        have HB4o := Lib.hid (HB4t.out.trans (HD4o.out.mono HB4t.out.size))
        have HMo := Lib.hid hm
        have HMa' := Lib.hid (HMa.out.to HD4o.out)
        clear HMa
        have HMa := Lib.hid HMa'.out
        clear HMa'
        have HMb' := Lib.hid (HMb.out.to HD4o.out)
        clear HMb
        have HMb := Lib.hid HMb'.out
        clear HMb'
        have HMs' := Lib.hid (HMs.out.to HD4o.out)
        clear HMs
        have HMs := Lib.hid HMs'.out
        clear HMs'
        have HMt' := Lib.hid (HMt.out.to HD4o.out)
        clear HMt
        have HMt := Lib.hid HMt'.out
        clear HMt'
        have HBOXx4o := Lib.hid ((HD4o.out.block _ (at_lt HBOXx4t.out)).trans HBOXx4t.out)
        have HBOXy4o := Lib.hid ((HD4o.out.block _ (at_lt HBOXy4t.out)).trans HBOXy4t.out)
        clear yx0 yx1 yx2 yy0 yy1 yy2
        obtain ⟨yx0, yx1, yx2⟩ := cells3 HBOXx4o.out
        obtain ⟨yy0, yy1, yy2⟩ := cells3 HBOXy4o.out
        clear hm hb HFo
        have HAr := Lib.hid (below_alloc1 w4o (.cells #[.int .i64 opx, .slice ppx lx c1x, .slice qx mx dx] 25))
        have HFr := Lib.hid (fits_any (.mk 4 [] [Xx]) _ _ _ _ (node_one (HXx.out.to HB4o.out (Nat.le_refl _)) 4 25) (right_one SX.out 4 (by omega)))
        go_wp2_with fail
        refine HFr.out.mono ?_
        rintro e w4r ⟨mr, rfl, hm, hb⟩
        have HD4r := Lib.hid (HAr.out.trans (hb.mono HAr.out.size))
        have HB4r := Lib.hid (HB4o.out.trans (HD4r.out.mono HB4o.out.size))
        have HMr := Lib.hid hm
        have HMa' := Lib.hid (HMa.out.to HD4r.out)
        clear HMa
        have HMa := Lib.hid HMa'.out
        clear HMa'
        have HMb' := Lib.hid (HMb.out.to HD4r.out)
        clear HMb
        have HMb := Lib.hid HMb'.out
        clear HMb'
        have HMs' := Lib.hid (HMs.out.to HD4r.out)
        clear HMs
        have HMs := Lib.hid HMs'.out
        clear HMs'
        have HMt' := Lib.hid (HMt.out.to HD4r.out)
        clear HMt
        have HMt := Lib.hid HMt'.out
        clear HMt'
        have HMo' := Lib.hid (HMo.out.to HD4r.out)
        clear HMo
        have HMo := Lib.hid HMo'.out
        clear HMo'
        have HBOXx4r := Lib.hid ((HD4r.out.block _ (at_lt HBOXx4o.out)).trans HBOXx4o.out)
        have HBOXy4r := Lib.hid ((HD4r.out.block _ (at_lt HBOXy4o.out)).trans HBOXy4o.out)
        clear yx0 yx1 yx2 yy0 yy1 yy2
        obtain ⟨yx0, yx1, yx2⟩ := cells3 HBOXx4r.out
        obtain ⟨yy0, yy1, yy2⟩ := cells3 HBOXy4r.out
        clear hm hb HFr
        have HAu := Lib.hid (below_alloc1 w4r (.cells #[.int .i64 opx, .slice ppx lx c1x, .slice qx mx dx] 25))
        have HFu := Lib.hid (fits_any (.mk 2 [] [Xx, .mk 4 [] [Xx]]) _ _ _ _ (node_two_at ((HXx.out.to HB4r.out (Nat.le_refl _)).to (below_alloc1 w4r (.cells #[.int .i64 opx, .slice ppx lx c1x, .slice qx mx dx] 25)) (Nat.le_refl _)) (node_one (HXx.out.to HB4r.out (Nat.le_refl _)) 4 25) 2 25 (w4r.heap.size + 1) (by simp)) (⟨right_two (SX.out.at (by omega)) (right_star (SX.out.at (by omega)) (by omega)) (by omega) 2 (.inl rfl), by have := SX.out.cnt; simp only [cnt, cntL]; omega⟩))
        go_wp2_with fail
        refine HFu.out.mono ?_
        rintro e w4u ⟨mu, rfl, hm, hb⟩
        have HD4u := Lib.hid (HAu.out.trans (((below_alloc1 _ _).trans (hb.mono (below_alloc1 _ _).size)).mono HAu.out.size))
        have HB4u := Lib.hid (HB4r.out.trans (HD4u.out.mono HB4r.out.size))
        have HMu := Lib.hid hm
        have HMa' := Lib.hid (HMa.out.to HD4u.out)
        clear HMa
        have HMa := Lib.hid HMa'.out
        clear HMa'
        have HMb' := Lib.hid (HMb.out.to HD4u.out)
        clear HMb
        have HMb := Lib.hid HMb'.out
        clear HMb'
        have HMs' := Lib.hid (HMs.out.to HD4u.out)
        clear HMs
        have HMs := Lib.hid HMs'.out
        clear HMs'
        have HMt' := Lib.hid (HMt.out.to HD4u.out)
        clear HMt
        have HMt := Lib.hid HMt'.out
        clear HMt'
        have HMo' := Lib.hid (HMo.out.to HD4u.out)
        clear HMo
        have HMo := Lib.hid HMo'.out
        clear HMo'
        have HMr' := Lib.hid (HMr.out.to HD4u.out)
        clear HMr
        have HMr := Lib.hid HMr'.out
        clear HMr'
        have HBOXx4u := Lib.hid ((HD4u.out.block _ (at_lt HBOXx4r.out)).trans HBOXx4r.out)
        have HBOXy4u := Lib.hid ((HD4u.out.block _ (at_lt HBOXy4r.out)).trans HBOXy4r.out)
        clear yx0 yx1 yx2 yy0 yy1 yy2
        obtain ⟨yx0, yx1, yx2⟩ := cells3 HBOXx4u.out
        obtain ⟨yy0, yy1, yy2⟩ := cells3 HBOXy4u.out
        clear hm hb HFu
        go_wp2_with fail
        have HIN := Lib.hid (show ∀ (W' : World) (p : Option Addr) (c : Nat), Ints W' (.slice p 0 c) [] from fun W' p c => ⟨p, c, rfl, Nat.zero_le _, fun h => by simp at h⟩)
        go_loopw [15, 16] (fun u i wr => ∃ k : Nat, i = .int .i64 k ∧ k ≤ row.length + 1 ∧ u = .bool (splitB Xx Xy row k) ∧ Below w4u.heap.size w4u wr) (fun _ i _ => (row.length + 1) - (intOf i).toNat)
        case atStart => exact ⟨0, rfl, by omega, by rw [splitB_zero], Below.refl _ _⟩
        case round =>
          obtain ⟨k, rfl, k1, rfl, hb⟩ := hrel
          have HBB := Lib.hid hb
          have HBr := Lib.hid (HB4u.out.trans (hb.mono HB4u.out.size))
          have HSU := Lib.hid (splitB_succ Xx Xy row k)
          obtain ⟨sp, hsp⟩ : ∃ sp, sp = splitB Xx Xy row k := ⟨_, rfl⟩
          rw [← hsp] at HSU ⊢
          have HSP := Lib.hid hsp
          clear hb hsp
          by_cases hk : k ≤ row.length
          · have hkk : (k : Int) ≤ row.length := by omega
            have hk0 : (0 : Int) ≤ k := by omega
            cases sp
            · by_cases hr0 : row.length = 0
              · obtain rfl : k = 0 := by omega
                have hrw : row = [] := List.eq_nil_of_length_eq_zero hr0
                have HRW := Lib.hid hrw
                rw [hr0] at HI ⊢
                clear hrw hr0
                cases pr with
                | none =>
                  go_wp2_with fail
                  have hf1 := fit_any wr ma Xx SX.out.right (HMa.out.to HBB.out) (.slice none 0 cr) ([]) (HIN.out _ _ _) (by simp; try omega)
                  rw [show fitB Xx ([]) = fitB Xx (row.take 0) from congrArg (fitB Xx) (by rw [HRW.out]; try rfl)] at hf1
                  have HFA := Lib.hid hf1
                  clear hf1
                  obtain ⟨fa, hfa⟩ : ∃ fa, fa = fitB Xx (row.take 0) := ⟨_, rfl⟩
                  rw [← hfa] at HFA HSU
                  clear hfa
                  refine HFA.out.mono ?_
                  rintro e v1 ⟨rfl, hv1⟩
                  have HV1 := Lib.hid hv1
                  have HBV := Lib.hid (HBB.out.trans (hv1.mono HBB.out.size))
                  clear hv1 HFA
                  cases fa
                  · have HS1 := Lib.hid (show splitB Xx Xy row (0 + 1) = false by rw [HSU.out]; rfl)
                    clear HSU
                    go_wp2_with fail
                    go_roundw
                    case rel => exact ⟨0 + 1, by go_num, by omega, by rw [HS1.out], HBV.out⟩
                    case measure => (simp [intOf]; try omega)
                  · have hf2 := fit_any v1 mb Xy SY.out.right ((HMb.out.to HBB.out).to HV1.out) (.slice none 0 cr) ([]) (HIN.out _ _ _) (by simp; try omega)
                    rw [show fitB Xy ([]) = fitB Xy (row.drop 0) from congrArg (fitB Xy) (by rw [HRW.out]; try rfl)] at hf2
                    have HFB := Lib.hid hf2
                    clear hf2
                    obtain ⟨fb, hfb⟩ : ∃ fb, fb = fitB Xy (row.drop 0) := ⟨_, rfl⟩
                    rw [← hfb] at HFB HSU
                    clear hfb
                    have HS1 := Lib.hid (show splitB Xx Xy row (0 + 1) = fb by rw [HSU.out]; rfl)
                    clear HSU
                    go_wp2_with fail
                    refine HFB.out.mono ?_
                    rintro e v2 ⟨rfl, hv2⟩
                    have HBV2 := Lib.hid (HBV.out.trans (hv2.mono HBV.out.size))
                    clear hv2 HFB
                    go_wp2_with fail
                    go_roundw
                    case rel => exact ⟨0 + 1, by go_num, by omega, by rw [HS1.out], HBV2.out⟩
                    case measure => (simp [intOf]; try omega)
                | some ad =>
                  by_cases hcz : cr = 0
                  · subst hcz
                    go_wp2_with fail
                    have hf1 := fit_any wr ma Xx SX.out.right (HMa.out.to HBB.out) (.slice (some ad) 0 0) ([]) (HIN.out _ _ _) (by simp; try omega)
                    rw [show fitB Xx ([]) = fitB Xx (row.take 0) from congrArg (fitB Xx) (by rw [HRW.out]; try rfl)] at hf1
                    have HFA := Lib.hid hf1
                    clear hf1
                    obtain ⟨fa, hfa⟩ : ∃ fa, fa = fitB Xx (row.take 0) := ⟨_, rfl⟩
                    rw [← hfa] at HFA HSU
                    clear hfa
                    refine HFA.out.mono ?_
                    rintro e v1 ⟨rfl, hv1⟩
                    have HV1 := Lib.hid hv1
                    have HBV := Lib.hid (HBB.out.trans (hv1.mono HBB.out.size))
                    clear hv1 HFA
                    cases fa
                    · have HS1 := Lib.hid (show splitB Xx Xy row (0 + 1) = false by rw [HSU.out]; rfl)
                      clear HSU
                      go_wp2_with fail
                      go_roundw
                      case rel => exact ⟨0 + 1, by go_num, by omega, by rw [HS1.out], HBV.out⟩
                      case measure => (simp [intOf]; try omega)
                    · have hf2 := fit_any v1 mb Xy SY.out.right ((HMb.out.to HBB.out).to HV1.out) (.slice (some ad) 0 0) ([]) (HIN.out _ _ _) (by simp; try omega)
                      rw [show fitB Xy ([]) = fitB Xy (row.drop 0) from congrArg (fitB Xy) (by rw [HRW.out]; try rfl)] at hf2
                      have HFB := Lib.hid hf2
                      clear hf2
                      obtain ⟨fb, hfb⟩ : ∃ fb, fb = fitB Xy (row.drop 0) := ⟨_, rfl⟩
                      rw [← hfb] at HFB HSU
                      clear hfb
                      have HS1 := Lib.hid (show splitB Xx Xy row (0 + 1) = fb by rw [HSU.out]; rfl)
                      clear HSU
                      go_wp2_with fail
                      refine HFB.out.mono ?_
                      rintro e v2 ⟨rfl, hv2⟩
                      have HBV2 := Lib.hid (HBV.out.trans (hv2.mono HBV.out.size))
                      clear hv2 HFB
                      go_wp2_with fail
                      go_roundw
                      case rel => exact ⟨0 + 1, by go_num, by omega, by rw [HS1.out], HBV2.out⟩
                      case measure => (simp [intOf]; try omega)
                  · have hcz1 : ¬ ((0 : Nat) : Int) = cr := by omega
                    go_wp2_with fail
                    have hf1 := fit_any wr ma Xx SX.out.right (HMa.out.to HBB.out) (.slice (some ad) 0 cr) ([]) (HIN.out _ _ _) (by simp; try omega)
                    rw [show fitB Xx ([]) = fitB Xx (row.take 0) from congrArg (fitB Xx) (by rw [HRW.out]; try rfl)] at hf1
                    have HFA := Lib.hid hf1
                    clear hf1
                    obtain ⟨fa, hfa⟩ : ∃ fa, fa = fitB Xx (row.take 0) := ⟨_, rfl⟩
                    rw [← hfa] at HFA HSU
                    clear hfa
                    refine HFA.out.mono ?_
                    rintro e v1 ⟨rfl, hv1⟩
                    have HV1 := Lib.hid hv1
                    have HBV := Lib.hid (HBB.out.trans (hv1.mono HBB.out.size))
                    clear hv1 HFA
                    cases fa
                    · have HS1 := Lib.hid (show splitB Xx Xy row (0 + 1) = false by rw [HSU.out]; rfl)
                      clear HSU
                      go_wp2_with fail
                      go_roundw
                      case rel => exact ⟨0 + 1, by go_num, by omega, by rw [HS1.out], HBV.out⟩
                      case measure => (simp [intOf]; try omega)
                    · have hf2 := fit_any v1 mb Xy SY.out.right ((HMb.out.to HBB.out).to HV1.out) (.slice (some ad) 0 cr) ([]) (HIN.out _ _ _) (by simp; try omega)
                      rw [show fitB Xy ([]) = fitB Xy (row.drop 0) from congrArg (fitB Xy) (by rw [HRW.out]; try rfl)] at hf2
                      have HFB := Lib.hid hf2
                      clear hf2
                      obtain ⟨fb, hfb⟩ : ∃ fb, fb = fitB Xy (row.drop 0) := ⟨_, rfl⟩
                      rw [← hfb] at HFB HSU
                      clear hfb
                      have HS1 := Lib.hid (show splitB Xx Xy row (0 + 1) = fb by rw [HSU.out]; rfl)
                      clear HSU
                      go_wp2_with fail
                      refine HFB.out.mono ?_
                      rintro e v2 ⟨rfl, hv2⟩
                      have HBV2 := Lib.hid (HBV.out.trans (hv2.mono HBV.out.size))
                      clear hv2 HFB
                      go_wp2_with fail
                      go_roundw
                      case rel => exact ⟨0 + 1, by go_num, by omega, by rw [HS1.out], HBV2.out⟩
                      case measure => (simp [intOf]; try omega)
              · obtain ⟨bb, off, rfl, hbl, -⟩ := HXR.out (by omega)
                have kcap : k ≤ cr := by omega
                have HI1 := Lib.hid (show Ints w (.slice (some ⟨bb, off, none⟩) k cr) (row.take k) from HI.out.take hk)
                by_cases hkc : k = cr
                · have HKL := Lib.hid (show row.length - k = 0 by omega)
                  have HDR := Lib.hid (show row.drop k = [] from List.drop_of_length_le (by omega))
                  subst hkc
                  clear kcap
                  go_wp2_with fail
                  have hf1 := fit_any wr ma Xx SX.out.right (HMa.out.to HBB.out) (.slice (some ⟨bb, off, none⟩) k k) (row.take k) (HI1.out.to HBr.out (Nat.le_refl _)) (by simp; try omega)
                  rw [show fitB Xx (row.take k) = fitB Xx (row.take k) from congrArg (fitB Xx) (rfl)] at hf1
                  have HFA := Lib.hid hf1
                  clear hf1
                  obtain ⟨fa, hfa⟩ : ∃ fa, fa = fitB Xx (row.take k) := ⟨_, rfl⟩
                  rw [← hfa] at HFA HSU
                  clear hfa
                  refine HFA.out.mono ?_
                  rintro e v1 ⟨rfl, hv1⟩
                  have HV1 := Lib.hid hv1
                  have HBV := Lib.hid (HBB.out.trans (hv1.mono HBB.out.size))
                  clear hv1 HFA
                  cases fa
                  · have HS1 := Lib.hid (show splitB Xx Xy row (k + 1) = false by rw [HSU.out]; rfl)
                    clear HSU
                    go_wp2_with fail
                    go_roundw
                    case rel => exact ⟨k + 1, by go_num, by omega, by rw [HS1.out], HBV.out⟩
                    case measure => (simp [intOf]; try omega)
                  · have hf2 := fit_any v1 mb Xy SY.out.right ((HMb.out.to HBB.out).to HV1.out) (.slice (some ⟨bb, off, none⟩) 0 0) (row.drop k) (by rw [HDR.out]; exact HIN.out _ _ _) (by simp; try omega)
                    rw [show fitB Xy (row.drop k) = fitB Xy (row.drop k) from congrArg (fitB Xy) (rfl)] at hf2
                    have HFB := Lib.hid hf2
                    clear hf2
                    obtain ⟨fb, hfb⟩ : ∃ fb, fb = fitB Xy (row.drop k) := ⟨_, rfl⟩
                    rw [← hfb] at HFB HSU
                    clear hfb
                    have HS1 := Lib.hid (show splitB Xx Xy row (k + 1) = fb by rw [HSU.out]; rfl)
                    clear HSU
                    go_wp2_with fail
                    refine HFB.out.mono ?_
                    rintro e v2 ⟨rfl, hv2⟩
                    have HBV2 := Lib.hid (HBV.out.trans (hv2.mono HBV.out.size))
                    clear hv2 HFB
                    go_wp2_with fail
                    go_roundw
                    case rel => exact ⟨k + 1, by go_num, by omega, by rw [HS1.out], HBV2.out⟩
                    case measure => (simp [intOf]; try omega)
                · have hkc1 : k < cr := by omega
                  have hkc2 : ¬ (k : Int) = cr := by omega
                  have HI2 := Lib.hid (show Ints w (.slice (some ⟨bb, off + k, none⟩) (row.length - k) (cr - k)) (row.drop k) from HI.out.drop hk)
                  go_wp2_with fail
                  have hf1 := fit_any wr ma Xx SX.out.right (HMa.out.to HBB.out) (.slice (some ⟨bb, off, none⟩) k cr) (row.take k) (HI1.out.to HBr.out (Nat.le_refl _)) (by simp; try omega)
                  rw [show fitB Xx (row.take k) = fitB Xx (row.take k) from congrArg (fitB Xx) (rfl)] at hf1
                  have HFA := Lib.hid hf1
                  clear hf1
                  obtain ⟨fa, hfa⟩ : ∃ fa, fa = fitB Xx (row.take k) := ⟨_, rfl⟩
                  rw [← hfa] at HFA HSU
                  clear hfa
                  refine HFA.out.mono ?_
                  rintro e v1 ⟨rfl, hv1⟩
                  have HV1 := Lib.hid hv1
                  have HBV := Lib.hid (HBB.out.trans (hv1.mono HBB.out.size))
                  clear hv1 HFA
                  cases fa
                  · have HS1 := Lib.hid (show splitB Xx Xy row (k + 1) = false by rw [HSU.out]; rfl)
                    clear HSU
                    go_wp2_with fail
                    go_roundw
                    case rel => exact ⟨k + 1, by go_num, by omega, by rw [HS1.out], HBV.out⟩
                    case measure => (simp [intOf]; try omega)
                  · have hf2 := fit_any v1 mb Xy SY.out.right ((HMb.out.to HBB.out).to HV1.out) (.slice (some ⟨bb, off + k, none⟩) (row.length - k) (cr - k)) (row.drop k) ((HI2.out.to HBr.out (Nat.le_refl _)).to HV1.out (Nat.le_refl _)) (by simp; try omega)
                    rw [show fitB Xy (row.drop k) = fitB Xy (row.drop k) from congrArg (fitB Xy) (rfl)] at hf2
                    have HFB := Lib.hid hf2
                    clear hf2
                    obtain ⟨fb, hfb⟩ : ∃ fb, fb = fitB Xy (row.drop k) := ⟨_, rfl⟩
                    rw [← hfb] at HFB HSU
                    clear hfb
                    have HS1 := Lib.hid (show splitB Xx Xy row (k + 1) = fb by rw [HSU.out]; rfl)
                    clear HSU
                    go_wp2_with fail
                    refine HFB.out.mono ?_
                    rintro e v2 ⟨rfl, hv2⟩
                    have HBV2 := Lib.hid (HBV.out.trans (hv2.mono HBV.out.size))
                    clear hv2 HFB
                    go_wp2_with fail
                    go_roundw
                    case rel => exact ⟨k + 1, by go_num, by omega, by rw [HS1.out], HBV2.out⟩
                    case measure => (simp [intOf]; try omega)
            · have HS1 := Lib.hid (show splitB Xx Xy row (k + 1) = true by rw [HSU.out]; rfl)
              clear HSU
              go_wp2_with fail
              go_roundw
              case rel => exact ⟨k + 1, by go_num, by omega, by rw [HS1.out], HBB.out⟩
              case measure => simp [intOf]; omega
          · have hkk : ¬ (k : Int) ≤ row.length := by omega
            have hke : k = row.length + 1 := by omega
            have HSEQ := Lib.hid (show fitB (.mk 2 [] [Xx, Xy]) row = sp by rw [HSP.out, hke, splitB_all])
            clear hke hkk
            have hkk : ¬ (k : Int) ≤ row.length := by omega
            have HIR := Lib.hid (show ∀ W', Below w4u.heap.size w4u W' → Ints W' (.slice pr row.length cr) row from fun W' h => HI.out.to (HB4u.out.trans (h.mono HB4u.out.size)) (Nat.le_refl _))
            have hln : row.length ≤ 1000000 := by omega
            have CALL := Lib.hid (show ∀ (W' : World) (mm : Nat) (X : Nd), Below w4u.heap.size w4u W' → RightX X → MachR w4u mm (mach X) → Calls Try.prog 16 #[.pointer (some ⟨mm, 0, none⟩), .slice pr row.length cr] W' fun e w' => e = .returned (.bool (fitB X row)) ∧ Below w4u.heap.size w4u w' from fun W' mm X h1 h2 h3 =>
              (fit_any W' mm X h2 (h3.to h1) _ row (HIR.out W' h1) hln).mono fun e w' ⟨g1, g2⟩ => ⟨g1, h1.trans (g2.mono h1.size)⟩)
            have HEQ := Lib.hid (show fitB (.mk 3 [] [Xx, Xy]) row = (fitB Xx row || fitB Xy row) ∧ fitB (.mk 5 [] [Xx]) row = (fitB Xx row || decide (row.length = 0)) ∧ fitB (.mk 4 [] [Xx]) row = (fitB (.mk 2 [] [Xx, .mk 4 [] [Xx]]) row || decide (row.length = 0)) from ⟨fit_alt2, fit_opt, fit_star⟩)
            have Ha := Lib.hid (fun W' h => CALL.out W' ma Xx h SX.out.right HMa.out)
            have Hb := Lib.hid (fun W' h => CALL.out W' mb Xy h SY.out.right HMb.out)
            have Hs := Lib.hid (fun W' h => by have h1 := CALL.out W' ms _ h (⟨right_two (SX.out.at (by omega)) (SY.out.at (by omega)) (by omega) 2 (.inl rfl), by have := SX.out.cnt; have := SY.out.cnt; simp only [cnt, cntL]; omega⟩) HMs.out; rw [HSEQ.out] at h1; exact h1)
            have Ht := Lib.hid (fun W' h => by have h1 := CALL.out W' mt _ h (⟨right_two (SX.out.at (by omega)) (SY.out.at (by omega)) (by omega) 3 (.inr rfl), by have := SX.out.cnt; have := SY.out.cnt; simp only [cnt, cntL]; omega⟩) HMt.out; rw [HEQ.out.1] at h1; exact h1)
            have Ho := Lib.hid (fun W' h => by have h1 := CALL.out W' mo _ h (right_one SX.out 5 (by omega)) HMo.out; rw [HEQ.out.2.1] at h1; exact h1)
            have Hr := Lib.hid (fun W' h => by have h1 := CALL.out W' mr _ h (right_one SX.out 4 (by omega)) HMr.out; rw [HEQ.out.2.2] at h1; exact h1)
            have Hu := Lib.hid (fun W' h => CALL.out W' mu _ h (⟨right_two (SX.out.at (by omega)) (right_star (SX.out.at (by omega)) (by omega)) (by omega) 2 (.inl rfl), by have := SX.out.cnt; simp only [cnt, cntL]; omega⟩) HMu.out)
            clear CALL HEQ HSEQ
            obtain ⟨fa, hfa⟩ : ∃ fa, fa = fitB Xx row := ⟨_, rfl⟩
            obtain ⟨fb, hfb⟩ : ∃ fb, fb = fitB Xy row := ⟨_, rfl⟩
            obtain ⟨fu, hfu⟩ : ∃ fu, fu = fitB (.mk 2 [] [Xx, .mk 4 [] [Xx]]) row := ⟨_, rfl⟩
            rw [← hfa] at Ha Ht Ho
            rw [← hfb] at Hb Ht
            rw [← hfu] at Hr Hu
            clear hfa hfb hfu HSU HSP
            have hsp : (sp == sp) = true := by simp
            have hfb2 : (fb == fb) = true := by simp
            by_cases hz : row.length = 0
            · rw [show decide (row.length = 0) = true by simp [hz]] at Ho Hr
              have hz1 : ((row.length : Int) == 0) = true := by simp [hz]
              clear hz
              have Hv0 := Lib.hid HBB.out
              go_wp2_with fail
              refine (Ha.out _ Hv0.out).mono ?_
              rintro e v1 ⟨rfl, hv1⟩
              have Hv1 := Lib.hid hv1
              clear hv1
              go_wp2_with fail
              refine (Hs.out _ Hv1.out).mono ?_
              rintro e v2 ⟨rfl, hv2⟩
              have Hv2 := Lib.hid hv2
              clear hv2
              cases fa
              · simp only [Bool.false_or] at Ht Ho
                go_wp2_with fail
                refine (Ht.out _ Hv2.out).mono ?_
                rintro e v3 ⟨rfl, hv3⟩
                have Hv3 := Lib.hid hv3
                clear hv3
                go_wp2_with fail
                refine (Hb.out _ Hv3.out).mono ?_
                rintro e v4 ⟨rfl, hv4⟩
                have Hv4 := Lib.hid hv4
                clear hv4
                go_wp2_with fail
                refine (Ho.out _ Hv4.out).mono ?_
                rintro e v5 ⟨rfl, hv5⟩
                have Hv5 := Lib.hid hv5
                clear hv5
                go_wp2_with fail
                refine (Hr.out _ Hv5.out).mono ?_
                rintro e v6 ⟨rfl, hv6⟩
                have Hv6 := Lib.hid hv6
                clear hv6
                go_wp2_with fail
                refine (Hu.out _ Hv6.out).mono ?_
                rintro e v7 ⟨rfl, hv7⟩
                have Hv7 := Lib.hid hv7
                clear hv7
                cases fu
                · go_wp2_with fail
                  go_ret
                  exact ⟨rfl, HB4u.out.trans (Hv7.out.mono HB4u.out.size)⟩
                · go_wp2_with fail
                  go_ret
                  exact ⟨rfl, HB4u.out.trans (Hv7.out.mono HB4u.out.size)⟩
              · simp only [Bool.true_or] at Ht Ho
                go_wp2_with fail
                refine (Ht.out _ Hv2.out).mono ?_
                rintro e v3 ⟨rfl, hv3⟩
                have Hv3 := Lib.hid hv3
                clear hv3
                go_wp2_with fail
                refine (Ho.out _ Hv3.out).mono ?_
                rintro e v4 ⟨rfl, hv4⟩
                have Hv4 := Lib.hid hv4
                clear hv4
                go_wp2_with fail
                refine (Hr.out _ Hv4.out).mono ?_
                rintro e v5 ⟨rfl, hv5⟩
                have Hv5 := Lib.hid hv5
                clear hv5
                go_wp2_with fail
                refine (Hu.out _ Hv5.out).mono ?_
                rintro e v6 ⟨rfl, hv6⟩
                have Hv6 := Lib.hid hv6
                clear hv6
                cases fu
                · go_wp2_with fail
                  go_ret
                  exact ⟨rfl, HB4u.out.trans (Hv6.out.mono HB4u.out.size)⟩
                · go_wp2_with fail
                  go_ret
                  exact ⟨rfl, HB4u.out.trans (Hv6.out.mono HB4u.out.size)⟩
            · rw [show decide (row.length = 0) = false by simp [hz]] at Ho Hr
              have hz1 : ((row.length : Int) == 0) = false := by simp [hz]
              clear hz
              have Hv0 := Lib.hid HBB.out
              go_wp2_with fail
              refine (Ha.out _ Hv0.out).mono ?_
              rintro e v1 ⟨rfl, hv1⟩
              have Hv1 := Lib.hid hv1
              clear hv1
              go_wp2_with fail
              refine (Hs.out _ Hv1.out).mono ?_
              rintro e v2 ⟨rfl, hv2⟩
              have Hv2 := Lib.hid hv2
              clear hv2
              cases fa
              · simp only [Bool.false_or] at Ht Ho
                go_wp2_with fail
                refine (Ht.out _ Hv2.out).mono ?_
                rintro e v3 ⟨rfl, hv3⟩
                have Hv3 := Lib.hid hv3
                clear hv3
                go_wp2_with fail
                refine (Hb.out _ Hv3.out).mono ?_
                rintro e v4 ⟨rfl, hv4⟩
                have Hv4 := Lib.hid hv4
                clear hv4
                go_wp2_with fail
                refine (Ho.out _ Hv4.out).mono ?_
                rintro e v5 ⟨rfl, hv5⟩
                have Hv5 := Lib.hid hv5
                clear hv5
                go_wp2_with fail
                refine (Hr.out _ Hv5.out).mono ?_
                rintro e v6 ⟨rfl, hv6⟩
                have Hv6 := Lib.hid hv6
                clear hv6
                go_wp2_with fail
                refine (Hu.out _ Hv6.out).mono ?_
                rintro e v7 ⟨rfl, hv7⟩
                have Hv7 := Lib.hid hv7
                clear hv7
                cases fu
                · go_wp2_with fail
                  go_ret
                  exact ⟨rfl, HB4u.out.trans (Hv7.out.mono HB4u.out.size)⟩
                · go_wp2_with fail
                  go_ret
                  exact ⟨rfl, HB4u.out.trans (Hv7.out.mono HB4u.out.size)⟩
              · simp only [Bool.true_or] at Ht Ho
                go_wp2_with fail
                refine (Ht.out _ Hv2.out).mono ?_
                rintro e v3 ⟨rfl, hv3⟩
                have Hv3 := Lib.hid hv3
                clear hv3
                go_wp2_with fail
                refine (Ho.out _ Hv3.out).mono ?_
                rintro e v4 ⟨rfl, hv4⟩
                have Hv4 := Lib.hid hv4
                clear hv4
                go_wp2_with fail
                refine (Hr.out _ Hv4.out).mono ?_
                rintro e v5 ⟨rfl, hv5⟩
                have Hv5 := Lib.hid hv5
                clear hv5
                go_wp2_with fail
                refine (Hu.out _ Hv5.out).mono ?_
                rintro e v6 ⟨rfl, hv6⟩
                have Hv6 := Lib.hid hv6
                clear hv6
                cases fu
                · go_wp2_with fail
                  go_ret
                  exact ⟨rfl, HB4u.out.trans (Hv6.out.mono HB4u.out.size)⟩
                · go_wp2_with fail
                  go_ret
                  exact ⟨rfl, HB4u.out.trans (Hv6.out.mono HB4u.out.size)⟩
end Go.Proofs.Ytodkeiadaodehaa
