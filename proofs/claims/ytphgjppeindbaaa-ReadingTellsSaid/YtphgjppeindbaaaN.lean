/-
  set; shown: the small case that every statement of the chapter begins with. No condition beyond what each theorem names.
-/
import Derived.Test.YtphgjppeindbaaaM
set_option linter.unusedVariables false
set_option linter.unusedSimpArgs false
namespace Go.Proofs.Ytphgjppeindbaaa
open Go.RowKit

theorem set_any (w : World) (c : Int) : Calls Try.prog 23 #[.int .i64 c] w fun e w' =>
    ∃ g, e = .returned (.agg #[.int .i64 1, .slice (some ⟨g, 0, none⟩) 1 1, .slice none 0 0]) ∧ NodeIs w' (.mk 1 [c] []) (.int .i64 1) (.slice (some ⟨g, 0, none⟩) 1 1) (.slice none 0 0) ∧ Below w.heap.size w w' := by
  go_enter Try.func23, Try.ntmps23
  go_wp2
  refine bodyPost_ret (v := .agg #[.int .i64 1, .slice (some ⟨w.heap.size + 1, 0, none⟩) 1 1, .slice none 0 0]) (by simp [results, Try.results23, go_sem]) rfl ⟨_, rfl, ?_, ?_⟩
  · rw [nodeIs_iff]
    refine ⟨rfl, ⟨some ⟨w.heap.size + 1, 0, none⟩, 1, rfl, by simp, fun _ => ⟨_, _, rfl, fun j u hu => ?_⟩⟩, by unfold R; simp, by unfold R; simp, [], ⟨by simp, none, 0, rfl, by simp, fun h => by simp at h⟩, rfl, fun i h => by simp at h⟩
    match j, hu with
    | 0, hu =>
      simp at hu
      subst hu
      simp
    | j + 1, hu => simp at hu
  · exact (((Below.refl _ _).alloc (Nat.le_refl _) _).alloc (by simp) _)

def rA : Rl := ⟨.mk 1 [1] [], .mk 1 [2] [], false, false⟩
def rB : Rl := ⟨.mk 1 [1] [], .mk 0 [] [], true, false⟩

theorem fitsA (a b : Int) : fitsB rA [a, b] 1 = (a == 1 && b == 2) := by
  rw [Bool.eq_iff_iff, fitsB_iff, Bool.and_eq_true, beq_iff_eq, beq_iff_eq]
  constructor
  · rintro ⟨-, -, ⟨x, h1, -⟩, y, -, h2⟩
    obtain ⟨h3, c, h4, h5⟩ := (M_1 _ _).1 h1
    obtain ⟨h6, d, h7, h8⟩ := (M_1 _ _).1 h2
    simp at h5 h8 h7
    obtain rfl : x = 0 := by simp at h3; omega
    simp at h4
    subst h4 h7
    exact ⟨h5, h8⟩
  · rintro ⟨rfl, rfl⟩
    exact ⟨by omega, by simp, ⟨0, (M_1 _ _).2 ⟨rfl, 1, rfl, by simp⟩, fun h => by cases h⟩, 2, by simp, (M_1 _ _).2 ⟨rfl, 2, rfl, by simp⟩⟩

theorem fitsBB (a b : Int) : fitsB rB [a, b] 1 = (a == 1) := by
  rw [Bool.eq_iff_iff, fitsB_iff, beq_iff_eq]
  constructor
  · rintro ⟨-, -, ⟨x, h1, -⟩, y, -, h2⟩
    obtain ⟨h3, c, h4, h5⟩ := (M_1 _ _).1 h1
    simp at h5
    obtain rfl : x = 0 := by simp at h3; omega
    simp at h4
    subst h4
    exact h5
  · rintro rfl
    exact ⟨by omega, by simp, ⟨0, (M_1 _ _).2 ⟨rfl, 1, rfl, by simp⟩, fun h => by cases h⟩, 1, by simp, (M_0 _ _).2 rfl⟩

theorem bnds_two (a b : Int) : bnds [rA, rB] [a, b] = [true, if a == 1 then !(b == 2) else true, true] := by
  unfold bnds
  have e0 : bndB [rA, rB] [a, b] 0 = true := by rw [bnd_end (.inl rfl)]; rfl
  have e2 : bndB [rA, rB] [a, b] 2 = true := (bnd_end (k := 2) (.inr rfl)).trans rfl
  have e1 : bndB [rA, rB] [a, b] 1 = if a == 1 then !(b == 2) else true := by
    rw [bnd_mid (by omega) (by simp)]
    have h1 := fitsA a b
    have h2 := fitsBB a b
    simp only [List.find?]
    show (match (match fitsB rA [a, b] 1 with | true => some rA | false => match fitsB rB [a, b] 1 with | true => some rB | false => none) with | some r => r.brk | none => true) = _
    rw [h1, h2]
    cases h3 : a == 1 <;> cases h4 : b == 2 <;> rfl
  show (List.range 3).map _ = _
  rw [show List.range 3 = [0, 1, 2] from rfl]
  simp only [List.map_cons, List.map_nil, e0, e1, e2]

theorem bnds_nil (rs : List Rl) : bnds rs [] = [false] := by
  unfold bnds
  show (List.range 1).map _ = _
  rw [show List.range 1 = [0] from rfl]
  simp only [List.map_cons, List.map_nil]
  rw [bnd_end (.inl rfl)]
  rfl

theorem which_two (a b : Int) : whichI [rA, rB] [a, b] 1 = if a == 1 then (if b == 2 then 0 else 1) else -1 := by
  unfold whichI
  have h1 := fitsA a b
  have h2 := fitsBB a b
  simp only [List.findIdx?_cons, List.findIdx?_nil, h1, h2]
  cases h3 : a == 1 <;> cases h4 : b == 2 <;> rfl

theorem ints_two (W : World) (a b : Int) : Ints (W.alloc (.cells #[.int .i64 a, .int .i64 b] 3)) (.slice (some ⟨W.heap.size, 0, none⟩) 2 2) [a, b] :=
  Raw.of_block (cs := [.int .i64 a, .int .i64 b]) (heap_alloc_new W _)

theorem shown_post {w w' : World} (h : Below w.heap.size w w') : Says true w (.returned (.bool true)) w' := ⟨rfl, h⟩

set_option maxHeartbeats 4000000 in
theorem shown_any (w : World) : Calls Try.prog 11 #[] w (Says true w) := by
  go_enter Try.func11, Try.ntmps11
  go_wp2_with fail
  refine (set_any _ 1).mono ?_
  rintro e w1 ⟨g1, rfl, hn1, hb1⟩
  go_wp2_with fail
  refine (set_any _ 2).mono ?_
  rintro e w2 ⟨g2, rfl, hn2, hb2⟩
  go_wp2_with fail
  refine (set_any _ 1).mono ?_
  rintro e w3 ⟨g3, rfl, hn3, hb3⟩
  have hB3 := Lib.hid (hb1.trans ((hb2.trans (hb3.mono hb2.size)).mono hb1.size))
  have hN1 := Lib.hid ((hn1.to hb2 (Nat.le_refl _)).to hb3 (Nat.le_refl _))
  have hN2 := Lib.hid (hn2.to hb3 (Nat.le_refl _))
  have hN3 := Lib.hid hn3
  clear hn1 hn2 hn3 hb1 hb2 hb3
  go_upto_region 2 with fail
  refine abs_wp fun W hW => ?_
  have hbW : Below w3.heap.size w3 W := by rw [hW]; exact (Below.refl _ _).alloc (Nat.le_refl _) _
  have hRW : Rules W (.slice (some ⟨w3.heap.size, 0, none⟩) 2 2) [rA, rB] := by
    refine (ReadL.block (E := RuleIs w3) (sz := 8) (cs := [.int .i64 1, .slice (some ⟨g1, 0, none⟩) 1 1, .slice none 0 0, .int .i64 1, .slice (some ⟨g2, 0, none⟩) 1 1, .slice none 0 0, .bool false, .bool false, .int .i64 1, .slice (some ⟨g3, 0, none⟩) 1 1, .slice none 0 0, .int .i64 0, .slice none 0 0, .slice none 0 0, .bool true, .bool false]) (T := 35) (by rw [hW]; exact heap_alloc_new _ _) [rA, rB]
      [[.int .i64 1, .slice (some ⟨g1, 0, none⟩) 1 1, .slice none 0 0, .int .i64 1, .slice (some ⟨g2, 0, none⟩) 1 1, .slice none 0 0, .bool false, .bool false], [.int .i64 1, .slice (some ⟨g3, 0, none⟩) 1 1, .slice none 0 0, .int .i64 0, .slice none 0 0, .slice none 0 0, .bool true, .bool false]] rfl rfl rfl (fun r hr => ?_) (fun i hi => ?_)).rules hbW
    · simp at hr
      rcases hr with rfl | rfl <;> exact ⟨rfl, fun u hu => by simp at hu; rcases hu with rfl | rfl | rfl | rfl | rfl | rfl | rfl <;> rfl⟩
    · match i, hi with
      | 0, _ => exact ⟨_, rfl, _, _, _, _, _, _, rfl, hN1.out, hN2.out⟩
      | 1, _ =>
        refine ⟨_, rfl, _, _, _, _, _, _, rfl, hN3.out, ?_⟩
        show NodeIs w3 (.mk 0 [] []) _ _ _
        rw [nodeIs_iff]
        exact ⟨rfl, Ints.nil _, by unfold R; simp, by unfold R; simp, [], ⟨by simp, none, 0, rfl, by simp, fun h => by simp at h⟩, rfl, fun i h => by simp at h⟩
      | n + 2, h => simp at h; omega
  have HB := Lib.hid (hB3.out.trans (hbW.mono hB3.out.size))
  have HRW := Lib.hid hRW
  clear hW hbW hRW hB3 hN1 hN2 hN3
  generalize w3.heap.size = gr at *
  have hal : ∀ (W : World) (o : Obj), Below W.heap.size W (W.alloc o) := fun W o => (Below.refl _ _).alloc (Nat.le_refl _) _
  have HAL := Lib.hid hal
  clear hal
  have h1 := bounds_any _ _ _ [rA, rB] [1, 2] (by simp) (by simp) (ints_two W 1 2) (HRW.out.to (HAL.out _ _) (Nat.le_refl _))
  rw [bnds_two] at h1
  have H1 := Lib.hid h1
  clear h1
  go_wp2_with fail
  refine H1.out.mono ?_
  rintro e x1 ⟨va, rfl, hba, hx1⟩
  have HX1 := Lib.hid ((HAL.out W _).trans (hx1.mono (HAL.out W (.cells #[.int .i64 1, .int .i64 2] 3)).size))
  have HBA := Lib.hid hba
  clear hba hx1 H1
  have h2 := bounds_any _ _ _ [rA, rB] [1, 1] (by simp) (by simp) (ints_two x1 1 1) ((HRW.out.to HX1.out (Nat.le_refl _)).to (HAL.out _ _) (Nat.le_refl _))
  rw [bnds_two] at h2
  have H2 := Lib.hid h2
  clear h2
  go_wp2_with fail
  refine H2.out.mono ?_
  rintro e x2 ⟨vb, rfl, hbb, hx2⟩
  have HX2 := Lib.hid ((HAL.out x1 _).trans (hx2.mono (HAL.out x1 (.cells #[.int .i64 1, .int .i64 1] 3)).size))
  have HBB := Lib.hid hbb
  clear hbb hx2 H2
  have HX12 := Lib.hid (HX1.out.trans (HX2.out.mono HX1.out.size))
  have h3 := bounds_any x2 _ _ [rA, rB] [] (by simp) (by simp) (Ints.nil _) (HRW.out.to HX12.out (Nat.le_refl _))
  rw [bnds_nil] at h3
  have H3 := Lib.hid h3
  clear h3
  go_wp2_with fail
  refine H3.out.mono ?_
  rintro e x3 ⟨vc, rfl, hbc, hx3⟩
  have HA3 := Lib.hid ((HBA.out.to HX2.out (Nat.le_refl _)).to hx3 (Nat.le_refl _))
  have HB3 := Lib.hid (HBB.out.to hx3 (Nat.le_refl _))
  have HR3 := Lib.hid ((HRW.out.to HX12.out (Nat.le_refl _)).to hx3 (Nat.le_refl _))
  have HC3 := Lib.hid hbc
  have HW3 := Lib.hid (HB.out.trans ((HX12.out.trans (hx3.mono HX12.out.size)).mono HB.out.size))
  clear hbc hx3 H3
  obtain ⟨pa, ca, rfl, ha1, ha2⟩ := HA3.out.get
  obtain ⟨pb, cb, rfl, hb1, hb2⟩ := HB3.out.get
  obtain ⟨pc, cc, rfl, hc1, hc2⟩ := HC3.out.get
  obtain ⟨ba, oa, rfl, la, ya⟩ := ha2 (by simp)
  obtain ⟨bb, ob, rfl, lb, yb⟩ := hb2 (by simp)
  obtain ⟨bc, oc, rfl, lc, yc⟩ := hc2 (by simp)
  have a0 := ya 0 (by simp)
  have a1 := ya 1 (by simp)
  have a2 := ya 2 (by simp)
  have b1 := yb 1 (by simp)
  have c0 := yc 0 (by simp)
  simp at a0 a1 a2 b1 c0
  obtain ⟨pr, cr, hr0, -, hr2⟩ := HR3.out.get
  obtain ⟨br, or_, hr3, lr, yr⟩ := hr2 (by simp)
  subst hr3
  injection hr0 with hr4 hr5 hr6
  injection hr4 with hr4
  injection hr4 with hr7 hr8
  subst hr7 hr8 hr6
  obtain ⟨row, hrow, hri⟩ := yr 0 (by simp)
  have HRI := Lib.hid hri
  obtain ⟨r0, r1, r2, r3, r4, r5, rfl, -, -⟩ := hri
  have k0 := hrow 0 _ rfl
  have k1 := hrow 1 _ rfl
  have k2 := hrow 2 _ rfl
  have k3 := hrow 3 _ rfl
  have k4 := hrow 4 _ rfl
  have k5 := hrow 5 _ rfl
  have k6 := hrow 6 _ rfl
  have k7 := hrow 7 _ rfl
  simp only [Nat.zero_mul, Nat.add_zero, Nat.zero_add] at k0 k1 k2 k3 k4 k5 k6 k7
  clear ya yb yc ha1 ha2 hb1 hb2 hc1 hc2 hr2 yr hrow
  have h4 := which_any _ _ _ [rA, rB] [2, 2] 1 (by simp) (by simp) (ints_two x3 2 2) (HR3.out.to (HAL.out _ _) (Nat.le_refl _))
  rw [which_two] at h4
  have H4 := Lib.hid h4
  clear h4
  go_wp2_with fail
  refine H4.out.mono ?_
  rintro e x4 ⟨rfl, hx4⟩
  have HX4 := Lib.hid ((HAL.out x3 _).trans (hx4.mono (HAL.out x3 (.cells #[.int .i64 2, .int .i64 2] 3)).size))
  have h5 := which_any _ _ _ [rA, rB] [1, 1] 1 (by simp) (by simp) (ints_two x4 1 1) ((HR3.out.to HX4.out (Nat.le_refl _)).to (HAL.out _ _) (Nat.le_refl _))
  rw [which_two] at h5
  have H5 := Lib.hid h5
  clear h5 hx4 H4
  go_wp2_with fail
  refine H5.out.mono ?_
  rintro e x5 ⟨rfl, hx5⟩
  have HX5 := Lib.hid (HX4.out.trans (((HAL.out x4 _).trans (hx5.mono (HAL.out x4 (.cells #[.int .i64 1, .int .i64 1] 3)).size)).mono HX4.out.size))
  have m0 := cell_below HX5.out lr k0
  have m1 := cell_below HX5.out lr k1
  have m2 := cell_below HX5.out lr k2
  have m3 := cell_below HX5.out lr k3
  have m4 := cell_below HX5.out lr k4
  have m5 := cell_below HX5.out lr k5
  have m6 := cell_below HX5.out lr k6
  have m7 := cell_below HX5.out lr k7
  have lr5 : gr < x5.heap.size := Nat.lt_of_lt_of_le lr HX5.out.size
  have h6 := fits_any _ [1, 2] rA _ _ 1 (by simp) (ints_two x5 1 2) ((HRI.out.to HX5.out (Nat.le_refl _)).to (HAL.out _ _) (Nat.le_refl _))
  rw [fitsA] at h6
  have H6 := Lib.hid h6
  clear h6 hx5 H5 k0 k1 k2 k3 k4 k5 k6 k7
  go_wp2_with fail
  refine H6.out.mono ?_
  rintro e x6 ⟨rfl, hx6⟩
  have HX6 := Lib.hid (HX5.out.trans (((HAL.out x5 _).trans (hx6.mono (HAL.out x5 (.cells #[.int .i64 1, .int .i64 2] 3)).size)).mono HX5.out.size))
  clear hx6 H6 m0 m1 m2 m3 m4 m5 m6 m7
  go_wp2
  go_ret
  exact shown_post (HW3.out.trans (HX6.out.mono HW3.out.size))
end Go.Proofs.Ytphgjppeindbaaa
