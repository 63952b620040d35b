/-
  ReadingTells ends true. No condition beyond what each theorem names.
-/
import Derived.Test.YtphgjppeindbaaaRF
set_option linter.unusedVariables false
set_option linter.unusedSimpArgs false
namespace Go.Proofs.Ytphgjppeindbaaa
open Go.RowKit

def IsI (v : Value) : Prop := ∃ q : Int, v = .int .i64 q

set_option maxRecDepth 100000 in
set_option maxHeartbeats 8000000 in
theorem tells_law (w : World) (v tv : Value) (rs : List Rl) (t : List Int) (p : Int) (hr : rs.length ≤ 9223372036854775807) (hn : t.length ≤ 9223372036854775807) (hv : Rules w v rs) (ht : Ints w tv t) :
    Calls Try.prog 3 #[v, tv, .int .i64 p] w (Says true w) := by
  have HV := Lib.hid hv
  have HT := Lib.hid ht
  obtain ⟨pv0, cv0, hv0, -⟩ := hv.get
  obtain ⟨pt0, ct0, ht0, -⟩ := ht.get
  subst hv0 ht0
  clear hv ht
  go_enter Try.func3, Try.ntmps3
  go_wp2_with fail
  refine (shown_any w).mono ?_
  rintro e w1 ⟨rfl, hb1⟩
  have HB1 := Lib.hid hb1
  have HF := Lib.hid (few_any w1 _ _ rs t hr hn (HT.out.to hb1 (Nat.le_refl _)) (HV.out.to hb1 (Nat.le_refl _)))
  clear hb1
  go_wp2_with fail
  refine HF.out.mono ?_
  rintro e w2 ⟨v1, v2, rfl, ho1, ho2, hb2⟩
  have HB2 := Lib.hid (HB1.out.trans (hb2.mono HB1.out.size))
  have hRL := (ho1.read.rules hb2)
  have hIN := ho2.read.ints
  have hl10 := fewR_len rs
  have hs16 : (t.take 16).length ≤ 16 := by simp; omega
  generalize fewR rs = l at *
  generalize t.take 16 = s at *
  obtain ⟨p1, c1, rfl, hc1, hx1⟩ := hRL.get
  obtain ⟨p2, c2, rfl, hc2, hx2⟩ := hIN.get
  have HRL := Lib.hid hRL
  have HIN := Lib.hid hIN
  have HX1 := Lib.hid hx1
  have HX2 := Lib.hid hx2
  have ha := below_alloc1 w2 (.cells #[] 3)
  have HA := Lib.hid ha
  have HO := Lib.hid (OwnL.made (α := Int) (E := intE) (T := 3) (sz := 1) (base := w2.heap.size) w2 (Nat.le_refl _))
  have HRD := Lib.hid ((hIN.to ha (Nat.le_refl _)).readL)
  have HZ := Lib.hid ha.size
  clear ho1 ho2 hb2 hRL hIN hx1 hx2 HF ha
  go_wp2_with (at_builtin; refine wpList_append_ints rfl (.tmp 20) (.tmp 21) rfl (.slice (some ⟨w2.heap.size, 0, none⟩) 0 0) [] rfl HO.out _ s rfl HRD.out (by simp; omega) HZ.out ?_)
  intro p3 c3 w3 hown hg _
  have hb3 := HA.out.grown hg HZ.out (fun k hk => (HO.out.lt k hk).1)
  have HB3 := Lib.hid hb3
  have hOI := hown.read.ints
  have HOI := Lib.hid hOI
  obtain ⟨p3', c3', he3, hc3, hx3⟩ := hOI.get
  injection he3 with e1 e2 e3
  subst e1 e3
  have HX3 := Lib.hid hx3
  have HR3 := Lib.hid (HRL.out.to hb3 (Nat.le_refl _))
  have HI3 := Lib.hid (HIN.out.to hb3 (Nat.le_refl _))
  have HC1 := Lib.hid (bounds_any w3 _ _ l s (by omega) (by omega) hOI HR3.out)
  clear hown hg hb3 hOI hx3 e2
  go_wp2_with fail
  refine HC1.out.mono ?_
  rintro e w4 ⟨va, rfl, hba, hb4⟩
  have HBA := Lib.hid hba
  have HB4 := Lib.hid (HB3.out.trans (hb4.mono HB3.out.size))
  have HB34 := Lib.hid hb4
  have HC2 := Lib.hid (refBounds_any w4 _ _ l s (by omega) (by omega) (HI3.out.to hb4 (Nat.le_refl _)) (HR3.out.to hb4 (Nat.le_refl _)))
  clear hba hb4 HC1
  go_wp2_with fail
  refine HC2.out.mono ?_
  rintro e w5 ⟨vb, rfl, hbb, hb5⟩
  have HB5 := Lib.hid (HB4.out.trans (hb5.mono HB4.out.size))
  have HB35 := Lib.hid (HB34.out.trans (hb5.mono HB34.out.size))
  have HC3 := Lib.hid (same_any w5 _ _ (bnds l s) (by rw [bnds_length]; omega) (HBA.out.to hb5 (Nat.le_refl _)) hbb)
  clear hbb hb5 HC2
  go_wp2_with fail
  refine HC3.out.mono ?_
  rintro e w6 ⟨rfl, hb6⟩
  have HB36 := Lib.hid (HB35.out.trans (hb6.mono HB35.out.size))
  have HB06 := Lib.hid (HB2.out.trans ((HB5.out.trans (hb6.mono HB5.out.size)).mono HB2.out.size))
  have HB26 := Lib.hid (HB5.out.trans (hb6.mono HB5.out.size))
  clear hb6 HC3
  have HTRI := Lib.hid (show (p < -1) ∨ (¬ p < -1 ∧ 17 < p) ∨ (¬ p < -1 ∧ ¬ 17 < p) by omega)
  obtain ⟨wc, hwc⟩ : ∃ x, x = w6 := ⟨_, rfl⟩
  rw [← hwc] at HB36 HB06 HB26 ⊢
  clear hwc
  rcases HTRI.out with h1 | ⟨h1, h2⟩ | ⟨h1, h2⟩
  · go_upto_region 8 with fail
    generalize bits BinOp.and IntKind.i64 p 15 = q
    go_wp2_with fail
    go_loopw [11] (fun i wr => ∃ k : Nat, i = .int .i64 k ∧ k ≤ l.length ∧ Below wc.heap.size wc wr) (fun i _ => l.length - (intOf i).toNat)
    case atStart => exact ⟨0, rfl, by omega, Below.refl _ _⟩
    case round =>
      obtain ⟨k, rfl, h1, hb⟩ := hrel
      have HB := Lib.hid hb
      have HBR2 := Lib.hid (HB26.out.trans (hb.mono HB26.out.size))
      have HBR3 := Lib.hid (HB36.out.trans (hb.mono HB36.out.size))
      have HBR0 := Lib.hid (HB06.out.trans (hb.mono HB06.out.size))
      by_cases hk : k < l.length
      · obtain ⟨bb, off, rfl, hbl, hxx⟩ := HX1.out (by omega)
        obtain ⟨row, hrow, hri⟩ := hxx k hk
        have HRI := Lib.hid hri
        obtain ⟨a, b, c, d, e, f, rfl, -, -⟩ := hri
        have HSS := Lib.hid (show ∀ W, Below w2.heap.size w2 W → (W.cell? ⟨bb, off + k * 8, none⟩ = some a ∧ W.cell? ⟨bb, off + k * 8 + 1, none⟩ = some b ∧ W.cell? ⟨bb, off + k * 8 + 2, none⟩ = some c ∧ W.cell? ⟨bb, off + k * 8 + 3, none⟩ = some d ∧ W.cell? ⟨bb, off + k * 8 + 4, none⟩ = some e ∧ W.cell? ⟨bb, off + k * 8 + 5, none⟩ = some f ∧ W.cell? ⟨bb, off + k * 8 + 6, none⟩ = some (.bool l[k].brk) ∧ W.cell? ⟨bb, off + k * 8 + 7, none⟩ = some (.bool l[k].start)) from fun W hW =>
          ⟨cell_below hW hbl (hrow 0 _ rfl), cell_below hW hbl (hrow 1 _ rfl), cell_below hW hbl (hrow 2 _ rfl), cell_below hW hbl (hrow 3 _ rfl), cell_below hW hbl (hrow 4 _ rfl), cell_below hW hbl (hrow 5 _ rfl), cell_below hW hbl (hrow 6 _ rfl), cell_below hW hbl (hrow 7 _ rfl)⟩)
        have HFI := Lib.hid (fun (W : World) (hW : Below wr.heap.size wr W) => fits_any W s l[k] _ _ q (by omega) ((HOI.out.to HBR3.out (Nat.le_refl _)).to hW (Nat.le_refl _)) ((HRI.out.to HBR2.out (Nat.le_refl _)).to hW (Nat.le_refl _)))
        have HFR := Lib.hid (fun (W : World) (hW : Below wr.heap.size wr W) => refFits_any W s l[k] _ _ q (by omega) ((HIN.out.to HBR2.out (Nat.le_refl _)).to hW (Nat.le_refl _)) ((HRI.out.to HBR2.out (Nat.le_refl _)).to hW (Nat.le_refl _)))
        have j0 : (0 : Int) ≤ k := by omega
        have j1 : (k : Int) < l.length := by omega
        generalize fitsB l[k] s q = ans at *
        have hne : (ans != ans) = false := by simp
        clear hb hxx hrow
        go_upto_region 11 with fail
        refine wp_region_plan (fun W => W.cell? ⟨bb, off + k * 8, none⟩ = some a ∧ W.cell? ⟨bb, off + k * 8 + 1, none⟩ = some b ∧ W.cell? ⟨bb, off + k * 8 + 2, none⟩ = some c ∧ W.cell? ⟨bb, off + k * 8 + 3, none⟩ = some d ∧ W.cell? ⟨bb, off + k * 8 + 4, none⟩ = some e ∧ W.cell? ⟨bb, off + k * 8 + 5, none⟩ = some f ∧ W.cell? ⟨bb, off + k * 8 + 6, none⟩ = some (.bool l[k].brk) ∧ W.cell? ⟨bb, off + k * 8 + 7, none⟩ = some (.bool l[k].start))
          (.reads [0, 1, 2, 3, 4, 5, 7, 8, 9, 10, 11, 12] (.one 6 (.one 13 (.reads [14] .done)))) 90 (by kernel_rfl) (by kernel_rfl) rfl (fun _ _ _ _ _ h => h) (HSS.out _ HBR2.out.drew) ?_
        apply plan_reads
        · intro W hW
          obtain ⟨s0, s1, s2, s3, s4, s5, s6, s7⟩ := hW
          repeat (refine wpRead_step (fun K hK => ?_); go_simp; refine hK _ ?_; clear hK K)
          exact wpRead_nil rfl
        have HCA := Lib.hid (HFI.out wr.drew (Below.refl _ _).drew)
        refine plan_one rfl ?_
        go_wp2_with fail
        refine HCA.out.mono ?_
        rintro e1 w7 ⟨rfl, hb7⟩
        have HB7 := Lib.hid (show Below wr.heap.size wr w7 from (Below.refl _ _).drew.trans hb7)
        have HCB := Lib.hid (HFR.out w7 HB7.out)
        clear hb7 HCA
        go_wp2_with fail
        refine Then.mk (HSS.out _ (HBR2.out.trans (HB7.out.mono HBR2.out.size))) ?_
        refine plan_one rfl ?_
        go_wp2_with fail
        refine HCB.out.mono ?_
        rintro e2 w8 ⟨rfl, hb8⟩
        have HB8 := Lib.hid (HB7.out.trans (hb8.mono HB7.out.size))
        clear hb8 HCB
        go_wp2_with fail
        refine Then.mk (HSS.out _ (HBR2.out.trans (HB8.out.mono HBR2.out.size))) ?_
        apply plan_reads
        · intro W hW
          repeat (refine wpRead_step (fun K hK => ?_); go_simp; refine hK _ ?_; clear hK K)
          exact wpRead_nil rfl
        refine plan_done ?_
        go_wp2_with fail
        go_roundw
        case rel => exact ⟨k + 1, by go_num, by omega, HB.out.trans (HB8.out.mono HB.out.size)⟩
        case measure => simp [intOf]; omega
      · clear hb
        obtain ⟨wo, hwo⟩ : ∃ x, x = wr := ⟨_, rfl⟩
        clear hwo wo
        go_wp2_with fail
        go_loopw [12] (fun i wz => ∃ j : Nat, i = .int .i64 j ∧ j ≤ s.length ∧ Below wr.heap.size wr wz) (fun i _ => s.length - (intOf i).toNat)
        case atStart => exact ⟨0, rfl, by omega, Below.refl _ _⟩
        case round =>
          obtain ⟨j, rfl, h2, hb⟩ := hrel
          have HBZ := Lib.hid hb
          have HZ2 := Lib.hid (HBR2.out.trans (hb.mono HBR2.out.size))
          have HZ3 := Lib.hid (HBR3.out.trans (hb.mono HBR3.out.size))
          have HZ0 := Lib.hid (HBR0.out.trans (hb.mono HBR0.out.size))
          by_cases hj : j < s.length
          · obtain ⟨ba, oa, rfl, hla, hya⟩ := HX2.out (by omega)
            obtain ⟨bo, oo, rfl, hlo, hyo⟩ := HX3.out (by omega)
            have ya := cell_below HZ2.out hla (hya j hj)
            have yo := cell_below HZ3.out hlo (hyo j hj)
            generalize s[j] = sj at *
            have hne : (sj != sj) = false := by simp
            clear hb hya hyo
            go_wp2_with fail
            go_quiet (fail)
            go_wp2_with fail
            go_roundw
            case rel => exact ⟨j + 1, by go_num, by omega, below_drewN HBZ.out _⟩
            case measure => simp [intOf]; omega
          · have HW1 := Lib.hid (which_any wr (.slice p1 l.length c1) (.slice p3 s.length c3) l s q (by omega) (by omega) (HOI.out.to HZ3.out (Nat.le_refl _)) (HRL.out.to HZ2.out (Nat.le_refl _)))
            clear hb
            go_wp2_with fail
            refine HW1.out.mono ?_
            rintro e1 w7 ⟨rfl, hb7⟩
            have HZ27 := Lib.hid (HZ2.out.trans (hb7.mono HZ2.out.size))
            have HZ07 := Lib.hid (HZ0.out.trans (hb7.mono HZ0.out.size))
            have HW2 := Lib.hid (refWhich_any w7 (.slice p1 l.length c1) (.slice p2 s.length c2) l s q (by omega) (by omega) (HIN.out.to HZ27.out (Nat.le_refl _)) (HRL.out.to HZ27.out (Nat.le_refl _)))
            generalize whichI l s q = ans at *
            have hbe : (ans == ans) = true := by simp
            clear hb7 HW1
            go_wp2_with fail
            refine HW2.out.mono ?_
            rintro e2 w8 ⟨rfl, hb8⟩
            have HZ08 := Lib.hid (HZ07.out.trans (hb8.mono HZ07.out.size))
            clear hb8 HW2
            go_wp2_with fail
            go_ret
            exact Says.mk rfl HZ08.out
  · go_upto_region 8 with fail
    generalize bits BinOp.and IntKind.i64 p 15 = q
    go_wp2_with fail
    go_loopw [11] (fun i wr => ∃ k : Nat, i = .int .i64 k ∧ k ≤ l.length ∧ Below wc.heap.size wc wr) (fun i _ => l.length - (intOf i).toNat)
    case atStart => exact ⟨0, rfl, by omega, Below.refl _ _⟩
    case round =>
      obtain ⟨k, rfl, h1, hb⟩ := hrel
      have HB := Lib.hid hb
      have HBR2 := Lib.hid (HB26.out.trans (hb.mono HB26.out.size))
      have HBR3 := Lib.hid (HB36.out.trans (hb.mono HB36.out.size))
      have HBR0 := Lib.hid (HB06.out.trans (hb.mono HB06.out.size))
      by_cases hk : k < l.length
      · obtain ⟨bb, off, rfl, hbl, hxx⟩ := HX1.out (by omega)
        obtain ⟨row, hrow, hri⟩ := hxx k hk
        have HRI := Lib.hid hri
        obtain ⟨a, b, c, d, e, f, rfl, -, -⟩ := hri
        have HSS := Lib.hid (show ∀ W, Below w2.heap.size w2 W → (W.cell? ⟨bb, off + k * 8, none⟩ = some a ∧ W.cell? ⟨bb, off + k * 8 + 1, none⟩ = some b ∧ W.cell? ⟨bb, off + k * 8 + 2, none⟩ = some c ∧ W.cell? ⟨bb, off + k * 8 + 3, none⟩ = some d ∧ W.cell? ⟨bb, off + k * 8 + 4, none⟩ = some e ∧ W.cell? ⟨bb, off + k * 8 + 5, none⟩ = some f ∧ W.cell? ⟨bb, off + k * 8 + 6, none⟩ = some (.bool l[k].brk) ∧ W.cell? ⟨bb, off + k * 8 + 7, none⟩ = some (.bool l[k].start)) from fun W hW =>
          ⟨cell_below hW hbl (hrow 0 _ rfl), cell_below hW hbl (hrow 1 _ rfl), cell_below hW hbl (hrow 2 _ rfl), cell_below hW hbl (hrow 3 _ rfl), cell_below hW hbl (hrow 4 _ rfl), cell_below hW hbl (hrow 5 _ rfl), cell_below hW hbl (hrow 6 _ rfl), cell_below hW hbl (hrow 7 _ rfl)⟩)
        have HFI := Lib.hid (fun (W : World) (hW : Below wr.heap.size wr W) => fits_any W s l[k] _ _ q (by omega) ((HOI.out.to HBR3.out (Nat.le_refl _)).to hW (Nat.le_refl _)) ((HRI.out.to HBR2.out (Nat.le_refl _)).to hW (Nat.le_refl _)))
        have HFR := Lib.hid (fun (W : World) (hW : Below wr.heap.size wr W) => refFits_any W s l[k] _ _ q (by omega) ((HIN.out.to HBR2.out (Nat.le_refl _)).to hW (Nat.le_refl _)) ((HRI.out.to HBR2.out (Nat.le_refl _)).to hW (Nat.le_refl _)))
        have j0 : (0 : Int) ≤ k := by omega
        have j1 : (k : Int) < l.length := by omega
        generalize fitsB l[k] s q = ans at *
        have hne : (ans != ans) = false := by simp
        clear hb hxx hrow
        go_upto_region 11 with fail
        refine wp_region_plan (fun W => W.cell? ⟨bb, off + k * 8, none⟩ = some a ∧ W.cell? ⟨bb, off + k * 8 + 1, none⟩ = some b ∧ W.cell? ⟨bb, off + k * 8 + 2, none⟩ = some c ∧ W.cell? ⟨bb, off + k * 8 + 3, none⟩ = some d ∧ W.cell? ⟨bb, off + k * 8 + 4, none⟩ = some e ∧ W.cell? ⟨bb, off + k * 8 + 5, none⟩ = some f ∧ W.cell? ⟨bb, off + k * 8 + 6, none⟩ = some (.bool l[k].brk) ∧ W.cell? ⟨bb, off + k * 8 + 7, none⟩ = some (.bool l[k].start))
          (.reads [0, 1, 2, 3, 4, 5, 7, 8, 9, 10, 11, 12] (.one 6 (.one 13 (.reads [14] .done)))) 90 (by kernel_rfl) (by kernel_rfl) rfl (fun _ _ _ _ _ h => h) (HSS.out _ HBR2.out.drew) ?_
        apply plan_reads
        · intro W hW
          obtain ⟨s0, s1, s2, s3, s4, s5, s6, s7⟩ := hW
          repeat (refine wpRead_step (fun K hK => ?_); go_simp; refine hK _ ?_; clear hK K)
          exact wpRead_nil rfl
        have HCA := Lib.hid (HFI.out wr.drew (Below.refl _ _).drew)
        refine plan_one rfl ?_
        go_wp2_with fail
        refine HCA.out.mono ?_
        rintro e1 w7 ⟨rfl, hb7⟩
        have HB7 := Lib.hid (show Below wr.heap.size wr w7 from (Below.refl _ _).drew.trans hb7)
        have HCB := Lib.hid (HFR.out w7 HB7.out)
        clear hb7 HCA
        go_wp2_with fail
        refine Then.mk (HSS.out _ (HBR2.out.trans (HB7.out.mono HBR2.out.size))) ?_
        refine plan_one rfl ?_
        go_wp2_with fail
        refine HCB.out.mono ?_
        rintro e2 w8 ⟨rfl, hb8⟩
        have HB8 := Lib.hid (HB7.out.trans (hb8.mono HB7.out.size))
        clear hb8 HCB
        go_wp2_with fail
        refine Then.mk (HSS.out _ (HBR2.out.trans (HB8.out.mono HBR2.out.size))) ?_
        apply plan_reads
        · intro W hW
          repeat (refine wpRead_step (fun K hK => ?_); go_simp; refine hK _ ?_; clear hK K)
          exact wpRead_nil rfl
        refine plan_done ?_
        go_wp2_with fail
        go_roundw
        case rel => exact ⟨k + 1, by go_num, by omega, HB.out.trans (HB8.out.mono HB.out.size)⟩
        case measure => simp [intOf]; omega
      · clear hb
        obtain ⟨wo, hwo⟩ : ∃ x, x = wr := ⟨_, rfl⟩
        clear hwo wo
        go_wp2_with fail
        go_loopw [12] (fun i wz => ∃ j : Nat, i = .int .i64 j ∧ j ≤ s.length ∧ Below wr.heap.size wr wz) (fun i _ => s.length - (intOf i).toNat)
        case atStart => exact ⟨0, rfl, by omega, Below.refl _ _⟩
        case round =>
          obtain ⟨j, rfl, h2, hb⟩ := hrel
          have HBZ := Lib.hid hb
          have HZ2 := Lib.hid (HBR2.out.trans (hb.mono HBR2.out.size))
          have HZ3 := Lib.hid (HBR3.out.trans (hb.mono HBR3.out.size))
          have HZ0 := Lib.hid (HBR0.out.trans (hb.mono HBR0.out.size))
          by_cases hj : j < s.length
          · obtain ⟨ba, oa, rfl, hla, hya⟩ := HX2.out (by omega)
            obtain ⟨bo, oo, rfl, hlo, hyo⟩ := HX3.out (by omega)
            have ya := cell_below HZ2.out hla (hya j hj)
            have yo := cell_below HZ3.out hlo (hyo j hj)
            generalize s[j] = sj at *
            have hne : (sj != sj) = false := by simp
            clear hb hya hyo
            go_wp2_with fail
            go_quiet (fail)
            go_wp2_with fail
            go_roundw
            case rel => exact ⟨j + 1, by go_num, by omega, below_drewN HBZ.out _⟩
            case measure => simp [intOf]; omega
          · have HW1 := Lib.hid (which_any wr (.slice p1 l.length c1) (.slice p3 s.length c3) l s q (by omega) (by omega) (HOI.out.to HZ3.out (Nat.le_refl _)) (HRL.out.to HZ2.out (Nat.le_refl _)))
            clear hb
            go_wp2_with fail
            refine HW1.out.mono ?_
            rintro e1 w7 ⟨rfl, hb7⟩
            have HZ27 := Lib.hid (HZ2.out.trans (hb7.mono HZ2.out.size))
            have HZ07 := Lib.hid (HZ0.out.trans (hb7.mono HZ0.out.size))
            have HW2 := Lib.hid (refWhich_any w7 (.slice p1 l.length c1) (.slice p2 s.length c2) l s q (by omega) (by omega) (HIN.out.to HZ27.out (Nat.le_refl _)) (HRL.out.to HZ27.out (Nat.le_refl _)))
            generalize whichI l s q = ans at *
            have hbe : (ans == ans) = true := by simp
            clear hb7 HW1
            go_wp2_with fail
            refine HW2.out.mono ?_
            rintro e2 w8 ⟨rfl, hb8⟩
            have HZ08 := Lib.hid (HZ07.out.trans (hb8.mono HZ07.out.size))
            clear hb8 HW2
            go_wp2_with fail
            go_ret
            exact Says.mk rfl HZ08.out
  · go_upto_region 8 with fail
    obtain ⟨q, hq⟩ : ∃ q, q = p := ⟨_, rfl⟩
    rw [← hq] at h1 h2 ⊢
    clear hq
    go_wp2_with fail
    go_loopw [11] (fun i wr => ∃ k : Nat, i = .int .i64 k ∧ k ≤ l.length ∧ Below wc.heap.size wc wr) (fun i _ => l.length - (intOf i).toNat)
    case atStart => exact ⟨0, rfl, by omega, Below.refl _ _⟩
    case round =>
      obtain ⟨k, rfl, h1, hb⟩ := hrel
      have HB := Lib.hid hb
      have HBR2 := Lib.hid (HB26.out.trans (hb.mono HB26.out.size))
      have HBR3 := Lib.hid (HB36.out.trans (hb.mono HB36.out.size))
      have HBR0 := Lib.hid (HB06.out.trans (hb.mono HB06.out.size))
      by_cases hk : k < l.length
      · obtain ⟨bb, off, rfl, hbl, hxx⟩ := HX1.out (by omega)
        obtain ⟨row, hrow, hri⟩ := hxx k hk
        have HRI := Lib.hid hri
        obtain ⟨a, b, c, d, e, f, rfl, -, -⟩ := hri
        have HSS := Lib.hid (show ∀ W, Below w2.heap.size w2 W → (W.cell? ⟨bb, off + k * 8, none⟩ = some a ∧ W.cell? ⟨bb, off + k * 8 + 1, none⟩ = some b ∧ W.cell? ⟨bb, off + k * 8 + 2, none⟩ = some c ∧ W.cell? ⟨bb, off + k * 8 + 3, none⟩ = some d ∧ W.cell? ⟨bb, off + k * 8 + 4, none⟩ = some e ∧ W.cell? ⟨bb, off + k * 8 + 5, none⟩ = some f ∧ W.cell? ⟨bb, off + k * 8 + 6, none⟩ = some (.bool l[k].brk) ∧ W.cell? ⟨bb, off + k * 8 + 7, none⟩ = some (.bool l[k].start)) from fun W hW =>
          ⟨cell_below hW hbl (hrow 0 _ rfl), cell_below hW hbl (hrow 1 _ rfl), cell_below hW hbl (hrow 2 _ rfl), cell_below hW hbl (hrow 3 _ rfl), cell_below hW hbl (hrow 4 _ rfl), cell_below hW hbl (hrow 5 _ rfl), cell_below hW hbl (hrow 6 _ rfl), cell_below hW hbl (hrow 7 _ rfl)⟩)
        have HFI := Lib.hid (fun (W : World) (hW : Below wr.heap.size wr W) => fits_any W s l[k] _ _ q (by omega) ((HOI.out.to HBR3.out (Nat.le_refl _)).to hW (Nat.le_refl _)) ((HRI.out.to HBR2.out (Nat.le_refl _)).to hW (Nat.le_refl _)))
        have HFR := Lib.hid (fun (W : World) (hW : Below wr.heap.size wr W) => refFits_any W s l[k] _ _ q (by omega) ((HIN.out.to HBR2.out (Nat.le_refl _)).to hW (Nat.le_refl _)) ((HRI.out.to HBR2.out (Nat.le_refl _)).to hW (Nat.le_refl _)))
        have j0 : (0 : Int) ≤ k := by omega
        have j1 : (k : Int) < l.length := by omega
        generalize fitsB l[k] s q = ans at *
        have hne : (ans != ans) = false := by simp
        clear hb hxx hrow
        go_upto_region 11 with fail
        refine wp_region_plan (fun W => W.cell? ⟨bb, off + k * 8, none⟩ = some a ∧ W.cell? ⟨bb, off + k * 8 + 1, none⟩ = some b ∧ W.cell? ⟨bb, off + k * 8 + 2, none⟩ = some c ∧ W.cell? ⟨bb, off + k * 8 + 3, none⟩ = some d ∧ W.cell? ⟨bb, off + k * 8 + 4, none⟩ = some e ∧ W.cell? ⟨bb, off + k * 8 + 5, none⟩ = some f ∧ W.cell? ⟨bb, off + k * 8 + 6, none⟩ = some (.bool l[k].brk) ∧ W.cell? ⟨bb, off + k * 8 + 7, none⟩ = some (.bool l[k].start))
          (.reads [0, 1, 2, 3, 4, 5, 7, 8, 9, 10, 11, 12] (.one 6 (.one 13 (.reads [14] .done)))) 90 (by kernel_rfl) (by kernel_rfl) rfl (fun _ _ _ _ _ h => h) (HSS.out _ HBR2.out.drew) ?_
        apply plan_reads
        · intro W hW
          obtain ⟨s0, s1, s2, s3, s4, s5, s6, s7⟩ := hW
          repeat (refine wpRead_step (fun K hK => ?_); go_simp; refine hK _ ?_; clear hK K)
          exact wpRead_nil rfl
        have HCA := Lib.hid (HFI.out wr.drew (Below.refl _ _).drew)
        refine plan_one rfl ?_
        go_wp2_with fail
        refine HCA.out.mono ?_
        rintro e1 w7 ⟨rfl, hb7⟩
        have HB7 := Lib.hid (show Below wr.heap.size wr w7 from (Below.refl _ _).drew.trans hb7)
        have HCB := Lib.hid (HFR.out w7 HB7.out)
        clear hb7 HCA
        go_wp2_with fail
        refine Then.mk (HSS.out _ (HBR2.out.trans (HB7.out.mono HBR2.out.size))) ?_
        refine plan_one rfl ?_
        go_wp2_with fail
        refine HCB.out.mono ?_
        rintro e2 w8 ⟨rfl, hb8⟩
        have HB8 := Lib.hid (HB7.out.trans (hb8.mono HB7.out.size))
        clear hb8 HCB
        go_wp2_with fail
        refine Then.mk (HSS.out _ (HBR2.out.trans (HB8.out.mono HBR2.out.size))) ?_
        apply plan_reads
        · intro W hW
          repeat (refine wpRead_step (fun K hK => ?_); go_simp; refine hK _ ?_; clear hK K)
          exact wpRead_nil rfl
        refine plan_done ?_
        go_wp2_with fail
        go_roundw
        case rel => exact ⟨k + 1, by go_num, by omega, HB.out.trans (HB8.out.mono HB.out.size)⟩
        case measure => simp [intOf]; omega
      · clear hb
        obtain ⟨wo, hwo⟩ : ∃ x, x = wr := ⟨_, rfl⟩
        clear hwo wo
        go_wp2_with fail
        go_loopw [12] (fun i wz => ∃ j : Nat, i = .int .i64 j ∧ j ≤ s.length ∧ Below wr.heap.size wr wz) (fun i _ => s.length - (intOf i).toNat)
        case atStart => exact ⟨0, rfl, by omega, Below.refl _ _⟩
        case round =>
          obtain ⟨j, rfl, h2, hb⟩ := hrel
          have HBZ := Lib.hid hb
          have HZ2 := Lib.hid (HBR2.out.trans (hb.mono HBR2.out.size))
          have HZ3 := Lib.hid (HBR3.out.trans (hb.mono HBR3.out.size))
          have HZ0 := Lib.hid (HBR0.out.trans (hb.mono HBR0.out.size))
          by_cases hj : j < s.length
          · obtain ⟨ba, oa, rfl, hla, hya⟩ := HX2.out (by omega)
            obtain ⟨bo, oo, rfl, hlo, hyo⟩ := HX3.out (by omega)
            have ya := cell_below HZ2.out hla (hya j hj)
            have yo := cell_below HZ3.out hlo (hyo j hj)
            generalize s[j] = sj at *
            have hne : (sj != sj) = false := by simp
            clear hb hya hyo
            go_wp2_with fail
            go_quiet (fail)
            go_wp2_with fail
            go_roundw
            case rel => exact ⟨j + 1, by go_num, by omega, below_drewN HBZ.out _⟩
            case measure => simp [intOf]; omega
          · have HW1 := Lib.hid (which_any wr (.slice p1 l.length c1) (.slice p3 s.length c3) l s q (by omega) (by omega) (HOI.out.to HZ3.out (Nat.le_refl _)) (HRL.out.to HZ2.out (Nat.le_refl _)))
            clear hb
            go_wp2_with fail
            refine HW1.out.mono ?_
            rintro e1 w7 ⟨rfl, hb7⟩
            have HZ27 := Lib.hid (HZ2.out.trans (hb7.mono HZ2.out.size))
            have HZ07 := Lib.hid (HZ0.out.trans (hb7.mono HZ0.out.size))
            have HW2 := Lib.hid (refWhich_any w7 (.slice p1 l.length c1) (.slice p2 s.length c2) l s q (by omega) (by omega) (HIN.out.to HZ27.out (Nat.le_refl _)) (HRL.out.to HZ27.out (Nat.le_refl _)))
            generalize whichI l s q = ans at *
            have hbe : (ans == ans) = true := by simp
            clear hb7 HW1
            go_wp2_with fail
            refine HW2.out.mono ?_
            rintro e2 w8 ⟨rfl, hb8⟩
            have HZ08 := Lib.hid (HZ07.out.trans (hb8.mono HZ07.out.size))
            clear hb8 HW2
            go_wp2_with fail
            go_ret
            exact Says.mk rfl HZ08.out
end Go.Proofs.Ytphgjppeindbaaa
