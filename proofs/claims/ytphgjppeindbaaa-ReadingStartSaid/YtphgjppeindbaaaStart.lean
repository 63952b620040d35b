/-
  ReadingStart ends true. No condition beyond what each theorem names.
-/
import Derived.Test.YtphgjppeindbaaaV
set_option linter.unusedVariables false
set_option linter.unusedSimpArgs false
namespace Go.Proofs.Ytphgjppeindbaaa
open Go.RowKit

theorem start_fits {l r : Nd} {brk : Bool} {t : List Int} {p : Int} (h : fitsB ⟨l, r, brk, true⟩ t p = true) : fitsB ⟨l, r, brk, false⟩ t p = true := by
  obtain ⟨h1, h2, ⟨a, h3, -⟩, h4⟩ := fitsB_iff.1 h
  exact fitsB_iff.2 ⟨h1, h2, ⟨a, h3, fun h => by cases h⟩, h4⟩

theorem start_strange {l r : Nd} {brk : Bool} {t : List Int} {c : Int} {p : Int} (hp : 0 < p) (hq : anyC (eqC c) l = false) : fitsB ⟨l, r, brk, true⟩ (c :: t) p = false := by
  refine fitsB_false fun ⟨h1, h2, ⟨a, h3, h4⟩, h5⟩ => ?_
  have h6 : a = 0 := h4 rfl
  subst h6
  obtain ⟨d, h7, h8⟩ := M_cls l h3 0 (Nat.le_refl _) (by omega)
  simp at h7
  subst h7
  rw [hq] at h8
  cases h8

set_option maxRecDepth 100000 in
set_option maxHeartbeats 8000000 in
theorem start_law (w : World) (tv : Value) (x : Rl) (row : List Value) (t : List Int) (hn : t.length ≤ 9223372036854775807) (hx : RuleIs w x row) (ht : Ints w tv t) :
    Calls Try.prog 6 #[.agg row.toArray, tv] w (Says true w) := by
  have HRX := Lib.hid hx
  obtain ⟨a, b, c, d, e, f, rfl, -, -⟩ := hx
  have HT := Lib.hid ht
  obtain ⟨pt0, ct0, ht0, -⟩ := ht.get
  subst ht0
  obtain ⟨brk, hbrk⟩ : ∃ q, q = x.brk := ⟨_, rfl⟩
  obtain ⟨st, hst⟩ : ∃ q, q = x.start := ⟨_, rfl⟩
  rw [← hbrk, ← hst] at HRX ⊢
  have HBRK := Lib.hid hbrk
  clear ht hbrk hst
  go_enter Try.func6, Try.ntmps6
  go_upto_region 1 with fail
  refine abs_wp fun W hW => ?_
  have hbox : W.heap[w.heap.size]? = some (.cells #[a, b, c, d, e, f, .bool brk, .bool st] 35) := by rw [hW]; exact heap_alloc_new _ _
  have hbW : Below w.heap.size w W := by rw [hW]; exact below_alloc1 _ _
  obtain ⟨B, hB⟩ : ∃ B, B = w.heap.size := ⟨_, rfl⟩
  have HEB := Lib.hid hB
  rw [← hB] at hbox ⊢
  have HBX := Lib.hid hbox
  have HBW := Lib.hid hbW
  clear hW hbox hbW hB
  go_wp2_with fail
  refine (shown_any W).mono ?_
  rintro e1 w1 ⟨rfl, hb1⟩
  have hbx1 := (hb1.block B (at_lt HBX.out)).trans HBX.out
  obtain ⟨z0, z1, z2, z3, z4, z5, z6, z7⟩ := cells8 hbx1
  have hlt1 := at_lt hbx1
  have HB1 := Lib.hid (HBW.out.trans (hb1.mono HBW.out.size))
  have HBX1 := Lib.hid hbx1
  have HAL1 := Lib.hid (below_alloc1 w1 (.cells #[a, b, c, d, e, f, .bool brk, .bool st] 35))
  have HX1 := Lib.hid (HRX.out.to HB1.out (Nat.le_refl _))
  have HF1 := Lib.hid (few_from w (w1.alloc (.cells #[a, b, c, d, e, f, .bool brk, .bool st] 35)) (.slice (some ⟨w1.heap.size, 0, none⟩) 1 1) _ [x] t (by simp) hn (HT.out.to (HB1.out.trans (HAL1.out.mono HB1.out.size)) (Nat.le_refl _))
    (ReadL.one (E := RuleIs w) (sz := 8) w1 35 x _ HRX.out.cells HRX.out) (HB1.out.trans (HAL1.out.mono HB1.out.size)))
  clear hb1 hbx1
  go_wp2_with fail
  refine HF1.out.mono ?_
  rintro e2 w2 ⟨v1, v2, rfl, ho1, ho2, hb2⟩
  have hb12 := HAL1.out.trans (hb2.mono HAL1.out.size)
  have HB2 := Lib.hid (HB1.out.trans (hb12.mono HB1.out.size))
  have hbx2 := (hb12.block B hlt1).trans HBX1.out
  have HO2 := Lib.hid (ho2.lt)
  have HRD := Lib.hid ho1.read
  have hIN := ho2.read.ints
  have hs16 : (t.take 16).length ≤ 16 := by simp; omega
  generalize t.take 16 = s at *
  generalize fewR [x] = one at *
  obtain ⟨pone, cone, rfl, hcone, hxone⟩ := HRD.out.get (by omega)
  obtain ⟨p2, c2, rfl, hc2, hx2⟩ := hIN.get
  have HIN := Lib.hid hIN
  have HXO := Lib.hid hxone
  clear z0 z1 z2 z3 z4 z5 z6 z7 ho1 ho2 hb2 hb12 HF1 hIN hx2 hxone
  by_cases hone : one.length = 0
  · have hone' : ((one.length : Int) == 0) = true := by simp [hone]
    clear hone
    go_wp2_with fail
    go_ret
    exact Says.mk rfl HB2.out
  have hone' : ((one.length : Int) == 0) = false := by simp; intro h; exact hone (by rw [h]; rfl)
  obtain ⟨bb, off, rfl, hbl, hxx⟩ := HXO.out (by omega)
  obtain ⟨row, hrow, hri⟩ := hxx 0 (by omega)
  have hone1 : 0 < one.length := by omega
  have HRI := Lib.hid hri
  generalize one[0] = r0 at *
  obtain ⟨a', b', c', d', e', f', rfl, -, -⟩ := hri
  have k0 := hrow 0 _ rfl
  have k1 := hrow 1 _ rfl
  have k2 := hrow 2 _ rfl
  have k3 := hrow 3 _ rfl
  have k4 := hrow 4 _ rfl
  have k5 := hrow 5 _ rfl
  have k6 := hrow 6 _ rfl
  have k7 := hrow 7 _ rfl
  have hlt2 := at_lt hbx2
  clear hone hxx hrow
  simp only [Nat.zero_mul, Nat.add_zero] at k0 k1 k2 k3 k4 k5 k6 k7
  have HBX2 := Lib.hid hbx2
  have hcut0 : ∀ k, (Value.slice p2 s.length c2).ownBlock = some k → B ≠ k := fun k hk => by
    have := (HO2.out k hk).1
    have := HAL1.out.size
    omega
  have HCUT := Lib.hid hcut0
  clear hcut0 hbx2
  go_upto_region 6 with (refine wpList_store_obj rfl (.tmp 2) (.tmp 26) 35 rfl B rfl [a', b', c', d', e', f', .bool r0.brk, .bool r0.start] rfl _ _ HBX2.out (by kernel_rfl) rfl HRI.out.cells.2 ?_; intro w3 hb3 hf3)
  have hz7 := fz_at hb3 7
  have hc7 := (cells8 hb3).2.2.2.2.2.2.2
  have HB3 := Lib.hid hb3
  have HF3 := Lib.hid hf3
  clear hb3 hf3 k0 k1 k2 k3 k4 k5 k6 k7
  go_upto_region 7 with fail
  refine abs_wp fun W4 hW4 => ?_
  have hb4 : W4.heap[B]? = some (.cells #[a', b', c', d', e', f', .bool r0.brk, .bool true] 35) := by rw [hW4]; exact blk_set HB3.out 7 _
  have hf4 : Fr (fun k => k = B) w2 W4 := by rw [hW4]; exact HF3.out.trans (Fr.setCell (F := fun k => k = B) _ rfl _) (fun _ _ h => h)
  clear hW4 hz7 hc7
  obtain ⟨z0, z1, z2, z3, z4, z5, z6, z7⟩ := cells8 hb4
  have HB4 := Lib.hid hb4
  have HF4 := Lib.hid hf4
  have HX4 := Lib.hid (HRI.out.with r0.brk true)
  clear hb4 hf4
  go_upto_region 8 with (refine wpList_store_obj rfl (.tmp 8) (.tmp 28) 35 rfl W4.heap.size rfl [a', b', c', d', e', f', .bool r0.brk, .bool true] rfl _ _ (heap_alloc_new _ _) (by kernel_rfl) rfl HX4.out.cells.2 ?_; intro w5 hb5 hf5)
  have hz7 := fz_at hb5 7
  have hc7 := (cells8 hb5).2.2.2.2.2.2.2
  have HB5 := Lib.hid hb5
  have HF5 := Lib.hid hf5
  clear hb5 hf5 z0 z1 z2 z3 z4 z5 z6 z7
  go_upto_region 9 with fail
  refine abs_wp fun W6 hW6 => ?_
  obtain ⟨C, hC⟩ : ∃ C, C = W4.heap.size := ⟨_, rfl⟩
  rw [← hC] at HB5 HF5 hW6 ⊢
  have HBC6 := Lib.hid (show W6.heap[C]? = some (.cells #[a', b', c', d', e', f', .bool r0.brk, .bool false] 35) by rw [hW6]; exact blk_set HB5.out 7 _)
  have hf6 : Fr (fun k => k = C) (W4.alloc (.cells #[.int .i64 0, .slice none 0 0, .slice none 0 0, .int .i64 0, .slice none 0 0, .slice none 0 0, .bool false, .bool false] 35)) W6 := by rw [hW6]; exact HF5.out.trans (Fr.setCell (F := fun k => k = C) _ rfl _) (fun _ _ h => h)
  have HB46 := Lib.hid (show Below W4.heap.size W4 W6 from (below_alloc1 W4 _).trans (hf6.below (by simp) (fun k hk => by omega)))
  have HBB6 := Lib.hid ((HB46.out.block B (at_lt HB4.out)).trans HB4.out)
  have hsz6 := HB46.out.size
  have HBW4 := Lib.hid (HB2.out.trans (HF4.out.below HB2.out.size (fun k hk => by have := HEB.out; omega)))
  have HBW6 := Lib.hid (HBW4.out.trans (HB46.out.mono HBW4.out.size))
  have HIN4 := Lib.hid (show Ints W4 (.slice p2 s.length c2) s from Raw.fr HF4.out HIN.out (fun _ k hk h => HCUT.out k hk h.symm))
  have HIN6 := Lib.hid (HIN4.out.to HB46.out (Nat.le_refl _))
  clear hW6 hz7 hc7 hf6 hC
  have ha := below_alloc1 W6 (.cells #[.int .i64 1000] 3)
  have HO := Lib.hid (OwnL.block1 (E := intE) (sz := 1) (base := W6.heap.size) W6 3 1000 [.int .i64 1000] (by simp [Value.oneCell']) rfl (Nat.le_refl _))
  have HLR := Lib.hid (HIN6.out.readL.below ha (Nat.le_refl _))
  have HZ := Lib.hid ha.size
  have HA := Lib.hid ha
  clear ha
  go_wp2_with (at_builtin; refine wpList_append_ints rfl (.tmp 31) (.tmp 32) rfl _ [1000] rfl HO.out _ s rfl HLR.out (by simp; omega) HZ.out ?_)
  intro p7 c7 w7 hown hg _
  have hb7 := HA.out.grown hg HZ.out (fun k hk => (HO.out.lt k hk).1)
  have h1l : 1 + s.length = s.length + 1 := by omega
  have hI7 : Ints w7 (.slice p7 (s.length + 1) c7) (1000 :: s) := by have := hown.read.ints; simpa [h1l] using this
  have HI7 := Lib.hid hI7
  have HB7 := Lib.hid hb7
  have HBW7 := Lib.hid (HBW6.out.trans (hb7.mono HBW6.out.size))
  have HBB7 := Lib.hid ((hb7.block B (at_lt HBB6.out)).trans HBB6.out)
  have HBC7 := Lib.hid ((hb7.block C (at_lt HBC6.out)).trans HBC6.out)
  have HIN7 := Lib.hid (HIN6.out.to hb7 (Nat.le_refl _))
  simp only [List.length_singleton, h1l]
  have hsz7 := at_lt HBB7.out
  have hcz7 := at_lt HBC7.out
  clear hown hg hb7 hI7 h1l
  go_wp2_with fail
  go_loopw [11] (fun i wr => ∃ k : Nat, i = .int .i64 k ∧ k ≤ s.length + 1 ∧ Below w7.heap.size w7 wr) (fun i _ => s.length + 1 - (intOf i).toNat)
  case atStart => exact ⟨0, rfl, by omega, Below.refl _ _⟩
  case round =>
    obtain ⟨k, rfl, h1, hb⟩ := hrel
    have HB := Lib.hid hb
    have hsz := hb.size
    by_cases hlt : k < s.length + 1
    · have hbx := (hb.block B hsz7).trans HBB7.out
      have hcx := (hb.block C hcz7).trans HBC7.out
      obtain ⟨z0, z1, z2, z3, z4, z5, z6, z7⟩ := cells8 hbx
      have HBR := Lib.hid hbx
      have HCR := Lib.hid hcx
      have HBWR := Lib.hid (HBW7.out.trans (hb.mono HBW7.out.size))
      have HINR := Lib.hid (HIN7.out.to hb (Nat.le_refl _))
      have HILR := Lib.hid (HI7.out.to hb (Nat.le_refl _))
      have HFX := Lib.hid (fun (W : World) (hb : Below wr.heap.size wr W) => fits_any W s _ _ _ (k : Int) (by omega) (HINR.out.to hb (Nat.le_refl _)) ((HRI.out.with r0.brk true).to (HBWR.out.trans (hb.mono HBWR.out.size)) (Nat.le_refl _)))
      have HFY := Lib.hid (fun (W : World) (hb : Below wr.heap.size wr W) => fits_any W s _ _ _ (k : Int) (by omega) (HINR.out.to hb (Nat.le_refl _)) ((HRI.out.with r0.brk false).to (HBWR.out.trans (hb.mono HBWR.out.size)) (Nat.le_refl _)))
      have HFL := Lib.hid (fun (W : World) (hb : Below wr.heap.size wr W) => fits_any W (1000 :: s) _ _ _ (k : Int) (by simp; omega) (HILR.out.to hb (Nat.le_refl _)) ((HRI.out.with r0.brk true).to (HBWR.out.trans (hb.mono HBWR.out.size)) (Nat.le_refl _)))
      have HXY := Lib.hid (start_fits (l := r0.left) (r := r0.right) (brk := r0.brk) (t := s) (p := k))
      have HXL := Lib.hid (fun (h : 0 < (k : Int)) => start_strange (l := r0.left) (r := r0.right) (brk := r0.brk) (t := s) (c := 1000) h)
      have HHAS := Lib.hid (fun (W : World) (hb : Below wr.heap.size wr W) (x y z : Value) (hx : NodeIs w r0.left x y z) => has_any 1000 r0.left W x y z (hx.to (HBWR.out.trans (hb.mono HBWR.out.size)) (Nat.le_refl _)))
      clear hb hbx hcx
      go_wp2_with fail
      refine (HFX.out _ (Below.refl _ _)).mono ?_
      rintro e w8 ⟨rfl, hb8⟩
      have HB8 := Lib.hid hb8
      have HND := Lib.hid (show NodeIs w r0.left a' b' c' by
        obtain ⟨_, _, _, _, _, _, he, h1, h2⟩ := HRI.out
        injection he with e1 he
        injection he with e2 he
        injection he with e3 he
        subst e1 e2 e3
        exact h1)
      clear hb8 z0 z1 z2 z3 z4 z5 z6 z7
      cases hfx : fitsB ⟨r0.left, r0.right, r0.brk, true⟩ s (k : Int)
      · clear hfx
        have HWR := Lib.hid HB8.out
        have HWK := Lib.hid (HB.out.trans (HWR.out.mono hsz))
        have hbx := (HWR.out.block B (at_lt HBR.out)).trans HBR.out
        obtain ⟨y0, y1, y2, -, -, -, -, -⟩ := cells8 hbx
        clear hbx
        go_wp2_with fail
        refine (HHAS.out _ HWR.out a' b' c' HND.out).mono ?_
        rintro e w10 ⟨rfl, hb10⟩
        have HB10 := Lib.hid (HWK.out.trans (hb10.mono HWK.out.size))
        have HWR10 := Lib.hid (HWR.out.trans (hb10.mono HWR.out.size))
        clear hb10 y0 y1 y2
        cases hhv : anyC (eqC 1000) r0.left
        · by_cases hk0 : 0 < (k : Int)
          · have HFF := Lib.hid (HXL.out hk0 hhv)
            have HHV := Lib.hid hhv
            have hbx := (HWR10.out.block B (at_lt HBR.out)).trans HBR.out
            obtain ⟨z0, z1, z2, z3, z4, z5, z6, z7⟩ := cells8 hbx
            have HCF := Lib.hid (HFL.out _ HWR10.out)
            rw [HFF.out] at HCF
            clear hbx hhv
            go_wp2_with fail
            refine HCF.out.mono ?_
            rintro e w11 ⟨rfl, hb11⟩
            have HB11 := Lib.hid (HB10.out.trans (hb11.mono HB10.out.size))
            clear hb11 z0 z1 z2 z3 z4 z5 z6 z7
            go_wp2_with fail
            go_roundw
            case rel => exact ⟨k + 1, by go_num, by omega, HB11.out⟩
            case measure => simp [intOf]; omega
          · have HHV := Lib.hid hhv
            have hk1 : decide (0 < (k : Int)) = false := decide_eq_false hk0
            clear hhv
            go_wp2_with fail
            go_roundw
            case rel => exact ⟨k + 1, by go_num, by omega, HB10.out⟩
            case measure => simp [intOf]; omega
        · have HHV := Lib.hid hhv
          clear hhv
          go_wp2_with fail
          go_roundw
          case rel => exact ⟨k + 1, by go_num, by omega, HB10.out⟩
          case measure => simp [intOf]; omega
      · have HFF := Lib.hid (HXY.out hfx)
        have hcx := (HB8.out.block C (at_lt HCR.out)).trans HCR.out
        obtain ⟨z0, z1, z2, z3, z4, z5, z6, z7⟩ := cells8 hcx
        have HCF := Lib.hid (HFY.out _ HB8.out)
        rw [HFF.out] at HCF
        clear hfx hcx
        go_wp2_with fail
        refine HCF.out.mono ?_
        rintro e w9 ⟨rfl, hb9⟩
        have HWR := Lib.hid (HB8.out.trans (hb9.mono HB8.out.size))
        clear hb9 z0 z1 z2 z3 z4 z5 z6 z7
        have HWK := Lib.hid (HB.out.trans (HWR.out.mono hsz))
        have hbx := (HWR.out.block B (at_lt HBR.out)).trans HBR.out
        obtain ⟨y0, y1, y2, -, -, -, -, -⟩ := cells8 hbx
        clear hbx
        go_wp2_with fail
        refine (HHAS.out _ HWR.out a' b' c' HND.out).mono ?_
        rintro e w10 ⟨rfl, hb10⟩
        have HB10 := Lib.hid (HWK.out.trans (hb10.mono HWK.out.size))
        have HWR10 := Lib.hid (HWR.out.trans (hb10.mono HWR.out.size))
        clear hb10 y0 y1 y2
        cases hhv : anyC (eqC 1000) r0.left
        · by_cases hk0 : 0 < (k : Int)
          · have HFF := Lib.hid (HXL.out hk0 hhv)
            have HHV := Lib.hid hhv
            have hbx := (HWR10.out.block B (at_lt HBR.out)).trans HBR.out
            obtain ⟨z0, z1, z2, z3, z4, z5, z6, z7⟩ := cells8 hbx
            have HCF := Lib.hid (HFL.out _ HWR10.out)
            rw [HFF.out] at HCF
            clear hbx hhv
            go_wp2_with fail
            refine HCF.out.mono ?_
            rintro e w11 ⟨rfl, hb11⟩
            have HB11 := Lib.hid (HB10.out.trans (hb11.mono HB10.out.size))
            clear hb11 z0 z1 z2 z3 z4 z5 z6 z7
            go_wp2_with fail
            go_roundw
            case rel => exact ⟨k + 1, by go_num, by omega, HB11.out⟩
            case measure => simp [intOf]; omega
          · have HHV := Lib.hid hhv
            have hk1 : decide (0 < (k : Int)) = false := decide_eq_false hk0
            clear hhv
            go_wp2_with fail
            go_roundw
            case rel => exact ⟨k + 1, by go_num, by omega, HB10.out⟩
            case measure => simp [intOf]; omega
        · have HHV := Lib.hid hhv
          clear hhv
          go_wp2_with fail
          go_roundw
          case rel => exact ⟨k + 1, by go_num, by omega, HB10.out⟩
          case measure => simp [intOf]; omega
    · clear hb
      go_wp2_with fail
      go_ret
      exact Says.mk rfl (HBW7.out.trans (HB.out.mono HBW7.out.size))
end Go.Proofs.Ytphgjppeindbaaa
