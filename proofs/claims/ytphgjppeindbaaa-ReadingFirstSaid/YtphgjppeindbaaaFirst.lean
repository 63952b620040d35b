/-
  ReadingFirst ends true. No condition beyond what each theorem names.
-/
import Derived.Test.YtphgjppeindbaaaQ
set_option linter.unusedVariables false
set_option linter.unusedSimpArgs false
namespace Go.Proofs.Ytphgjppeindbaaa
open Go.RowKit

theorem box8 {w : World} {B : Nat} {a b c d e f g h : Value} {T : TypeId} (hb : w.heap[B]? = some (.cells #[a, b, c, d, e, f, g, h] T)) : w.cell? ⟨B, 0, none⟩ = some a ∧ w.cell? ⟨B, 1, none⟩ = some b ∧ w.cell? ⟨B, 2, none⟩ = some c ∧ w.cell? ⟨B, 3, none⟩ = some d ∧
    w.cell? ⟨B, 4, none⟩ = some e ∧ w.cell? ⟨B, 5, none⟩ = some f ∧ w.cell? ⟨B, 6, none⟩ = some g ∧ w.cell? ⟨B, 7, none⟩ = some h := by
  refine ⟨?_, ?_, ?_, ?_, ?_, ?_, ?_, ?_⟩ <;> simp [World.cell?, hb]

theorem block_lt {w : World} {B : Nat} {o : Obj} (h : w.heap[B]? = some o) : B < w.heap.size := (Array.getElem?_eq_some_iff.1 h).1

set_option maxRecDepth 100000 in
set_option maxHeartbeats 8000000 in
theorem first_law (w : World) (v tv : Value) (rs : List Rl) (x : Rl) (row : List Value) (t : List Int) (hr : rs.length ≤ 9223372036854775807) (hn : t.length ≤ 9223372036854775807) (hv : Rules w v rs) (hx : RuleIs w x row) (ht : Ints w tv t) :
    Calls Try.prog 4 #[v, .agg row.toArray, tv] w (Says true w) := by
  have HRX := Lib.hid hx
  obtain ⟨a, b, c, d, e, f, rfl, -, -⟩ := hx
  have HV := Lib.hid hv
  have HT := Lib.hid ht
  obtain ⟨pv0, cv0, hv0, -⟩ := hv.get
  obtain ⟨pt0, ct0, ht0, -⟩ := ht.get
  subst hv0 ht0
  obtain ⟨brk, hbrk⟩ : ∃ q, q = x.brk := ⟨_, rfl⟩
  obtain ⟨st, hst⟩ : ∃ q, q = x.start := ⟨_, rfl⟩
  rw [← hbrk, ← hst] at HRX ⊢
  have HBRK := Lib.hid hbrk
  clear hv ht hbrk hst
  go_enter Try.func4, Try.ntmps4
  go_upto_region 1 with fail
  refine abs_wp fun W hW => ?_
  have hbox : W.heap[w.heap.size]? = some (.cells #[a, b, c, d, e, f, .bool brk, .bool st] 35) := by rw [hW]; exact heap_alloc_new _ _
  have hbW : Below w.heap.size w W := by rw [hW]; exact below_alloc1 _ _
  obtain ⟨B, hB⟩ : ∃ B, B = w.heap.size := ⟨_, rfl⟩
  rw [← hB] at hbox ⊢
  have HBX := Lib.hid hbox
  have HBW := Lib.hid hbW
  clear hW hbox hbW hB
  go_wp2_with fail
  refine (shown_any W).mono ?_
  rintro e1 w1 ⟨rfl, hb1⟩
  have hbx1 := (hb1.block B (block_lt HBX.out)).trans HBX.out
  obtain ⟨z0, z1, z2, z3, z4, z5, z6, z7⟩ := box8 hbx1
  have hlt1 := block_lt hbx1
  have HB1 := Lib.hid (HBW.out.trans (hb1.mono HBW.out.size))
  have HBX1 := Lib.hid hbx1
  have HAL1 := Lib.hid (below_alloc1 w1 (.cells #[a, b, c, d, e, f, .bool brk, .bool st] 35))
  have HX1 := Lib.hid (HRX.out.to HB1.out (Nat.le_refl _))
  have HF1 := Lib.hid (few_any (w1.alloc (.cells #[a, b, c, d, e, f, .bool brk, .bool st] 35)) (.slice (some ⟨w1.heap.size, 0, none⟩) 1 1) (.slice none 0 0) [x] [] (by simp) (by simp) (Ints.nil _)
    ((ReadL.one (E := RuleIs w1) (sz := 8) w1 35 x _ HX1.out.cells HX1.out).rules HAL1.out))
  clear hb1 hbx1
  go_wp2_with fail
  refine HF1.out.mono ?_
  rintro e2 w2 ⟨v1, v2, rfl, ho1, ho2, hb2⟩
  have hb12 := HAL1.out.trans (hb2.mono HAL1.out.size)
  have HB2 := Lib.hid (HB1.out.trans (hb12.mono HB1.out.size))
  have HBX2 := Lib.hid ((hb12.block B hlt1).trans HBX1.out)
  obtain ⟨pone, cone, hone⟩ := ho1.form
  obtain ⟨pnil, cnil, hnil⟩ := ho2.form
  subst hone hnil
  generalize fewR [x] = one at *
  have HF2 := Lib.hid (few_any w2 _ _ rs t hr hn (HT.out.to HB2.out (Nat.le_refl _)) (HV.out.to HB2.out (Nat.le_refl _)))
  clear z0 z1 z2 z3 z4 z5 z6 z7 ho1 ho2 hb2 hb12 HF1
  go_wp2_with fail
  refine HF2.out.mono ?_
  rintro e3 w3 ⟨v3, v4, rfl, ho3, ho4, hb3⟩
  have HB3 := Lib.hid (HB2.out.trans (hb3.mono HB2.out.size))
  have HBX3 := Lib.hid ((hb3.block B (block_lt HBX2.out)).trans HBX2.out)
  have hRL := (ho3.read.rules hb3)
  have hIN := ho4.read.ints
  have hl10 := fewR_len rs
  have hs16 : (t.take 16).length ≤ 16 := by simp; omega
  generalize fewR rs = l at *
  generalize t.take 16 = s at *
  obtain ⟨p1, c1, rfl, hc1, hx1⟩ := hRL.get
  obtain ⟨p2, c2, rfl, hc2, hx2⟩ := hIN.get
  have HRL := Lib.hid hRL
  have HIN := Lib.hid hIN
  have HX3 := Lib.hid (HRX.out.to HB3.out (Nat.le_refl _))
  clear ho3 ho4 hb3 hRL hIN hx1 hx2 HF2
  by_cases hone : one.length = 0
  · have hone' : ((one.length : Int) == 0) = true := by simp [hone]
    clear hone
    go_wp2_with fail
    go_ret
    exact Says.mk rfl HB3.out
  have hone' : ((one.length : Int) == 0) = false := by simp; intro h; exact hone (by rw [h]; rfl)
  clear hone
  have H4 := Lib.hid (bounds_any w3 _ _ l s (by omega) (by omega) HIN.out HRL.out)
  go_wp2_with fail
  refine H4.out.mono ?_
  rintro e4 w4 ⟨va, rfl, hba, hb4⟩
  obtain ⟨ba, oa, ca, rfl, hca, hbla, hya⟩ := hba.bnds
  have HYA := Lib.hid hya
  have HB34 := Lib.hid hb4
  have HB4 := Lib.hid (HB3.out.trans (hb4.mono HB3.out.size))
  have HBX4 := Lib.hid ((hb4.block B (block_lt HBX3.out)).trans HBX3.out)
  have HRL4 := Lib.hid (HRL.out.to hb4 (Nat.le_refl _))
  have HIN4 := Lib.hid (HIN.out.to hb4 (Nat.le_refl _))
  have HX4 := Lib.hid (HX3.out.to hb4 (Nat.le_refl _))
  clear hya hba hb4 H4 HRL HIN hone'
  go_upto_region 7 with fail
  go_cut [11] (fun u wx => Bools wx u (bnds (l ++ [x]) s) ∧ Below w4.heap.size w4 wx)
  case first =>
    refine wp_region_plan (fun W => W.heap[B]? = some (.cells #[a, b, c, d, e, f, .bool brk, .bool st] 35)) (.reads [1, 3, 6] (.two 0 (.two 2 (.one 4 (.one 5 (.one 7 (.reads [8] .done)))) 4 (.one 2 (.one 5 (.one 7 (.reads [8] .done))))) 4 (.one 0 (.one 2 (.one 5 (.one 7 (.reads [8] .done))))))) 141 (by kernel_rfl) (by kernel_rfl) rfl (fun _ _ _ _ _ h => h) HBX4.out ?_
    apply plan_reads
    · intro W hW
      obtain ⟨z0, z1, z2, z3, z4, z5, z6, z7⟩ := box8 hW
      repeat (refine wpRead_step (fun K hK => ?_); go_simp; refine hK _ ?_; clear hK K)
      exact wpRead_nil rfl
    refine abs_plan fun W0 hW0 => ?_
    have HS0 := Lib.hid (show W0.heap[B]? = some (.cells #[a, b, c, d, e, f, .bool brk, .bool st] 35) by rw [hW0]; exact HBX4.out)
    have HB0 := Lib.hid (show Below w4.heap.size w4 W0 by rw [hW0]; exact (Below.refl _ _).drew)
    clear hW0
    have HL0 := Lib.hid (HRL4.out.readL.below HB0.out (Nat.le_refl _))
    refine plan_two rfl rfl ?_ ?_
    · go_wp2_with fail
      have ha := below_alloc1 W0 (.cells #[] 35)
      refine Then.mk ((ha.block B (block_lt HS0.out)).trans HS0.out) ?_
      refine abs_plan fun W1 hW1 => ?_
      have HA1 := Lib.hid (show Below W0.heap.size W0 W1 by rw [hW1]; exact ha)
      have HS1 := Lib.hid (show W1.heap[B]? = some (.cells #[a, b, c, d, e, f, .bool brk, .bool st] 35) from (HA1.out.block B (block_lt HS0.out)).trans HS0.out)
      have HB1 := Lib.hid (HB0.out.trans (HA1.out.mono HB0.out.size))
      have HL1 := Lib.hid (HL0.out.below HA1.out (Nat.le_refl _))
      have HZ1 := Lib.hid (show W0.heap.size < W1.heap.size by rw [hW1]; simp)
      have HO1 := Lib.hid (show OwnL (RuleIs w4) 35 8 w4.heap.size W1 (.slice (some ⟨W0.heap.size, 0, none⟩) 0 0) ([] : List Rl) by rw [hW1]; exact OwnL.made W0 HB0.out.size)
      clear hW1 ha
      refine plan_two rfl rfl ?_ ?_
      · have HLW := Lib.hid (block_lt HBX4.out)
        refine wpList_append_rules rfl (.tmp 36) (.tmp 37) rfl (.slice (some ⟨W0.heap.size, 0, none⟩) 0 0) [] rfl HO1.out _ l rfl HL1.out (by simp; omega) HB1.out.size ?_
        intro p3 c3 W2 hown hg _
        simp only [List.length_nil, Nat.zero_add, List.nil_append] at hown ⊢
        have HB2 := Lib.hid (HB1.out.grown hg HB1.out.size (fun k hk => (HO1.out.lt k hk).1))
        have HS2 := Lib.hid ((HB2.out.block B HLW.out).trans HBX4.out)
        have HO2 := Lib.hid (show OwnL (RuleIs w4) 35 8 w4.heap.size W2 (.slice p3 l.length c3) l from hown)
        have HL2 := Lib.hid (HRL4.out.readL.below HB2.out (Nat.le_refl _))
        clear hown hg
        go_wp2_with fail
        refine Then.mk HS2.out ?_
        refine plan_one rfl ?_
        go_wp2_with fail
        have ha := below_alloc1 W2 (.cells #[a, b, c, d, e, f, .bool brk, .bool st] 35)
        refine Then.mk ((ha.block B (block_lt HS2.out)).trans HS2.out) ?_
        refine abs_plan fun W3 hW3 => ?_
        have HA3 := Lib.hid (show Below W2.heap.size W2 W3 by rw [hW3]; exact ha)
        have HS3 := Lib.hid (show W3.heap[B]? = some (.cells #[a, b, c, d, e, f, .bool brk, .bool st] 35) from (HA3.out.block B (block_lt HS2.out)).trans HS2.out)
        have HB3 := Lib.hid (HB2.out.trans (HA3.out.mono HB2.out.size))
        have HL3 := Lib.hid (HL2.out.below HA3.out (Nat.le_refl _))
        have HZ3 := Lib.hid (show W2.heap.size < W3.heap.size by rw [hW3]; simp)
        have HX3 := Lib.hid (show ReadL (RuleIs w4) 8 W3 (.slice (some ⟨W2.heap.size, 0, none⟩) 1 1) [x] by rw [hW3]; exact ReadL.one W2 _ x _ HX4.out.cells HX4.out)
        have HO3 := Lib.hid (HO2.out.below HA3.out (Nat.le_refl _))
        clear hW3 ha
        refine plan_one rfl ?_
        refine wpList_append_rules rfl (.tmp 38) (.tmp 40) rfl (.slice p3 l.length c3) l rfl HO3.out _ [x] rfl HX3.out (by simp; omega) HB3.out.size ?_
        intro p5 c5 w5 hown hg _
        have hb5 := HB3.out.grown hg HB3.out.size (fun k hk => (HO3.out.lt k hk).1)
        have hR5 : Rules w5 (.slice p5 (l.length + 1) c5) (l ++ [x]) := hown.read.rules hb5
        have HB5 := Lib.hid hb5
        have H5 := Lib.hid (bounds_any w5 _ _ (l ++ [x]) s (by omega) (by simp; omega) (HIN4.out.to hb5 (Nat.le_refl _)) hR5)
        have hs5 := (hb5.block B HLW.out).trans HBX4.out
        clear hown hg hb5 hR5
        go_wp2_with fail
        refine Then.mk hs5 ?_
        clear hs5
        refine plan_one rfl ?_
        go_wp2_with fail
        refine H5.out.mono ?_
        rintro e w6 ⟨vb, rfl, hbb, hb6⟩
        have HB6 := Lib.hid (HB5.out.trans (hb6.mono HB5.out.size))
        have HBB := Lib.hid hbb
        have hs6 := (HB6.out.block B HLW.out).trans HBX4.out
        clear hbb hb6
        go_wp2_with fail
        refine Then.mk hs6 ?_
        clear hs6
        apply plan_reads
        · intro W hW
          repeat (refine wpRead_step (fun K hK => ?_); go_simp; refine hK _ ?_; clear hK K)
          exact wpRead_nil rfl
        refine plan_done ?_
        go_wp2_with fail
        go_meet
        case rel => exact ⟨HBB.out, HB6.out⟩
      · go_wp2_with fail
        have ha := below_alloc1 W1 (.cells #[a, b, c, d, e, f, .bool brk, .bool st] 35)
        refine Then.mk ((ha.block B (block_lt HS1.out)).trans HS1.out) ?_
        refine abs_plan fun W2 hW2 => ?_
        have HA2 := Lib.hid (show Below W1.heap.size W1 W2 by rw [hW2]; exact ha)
        have HS2 := Lib.hid (show W2.heap[B]? = some (.cells #[a, b, c, d, e, f, .bool brk, .bool st] 35) from (HA2.out.block B (block_lt HS1.out)).trans HS1.out)
        have HB2 := Lib.hid (HB1.out.trans (HA2.out.mono HB1.out.size))
        have HL2 := Lib.hid (HL1.out.below HA2.out (Nat.le_refl _))
        have HZ2 := Lib.hid (show W1.heap.size < W2.heap.size by rw [hW2]; simp)
        have HX2 := Lib.hid (show ReadL (RuleIs w4) 8 W2 (.slice (some ⟨W1.heap.size, 0, none⟩) 1 1) [x] by rw [hW2]; exact ReadL.one W1 _ x _ HX4.out.cells HX4.out)
        have HO2 := Lib.hid (HO1.out.below HA2.out (Nat.le_refl _))
        clear hW2 ha
        refine plan_one rfl ?_
        have HLW := Lib.hid (block_lt HBX4.out)
        refine wpList_append_rules rfl (.tmp 36) (.tmp 37) rfl (.slice (some ⟨W0.heap.size, 0, none⟩) 0 0) [] rfl HO2.out _ l rfl HL2.out (by simp; omega) HB2.out.size ?_
        intro p3 c3 W3 hown hg _
        simp only [List.length_nil, Nat.zero_add, List.nil_append] at hown ⊢
        have HB3 := Lib.hid (HB2.out.grown hg HB2.out.size (fun k hk => (HO2.out.lt k hk).1))
        have HS3 := Lib.hid ((HB3.out.block B HLW.out).trans HBX4.out)
        have HO3 := Lib.hid (show OwnL (RuleIs w4) 35 8 w4.heap.size W3 (.slice p3 l.length c3) l from hown)
        have HX3 := Lib.hid (HX2.out.grown hg (fun k hk h => by have h1 := HZ1.out; have h2 := HZ2.out; simp [Value.ownBlock] at hk h; omega))
        clear hown hg
        go_wp2_with fail
        refine Then.mk HS3.out ?_
        refine plan_one rfl ?_
        refine wpList_append_rules rfl (.tmp 38) (.tmp 40) rfl (.slice p3 l.length c3) l rfl HO3.out _ [x] rfl HX3.out (by simp; omega) HB3.out.size ?_
        intro p5 c5 w5 hown hg _
        have hb5 := HB3.out.grown hg HB3.out.size (fun k hk => (HO3.out.lt k hk).1)
        have hR5 : Rules w5 (.slice p5 (l.length + 1) c5) (l ++ [x]) := hown.read.rules hb5
        have HB5 := Lib.hid hb5
        have H5 := Lib.hid (bounds_any w5 _ _ (l ++ [x]) s (by omega) (by simp; omega) (HIN4.out.to hb5 (Nat.le_refl _)) hR5)
        have hs5 := (hb5.block B HLW.out).trans HBX4.out
        clear hown hg hb5 hR5
        go_wp2_with fail
        refine Then.mk hs5 ?_
        clear hs5
        refine plan_one rfl ?_
        go_wp2_with fail
        refine H5.out.mono ?_
        rintro e w6 ⟨vb, rfl, hbb, hb6⟩
        have HB6 := Lib.hid (HB5.out.trans (hb6.mono HB5.out.size))
        have HBB := Lib.hid hbb
        have hs6 := (HB6.out.block B HLW.out).trans HBX4.out
        clear hbb hb6
        go_wp2_with fail
        refine Then.mk hs6 ?_
        clear hs6
        apply plan_reads
        · intro W hW
          repeat (refine wpRead_step (fun K hK => ?_); go_simp; refine hK _ ?_; clear hK K)
          exact wpRead_nil rfl
        refine plan_done ?_
        go_wp2_with fail
        go_meet
        case rel => exact ⟨HBB.out, HB6.out⟩
    · go_wp2_with fail
      have ha := below_alloc1 W0 (.cells #[a, b, c, d, e, f, .bool brk, .bool st] 35)
      refine Then.mk ((ha.block B (block_lt HS0.out)).trans HS0.out) ?_
      refine abs_plan fun W1 hW1 => ?_
      have HA1 := Lib.hid (show Below W0.heap.size W0 W1 by rw [hW1]; exact ha)
      have HS1 := Lib.hid (show W1.heap[B]? = some (.cells #[a, b, c, d, e, f, .bool brk, .bool st] 35) from (HA1.out.block B (block_lt HS0.out)).trans HS0.out)
      have HB1 := Lib.hid (HB0.out.trans (HA1.out.mono HB0.out.size))
      have HL1 := Lib.hid (HL0.out.below HA1.out (Nat.le_refl _))
      have HZ1 := Lib.hid (show W0.heap.size < W1.heap.size by rw [hW1]; simp)
      have HX1 := Lib.hid (show ReadL (RuleIs w4) 8 W1 (.slice (some ⟨W0.heap.size, 0, none⟩) 1 1) [x] by rw [hW1]; exact ReadL.one W0 _ x _ HX4.out.cells HX4.out)
      clear hW1 ha
      refine plan_one rfl ?_
      go_wp2_with fail
      have ha := below_alloc1 W1 (.cells #[] 35)
      refine Then.mk ((ha.block B (block_lt HS1.out)).trans HS1.out) ?_
      refine abs_plan fun W2 hW2 => ?_
      have HA2 := Lib.hid (show Below W1.heap.size W1 W2 by rw [hW2]; exact ha)
      have HS2 := Lib.hid (show W2.heap[B]? = some (.cells #[a, b, c, d, e, f, .bool brk, .bool st] 35) from (HA2.out.block B (block_lt HS1.out)).trans HS1.out)
      have HB2 := Lib.hid (HB1.out.trans (HA2.out.mono HB1.out.size))
      have HL2 := Lib.hid (HL1.out.below HA2.out (Nat.le_refl _))
      have HZ2 := Lib.hid (show W1.heap.size < W2.heap.size by rw [hW2]; simp)
      have HO2 := Lib.hid (show OwnL (RuleIs w4) 35 8 w4.heap.size W2 (.slice (some ⟨W1.heap.size, 0, none⟩) 0 0) ([] : List Rl) by rw [hW2]; exact OwnL.made W1 HB1.out.size)
      have HX2 := Lib.hid (HX1.out.below HA2.out (Nat.le_refl _))
      clear hW2 ha
      refine plan_one rfl ?_
      have HLW := Lib.hid (block_lt HBX4.out)
      refine wpList_append_rules rfl (.tmp 36) (.tmp 37) rfl (.slice (some ⟨W1.heap.size, 0, none⟩) 0 0) [] rfl HO2.out _ l rfl HL2.out (by simp; omega) HB2.out.size ?_
      intro p3 c3 W3 hown hg _
      simp only [List.length_nil, Nat.zero_add, List.nil_append] at hown ⊢
      have HB3 := Lib.hid (HB2.out.grown hg HB2.out.size (fun k hk => (HO2.out.lt k hk).1))
      have HS3 := Lib.hid ((HB3.out.block B HLW.out).trans HBX4.out)
      have HO3 := Lib.hid (show OwnL (RuleIs w4) 35 8 w4.heap.size W3 (.slice p3 l.length c3) l from hown)
      have HX3 := Lib.hid (HX2.out.grown hg (fun k hk h => by have h1 := HZ1.out; have h2 := HZ2.out; simp [Value.ownBlock] at hk h; omega))
      clear hown hg
      go_wp2_with fail
      refine Then.mk HS3.out ?_
      refine plan_one rfl ?_
      refine wpList_append_rules rfl (.tmp 38) (.tmp 40) rfl (.slice p3 l.length c3) l rfl HO3.out _ [x] rfl HX3.out (by simp; omega) HB3.out.size ?_
      intro p5 c5 w5 hown hg _
      have hb5 := HB3.out.grown hg HB3.out.size (fun k hk => (HO3.out.lt k hk).1)
      have hR5 : Rules w5 (.slice p5 (l.length + 1) c5) (l ++ [x]) := hown.read.rules hb5
      have HB5 := Lib.hid hb5
      have H5 := Lib.hid (bounds_any w5 _ _ (l ++ [x]) s (by omega) (by simp; omega) (HIN4.out.to hb5 (Nat.le_refl _)) hR5)
      have hs5 := (hb5.block B HLW.out).trans HBX4.out
      clear hown hg hb5 hR5
      go_wp2_with fail
      refine Then.mk hs5 ?_
      clear hs5
      refine plan_one rfl ?_
      go_wp2_with fail
      refine H5.out.mono ?_
      rintro e w6 ⟨vb, rfl, hbb, hb6⟩
      have HB6 := Lib.hid (HB5.out.trans (hb6.mono HB5.out.size))
      have HBB := Lib.hid hbb
      have hs6 := (HB6.out.block B HLW.out).trans HBX4.out
      clear hbb hb6
      go_wp2_with fail
      refine Then.mk hs6 ?_
      clear hs6
      apply plan_reads
      · intro W hW
        repeat (refine wpRead_step (fun K hK => ?_); go_simp; refine hK _ ?_; clear hK K)
        exact wpRead_nil rfl
      refine plan_done ?_
      go_wp2_with fail
      go_meet
      case rel => exact ⟨HBB.out, HB6.out⟩
  case rest =>
    obtain ⟨hbb, hbc⟩ := hcut
    obtain ⟨bb, ob, cb, rfl, hcb, hblb, hyb⟩ := hbb.bnds
    have HYB := Lib.hid hyb
    have HBC := Lib.hid hbc
    have hbx := (hbc.block B (block_lt HBX4.out)).trans HBX4.out
    obtain ⟨z0, z1, z2, z3, z4, z5, z6, z7⟩ := box8 hbx
    have ha := below_alloc1 wc (.cells #[a, b, c, d, e, f, .bool brk, .bool st] 35)
    have HX := Lib.hid (ReadL.one (E := RuleIs w4) (sz := 8) wc 35 x _ HX4.out.cells HX4.out)
    have HRC := Lib.hid (HRL4.out.to hbc (Nat.le_refl _))
    have HIC := Lib.hid (HIN4.out.to hbc (Nat.le_refl _))
    clear hbb hyb hbc hbx
    have HO := Lib.hid (OwnL.block1 (E := RuleIs w4) (sz := 8) (base := wc.heap.size) wc 35 x _ HX4.out.cells HX4.out (Nat.le_refl _))
    have HLR := Lib.hid (HRL4.out.readL.below (HBC.out.trans (ha.mono HBC.out.size)) (Nat.le_refl _))
    have HZ := Lib.hid ha.size
    have HA := Lib.hid ha
    clear ha
    go_wp2_with (at_builtin; refine wpList_append_rules rfl (.tmp 45) (.tmp 46) rfl _ [x] rfl HO.out _ l rfl HLR.out (by simp; omega) HZ.out ?_)
    intro p5 c5 w5 hown hg _
    have hb5 := HA.out.grown hg HZ.out (fun k hk => (HO.out.lt k hk).1)
    have HC5 := Lib.hid hb5
    replace hb5 := HBC.out.trans (hb5.mono HBC.out.size)
    have HB5 := Lib.hid hb5
    have h1l : 1 + l.length = l.length + 1 := by omega
    have hR5 : Rules w5 (.slice p5 (l.length + 1) c5) (x :: l) := by have := hown.read.rules hb5; simpa [h1l] using this
    have H5 := Lib.hid (bounds_any w5 _ _ (x :: l) s (by omega) (by simp; omega) (HIN4.out.to hb5 (Nat.le_refl _)) hR5)
    clear hown hg hb5 hR5 z0 z1 z2 z3 z4 z5 z6 z7 HX HLR
    simp only [List.length_singleton, h1l]
    clear h1l
    go_wp2_with fail
    refine H5.out.mono ?_
    rintro e w6 ⟨vc, rfl, hbc, hb6⟩
    obtain ⟨bc, oc, cc, rfl, hcc, hblc, hyc⟩ := hbc.bnds
    have HYC := Lib.hid hyc
    have HB6 := Lib.hid (HB5.out.trans (hb6.mono HB5.out.size))
    have HC6 := Lib.hid (HC5.out.trans (hb6.mono HC5.out.size))
    clear hyc hbc hb6
    go_wp2_with fail
    go_loopw [13] (fun i wr => ∃ k : Nat, i = .int .i64 k ∧ 1 ≤ k ∧ Below w6.heap.size w6 wr) (fun i _ => s.length - (intOf i).toNat)
    case atStart => exact ⟨1, rfl, by omega, Below.refl _ _⟩
    case round =>
      obtain ⟨k, rfl, h1, hb⟩ := hrel
      have HB := Lib.hid hb
      have hsz := hb.size
      have HB4R := Lib.hid (HB6.out.trans (hb.mono HB6.out.size))
      have HCR := Lib.hid (HC6.out.trans (hb.mono HC6.out.size))
      clear hb
      by_cases hlt : k < s.length
      · have ya := cell_below HB4R.out hbla (HYA.out k (by omega))
        have yb := cell_below HCR.out hblb (HYB.out k (by omega))
        have yc := cell_below HB.out hblc (HYC.out k (by omega))
        rw [bnd_in (by omega) hlt] at ya yb yc
        have hlt1 : k < s.length + 1 := by omega
        have hlt2 : (k : Int) < (s.length : Int) + 1 := by omega
        have hlt3 : k ≤ s.length := by omega
        have hbx := (HB4R.out.block B (block_lt HBX4.out)).trans HBX4.out
        obtain ⟨z0, z1, z2, z3, z4, z5, z6, z7⟩ := box8 hbx
        have hblr := block_lt hbx
        have HIR := Lib.hid (HIN4.out.to HB4R.out (Nat.le_refl _))
        have HRR := Lib.hid (HRL4.out.to HB4R.out (Nat.le_refl _))
        have HXR := Lib.hid (HX4.out.to HB4R.out (Nat.le_refl _))
        have HFI := Lib.hid (fits_any wr s x _ _ (k : Int) (by omega) HIR.out HXR.out)
        have hlr := HB4R.out.size
        clear hbx
        go_wp2_with fail
        refine HFI.out.mono ?_
        rintro e w8 ⟨rfl, hb8⟩
        have HW := Lib.hid (which_any w8 _ _ l s (k : Int) (by omega) (by omega) (HIR.out.to hb8 (Nat.le_refl _)) (HRR.out.to hb8 (Nat.le_refl _)))
        have HB8 := Lib.hid (HB.out.trans (hb8.mono hsz))
        replace ya := cell_below hb8 (by omega) ya
        replace yb := cell_below hb8 (by have := HCR.out.size; omega) yb
        replace yc := cell_below hb8 (by omega) yc
        replace z6 := cell_below hb8 (by omega) z6
        have hs8 := hb8.size
        clear hb8 z0 z1 z2 z3 z4 z5 z7
        rcases which_cases l s (k : Int) with ⟨hw, hf⟩ | ⟨i, hi, hw, hf⟩
        all_goals
          rw [hw] at HW
          clear hw
          cases hfx : fitsB x s (k : Int)
        · rw [find_append_no hfx, hf] at yb
          rw [List.find?_cons_of_neg (by simp [hfx]), hf] at yc
          rw [hf] at ya
          simp only [brkOr] at ya yb yc
          clear hf hfx
          go_wp2_with fail
          refine HW.out.mono ?_
          rintro e w9 ⟨rfl, hb9⟩
          replace ya := cell_below hb9 (by omega) ya
          replace yb := cell_below hb9 (by have := HCR.out.size; omega) yb
          replace yc := cell_below hb9 (by omega) yc
          replace z6 := cell_below hb9 (by omega) z6
          have HB9 := Lib.hid (HB8.out.trans (hb9.mono HB8.out.size))
          clear hb9
          go_wp2_with fail
          go_quiet (fail)
          go_wp2_with fail
          go_quiet (fail)
          go_wp2_with fail
          go_quiet (fail)
          go_wp2_with fail
          go_roundw
          case rel => exact ⟨k + 1, by go_num, by omega, below_drewN HB9.out _⟩
          case measure => simp [intOf]; omega
        · rw [find_append_one hfx, hf] at yb
          rw [List.find?_cons_of_pos (by simp [hfx])] at yc
          rw [hf] at ya
          simp only [brkOr, ← HBRK.out] at ya yb yc
          clear hf hfx
          rcases Bool.eq_false_or_eq_true brk with hbk | hbk
          all_goals
            rw [hbk] at yb yc z6
            clear hbk
            go_wp2_with fail
            refine HW.out.mono ?_
            rintro e w9 ⟨rfl, hb9⟩
            replace ya := cell_below hb9 (by omega) ya
            replace yb := cell_below hb9 (by have := HCR.out.size; omega) yb
            replace yc := cell_below hb9 (by omega) yc
            replace z6 := cell_below hb9 (by omega) z6
            have HB9 := Lib.hid (HB8.out.trans (hb9.mono HB8.out.size))
            clear hb9
            go_wp2_with fail
            go_quiet (fail)
            go_wp2_with fail
            go_quiet (fail)
            go_wp2_with fail
            go_quiet (fail)
            go_wp2_with fail
            go_roundw
            case rel => exact ⟨k + 1, by go_num, by omega, below_drewN HB9.out _⟩
            case measure => simp [intOf]; omega
        · rw [find_append_no hfx, hf] at yb
          rw [List.find?_cons_of_neg (by simp [hfx]), hf] at yc
          rw [hf] at ya
          simp only [brkOr] at ya yb yc
          clear hf hfx
          obtain ⟨iv, hiv⟩ : ∃ q : Int, q = (i : Int) := ⟨_, rfl⟩
          rw [← hiv] at HW
          have j0 : 0 ≤ iv := by omega
          have j1 : ¬ iv < 0 := by omega
          have j2 : decide (iv < 0) = false := by simp; omega
          clear hiv
          rcases Bool.eq_false_or_eq_true l[i].brk with hbk | hbk
          all_goals
            rw [hbk] at ya yb yc
            clear hbk
            go_wp2_with fail
            refine HW.out.mono ?_
            rintro e w9 ⟨rfl, hb9⟩
            replace ya := cell_below hb9 (by omega) ya
            replace yb := cell_below hb9 (by have := HCR.out.size; omega) yb
            replace yc := cell_below hb9 (by omega) yc
            replace z6 := cell_below hb9 (by omega) z6
            have HB9 := Lib.hid (HB8.out.trans (hb9.mono HB8.out.size))
            clear hb9
            go_wp2_with fail
            go_quiet (fail)
            go_wp2_with fail
            go_quiet (fail)
            go_wp2_with fail
            go_quiet (fail)
            go_wp2_with fail
            go_roundw
            case rel => exact ⟨k + 1, by go_num, by omega, below_drewN HB9.out _⟩
            case measure => simp [intOf]; omega
        · rw [find_append_one hfx, hf] at yb
          rw [List.find?_cons_of_pos (by simp [hfx])] at yc
          rw [hf] at ya
          simp only [brkOr, ← HBRK.out] at ya yb yc
          clear hf hfx
          obtain ⟨iv, hiv⟩ : ∃ q : Int, q = (i : Int) := ⟨_, rfl⟩
          rw [← hiv] at HW
          have j0 : 0 ≤ iv := by omega
          have j1 : ¬ iv < 0 := by omega
          have j2 : decide (iv < 0) = false := by simp; omega
          clear hiv
          rcases Bool.eq_false_or_eq_true l[i].brk with hbk | hbk
          all_goals
            rw [hbk] at ya yb
            clear hbk
            rcases Bool.eq_false_or_eq_true brk with hbk | hbk
            all_goals
              rw [hbk] at yc z6
              clear hbk
              go_wp2_with fail
              refine HW.out.mono ?_
              rintro e w9 ⟨rfl, hb9⟩
              replace ya := cell_below hb9 (by omega) ya
              replace yb := cell_below hb9 (by have := HCR.out.size; omega) yb
              replace yc := cell_below hb9 (by omega) yc
              replace z6 := cell_below hb9 (by omega) z6
              have HB9 := Lib.hid (HB8.out.trans (hb9.mono HB8.out.size))
              clear hb9
              go_wp2_with fail
              go_quiet (fail)
              go_wp2_with fail
              go_quiet (fail)
              go_wp2_with fail
              go_quiet (fail)
              go_wp2_with fail
              go_roundw
              case rel => exact ⟨k + 1, by go_num, by omega, below_drewN HB9.out _⟩
              case measure => simp [intOf]; omega
      · go_wp2_with fail
        go_ret
        exact Says.mk rfl (HB4.out.trans (HB4R.out.mono HB4.out.size))
end Go.Proofs.Ytphgjppeindbaaa
