/-
  The reference's Where and Fits of layer 6. No condition beyond what each theorem names.
-/
import Derived.Test.YtphgjppeindbaaaRD
set_option linter.unusedVariables false
set_option linter.unusedSimpArgs false
namespace Go.Proofs.Ytphgjppeindbaaa
open Go.RowKit

/-- of each place whether a rule fits there -/
noncomputable def fitsL (r : Rl) (t : List Int) (k : Nat) : List Bool := (List.range k).map fun (p : Nat) => fitsB r t (p : Int)

theorem where_fits {r : Rl} {t : List Int} {from_ left right : List Bool} (hf : ∀ p, tr from_ p ↔ p ≤ t.length ∧ (r.start = true → p = 0)) (hl : img (Rel false (M t r.left)) from_ left) (hr : img (Rel true (M t r.right)) (List.replicate (t.length + 1) true) right)
    {q : Nat} (hq : q ≤ t.length) (h1 : q < left.length) (h2 : q < right.length) : (left[q] && right[q]) = fitsB r t (q : Int) := by
  have e1 : left[q] = true ↔ tr left q := by unfold tr; rw [List.getElem?_eq_getElem h1]; simp
  have e2 : right[q] = true ↔ tr right q := by unfold tr; rw [List.getElem?_eq_getElem h2]; simp
  rw [Bool.eq_iff_iff, Bool.and_eq_true, e1, e2, hl.2 q, hr.2 q, fitsB_iff]
  unfold FitsAt
  simp only [Int.toNat_natCast]
  constructor
  · rintro ⟨⟨a, h3, h4⟩, b, h5, h6⟩
    have h7 := tr_lt h5
    simp at h7
    exact ⟨by omega, by omega, ⟨a, h4, ((hf a).1 h3).2⟩, b, by omega, h6⟩
  · rintro ⟨-, -, ⟨a, h3, h4⟩, b, h5, h6⟩
    have h7 := M_le h3
    refine ⟨⟨a, (hf a).2 ⟨by omega, h4⟩, h3⟩, b, ?_, h6⟩
    unfold tr
    rw [List.getElem?_replicate, if_pos (by omega)]

theorem from_all (st : Bool) (n p : Nat) : tr ((List.replicate (n + 1) (!st)).set 0 true) p ↔ p ≤ n ∧ (st = true → p = 0) := by
  unfold tr
  cases p with
  | zero => simp
  | succ p =>
    rw [List.getElem?_set_ne (by omega), List.getElem?_replicate]
    cases st <;> simp <;> omega

theorem OwnL.base {α : Type} {E : α → List Value → Prop} {T : TypeId} {sz base base' : Nat} {w : World} {v : Value} {xs : List α} (h : OwnL E T sz base w v xs) (hb : base' ≤ base) : OwnL E T sz base' w v xs := by
  obtain ⟨rows, ⟨h0, h1⟩, h2⟩ := h
  refine ⟨rows, ⟨h0, ?_⟩, h2⟩
  rcases h1 with h1 | ⟨g, cap, cur, e, hg, h3⟩
  · exact .inl h1
  · exact .inr ⟨g, cap, cur, e, Nat.le_trans hb hg, h3⟩

set_option maxRecDepth 100000 in
set_option maxHeartbeats 4000000 in
theorem where_any (w : World) (t : List Int) (r : Rl) (row : List Value) (tv : Value) (hn : t.length ≤ 50000) (ht : Ints w tv t) (hr : RuleIs w r row) :
    Calls Try.prog 27 #[.agg row.toArray, tv] w fun e w' => ∃ v, e = .returned v ∧ OwnL boolE 4 1 w.heap.size w' v (fitsL r t (t.length + 1)) ∧ Below w.heap.size w w' := by
  obtain ⟨a, b, c, d, e, f, rfl, hx, hy⟩ := hr
  obtain ⟨pt, capt, rfl, hct, -⟩ := ht.get
  have HT := Lib.hid ht
  have HX := Lib.hid hx
  have HY := Lib.hid hy
  obtain ⟨brk, hbrk⟩ : ∃ q, q = r.brk := ⟨_, rfl⟩
  obtain ⟨st, hst⟩ : ∃ q, q = r.start := ⟨_, rfl⟩
  rw [← hbrk, ← hst]
  have HST := Lib.hid hst
  clear ht hx hy hbrk hst
  go_enter Try.func27, Try.ntmps27
  go_upto_region 1 with fail
  refine abs_wp fun W hW => ?_
  have hBW : Below w.heap.size w W := by rw [hW]; exact below_alloc1 _ _
  have hbox : W.heap[w.heap.size]? = some (.cells #[a, b, c, d, e, f, .bool brk, .bool st] 35) := by rw [hW]; exact heap_alloc_new _ _
  obtain ⟨B, hB⟩ : ∃ B, B = w.heap.size := ⟨_, rfl⟩
  have HBE := Lib.hid hB
  have HWZ := Lib.hid (show W.heap.size = B + 1 by rw [hW, hB]; simp)
  rw [← hB] at hbox ⊢
  have HBX := Lib.hid hbox
  have HBW := Lib.hid hBW
  have z7 := (cells8 hbox).2.2.2.2.2.2.2
  have HALL := Lib.hid (all_any W t.length (!st) (by omega))
  clear hW hBW hbox hB
  go_wp2_with fail
  refine HALL.out.mono ?_
  rintro e1 w1 ⟨v1, rfl, ho1, hb1⟩
  obtain ⟨g, cap, cur, row, hve, hg, hheap, hrow, hrl, hrc, hE, hcsz, hsto⟩ := ho1.store (by omega) (k := 0) (by simp)
  subst hve
  have HH := Lib.hid hheap
  have hst := hsto 0 [.bool true] (by simp) (by simp [Value.oneCell']) true (boolE_splice hrl true)
  simp only [Nat.zero_mul, Nat.add_zero] at hst
  have HSTO := Lib.hid hst
  have hfit : 0 + 1 ≤ cur.size := by omega
  have HB1 := Lib.hid hb1
  have HG := Lib.hid (show B + 1 ≤ g by rw [← HWZ.out]; exact hg)
  simp only [List.length_replicate]
  simp only [List.length_replicate] at HSTO
  clear ho1 hb1 hheap hrow hrl hrc hE hcsz hsto hg hst z7 HALL
  go_upto_region 4 with (refine wpList_store_row rfl (.tmp 19) (.const (.bool true)) 4 rfl g 0 rfl (.bool true) rfl cur _ (by kernel_rfl) HH.out hfit (by simp [Value.cells, Value.oneCell']) ?_)
  refine abs_wp fun W2 hW2 => ?_
  have HFR := Lib.hid (show Fr (fun k => k = g) w1 W2 by rw [hW2]; exact Fr.setRow (F := fun k => k = g) _ rfl _)
  have HOW := Lib.hid (HSTO.out W2 (by rw [hW2]; exact setRow_heap _ g _ _ _ (0, 0) HH.out))
  have HBW2 := Lib.hid (show Below W.heap.size W W2 from HB1.out.trans (HFR.out.below HB1.out.size (fun q hq => by have h : q = g := hq; have := HG.out; have := HWZ.out; omega)))
  have HBX2 := Lib.hid ((HBW2.out.block B (at_lt HBX.out)).trans HBX.out)
  have HB2 := Lib.hid (HBW.out.trans (HBW2.out.mono HBW.out.size))
  have HSZ2 := Lib.hid (at_lt HBX2.out)
  have HFROM := Lib.hid (fun p => from_all st t.length p)
  have hlf : ((List.replicate (t.length + 1) (!st)).set 0 true).length = t.length + 1 := by simp
  have HLF := Lib.hid hlf
  generalize (List.replicate (t.length + 1) (!st)).set 0 true = from_ at *
  have HMV := Lib.hid (moves_any t false hn r.left W2 _ _ a b c from_ hlf (HT.out.to HB2.out (Nat.le_refl _)) HOW.out.read.bools (HX.out.to HB2.out (Nat.le_refl _)))
  obtain ⟨z0, z1, z2, -⟩ := cells8 HBX2.out
  clear hW2 hfit hlf
  go_wp2_with fail
  refine HMV.out.mono ?_
  rintro e3 w3 ⟨v3, left, rfl, hleft, himg, hb3⟩
  have HB3 := Lib.hid hb3
  have HLEFT := Lib.hid hleft
  have HIML := Lib.hid himg
  have hll : left.length = t.length + 1 := himg.1.trans HLF.out
  have HLL := Lib.hid hll
  have HBW3 := Lib.hid (HB2.out.trans (hb3.mono HB2.out.size))
  have HBX3 := Lib.hid ((hb3.block B HSZ2.out).trans HBX2.out)
  obtain ⟨pl, cl, hpl, hcl, hxl⟩ := hleft.get
  subst hpl
  have HXL := Lib.hid hxl
  rw [hll]
  clear hleft himg hb3 hll hxl z0 z1 z2 HMV
  go_upto_region 5 with fail
  refine wp_region_plan (fun W => W.heap[B]? = some (.cells #[a, b, c, d, e, f, .bool brk, .bool st] 35)) (.reads [0, 1, 2, 3] (.one 4 (.one 5 (.reads [6] .done)))) 50 (by kernel_rfl) (by kernel_rfl) rfl (fun _ _ _ _ _ h => h) HBX3.out ?_
  apply plan_reads
  · intro W' hW'
    obtain ⟨s0, s1, s2, s3, s4, s5, s6, s7⟩ := cells8 hW'
    repeat (refine wpRead_step (fun K hK => ?_); go_simp; refine hK _ ?_; clear hK K)
    exact wpRead_nil rfl
  refine abs_plan fun W4 hW4 => ?_
  have HB4 := Lib.hid (show Below w3.heap.size w3 W4 by rw [hW4]; exact (Below.refl _ _).drew)
  have HALL2 := Lib.hid (all_any W4 t.length true (by omega))
  clear hW4
  refine plan_one rfl ?_
  go_wp2_with fail
  refine HALL2.out.mono ?_
  rintro e5 w5 ⟨v5, rfl, ho5, hb5⟩
  have HB5 := Lib.hid (HB4.out.trans (hb5.mono HB4.out.size))
  have HBW5 := Lib.hid (HBW3.out.trans (HB5.out.mono HBW3.out.size))
  obtain ⟨p5, c5, hv5⟩ := ho5.form
  subst hv5
  simp only [List.length_replicate] at ho5 ⊢
  have HMV2 := Lib.hid (moves_any t true hn r.right w5 _ _ d e f (List.replicate (t.length + 1) true) (by simp) (HT.out.to HBW5.out (Nat.le_refl _)) ho5.read.bools (HY.out.to HBW5.out (Nat.le_refl _)))
  have HBX5 := Lib.hid ((HB5.out.block B (at_lt HBX3.out)).trans HBX3.out)
  clear ho5 hb5 HALL2
  go_wp2_with fail
  refine Then.mk HBX5.out ?_
  refine plan_one rfl ?_
  go_wp2_with fail
  refine HMV2.out.mono ?_
  rintro e6 w6 ⟨v6, right, rfl, hright, himg, hb6⟩
  have HB6 := Lib.hid (HB5.out.trans (hb6.mono HB5.out.size))
  have HBW6 := Lib.hid (HBW3.out.trans (HB6.out.mono HBW3.out.size))
  have HBX6 := Lib.hid ((hb6.block B (at_lt HBX5.out)).trans HBX5.out)
  have hlr : right.length = t.length + 1 := by rw [himg.1]; simp
  have HLR := Lib.hid hlr
  have HIMR := Lib.hid himg
  obtain ⟨pr, cr, hpr, hcr, hxr⟩ := hright.get
  subst hpr
  have HXR := Lib.hid hxr
  rw [hlr]
  clear hright himg hb6 hlr hxr HMV2
  go_wp2_with fail
  refine Then.mk HBX6.out ?_
  apply plan_reads
  · intro W' hW'
    repeat (refine wpRead_step (fun K hK => ?_); go_simp; refine hK _ ?_; clear hK K)
    exact wpRead_nil rfl
  refine plan_done ?_
  have HFL := Lib.hid (fun (q : Nat) (hq : q ≤ t.length) (h1 : q < left.length) (h2 : q < right.length) => where_fits (r := r) (t := t) (fun p => by rw [← HST.out]; exact HFROM.out p) HIML.out HIMR.out hq h1 h2)
  go_wp2_with fail
  go_loopw [9, 10] (fun u i wr => ∃ k : Nat, i = .int .i64 k ∧ k ≤ t.length + 1 ∧ OwnL boolE 4 1 w6.heap.size wr u (fitsL r t k) ∧ Below w6.heap.size w6 wr) (fun _ i _ => t.length + 1 - (intOf i).toNat)
  case atStart => exact ⟨0, rfl, by omega, OwnL.nil _, Below.refl _ _⟩
  case round =>
    obtain ⟨k, rfl, h1, hown, hb⟩ := hrel
    have HOWN := Lib.hid hown
    have HB := Lib.hid hb
    by_cases hk : k < t.length + 1
    · have hkl : k < left.length := by have := HLL.out; omega
      have hkr : k < right.length := by have := HLR.out; omega
      obtain ⟨b1, o1, rfl, hl1, hy1⟩ := HXL.out (by omega)
      obtain ⟨b2, o2, rfl, hl2, hy2⟩ := HXR.out (by omega)
      have y1 := cell_below (HB6.out.trans (hb.mono HB6.out.size)) hl1 (hy1 k hkl)
      have y2 := cell_below hb hl2 (hy2 k hkr)
      have hfk := HFL.out k (by omega) hkl hkr
      have HSTP := Lib.hid (show fitsL r t (k + 1) = fitsL r t k ++ [fitsB r t (k : Int)] by unfold fitsL; rw [List.range_succ, List.map_append]; rfl)
      have HLO := Lib.hid (show (fitsL r t k).length = k by simp [fitsL])
      have hki : (k : Int) < (t.length : Int) + 1 := by omega
      have hki2 : k ≤ t.length := by omega
      generalize left[k] = xk at *
      generalize right[k] = yk at *
      generalize fitsB r t (k : Int) = fk at *
      have HFK := Lib.hid hfk
      clear hown hy1 hy2 hfk
      rcases Bool.eq_false_or_eq_true xk with hxk | hxk <;> rcases Bool.eq_false_or_eq_true yk with hyk | hyk
      · subst hxk hyk
        have ha := below_alloc1 wr (.cells #[.bool true] 4)
        have HA := Lib.hid ha
        have HO2 := Lib.hid (HOWN.out.below ha (Nat.le_refl _))
        have HRD := Lib.hid (ReadL.one (E := boolE) (sz := 1) wr 4 true [.bool true] (by simp [Value.oneCell']) rfl)
        have HSZ := Lib.hid (Nat.le_trans hb.size ha.size)
        have HLEN := Lib.hid (show (fitsL r t k).length + [true].length ≤ 1000000 by rw [HLO.out]; simp; omega)
        have HV := Lib.hid (show fk = true from HFK.out.symm)
        clear ha hb
        go_wp2_with (at_builtin; refine wpList_append_bools rfl (.tmp 36) (.tmp 47) rfl u9 (fitsL r t k) rfl HO2.out _ [true] rfl HRD.out HLEN.out HSZ.out ?_)
        intro p5 c5 w5 hown hg _
        have HB5 := Lib.hid ((HB.out.trans (HA.out.mono HB.out.size)).grown hg HSZ.out (fun k hk => (HO2.out.lt k hk).1))
        have HOW5 := Lib.hid hown
        clear hown hg y1 y2
        go_wp2_with fail
        go_roundw
        case rel => exact ⟨k + 1, by go_num, by omega, by rw [HSTP.out, HV.out]; exact HOW5.out, HB5.out⟩
        case measure => simp [intOf]; omega
      · subst hxk hyk
        have ha := below_alloc1 wr (.cells #[.bool false] 4)
        have HA := Lib.hid ha
        have HO2 := Lib.hid (HOWN.out.below ha (Nat.le_refl _))
        have HRD := Lib.hid (ReadL.one (E := boolE) (sz := 1) wr 4 false [.bool false] (by simp [Value.oneCell']) rfl)
        have HSZ := Lib.hid (Nat.le_trans hb.size ha.size)
        have HLEN := Lib.hid (show (fitsL r t k).length + [false].length ≤ 1000000 by rw [HLO.out]; simp; omega)
        have HV := Lib.hid (show fk = false from HFK.out.symm)
        clear ha hb
        go_wp2_with (at_builtin; refine wpList_append_bools rfl (.tmp 36) (.tmp 47) rfl u9 (fitsL r t k) rfl HO2.out _ [false] rfl HRD.out HLEN.out HSZ.out ?_)
        intro p5 c5 w5 hown hg _
        have HB5 := Lib.hid ((HB.out.trans (HA.out.mono HB.out.size)).grown hg HSZ.out (fun k hk => (HO2.out.lt k hk).1))
        have HOW5 := Lib.hid hown
        clear hown hg y1 y2
        go_wp2_with fail
        go_roundw
        case rel => exact ⟨k + 1, by go_num, by omega, by rw [HSTP.out, HV.out]; exact HOW5.out, HB5.out⟩
        case measure => simp [intOf]; omega
      · subst hxk hyk
        have ha := below_alloc1 wr (.cells #[.bool false] 4)
        have HA := Lib.hid ha
        have HO2 := Lib.hid (HOWN.out.below ha (Nat.le_refl _))
        have HRD := Lib.hid (ReadL.one (E := boolE) (sz := 1) wr 4 false [.bool false] (by simp [Value.oneCell']) rfl)
        have HSZ := Lib.hid (Nat.le_trans hb.size ha.size)
        have HLEN := Lib.hid (show (fitsL r t k).length + [false].length ≤ 1000000 by rw [HLO.out]; simp; omega)
        have HV := Lib.hid (show fk = false from HFK.out.symm)
        clear ha hb
        go_wp2_with (at_builtin; refine wpList_append_bools rfl (.tmp 36) (.tmp 47) rfl u9 (fitsL r t k) rfl HO2.out _ [false] rfl HRD.out HLEN.out HSZ.out ?_)
        intro p5 c5 w5 hown hg _
        have HB5 := Lib.hid ((HB.out.trans (HA.out.mono HB.out.size)).grown hg HSZ.out (fun k hk => (HO2.out.lt k hk).1))
        have HOW5 := Lib.hid hown
        clear hown hg y1 y2
        go_wp2_with fail
        go_roundw
        case rel => exact ⟨k + 1, by go_num, by omega, by rw [HSTP.out, HV.out]; exact HOW5.out, HB5.out⟩
        case measure => simp [intOf]; omega
      · subst hxk hyk
        have ha := below_alloc1 wr (.cells #[.bool false] 4)
        have HA := Lib.hid ha
        have HO2 := Lib.hid (HOWN.out.below ha (Nat.le_refl _))
        have HRD := Lib.hid (ReadL.one (E := boolE) (sz := 1) wr 4 false [.bool false] (by simp [Value.oneCell']) rfl)
        have HSZ := Lib.hid (Nat.le_trans hb.size ha.size)
        have HLEN := Lib.hid (show (fitsL r t k).length + [false].length ≤ 1000000 by rw [HLO.out]; simp; omega)
        have HV := Lib.hid (show fk = false from HFK.out.symm)
        clear ha hb
        go_wp2_with (at_builtin; refine wpList_append_bools rfl (.tmp 36) (.tmp 47) rfl u9 (fitsL r t k) rfl HO2.out _ [false] rfl HRD.out HLEN.out HSZ.out ?_)
        intro p5 c5 w5 hown hg _
        have HB5 := Lib.hid ((HB.out.trans (HA.out.mono HB.out.size)).grown hg HSZ.out (fun k hk => (HO2.out.lt k hk).1))
        have HOW5 := Lib.hid hown
        clear hown hg y1 y2
        go_wp2_with fail
        go_roundw
        case rel => exact ⟨k + 1, by go_num, by omega, by rw [HSTP.out, HV.out]; exact HOW5.out, HB5.out⟩
        case measure => simp [intOf]; omega
    · obtain ⟨p, c', rfl⟩ := hown.form
      have hke : k = t.length + 1 := by omega
      have HKE := Lib.hid hke
      have HBWR := Lib.hid (HBW6.out.trans (hb.mono HBW6.out.size))
      clear hown hb hke
      go_wp2_with fail
      go_ret
      exact ⟨_, rfl, by rw [← HKE.out]; exact HOWN.out.base HBW6.out.size, HBWR.out⟩

theorem fitsL_length (r : Rl) (t : List Int) (k : Nat) : (fitsL r t k).length = k := by simp [fitsL]

set_option maxHeartbeats 2000000 in
theorem refFits_any (w : World) (t : List Int) (r : Rl) (row : List Value) (tv : Value) (p : Int) (hn : t.length ≤ 50000) (ht : Ints w tv t) (hr : RuleIs w r row) :
    Calls Try.prog 17 #[.agg row.toArray, tv, .int .i64 p] w (Says (fitsB r t p) w) := by
  have HR := Lib.hid hr
  obtain ⟨a, b, c, d, e, f, rfl, -, -⟩ := hr
  obtain ⟨pt, capt, rfl, hct, -⟩ := ht.get
  have HT := Lib.hid ht
  obtain ⟨brk, hbrk⟩ : ∃ q, q = r.brk := ⟨_, rfl⟩
  obtain ⟨st, hst⟩ : ∃ q, q = r.start := ⟨_, rfl⟩
  rw [← hbrk, ← hst] at HR ⊢
  clear ht hbrk hst
  go_enter Try.func17, Try.ntmps17
  go_upto_region 1 with fail
  refine abs_wp fun W hW => ?_
  have hBW : Below w.heap.size w W := by rw [hW]; exact below_alloc1 _ _
  have hbox : W.heap[w.heap.size]? = some (.cells #[a, b, c, d, e, f, .bool brk, .bool st] 35) := by rw [hW]; exact heap_alloc_new _ _
  obtain ⟨B, hB⟩ : ∃ B, B = w.heap.size := ⟨_, rfl⟩
  rw [← hB] at hbox ⊢
  have HBW := Lib.hid hBW
  by_cases hp : 0 ≤ p ∧ p ≤ t.length
  · obtain ⟨z0, z1, z2, z3, z4, z5, z6, z7⟩ := cells8 hbox
    have HW := Lib.hid (where_any W t r _ _ hn (HT.out.to hBW (Nat.le_refl _)) (HR.out.to hBW (Nat.le_refl _)))
    obtain ⟨q, hq⟩ : ∃ q : Nat, p = q := ⟨p.toNat, by omega⟩
    subst hq
    have hq1 : q < t.length + 1 := by omega
    have hq2 : ¬ (t.length : Int) < (q : Int) := by omega
    have hq3 : (q : Int) < (t.length : Int) + 1 := by omega
    have hq4 : q ≤ t.length := by omega
    clear hW hBW hbox hB hp
    go_wp2_with fail
    refine HW.out.mono ?_
    rintro e1 w1 ⟨v1, rfl, hbo, hb1⟩
    have hbs := hbo.read.bools
    obtain ⟨p1, c1, hv, hc1, hx1⟩ := hbs.get
    subst hv
    rw [fitsL_length] at hc1 ⊢
    obtain ⟨b1, o1, hpe, hl1, hy1⟩ := hx1 (by rw [fitsL_length]; omega)
    subst hpe
    have y1 := hy1 q (by rw [fitsL_length]; exact hq1)
    have hg : (fitsL r t (t.length + 1))[q]'(by rw [fitsL_length]; exact hq1) = fitsB r t (q : Int) := by simp [fitsL]
    rw [hg] at y1
    have HB1 := Lib.hid (HBW.out.trans (hb1.mono HBW.out.size))
    clear hbs hbo hx1 hy1 hg hb1 HW z0 z1 z2 z3 z4 z5 z6 z7
    go_wp2_with fail
    go_ret
    exact Says.mk rfl HB1.out
  · have HF := Lib.hid (fitsB_false (r := r) (t := t) (p := p) (fun h => hp ⟨h.1, h.2.1⟩))
    by_cases hp0 : p < 0
    · clear hW hBW hbox hB hp
      go_wp2_with fail
      go_ret
      exact Says.mk HF.out.symm HBW.out
    · have hp1 : (t.length : Int) < p := by omega
      clear hW hBW hbox hB hp
      go_wp2_with fail
      go_ret
      exact Says.mk HF.out.symm HBW.out
end Go.Proofs.Ytphgjppeindbaaa
