import Derived.Test.YthmaokjhncokdaaBS
/-
  SegWalks: who goes on from boundary to boundary comes by all, there and back. No condition beyond what each theorem names.
-/
set_option linter.unusedVariables false
set_option linter.unusedSimpArgs false
namespace Go.Proofs.Ythmaokjhncokdaa
open Go.RowKit Classical

set_option maxRecDepth 100000 in
set_option maxHeartbeats 16000000 in
theorem walks_law (w : World) (pc : Option Addr) (nc cc : Nat) (hcc : nc ≤ cc) (hpc : 0 < nc → ∃ a, pc = some a) (rv : Value) (rs0 : List Rl) (hr : Rules w rv rs0) (hl : rs0.length ≤ 9223372036854775807) (v : Value) (t : List Int) (hv : Ints w v t) (hn : t.length ≤ 9223372036854775807) :
    Calls Try.prog 9 #[.agg #[.slice pc nc cc, rv], v] w (Says true w) := by
  obtain ⟨pr, cr, rfl, -, -⟩ := hr.get
  have HR := Lib.hid hr
  have HPC := Lib.hid hpc
  have HL := Lib.hid hl
  obtain ⟨pt, ct, rfl, hct, -⟩ := hv.get
  have HV := Lib.hid hv
  obtain ⟨m0, hm0⟩ : ∃ m0, m0 = rs0.length := ⟨_, rfl⟩
  rw [← hm0]
  have HM0 := Lib.hid hm0
  clear hr hpc hl hm0 hv
  go_enter Try.func9, Try.ntmps9
  go_upto_region 1 with fail
  refine abs_wp fun W hW => ?_
  obtain ⟨B, hB⟩ : ∃ B, B = w.heap.size := ⟨_, rfl⟩
  have hbx : W.heap[B]? = some (.cells #[.slice pc nc cc, .slice pr m0 cr] 25) := by rw [hW, hB]; exact heap_alloc_new _ _
  have hbe : Below w.heap.size w W := by rw [hW]; exact below_alloc1 _ _
  rw [← hB]
  have HBE := Lib.hid hbe
  have HBX := Lib.hid hbx
  have HBB := Lib.hid hB
  clear hW hbx hbe hB
  go_wp2_with fail
  refine (shown10 W).mono ?_
  rintro e w1 ⟨rfl, hb1⟩
  have HB1 := Lib.hid (HBE.out.trans (hb1.mono HBE.out.size))
  have HBX1 := Lib.hid ((hb1.block _ (at_lt HBX.out)).trans HBX.out)
  clear hb1
  obtain ⟨x0, x1⟩ := cells2 HBX1.out
  have HFW := Lib.hid (few10_any w w1 HB1.out pc nc cc hcc HPC.out (.slice pr m0 cr) rs0 (by have h := HR.out; rwa [← HM0.out] at h) HL.out)
  obtain ⟨rs, hrs⟩ : ∃ rs, rs = few9L rs0 := ⟨_, rfl⟩
  have hr8 : rs.length ≤ 8 := by rw [hrs]; exact few9_length _
  have HRS := Lib.hid hrs
  clear hrs
  go_wp2_with fail
  refine HFW.out.mono ?_
  rintro e w2 ⟨pc2, cc2, pv, rfl, hown, hb2⟩
  rw [← HRS.out] at hown
  obtain ⟨nn, hnn⟩ : ∃ nn, nn = min nc 30 := ⟨_, rfl⟩
  rw [← hnn]
  obtain ⟨pq, cq, hpv⟩ := hown.form
  subst hpv
  obtain ⟨m, hm⟩ : ∃ m, m = rs.length := ⟨_, rfl⟩
  rw [← hm] at hr8 hown ⊢
  have HM := Lib.hid hm
  have HOWN := Lib.hid hown
  have HNN := Lib.hid (show nn ≤ 30 by omega)
  have HBX2 := Lib.hid ((hb2.block _ (at_lt HBX1.out)).trans HBX1.out)
  have HB2 := Lib.hid (HB1.out.trans (hb2.mono HB1.out.size))
  have HS1 := Lib.hid (at_lt HBX1.out)
  clear hm hnn hown hb2 x0 x1 HFW
  go_wp2_with (refine stop_at (.store 25 (.tmp 2) (.tmp 19)) rfl ?_)
  refine ⟨?_⟩
  refine wpList_store_obj rfl (.tmp 2) (.tmp 19) 25 rfl B rfl [.slice pc2 nn cc2, .slice pq m cq] rfl _ _ HBX2.out (by kernel_rfl) rfl (by simp [Value.oneCell']) ?_
  intro w3 hb3 hf3
  have HB3 := Lib.hid (show Below w.heap.size w w3 from HB2.out.trans (hf3.below HB2.out.size (fun j hj => by have hj : j = B := hj; have := HBB.out; omega)))
  have HRU := Lib.hid (show Rules w3 (.slice pq m cq) rs from rules_of_read ((HOWN.out.fr hf3 (fun j hj he => by have he : j = B := he; have h1 := (HOWN.out.lt j hj).1; have h2 := HS1.out; omega)).read.monoE (fun x r hr => hr.to HB3.out (Nat.le_refl _))))
  have HBX3 := Lib.hid (show w3.heap[B]? = some (.cells #[.slice pc2 nn cc2, .slice pq m cq] 25) from hb3)
  clear hb3 hf3
  obtain ⟨row, hrow⟩ : ∃ row, row = t.take 30 := ⟨_, rfl⟩
  have hrl : row.length = min t.length 30 := by rw [hrow, List.length_take, Nat.min_comm]
  go_upto_region 3 with fail
  change Code.wp Try.prog _ _ { tmps := _, defers := _ } _
  go_cut [1] (fun rv wx => Ints w rv row ∧ wx = w3)
  case first =>
    as_aux_lemma =>
      cases pt with
      | none =>
        have h0 : t = [] := by
          obtain ⟨p', c', he, -, hx⟩ := HV.out
          injection he with he1 he2 he3
          subst he1
          cases t with
          | nil => rfl
          | cons x r => obtain ⟨b, off, e, -⟩ := hx (by simp); cases e
        subst h0
        have HI := Lib.hid (show Ints w (.slice none 0 ct) row by rw [hrow]; exact HV.out)
        clear hrow hrl
        go_wp2_with fail
        go_meet
        case rel => exact ⟨HI.out, rfl⟩
      | some ad =>
        by_cases h40 : t.length ≤ 30
        · have h41 : ¬ (30 : Int) < t.length := by omega
          have HI := Lib.hid (show Ints w (.slice (some ad) (min (t.length : Int) 30).toNat ct) row by rw [hrow, List.take_of_length_le h40, show (min (t.length : Int) 30).toNat = t.length by omega]; exact HV.out)
          clear hrow hrl
          go_wp2_with fail
          go_meet
          case rel => exact ⟨HI.out, rfl⟩
        · have h41 : (30 : Int) < t.length := by omega
          have HI := Lib.hid (show Ints w (.slice (some ad) (min (t.length : Int) 30).toNat ct) row by rw [hrow, show (min (t.length : Int) 30).toNat = 30 by omega]; exact HV.out.take (by omega))
          clear hrow hrl
          go_wp2_with fail
          go_meet
          case rel => exact ⟨HI.out, rfl⟩
  case rest =>
    obtain ⟨hi, rfl⟩ := hcut
    obtain ⟨ptr, ctr, rfl, hcr, -⟩ := hi.get
    have hr30 : row.length ≤ 30 := by omega
    have HI := Lib.hid hi
    obtain ⟨nr, hnr⟩ : ∃ nr, nr = row.length := ⟨_, rfl⟩
    rw [← hnr] at hr30 hcr ⊢
    have HNR := Lib.hid hnr
    rw [← hnr] at HI
    clear hi hrow hrl hnr
    have HCO := Lib.hid ((compile_any wc pc2 nn cc2 (.slice pq m cq) rs HRU.out (by have := HM.out; omega)).mono fun e w' h => CompPost.two h)
    obtain ⟨x0, x1⟩ := cells2 HBX3.out
    go_wp2_with fail
    refine HCO.out.mono ?_
    rintro e w4 ⟨hb4, q, rfl, hcase⟩
    have HB4 := Lib.hid (HB3.out.trans (hb4.mono HB3.out.size))
    obtain ⟨co, hco⟩ : ∃ co, co = compC nn rs := ⟨_, rfl⟩
    rw [← hco] at hcase ⊢
    clear hb4 HCO x0 x1 hco
    rcases hcase with ⟨rfl, T, rfl, ht⟩ | ⟨hne, rfl⟩
    · have HT := Lib.hid ht
      have HBO := Lib.hid (boundaries_any w4 T nn rs ht (.slice ptr nr ctr) row (HI.out.to HB4.out (Nat.le_refl _)) (by have := HNR.out; omega))
      clear ht
      go_wp2_with fail
      refine HBO.out.mono ?_
      rintro e w5 ⟨hb5, hcase⟩
      have HB5 := Lib.hid (HB4.out.trans (hb5.mono HB4.out.size))
      have HT5 := Lib.hid (HT.out.to hb5)
      clear hb5 HBO
      rcases hcase with ⟨hro, vl, rfl, hvl⟩ | ⟨hno, rfl⟩
      · have HRO := Lib.hid hro
        obtain ⟨bs, hbs⟩ : ∃ bs, bs = segL rs row := ⟨_, rfl⟩
        have HBS := Lib.hid hbs
        rw [← hbs] at hvl
        have hbl : bs.length = nr + 1 := by rw [hbs, segL_length, ← HNR.out]
        obtain ⟨pl, cl, rfl, hcl, hgl⟩ := hvl.get
        have HVL := Lib.hid hvl
        rw [hbl] at hcl HVL ⊢
        obtain ⟨bb, ob, rfl, hbb, hcell⟩ := hgl (by omega)
        have HBL := Lib.hid hbl
        have hfirst : bs[0]? = some (decide (0 < nr)) := by rw [hbs, HNR.out]; exact seg_first rs row
        have hend : bs[nr]? = some (decide (0 < nr)) := by rw [hbs, HNR.out]; exact seg_end rs row
        have HF := Lib.hid hfirst
        have HE := Lib.hid hend
        have d0 : w5.cell? ⟨bb, ob, none⟩ = some (.bool (decide (0 < nr))) := by
          have := hcell 0 (by omega)
          rw [List.getElem?_eq_getElem (by omega)] at hfirst
          rw [Option.some.inj hfirst] at this
          exact this
        have d1 : w5.cell? ⟨bb, ob + nr, none⟩ = some (.bool (decide (0 < nr))) := by
          have := hcell nr (by omega)
          rw [List.getElem?_eq_getElem (by omega)] at hend
          rw [Option.some.inj hend] at this
          exact this
        obtain ⟨po, hpo⟩ : ∃ po, po = decide (0 < nr) := ⟨_, rfl⟩
        have hpo2 : decide ((0 : Int) < nr) = po := by rw [hpo]; simp
        have hne : (po != po) = false := by cases po <;> rfl
        have hpo3 : decide (0 < nr) = po := hpo.symm
        rw [← hpo] at d0 d1
        have HPO := Lib.hid hpo
        have hn0 : (0 : Int) ≤ nr := by omega
        have hn1 : (nr : Int) < (nr : Int) + 1 := by omega
        have hn2 : ((nr : Int) + 1 == (nr : Int) + 1) = true := by simp
        have hmk := fun w => make_bools 55 Try.underlying55 w ((nr : Int) + 1) (nr + 1) (by omega) (by omega)
        clear hbs hvl hgl hcell hfirst hend hpo hro hbl
        go_upto_region 10 with fail
        go_upto_region 12 with fail
        clear d0 d1 hpo2 hpo3 hne
        go_upto_region 14 with fail
        refine abs_wp fun w6 hw6 => ?_
        obtain ⟨a6, g0, g1⟩ := two_allocs w5 _ _ w6 hw6
        obtain ⟨G, hG⟩ : ∃ G, G = w5.heap.size := ⟨_, rfl⟩
        rw [← hG] at g0 g1 ⊢
        have HG0 := Lib.hid (show BRow w6 G (List.replicate (nr + 1) false) by unfold BRow; rw [g0]; simp)
        have HG1 := Lib.hid (show BRow w6 (G + 1) (List.replicate (nr + 1) false) by unfold BRow; rw [g1]; simp)
        have HB6 := Lib.hid a6
        have HGE := Lib.hid hG
        clear hw6 a6 g0 g1 hG hmk
        go_wp2_with fail
        go_loopw [12] (fun i wz => ∃ k : Nat, i = .int .i64 k ∧ k ≤ nr ∧ (0 < k → tr bs k) ∧ BRow wz G (thereX bs k) ∧ BRow wz (G + 1) (List.replicate (nr + 1) false) ∧ Below w5.heap.size w5 wz) (fun i _ => nr - (intOf i).toNat)
        case atStart => exact ⟨0, rfl, by omega, fun h => by omega, by rw [thereX_zero, HBL.out]; exact HG0.out, HG1.out, HB6.out⟩
        case round =>
          obtain ⟨k, rfl, hk, htk, hrow, hoth, hb⟩ := hrel
          have HTK := Lib.hid htk
          have HROW := Lib.hid hrow
          have HOTH := Lib.hid hoth
          have HBK := Lib.hid hb
          by_cases hkn : k < nr
          · have hki : (k : Int) < (nr : Int) := by omega
            have HTR := Lib.hid (show tr bs k from by
              by_cases h0 : k = 0
              · subst h0; unfold tr; rw [HF.out, decide_eq_true (by omega)]
              · exact htk (by omega))
            have hk0 : (0 : Int) ≤ k := by omega
            have hk1 : (k : Int) < (nr : Int) + 1 := by omega
            have hlen : (thereX bs k).length = nr + 1 := by rw [thereX_length, HBL.out]
            have c0 := hrow.cell (i := k) (by rw [hlen]; omega)
            have f0 := hrow.frozen k
            generalize (thereX bs k)[k]'(by rw [hlen]; omega) = old at c0
            clear hrow hoth hb htk hlen
            go_upto_region 17 with fail
            refine abs_wp fun w7 hw7 => ?_
            have HR7 := Lib.hid (show BRow w7 G ((thereX bs k).set k true) from by rw [hw7]; exact HROW.out.set k true)
            have HO7 := Lib.hid (show BRow w7 (G + 1) (List.replicate (nr + 1) false) from by rw [hw7]; exact (set_ne (by omega) _ _).trans HOTH.out)
            have HB7 := Lib.hid (show Below w5.heap.size w5 w7 from by rw [hw7]; exact below_set HBK.out _ (by have := HGE.out; omega) _ _)
            have HNX := Lib.hid (next_any w7 T nn rs (HT5.out.to HB7.out) (.slice ptr nr ctr) row (HI.out.to (HB5.out.trans (HB7.out.mono HB5.out.size)) (Nat.le_refl _)) (by have := HNR.out; omega) (k : Nat))
            clear hw7 c0 f0
            go_wp2_with fail
            refine HNX.out.mono ?_
            rintro e w8 ⟨p8, q8, c8, rfl, hV, hb8⟩
            have HB8 := Lib.hid (HB7.out.trans (hb8.mono HB7.out.size))
            have HR8 := Lib.hid (show BRow w8 G ((thereX bs k).set k true) from (hb8.block _ (at_lt HR7.out)).trans HR7.out)
            have HO8 := Lib.hid (show BRow w8 (G + 1) (List.replicate (nr + 1) false) from (hb8.block _ (at_lt HO7.out)).trans HO7.out)
            obtain ⟨q, hq8, hc8, hkq, hqn, htq, hno⟩ : ∃ q : Nat, q8 = q ∧ c8 = 0 ∧ k < q ∧ q ≤ nr ∧ tr bs q ∧ ∀ j, k < j → j < q → ¬ tr bs j := by
              rcases hV with ⟨hno, -⟩ | ⟨-, h, -⟩ | ⟨-, -, -, h⟩
              · exact (hno HRO.out).elim
              · have := HNR.out; omega
              · obtain ⟨q, hq, h1, h2, h3, h4⟩ := next_step (rs := rs) (row := row) (k := k) (by rw [← HNR.out]; exact hkn)
                injection h with ha hb'
                injection hb' with hb' hc'
                exact ⟨q, by rw [hb', hq], hc', h1, by rw [HNR.out]; exact h2, by rw [HBS.out]; exact h3, by rw [HBS.out]; exact h4⟩
            subst hq8 hc8
            have hq1 : ¬ (q : Int) ≤ (k : Int) := by omega
            have hq1b : (k : Int) < (q : Int) := by omega
            have hq2 : ¬ (nr : Int) < (q : Int) := by omega
            have hq3 : (q : Int) < (nr : Int) + 1 := by omega
            have hq0 : (0 : Int) ≤ q := by omega
            have HNEW := Lib.hid (thereX_step HTR.out hkq htq hno)
            have hlen : ((thereX bs k).set k true).length = nr + 1 := by rw [List.length_set, thereX_length, HBL.out]
            have c0 := HR8.out.cell (i := q) (by rw [hlen]; omega)
            have f0 := HR8.out.frozen q
            generalize ((thereX bs k).set k true)[q]'(by rw [hlen]; omega) = old2 at c0
            have HTQ := Lib.hid htq
            have HRN := Lib.hid (show BRow (w8.setCell ⟨G, q, none⟩ (.bool true)) G (thereX bs q) from by
              have := HR8.out.set q true
              rw [HNEW.out] at this
              exact this)
            have HON := Lib.hid (show BRow (w8.setCell ⟨G, q, none⟩ (.bool true)) (G + 1) (List.replicate (nr + 1) false) from (set_ne (by omega) _ _).trans HO8.out)
            have HBN := Lib.hid (show Below w5.heap.size w5 (w8.setCell ⟨G, q, none⟩ (.bool true)) from below_set HB8.out _ (by have := HGE.out; omega) _ _)
            clear hV hb8 htq hno hlen HNX
            go_wp2_with fail
            go_roundw
            case rel => exact ⟨q, rfl, by omega, fun _ => HTQ.out, HRN.out, HON.out, HBN.out⟩
            case measure => simp [intOf]; omega
          · have hki : ¬ (k : Int) < (nr : Int) := by omega
            obtain rfl : nr = k := by omega
            have HO1 := Lib.hid (show BRow wr G bs from by have := HROW.out; rwa [thereX_end HBL.out HE.out] at this)
            have HO2 := Lib.hid hoth
            have HOB := Lib.hid hb
            clear hrow hoth hb htk HTK HROW HOTH HBK
            go_wp2_with fail
            go_loopw [12] (fun i wz => ∃ k : Nat, i = .int .i64 k ∧ k ≤ nr ∧ (k < nr → tr bs k) ∧ BRow wz (G + 1) (backX bs nr k) ∧ BRow wz G bs ∧ Below w5.heap.size w5 wz) (fun i _ => (intOf i).toNat)
            case atStart => exact ⟨nr, rfl, by omega, fun h => by omega, by rw [backX_top bs HBL.out, HBL.out]; exact HO2.out, HO1.out, HOB.out⟩
            case round =>
              obtain ⟨k, rfl, hk, htk, hrow, hoth, hb⟩ := hrel
              have HTK := Lib.hid htk
              have HROW := Lib.hid hrow
              have HOTH := Lib.hid hoth
              have HBK := Lib.hid hb
              by_cases hkn : 0 < k
              · have hki : (0 : Int) < (k : Int) := by omega
                have HTR := Lib.hid (show tr bs k from by
                  by_cases h0 : k = nr
                  · subst h0; unfold tr; rw [HE.out, decide_eq_true (by omega)]
                  · exact htk (by omega))
                have hk0 : (0 : Int) ≤ k := by omega
                have hk1 : (k : Int) < (nr : Int) + 1 := by omega
                have hlen : (backX bs nr k).length = nr + 1 := by rw [backX_length, HBL.out]
                have c0 := hrow.cell (i := k) (by rw [hlen]; omega)
                have f0 := hrow.frozen k
                generalize (backX bs nr k)[k]'(by rw [hlen]; omega) = old at c0
                clear hrow hoth hb htk hlen
                go_upto_region 24 with fail
                refine abs_wp fun w7 hw7 => ?_
                have HR7 := Lib.hid (show BRow w7 (G + 1) ((backX bs nr k).set k true) from by rw [hw7]; exact HROW.out.set k true)
                have HO7 := Lib.hid (show BRow w7 G bs from by rw [hw7]; exact (set_ne (by omega) _ _).trans HOTH.out)
                have HB7 := Lib.hid (show Below w5.heap.size w5 w7 from by rw [hw7]; exact below_set HBK.out _ (by have := HGE.out; omega) _ _)
                have HNX := Lib.hid (prev_any w7 T nn rs (HT5.out.to HB7.out) (.slice ptr nr ctr) row (HI.out.to (HB5.out.trans (HB7.out.mono HB5.out.size)) (Nat.le_refl _)) (by have := HNR.out; omega) (k : Nat))
                clear hw7 c0 f0
                go_wp2_with fail
                refine HNX.out.mono ?_
                rintro e w8 ⟨p8, q8, c8, rfl, hV, hb8⟩
                have HB8 := Lib.hid (HB7.out.trans (hb8.mono HB7.out.size))
                have HR8 := Lib.hid (show BRow w8 (G + 1) ((backX bs nr k).set k true) from (hb8.block _ (at_lt HR7.out)).trans HR7.out)
                have HO8 := Lib.hid (show BRow w8 G bs from (hb8.block _ (at_lt HO7.out)).trans HO7.out)
                obtain ⟨q, hq8, hc8, hkq, htq, hno⟩ : ∃ q : Nat, p8 = q ∧ c8 = 0 ∧ q < k ∧ tr bs q ∧ ∀ j, q < j → j < k → ¬ tr bs j := by
                  rcases hV with ⟨hno, -⟩ | ⟨-, h, -⟩ | ⟨-, -, -, h⟩
                  · exact (hno HRO.out).elim
                  · have := HNR.out; omega
                  · obtain ⟨q, hq, h1, h3, h4⟩ := prev_step (rs := rs) (row := row) (k := k) hkn (by rw [← HNR.out]; exact hk)
                    injection h with ha hb'
                    injection hb' with hb' hc'
                    exact ⟨q, by rw [ha, hq], hc', h1, by rw [HBS.out]; exact h3, by rw [HBS.out]; exact h4⟩
                subst hq8 hc8
                have hq1 : ¬ (k : Int) ≤ (q : Int) := by omega
                have hq1b : (q : Int) < (k : Int) := by omega
                have hq3 : (q : Int) < (nr : Int) + 1 := by omega
                have hq0 : (0 : Int) ≤ q := by omega
                have hq2 : ¬ (q : Int) < 0 := by omega
                have HNEW := Lib.hid (backX_step HBL.out hk HTR.out hkq htq hno)
                have hlen : ((backX bs nr k).set k true).length = nr + 1 := by rw [List.length_set, backX_length, HBL.out]
                have c0 := HR8.out.cell (i := q) (by rw [hlen]; omega)
                have f0 := HR8.out.frozen q
                generalize ((backX bs nr k).set k true)[q]'(by rw [hlen]; omega) = old2 at c0
                have HTQ := Lib.hid htq
                have HRN := Lib.hid (show BRow (w8.setCell ⟨G + 1, q, none⟩ (.bool true)) (G + 1) (backX bs nr q) from by
                  have := HR8.out.set q true
                  rw [HNEW.out] at this
                  exact this)
                have HON := Lib.hid (show BRow (w8.setCell ⟨G + 1, q, none⟩ (.bool true)) G bs from (set_ne (by omega) _ _).trans HO8.out)
                have HBN := Lib.hid (show Below w5.heap.size w5 (w8.setCell ⟨G + 1, q, none⟩ (.bool true)) from below_set HB8.out _ (by have := HGE.out; omega) _ _)
                clear hV hb8 htq hno hlen HNX
                go_wp2_with fail
                go_roundw
                case rel => exact ⟨q, rfl, by omega, fun _ => HTQ.out, HRN.out, HON.out, HBN.out⟩
                case measure => simp [intOf]; omega
              · have hki : ¬ (0 : Int) < (k : Int) := by omega
                obtain rfl : k = 0 := by omega
                have HO1 := Lib.hid hoth
                have HO2 := Lib.hid (show BRow wr (G + 1) bs from by have := HROW.out; rwa [backX_end HBL.out HF.out] at this)
                have HOB := Lib.hid hb
                have HS1 := Lib.hid (same_dec wr (.slice (some ⟨G, 0, none⟩) (nr + 1) (nr + 1)) (.slice (some ⟨bb, ob, none⟩) (nr + 1) cl) bs bs rfl (by have := HBL.out; omega) (by have := HO1.out.bools; rwa [HBL.out] at this) (Bools.to HOB.out (Nat.le_refl _) HVL.out))
                rw [decide_eq_true rfl] at HS1
                clear hrow hoth hb htk HTK HROW HOTH HBK
                go_wp2_with fail
                refine HS1.out.mono ?_
                rintro e w9 ⟨rfl, hb9⟩
                have HB9 := Lib.hid (HOB.out.trans (hb9.mono HOB.out.size))
                have HS2 := Lib.hid (same_dec w9 (.slice (some ⟨G + 1, 0, none⟩) (nr + 1) (nr + 1)) (.slice (some ⟨bb, ob, none⟩) (nr + 1) cl) bs bs rfl (by have := HBL.out; omega) (by have : BRow w9 (G + 1) bs := (hb9.block _ (at_lt HO2.out)).trans HO2.out; have := this.bools; rwa [HBL.out] at this) (Bools.to HB9.out (Nat.le_refl _) HVL.out))
                rw [decide_eq_true rfl] at HS2
                clear hb9 HS1
                go_wp2_with fail
                refine HS2.out.mono ?_
                rintro e w10 ⟨rfl, hb10⟩
                have HRES := Lib.hid (HB5.out.trans ((HB9.out.trans (hb10.mono HB9.out.size)).mono HB5.out.size))
                clear hb10 HS2
                go_wp2_with fail
                go_ret
                exact ⟨rfl, HRES.out⟩
      · have HRES := Lib.hid HB5.out
        clear hno
        go_wp2_with fail
        go_ret
        exact ⟨rfl, HRES.out⟩
    · go_wp2_with fail
      go_ret
      exact ⟨rfl, HB4.out⟩
end Go.Proofs.Ythmaokjhncokdaa

