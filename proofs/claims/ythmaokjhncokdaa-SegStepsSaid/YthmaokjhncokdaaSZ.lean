import Derived.Test.YthmaokjhncokdaaSY
/-
  SegSteps: from any place the next boundaries are those. No condition beyond what each theorem names.
-/
set_option linter.unusedVariables false
set_option linter.unusedSimpArgs false
namespace Go.Proofs.Ythmaokjhncokdaa
open Go.RowKit Classical

set_option maxRecDepth 100000 in
set_option maxHeartbeats 16000000 in
theorem steps_law (w : World) (pc : Option Addr) (nc cc : Nat) (hcc : nc ≤ cc) (hpc : 0 < nc → ∃ a, pc = some a) (rv : Value) (rs0 : List Rl) (hr : Rules w rv rs0) (hl : rs0.length ≤ 9223372036854775807) (v : Value) (t : List Int) (hv : Ints w v t) (hn : t.length ≤ 9223372036854775807) (at_ : Int) :
    Calls Try.prog 8 #[.agg #[.slice pc nc cc, rv], v, .int .i64 at_] w (Says true w) := by
  obtain ⟨pr, cr, rfl, -, -⟩ := hr.get
  have HR := Lib.hid hr
  have HPC := Lib.hid hpc
  have HL := Lib.hid hl
  obtain ⟨pt, ct, rfl, hct, -⟩ := hv.get
  have HV := Lib.hid hv
  obtain ⟨m0, hm0⟩ : ∃ m0, m0 = rs0.length := ⟨_, rfl⟩
  rw [← hm0]
  have HM0 := Lib.hid hm0
  clear hr hpc hl hm0 hv
  go_enter Try.func8, Try.ntmps8
  go_upto_region 1 with fail
  refine abs_wp fun W hW => ?_
  obtain ⟨B, hB⟩ : ∃ B, B = w.heap.size := ⟨_, rfl⟩
  have hbx : W.heap[B]? = some (.cells #[.slice pc nc cc, .slice pr m0 cr] 25) := by rw [hW, hB]; exact heap_alloc_new _ _
  have hbe : Below w.heap.size w W := by rw [hW]; exact below_alloc1 _ _
  rw [← hB]
  have HBE := Lib.hid hbe
  have HBX := Lib.hid hbx
  have HBB := Lib.hid hB
  clear hW hbx hbe hB
  go_wp2_with fail
  refine (shown10 W).mono ?_
  rintro e w1 ⟨rfl, hb1⟩
  have HB1 := Lib.hid (HBE.out.trans (hb1.mono HBE.out.size))
  have HBX1 := Lib.hid ((hb1.block _ (at_lt HBX.out)).trans HBX.out)
  clear hb1
  obtain ⟨x0, x1⟩ := cells2 HBX1.out
  have HFW := Lib.hid (few10_any w w1 HB1.out pc nc cc hcc HPC.out (.slice pr m0 cr) rs0 (by have h := HR.out; rwa [← HM0.out] at h) HL.out)
  obtain ⟨rs, hrs⟩ : ∃ rs, rs = few9L rs0 := ⟨_, rfl⟩
  have hr8 : rs.length ≤ 8 := by rw [hrs]; exact few9_length _
  have HRS := Lib.hid hrs
  clear hrs
  go_wp2_with fail
  refine HFW.out.mono ?_
  rintro e w2 ⟨pc2, cc2, pv, rfl, hown, hb2⟩
  rw [← HRS.out] at hown
  obtain ⟨nn, hnn⟩ : ∃ nn, nn = min nc 30 := ⟨_, rfl⟩
  rw [← hnn]
  obtain ⟨pq, cq, hpv⟩ := hown.form
  subst hpv
  obtain ⟨m, hm⟩ : ∃ m, m = rs.length := ⟨_, rfl⟩
  rw [← hm] at hr8 hown ⊢
  have HM := Lib.hid hm
  have HOWN := Lib.hid hown
  have HNN := Lib.hid (show nn ≤ 30 by omega)
  have HBX2 := Lib.hid ((hb2.block _ (at_lt HBX1.out)).trans HBX1.out)
  have HB2 := Lib.hid (HB1.out.trans (hb2.mono HB1.out.size))
  have HS1 := Lib.hid (at_lt HBX1.out)
  clear hm hnn hown hb2 x0 x1 HFW
  go_wp2_with (refine stop_at (.store 25 (.tmp 3) (.tmp 19)) rfl ?_)
  refine ⟨?_⟩
  refine wpList_store_obj rfl (.tmp 3) (.tmp 19) 25 rfl B rfl [.slice pc2 nn cc2, .slice pq m cq] rfl _ _ HBX2.out (by kernel_rfl) rfl (by simp [Value.oneCell']) ?_
  intro w3 hb3 hf3
  have HB3 := Lib.hid (show Below w.heap.size w w3 from HB2.out.trans (hf3.below HB2.out.size (fun j hj => by have hj : j = B := hj; have := HBB.out; omega)))
  have HRU := Lib.hid (show Rules w3 (.slice pq m cq) rs from rules_of_read ((HOWN.out.fr hf3 (fun j hj he => by have he : j = B := he; have h1 := (HOWN.out.lt j hj).1; have h2 := HS1.out; omega)).read.monoE (fun x r hr => hr.to HB3.out (Nat.le_refl _))))
  have HBX3 := Lib.hid (show w3.heap[B]? = some (.cells #[.slice pc2 nn cc2, .slice pq m cq] 25) from hb3)
  clear hb3 hf3
  obtain ⟨row, hrow⟩ : ∃ row, row = t.take 16 := ⟨_, rfl⟩
  have hrl : row.length = min t.length 16 := by rw [hrow, List.length_take, Nat.min_comm]
  go_upto_region 3 with fail
  change Code.wp Try.prog _ _ { tmps := _, defers := _ } _
  go_cut [1] (fun rv wx => Ints w rv row ∧ wx = w3)
  case first =>
    as_aux_lemma =>
      cases pt with
      | none =>
        have h0 : t = [] := by
          obtain ⟨p', c', he, -, hx⟩ := HV.out
          injection he with he1 he2 he3
          subst he1
          cases t with
          | nil => rfl
          | cons x r => obtain ⟨b, off, e, -⟩ := hx (by simp); cases e
        subst h0
        have HI := Lib.hid (show Ints w (.slice none 0 ct) row by rw [hrow]; exact HV.out)
        clear hrow hrl
        go_wp2_with fail
        go_meet
        case rel => exact ⟨HI.out, rfl⟩
      | some ad =>
        by_cases h40 : t.length ≤ 16
        · have h41 : ¬ (16 : Int) < t.length := by omega
          have HI := Lib.hid (show Ints w (.slice (some ad) (min (t.length : Int) 16).toNat ct) row by rw [hrow, List.take_of_length_le h40, show (min (t.length : Int) 16).toNat = t.length by omega]; exact HV.out)
          clear hrow hrl
          go_wp2_with fail
          go_meet
          case rel => exact ⟨HI.out, rfl⟩
        · have h41 : (16 : Int) < t.length := by omega
          have HI := Lib.hid (show Ints w (.slice (some ad) (min (t.length : Int) 16).toNat ct) row by rw [hrow, show (min (t.length : Int) 16).toNat = 16 by omega]; exact HV.out.take (by omega))
          clear hrow hrl
          go_wp2_with fail
          go_meet
          case rel => exact ⟨HI.out, rfl⟩
  case rest =>
    obtain ⟨hi, rfl⟩ := hcut
    obtain ⟨ptr, ctr, rfl, hcr, -⟩ := hi.get
    have hr30 : row.length ≤ 16 := by omega
    have HI := Lib.hid hi
    obtain ⟨nr, hnr⟩ : ∃ nr, nr = row.length := ⟨_, rfl⟩
    rw [← hnr] at hr30 hcr ⊢
    have HNR := Lib.hid hnr
    rw [← hnr] at HI
    clear hi hrow hrl hnr
    have HCO := Lib.hid ((compile_any wc pc2 nn cc2 (.slice pq m cq) rs HRU.out (by have := HM.out; omega)).mono fun e w' h => CompPost.two h)
    obtain ⟨x0, x1⟩ := cells2 HBX3.out
    go_wp2_with fail
    refine HCO.out.mono ?_
    rintro e w4 ⟨hb4, q, rfl, hcase⟩
    have HB4 := Lib.hid (HB3.out.trans (hb4.mono HB3.out.size))
    have HBX4 := Lib.hid ((hb4.block _ (at_lt HBX3.out)).trans HBX3.out)
    have HRU4 := Lib.hid (HRU.out.to hb4 (Nat.le_refl _))
    obtain ⟨co, hco⟩ : ∃ co, co = compC nn rs := ⟨_, rfl⟩
    rw [← hco] at hcase ⊢
    clear hb4 HCO x0 x1 hco
    rcases hcase with ⟨rfl, T, rfl, ht⟩ | ⟨hne, rfl⟩
    · have HT := Lib.hid ht
      have HI4 := Lib.hid (HI.out.to HB4.out (Nat.le_refl _))
      have HBO := Lib.hid (ref10_any w4 pc2 nn cc2 (.slice pq m cq) (.slice ptr nr ctr) rs row (by have := HNR.out; omega) (by have := HM.out; omega) HRU4.out HI4.out)
      obtain ⟨x0, x1⟩ := cells2 HBX4.out
      clear ht
      go_wp2_with fail
      refine HBO.out.mono ?_
      rintro e w5 ⟨hb5, hcase⟩
      have HB5 := Lib.hid (HB4.out.trans (hb5.mono HB4.out.size))
      have HD5 := Lib.hid hb5
      have HNX := Lib.hid (next_any w5 T nn rs (HT.out.to hb5) (.slice ptr nr ctr) row (HI4.out.to hb5 (Nat.le_refl _)) (by have := HNR.out; omega) at_)
      clear hb5 HBO x0 x1
      rcases hcase with ⟨hro, vl, rfl, hvl⟩ | ⟨hno, rfl⟩
      · have HRO := Lib.hid hro
        have HVL := Lib.hid hvl
        obtain ⟨bs, hbs⟩ : ∃ bs, bs = segL rs row := ⟨_, rfl⟩
        rw [← hbs] at HVL hvl
        have hbl : bs.length = nr + 1 := by rw [hbs, segL_length, ← HNR.out]
        obtain ⟨pl, cl, rfl, hcl, -⟩ := hvl.get
        rw [hbl] at HVL hcl ⊢
        have HBL := Lib.hid hbl
        have HBS := Lib.hid hbs
        clear hro hvl hbl hbs
        go_wp2_with fail
        refine HNX.out.mono ?_
        rintro e w6 ⟨p6, q6, c6, rfl, hV6, hb6⟩
        have HB6 := Lib.hid (HD5.out.trans (hb6.mono HD5.out.size))
        have HV6 := Lib.hid hV6
        have HPV := Lib.hid (prev_any w6 T nn rs (HT.out.to HB6.out) (.slice ptr nr ctr) row (HI4.out.to HB6.out (Nat.le_refl _)) (by have := HNR.out; omega) at_)
        have HE6 := Lib.hid hb6
        clear hV6 hb6 HNX
        go_wp2_with fail
        refine HPV.out.mono ?_
        rintro e w7 ⟨p7, q7, c7, rfl, hV7, hb7⟩
        have HE7 := Lib.hid (HE6.out.trans (hb7.mono HE6.out.size))
        have HWF := Lib.hid (HB5.out.trans (HE7.out.mono HB5.out.size))
        have HV7 := Lib.hid hV7
        clear hV7 hb7 HPV
        by_cases hin : 0 ≤ at_ ∧ at_ ≤ nr
        · obtain ⟨a, rfl⟩ : ∃ a : Nat, at_ = a := ⟨at_.toNat, by omega⟩
          have han : a ≤ nr := by omega
          have hai : ¬ (nr : Int) < (a : Int) := by omega
          have ha0 : (0 : Int) ≤ a := by omega
          have HVAL := Lib.hid (show (q6 = (nextF (truesL bs) (a : Nat) nr : Nat) ∧ c6 = 0) ∧ p7 = (prevF (truesL bs) (a : Nat) : Nat) ∧ c7 = 0 from by
            refine ⟨?_, ?_⟩
            · rcases HV6.out with ⟨h, -⟩ | ⟨-, h, -⟩ | ⟨-, -, -, h⟩
              · exact (h HRO.out).elim
              · have := HNR.out; omega
              · injection h with h1 h2
                injection h2 with h2 h3
                exact ⟨by rw [h2, HBS.out, HNR.out], h3⟩
            · rcases HV7.out with ⟨h, -⟩ | ⟨-, h, -⟩ | ⟨-, -, -, h⟩
              · exact (h HRO.out).elim
              · have := HNR.out; omega
              · injection h with h1 h2
                injection h2 with h2 h3
                exact ⟨by rw [h1, HBS.out], h3⟩)
          obtain ⟨⟨e1, e2⟩, e3, e4⟩ := HVAL.out
          subst e1 e2 e3 e4
          have HRN := Lib.hid (refNext_any w7 (.slice pl (nr + 1) cl) bs nr a (HVL.out.to HE7.out (Nat.le_refl _)) HBL.out (by omega) han)
          obtain ⟨nv, hnv⟩ : ∃ nv, nv = nextF (truesL bs) (a : Nat) nr := ⟨_, rfl⟩
          obtain ⟨pv, hpv⟩ : ∃ pv, pv = prevF (truesL bs) (a : Nat) := ⟨_, rfl⟩
          rw [← hnv] at HRN
          rw [← hnv, ← hpv]
          have HPV2 := Lib.hid hpv
          have hz1 : ((nv : Int) == (nv : Int)) = true := by simp
          have hz2 : ((pv : Int) == (pv : Int)) = true := by simp
          clear hnv hpv hin
          go_wp2_with fail
          refine HRN.out.mono ?_
          rintro e w8 ⟨rfl, hb8⟩
          have HE8 := Lib.hid (HE7.out.trans (hb8.mono HE7.out.size))
          have HRP := Lib.hid (refPrev_any w8 (.slice pl (nr + 1) cl) bs nr a (HVL.out.to HE8.out (Nat.le_refl _)) HBL.out (by omega) han)
          rw [← HPV2.out] at HRP
          clear hb8 HRN
          go_wp2_with fail
          refine HRP.out.mono ?_
          rintro e w9 ⟨rfl, hb9⟩
          have HWF2 := Lib.hid (HB5.out.trans ((HE8.out.trans (hb9.mono HE8.out.size)).mono HB5.out.size))
          clear hb9 HRP
          go_wp2_with fail
          go_ret
          exact ⟨rfl, HWF2.out⟩
        · have HVAL := Lib.hid (show (q6 = 0 ∧ c6 = 3) ∧ p7 = 0 ∧ c7 = 3 from by
            refine ⟨?_, ?_⟩
            · rcases HV6.out with ⟨h, -⟩ | ⟨-, -, h⟩ | ⟨-, h1, h2, -⟩
              · exact (h HRO.out).elim
              · injection h with h1 h2
                injection h2 with h2 h3
                exact ⟨h2, h3⟩
              · exact absurd ⟨h1, by rw [HNR.out]; exact h2⟩ hin
            · rcases HV7.out with ⟨h, -⟩ | ⟨-, -, h⟩ | ⟨-, h1, h2, -⟩
              · exact (h HRO.out).elim
              · injection h with h1 h2
                injection h2 with h2 h3
                exact ⟨h1, h3⟩
              · exact absurd ⟨h1, by rw [HNR.out]; exact h2⟩ hin)
          obtain ⟨⟨e1, e2⟩, e3, e4⟩ := HVAL.out
          subst e1 e2 e3 e4
          by_cases ha0 : at_ < 0
          · clear hin
            go_wp2_with fail
            go_ret
            exact ⟨rfl, HWF.out⟩
          · have ha1 : (nr : Int) < at_ := by omega
            clear hin
            go_wp2_with fail
            go_ret
            exact ⟨rfl, HWF.out⟩
      · have HNO := Lib.hid hno
        clear hno
        go_wp2_with fail
        refine HNX.out.mono ?_
        rintro e w6 ⟨p6, q6, c6, rfl, hV6, hb6⟩
        have HB6 := Lib.hid (HD5.out.trans (hb6.mono HD5.out.size))
        obtain ⟨rfl, rfl⟩ : q6 = 0 ∧ c6 = 1 := by
          rcases hV6 with ⟨-, h⟩ | ⟨h, -⟩ | ⟨h, -⟩
          · injection h with h1 h2
            injection h2 with h2 h3
            exact ⟨h2, h3⟩
          · exact (HNO.out h).elim
          · exact (HNO.out h).elim
        have HPV := Lib.hid (prev_any w6 T nn rs (HT.out.to HB6.out) (.slice ptr nr ctr) row (HI4.out.to HB6.out (Nat.le_refl _)) (by have := HNR.out; omega) at_)
        have HE6 := Lib.hid HB6.out
        clear hV6 hb6 HNX
        go_wp2_with fail
        refine HPV.out.mono ?_
        rintro e w7 ⟨p7, q7, c7, rfl, hV7, hb7⟩
        have HWF := Lib.hid (HB4.out.trans ((HE6.out.trans (hb7.mono HE6.out.size)).mono HB4.out.size))
        obtain ⟨rfl, rfl⟩ : p7 = 0 ∧ c7 = 1 := by
          rcases hV7 with ⟨-, h⟩ | ⟨h, -⟩ | ⟨h, -⟩
          · injection h with h1 h2
            injection h2 with h2 h3
            exact ⟨h1, h3⟩
          · exact (HNO.out h).elim
          · exact (HNO.out h).elim
        clear hV7 hb7 HPV
        go_wp2_with fail
        go_ret
        exact ⟨rfl, HWF.out⟩
    · have HNE := Lib.hid hne
      go_wp2_with fail
      go_ret
      exact ⟨ret_val (congrArg Value.bool (bne_iff_ne.2 HNE.out)), HB4.out⟩
end Go.Proofs.Ythmaokjhncokdaa

