/-
  Whole of the reference; NfaMatches: a machine tells what its expression fits. No condition beyond what each theorem names.
-/
import Derived.Test.YtodkeiadaodehaaME
import Derived.Test.YtodkeiadaodehaaNY
import Derived.Test.YtodkeiadaodehaaRow
set_option linter.unusedVariables false
set_option linter.unusedSimpArgs false
namespace Go.Proofs.Ytodkeiadaodehaa
open Go.RowKit

def WholePost (w : World) (t : List Int) (x : Nd) (e : Ending) (w' : World) : Prop := ∃ v out, e = .returned v ∧ Bools w' v out ∧ out.length = t.length + 1 ∧ (∀ q, tr out q ↔ M t x 0 q) ∧ Below w.heap.size w w'

set_option maxRecDepth 100000 in
set_option maxHeartbeats 16000000 in
theorem whole_any (t : List Int) (hn : t.length ≤ 1000) (x : Nd) (hg : Good x) (w : World) (tv a b c : Value) (ht : Ints w tv t) (hx : NodeIs w x a b c) :
    Calls Try.prog 13 #[.agg #[a, b, c], tv] w (WholePost w t x) := by
  have HX := Lib.hid hx
  have HT := Lib.hid ht
  obtain ⟨op, pp, l, c1, q, m, d, rfl, rfl, rfl⟩ := hx.form
  obtain ⟨pt, capt, rfl, hct, -⟩ := ht.get
  have hmk := fun w => make_bools 33 Try.underlying33 w ((t.length : Int) + 1) (t.length + 1) (by omega) (by omega)
  clear hx ht
  go_enter Try.func13, Try.ntmps13
  go_upto_region 2 with fail
  refine abs_wp fun W hW => ?_
  obtain ⟨a0, a1, a2⟩ := alloc2' w _ _ W hW
  obtain ⟨B, hB⟩ : ∃ B, B = w.heap.size := ⟨_, rfl⟩
  have HBX := Lib.hid (show W.heap[B]? = some (.cells #[.int .i64 op, .slice pp l c1, .slice q m d] 25) by rw [hB]; exact a1)
  have hrow : BRow W (B + 1) (List.replicate (t.length + 1) false) := by unfold BRow; rw [hB, a2]; simp
  have HBW := Lib.hid a0
  rw [← hB]
  have HBE := Lib.hid hB
  have c0 := hrow.cell (i := 0) (by simp)
  have f0 := hrow.frozen 0
  have HROW := Lib.hid (hrow.set 0 true)
  have HFR := Lib.hid (Fr.setCell (F := fun q => q = B + 1) W (p := ⟨B + 1, 0, none⟩) rfl (.bool true))
  clear hW hB a0 a1 a2 hmk hrow
  go_upto_region 3 with fail
  refine abs_wp fun W2 hW2 => ?_
  rw [← hW2] at HROW HFR
  have HBW2 := Lib.hid (show Below w.heap.size w W2 from HBW.out.trans (HFR.out.below HBW.out.size (fun q hq => by have hq : q = B + 1 := hq; have := HBE.out; omega)))
  have HBX2 := Lib.hid ((HFR.out.block B (at_lt HBX.out) (by omega)).trans HBX.out)
  obtain ⟨x0, x1, x2⟩ := cells3 HBX2.out
  have HE := Lib.hid (ends_any t hn x hg W2 (.slice pt t.length capt) (.slice (some ⟨B + 1, 0, none⟩) (t.length + 1) (t.length + 1)) _ _ _ _ (by simp) (HT.out.to HBW2.out (Nat.le_refl _)) (HROW.out.read (by simp)) (HX.out.to HBW2.out (Nat.le_refl _)))
  clear hW2 c0 f0
  go_wp2_with fail
  refine HE.out.mono ?_
  rintro e w3 ⟨v, out, rfl, hb, himg, hb3⟩
  have HREL := Lib.hid (show Bools w3 v out ∧ out.length = t.length + 1 ∧ (∀ q, tr out q ↔ M t x 0 q) ∧ Below w.heap.size w w3 from by
    refine ⟨hb, himg.1.trans (by simp), fun q => (himg.2 q).trans ⟨fun ⟨p, h1, h2⟩ => ?_, fun h => ⟨0, (tr_setB (by simp)).2 (.inl ⟨rfl, rfl⟩), h⟩⟩, HBW2.out.trans (hb3.mono HBW2.out.size)⟩
    rcases (tr_setB (by simp)).1 h1 with ⟨rfl, -⟩ | ⟨-, h1⟩
    · exact h2
    · exact absurd h1 (no_places _ _))
  clear hb himg hb3
  go_wp2_with fail
  go_ret
  exact ⟨v, out, rfl, HREL.out⟩

set_option maxRecDepth 100000 in
set_option maxHeartbeats 16000000 in
theorem matches_law (w : World) (x : Nd) (a b c : Value) (v : Value) (t : List Int) (hx : NodeIs w x a b c) (hv : Ints w v t) (hn : t.length ≤ 9223372036854775807) :
    Calls Try.prog 3 #[.agg #[a, b, c], v] w (Says true w) := by
  have HX := Lib.hid hx
  obtain ⟨op, pp, l, c1, q, m, d, rfl, rfl, rfl⟩ := hx.form
  obtain ⟨pt, ct, rfl, hct, hxt⟩ := hv.get
  have HV := Lib.hid hv
  clear hx hv hxt
  go_enter Try.func3, Try.ntmps3
  go_upto_region 1 with fail
  refine abs_wp fun W hW => ?_
  obtain ⟨B, hB⟩ : ∃ B, B = w.heap.size := ⟨_, rfl⟩
  have hbox : W.heap[B]? = some (.cells #[.int .i64 op, .slice pp l c1, .slice q m d] 25) := by rw [hW, hB]; exact heap_alloc_new _ _
  have hbe : Below w.heap.size w W := by rw [hW]; exact below_alloc1 _ _
  rw [← hB]
  have HBE := Lib.hid hbe
  have HBOX := Lib.hid hbox
  clear hW hbox hbe hB
  go_wp2_with fail
  refine (shown_any W).mono ?_
  rintro e w1 ⟨rfl, hb1⟩
  have HB1 := Lib.hid (HBE.out.trans (hb1.mono HBE.out.size))
  have HBOX1 := Lib.hid ((hb1.block _ (at_lt HBOX.out)).trans HBOX.out)
  clear hb1
  -- the row, cut
  obtain ⟨row, hrow⟩ : ∃ row, row = t.take 30 := ⟨_, rfl⟩
  have hrl : row.length = min t.length 30 := by rw [hrow, List.length_take, Nat.min_comm]
  go_upto_region 2 with fail
  go_cut [1] (fun rv wx => Ints w rv row ∧ wx = w1)
  case first =>
    cases pt with
    | none =>
      have h0 : t = [] := by
        obtain ⟨p', c', he, -, hx⟩ := HV.out
        injection he with he1 he2 he3
        subst he1
        cases t with
        | nil => rfl
        | cons x r => obtain ⟨b, off, e, -⟩ := hx (by simp); cases e
      subst h0
      have HI := Lib.hid (show Ints w (.slice none 0 ct) row by rw [hrow]; exact HV.out)
      clear hrow hrl
      go_wp2_with fail
      go_meet
      case rel => exact ⟨HI.out, rfl⟩
    | some ad =>
      by_cases h40 : t.length ≤ 30
      · have h41 : ¬ (30 : Int) < t.length := by omega
        have HI := Lib.hid (show Ints w (.slice (some ad) (min (t.length : Int) 30).toNat ct) row by rw [hrow, List.take_of_length_le h40, show (min (t.length : Int) 30).toNat = t.length by omega]; exact HV.out)
        clear hrow hrl
        go_wp2_with fail
        go_meet
        case rel => exact ⟨HI.out, rfl⟩
      · have h41 : (30 : Int) < t.length := by omega
        have HI := Lib.hid (show Ints w (.slice (some ad) (min (t.length : Int) 30).toNat ct) row by rw [hrow, show (min (t.length : Int) 30).toNat = 30 by omega]; exact HV.out.take (by omega))
        clear hrow hrl
        go_wp2_with fail
        go_meet
        case rel => exact ⟨HI.out, rfl⟩
  case rest =>
    obtain ⟨hi, rfl⟩ := hcut
    obtain ⟨pr, cr, rfl, hcr, hxr⟩ := hi.get
    have hr40 : row.length ≤ 30 := by omega
    have HI := Lib.hid hi
    have HXR := Lib.hid hxr
    obtain ⟨x0, x1, x2⟩ := cells3 HBOX1.out
    have HNEW := Lib.hid (new_any x wc _ _ _ (HX.out.to HB1.out (Nat.le_refl _)))
    clear hi hxr hrow hrl
    go_wp2_with fail
    refine HNEW.out.mono ?_
    rintro e w2 ⟨hb2, ⟨hr, mm, -, rfl, hm⟩ | ⟨hr, rfl⟩⟩
    · have HRX := Lib.hid (rightB_iff.1 hr)
      have HM := Lib.hid hm
      have HB2 := Lib.hid (HB1.out.trans (hb2.mono HB1.out.size))
      have HBOX2 := Lib.hid ((hb2.block _ (at_lt HBOX1.out)).trans HBOX1.out)
      clear hb2 hm hr x0 x1 x2
      obtain ⟨x0, x1, x2⟩ := cells3 HBOX2.out
      have HST := Lib.hid (stars_any x w2 _ _ _ (HX.out.to HB2.out (Nat.le_refl _)))
      generalize starsI x = ns at *
      go_wp2_with fail
      refine HST.out.mono ?_
      rintro e w3 ⟨rfl, hb3⟩
      have HM3 := Lib.hid (HM.out.to hb3)
      have HB3 := Lib.hid (HB2.out.trans (hb3.mono HB2.out.size))
      have HBOX3 := Lib.hid ((hb3.block _ (at_lt HBOX2.out)).trans HBOX2.out)
      clear hb3 x0 x1 x2 HST
      obtain ⟨x0, x1, x2⟩ := cells3 HBOX3.out
      by_cases hns : 3 < ns
      · go_wp2_with fail
        go_ret
        exact ⟨rfl, HB3.out⟩
      · have HWH := Lib.hid (whole_any row (by omega) x (Wf_good x 1 HRX.out.1) w3 (.slice pr row.length cr) _ _ _ (HI.out.to HB3.out (Nat.le_refl _)) (HX.out.to HB3.out (Nat.le_refl _)))
        go_wp2_with fail
        refine HWH.out.mono ?_
        rintro e w4 ⟨wv, out, rfl, hwb, hwl, hwt, hb4⟩
        have HWB := Lib.hid hwb
        have HWL := Lib.hid hwl
        have HWT := Lib.hid hwt
        have HM4 := Lib.hid (HM3.out.to hb4)
        have HB4 := Lib.hid (HB3.out.trans (hb4.mono HB3.out.size))
        obtain ⟨pw, cw, rfl, -, hxw⟩ := hwb.get
        have HXW := Lib.hid hxw
        rw [hwl]
        have HSTART := Lib.hid (start_any w4 mm (mach x) HM4.out (mach_laws HRX.out))
        clear hwb hwl hwt hb4 hxw x0 x1 x2 HWH
        go_wp2_with fail
        refine HSTART.out.mono ?_
        rintro e w5 ⟨sv, rfl, hso, hb5⟩
        have HS5 := Lib.hid hso
        have HB5 := Lib.hid hb5
        clear hso hb5 HSTART
        go_wp2_with fail
        go_loopw [9, 10] (fun u i wr => ∃ k : Nat, i = .int .i64 k ∧ k ≤ row.length + 1 ∧ OwnL intE 3 1 w4.heap.size wr u (runL (mach x) (row.take k)) ∧ Below w4.heap.size w4 wr) (fun _ i _ => row.length + 1 - (intOf i).toNat)
        case atStart => exact ⟨0, rfl, by omega, HS5.out, HB5.out⟩
        case round =>
          obtain ⟨k, rfl, k1, hown, hb⟩ := hrel
          have HOW := Lib.hid hown
          have HBr := Lib.hid (HB4.out.trans (hb.mono HB4.out.size))
          have HBB := Lib.hid hb
          obtain ⟨pu, cu, rfl⟩ := hown.form
          have hrl := runL_length (mach x) (row.take k)
          have hml := (mach_laws HRX.out).len
          have hsl : (runL (mach x) (row.take k)).length ≤ 1000 := by omega
          have hbs := hb.size
          clear hown hb hrl hml
          by_cases hk : k ≤ row.length
          · have hkk : (k : Int) ≤ row.length := by omega
            have hk0 : (0 : Int) ≤ k := by omega
            obtain ⟨bw, ow, rfl, hbw, hyw⟩ := HXW.out (by have := HWL.out; omega)
            have HCW := Lib.hid (hyw k (by have := HWL.out; omega))
            have HTR := Lib.hid (show out[k]'(by have := HWL.out; omega) = true ↔ M row x 0 k by rw [← tr_get, HWT.out])
            generalize out[k]'(by have := HWL.out; omega) = b at HCW HTR
            have HACC := Lib.hid (show Calls Try.prog 15 #[.pointer (some ⟨mm, 0, none⟩), .slice pu (runL (mach x) (row.take k)).length cu] wr.drew fun e w' => e = .returned (.bool b) ∧ wr.drew = w' from by
              have h := accepts_any wr.drew mm (mach x) ((HM4.out.to HBB.out).to (Below.refl _ _).drew) _ (runL (mach x) (row.take k)) (Ints.to (Below.refl wr.heap.size wr).drew (Nat.le_refl _) HOW.out.read.ints) (by omega)
              rwa [show ((runL (mach x) (row.take k)).any fun u => 1 == u) = b by rw [Bool.eq_iff_iff, run_accepts HRX.out row k hk]; exact HTR.out.symm] at h)
            have HMA := Lib.hid (show ∀ (v : Value), Ints w v (row.take k) → Calls Try.prog 16 #[.pointer (some ⟨mm, 0, none⟩), v] wr.drew fun e w' => e = .returned (.bool b) ∧ Below wr.drew.heap.size wr.drew w' from fun v hv => by
              have h := fit_any wr.drew mm x HRX.out ((HM4.out.to HBB.out).to (Below.refl _ _).drew) v (row.take k) ((hv.to HBr.out (Nat.le_refl _)).to (Below.refl _ _).drew (Nat.le_refl _)) (by simp; omega)
              rwa [show fitB x (row.take k) = b by rw [Bool.eq_iff_iff, fit_take hk]; exact HTR.out.symm] at h)
            have HCR := Lib.hid (cell_below HBB.out hbw HCW.out)
            have hwl1 : (k : Int) < (row.length : Int) + 1 := by omega
            have hwl2 : k < row.length + 1 := by omega
            have kcap : k ≤ cr := by omega
            have kcap2 : (k : Int) ≤ cr := by omega
            have HPR := Lib.hid (show (pr = none ∧ k = 0) ∨ ∃ ad, pr = some ad from by
              cases pr with
              | none =>
                refine .inl ⟨rfl, ?_⟩
                rcases Nat.eq_zero_or_pos row.length with h | h
                · omega
                · obtain ⟨b', o', e, -⟩ := HXR.out h
                  cases e
              | some ad => exact .inr ⟨ad, rfl⟩)
            have HIK := Lib.hid (show Ints w (.slice pr k cr) (row.take k) from HI.out.take hk)
            clear hyw
            go_upto_region 13 with fail
            refine wp_region_plan (fun W' => W'.cell? ⟨bw, ow + k, none⟩ = some (.bool b)) (.reads [0, 1, 3, 4, 5, 6] (.one 2 (.reads [7, 8, 9, 10, 11, 12, 14, 15, 16, 17] (.one 13 (.reads [18, 19] .done))))) 98 (by kernel_rfl) (by kernel_rfl) rfl (fun _ _ _ _ _ h => h) HCR.out ?_
            apply plan_reads
            · intro W' hW'
              repeat (refine wpRead_step (fun K hK => ?_); go_simp; refine hK _ ?_; clear hK K)
              exact wpRead_nil rfl
            refine plan_one rfl ?_
            go_wp2_with fail
            refine HACC.out.mono ?_
            rintro e w6 ⟨rfl, rfl⟩
            go_wp2_with fail
            refine Then.mk HCR.out ?_
            have hne : (b != b) = false := by simp
            rcases HPR.out with ⟨rfl, hz⟩ | ⟨ad, rfl⟩
            · subst hz
              apply plan_reads
              · intro W' hW'
                have hW2 := hW'
                simp only [Nat.add_zero] at hW2
                repeat (refine wpRead_step (fun K hK => ?_); go_simp; refine hK _ ?_; clear hK K)
                exact wpRead_nil rfl
              refine plan_one rfl ?_
              go_wp2_with fail
              refine (HMA.out _ HIK.out).mono ?_
              rintro e w7 ⟨rfl, hb7⟩
              have HB7 := Lib.hid (show Below wr.heap.size wr w7 from (Below.refl _ _).drew.trans hb7)
              clear hb7
              go_wp2_with fail
              refine Then.mk (cell_below HB7.out (Nat.lt_of_lt_of_le hbw hbs) HCR.out) ?_
              apply plan_reads
              · intro W' hW'
                repeat (refine wpRead_step (fun K hK => ?_); go_simp; refine hK _ ?_; clear hK K)
                exact wpRead_nil rfl
              refine plan_done ?_
              go_wp2_with fail
              have HOW7 := Lib.hid (show OwnL intE 3 1 w4.heap.size w7 (.slice pu (runL (mach x) []).length cu) (runL (mach x) []) from HOW.out.below HB7.out (Nat.le_refl _))
              have HBB7 := Lib.hid (HBB.out.trans (HB7.out.mono hbs))
              have HRI := Lib.hid (show Rises (runL (mach x) []) from by obtain ⟨l0, e0⟩ := runL_closed (mach x) []; rw [e0]; exact closedL_rises _ _)
              have HXU := Lib.hid (show 0 < (runL (mach x) []).length → ∃ b' o', pu = some ⟨b', o', none⟩ ∧ b' < w7.heap.size ∧ ∀ j (h : j < (runL (mach x) []).length), w7.cell? ⟨b', o' + j, none⟩ = some (.int .i64 (runL (mach x) [])[j]) from by
                obtain ⟨p', c', he, -, hy⟩ := HOW7.out.read.ints.get
                injection he with e1 e2 e3
                subst e1
                exact hy)
              have HNX := Lib.hid (show 0 + 1 ≤ row.length → runL (mach x) (row.take (0 + 1)) = closedL (mach x) (stepTo (mach x) (runL (mach x) []) (row[0]?.getD 0)) from fun h => by
                rw [List.take_succ_eq_append_getElem (by omega), runL_snoc]
                have e1 : row[0]?.getD 0 = row[0]'(by omega) := by simp [show 0 < row.length by omega]
                rw [e1]
                try rfl)
              have HRG := Lib.hid (show ∀ v ∈ runL (mach x) [], 0 ≤ v ∧ v < (mach x).length from fun v hv => runL_range hv)
              obtain ⟨xs, hxs⟩ : ∃ xs, xs = runL (mach x) [] := ⟨_, rfl⟩
              have hsl' : (runL (mach x) []).length ≤ 1000 := hsl
              clear hsl
              have hsl := hsl'
              clear hsl'
              rw [← hxs] at hsl HOW7 HRI HXU HNX HRG ⊢
              have HXS := Lib.hid hxs
              clear hxs
              go_loopw [11] (fun i wy => ∃ m : Nat, i = .int .i64 ((m : Int) + 1) ∧ m ≤ xs.length + 1 ∧ Below w7.heap.size w7 wy) (fun i _ => xs.length + 2 - (intOf i).toNat)
              case atStart => exact ⟨0, rfl, by omega, Below.refl _ _⟩
              case round =>
                obtain ⟨m', rfl, hm1, hby⟩ := hrel
                have HBY := Lib.hid hby
                by_cases hm2 : m' + 1 < xs.length
                · obtain ⟨bu, ou, rfl, hbu, hyu⟩ := HXU.out (by omega)
                  have g0 := cell_below hby hbu (hyu (m' + 1) hm2)
                  have g1 := cell_below hby hbu (hyu m' (by omega))
                  have hlt : xs[m'] < xs[m' + 1] := (List.pairwise_iff_getElem.1 HRI.out) m' (m' + 1) (by omega) hm2 (by omega)
                  have hnl : ¬ xs[m' + 1] ≤ xs[m'] := by omega
                  generalize xs[m' + 1] = xa at *
                  generalize xs[m'] = xb at *
                  have q0 : (0 : Int) ≤ (m' : Int) + 1 := by omega
                  have q1 : (m' : Int) + 1 < xs.length := by omega
                  have q2 : (0 : Int) ≤ m' := by omega
                  have q3 : (m' : Int) < xs.length := by omega
                  have q4 : ((m' : Int) + 1).toNat = m' + 1 := by omega
                  have q5 : (m' : Int) + 1 - 1 = m' := by omega
                  clear hyu hlt hby
                  go_upto_region 18 with fail
                  go_quiet (fail)
                  go_wp2_with fail
                  exact ⟨⟨m' + 1, by go_num, by omega, ⟨HBY.out.os, HBY.out.tape, HBY.out.output, HBY.out.size, HBY.out.block⟩⟩, by simp [intOf]; omega⟩
                · have hnn : ¬ (m' : Int) + 1 < xs.length := by omega
                  have HBWY := Lib.hid (HBB7.out.trans (HBY.out.mono HBB7.out.size))
                  have HOWY := Lib.hid (HOW7.out.below HBY.out (Nat.le_refl _))
                  clear hby
                  by_cases hkl : 0 < row.length
                  · obtain ⟨bb, off, hpe, -⟩ := HXR.out (by omega)
                    cases hpe
                  · have hkl2 : ¬ (0 : Int) < row.length := by omega
                    have HEND := Lib.hid (show runL (mach x) (row.take (0 + 1)) = xs by
                      rw [HXS.out]
                      exact congrArg (runL (mach x)) ((List.take_of_length_le (by omega)).trans (List.eq_nil_of_length_eq_zero (by omega))))
                    go_wp2_with fail
                    go_roundw
                    case rel => exact ⟨0 + 1, by go_num, by omega, by rw [HEND.out]; exact HOWY.out, HBWY.out⟩
                    case measure => (simp [intOf]; try omega)
            · apply plan_reads
              · intro W' hW'
                repeat (refine wpRead_step (fun K hK => ?_); go_simp; refine hK _ ?_; clear hK K)
                exact wpRead_nil rfl
              refine plan_one rfl ?_
              go_wp2_with fail
              refine (HMA.out _ HIK.out).mono ?_
              rintro e w7 ⟨rfl, hb7⟩
              have HB7 := Lib.hid (show Below wr.heap.size wr w7 from (Below.refl _ _).drew.trans hb7)
              clear hb7
              go_wp2_with fail
              refine Then.mk (cell_below HB7.out (Nat.lt_of_lt_of_le hbw hbs) HCR.out) ?_
              apply plan_reads
              · intro W' hW'
                repeat (refine wpRead_step (fun K hK => ?_); go_simp; refine hK _ ?_; clear hK K)
                exact wpRead_nil rfl
              refine plan_done ?_
              go_wp2_with fail
              have HOW7 := Lib.hid (show OwnL intE 3 1 w4.heap.size w7 (.slice pu (runL (mach x) (row.take k)).length cu) (runL (mach x) (row.take k)) from HOW.out.below HB7.out (Nat.le_refl _))
              have HBB7 := Lib.hid (HBB.out.trans (HB7.out.mono hbs))
              have HRI := Lib.hid (show Rises (runL (mach x) (row.take k)) from by obtain ⟨l0, e0⟩ := runL_closed (mach x) (row.take k); rw [e0]; exact closedL_rises _ _)
              have HXU := Lib.hid (show 0 < (runL (mach x) (row.take k)).length → ∃ b' o', pu = some ⟨b', o', none⟩ ∧ b' < w7.heap.size ∧ ∀ j (h : j < (runL (mach x) (row.take k)).length), w7.cell? ⟨b', o' + j, none⟩ = some (.int .i64 (runL (mach x) (row.take k))[j]) from by
                obtain ⟨p', c', he, -, hy⟩ := HOW7.out.read.ints.get
                injection he with e1 e2 e3
                subst e1
                exact hy)
              have HNX := Lib.hid (show k + 1 ≤ row.length → runL (mach x) (row.take (k + 1)) = closedL (mach x) (stepTo (mach x) (runL (mach x) (row.take k)) (row[k]?.getD 0)) from fun h => by
                rw [List.take_succ_eq_append_getElem (by omega), runL_snoc]
                have e1 : row[k]?.getD 0 = row[k]'(by omega) := by simp [show k < row.length by omega]
                rw [e1]
                try rfl)
              have HRG := Lib.hid (show ∀ v ∈ runL (mach x) (row.take k), 0 ≤ v ∧ v < (mach x).length from fun v hv => runL_range hv)
              obtain ⟨xs, hxs⟩ : ∃ xs, xs = runL (mach x) (row.take k) := ⟨_, rfl⟩
              have hsl' : (runL (mach x) (row.take k)).length ≤ 1000 := hsl
              clear hsl
              have hsl := hsl'
              clear hsl'
              rw [← hxs] at hsl HOW7 HRI HXU HNX HRG ⊢
              have HXS := Lib.hid hxs
              clear hxs
              go_loopw [11] (fun i wy => ∃ m : Nat, i = .int .i64 ((m : Int) + 1) ∧ m ≤ xs.length + 1 ∧ Below w7.heap.size w7 wy) (fun i _ => xs.length + 2 - (intOf i).toNat)
              case atStart => exact ⟨0, rfl, by omega, Below.refl _ _⟩
              case round =>
                obtain ⟨m', rfl, hm1, hby⟩ := hrel
                have HBY := Lib.hid hby
                by_cases hm2 : m' + 1 < xs.length
                · obtain ⟨bu, ou, rfl, hbu, hyu⟩ := HXU.out (by omega)
                  have g0 := cell_below hby hbu (hyu (m' + 1) hm2)
                  have g1 := cell_below hby hbu (hyu m' (by omega))
                  have hlt : xs[m'] < xs[m' + 1] := (List.pairwise_iff_getElem.1 HRI.out) m' (m' + 1) (by omega) hm2 (by omega)
                  have hnl : ¬ xs[m' + 1] ≤ xs[m'] := by omega
                  generalize xs[m' + 1] = xa at *
                  generalize xs[m'] = xb at *
                  have q0 : (0 : Int) ≤ (m' : Int) + 1 := by omega
                  have q1 : (m' : Int) + 1 < xs.length := by omega
                  have q2 : (0 : Int) ≤ m' := by omega
                  have q3 : (m' : Int) < xs.length := by omega
                  have q4 : ((m' : Int) + 1).toNat = m' + 1 := by omega
                  have q5 : (m' : Int) + 1 - 1 = m' := by omega
                  clear hyu hlt hby
                  go_upto_region 18 with fail
                  go_quiet (fail)
                  go_wp2_with fail
                  exact ⟨⟨m' + 1, by go_num, by omega, ⟨HBY.out.os, HBY.out.tape, HBY.out.output, HBY.out.size, HBY.out.block⟩⟩, by simp [intOf]; omega⟩
                · have hnn : ¬ (m' : Int) + 1 < xs.length := by omega
                  have HBWY := Lib.hid (HBB7.out.trans (HBY.out.mono HBB7.out.size))
                  have HOWY := Lib.hid (HOW7.out.below HBY.out (Nat.le_refl _))
                  clear hby
                  by_cases hkl : k < row.length
                  · obtain ⟨bb, off, hpe, hbl, hxx⟩ := HXR.out (by omega)
                    injection hpe with hpe
                    subst hpe
                    have HBW0 := Lib.hid (HB4.out.trans (HBWY.out.mono HB4.out.size))
                    have c0 := cell_below HBW0.out hbl (hxx k hkl)
                    have hge : row[k]?.getD 0 = row[k] := by simp [hkl]
                    have HRUN := Lib.hid (HNX.out (by omega))
                    rw [hge] at HRUN
                    have hkl2 : (k : Int) < row.length := by omega
                    obtain ⟨ch, hch⟩ : ∃ ch, ch = row[k] := ⟨_, rfl⟩
                    rw [← hch] at c0 HRUN
                    have HSTEP := Lib.hid (fun (W' : World) (h : Below w4.heap.size w4 W') (hv : Ints W' (.slice pu xs.length cu) xs) => step_any W' mm (mach x) (HM4.out.to h) (mach_laws HRX.out) (.slice pu xs.length cu) xs ch hv (by omega) HRG.out)
                    have HST2 := Lib.hid (HSTEP.out _ HBWY.out HOWY.out.read.ints)
                    clear hxx hge hch HSTEP
                    go_wp2_with fail
                    refine HST2.out.mono ?_
                    rintro e w8 ⟨v8, rfl, hown8, hb8⟩
                    have HREL := Lib.hid (show OwnL intE 3 1 w4.heap.size w8 v8 (runL (mach x) (row.take (k + 1))) ∧ Below w4.heap.size w4 w8 from ⟨by rw [HRUN.out]; exact hown8.based HBWY.out.size, HBWY.out.trans (hb8.mono HBWY.out.size)⟩)
                    clear hown8 hb8 c0
                    go_wp2_with fail
                    go_roundw
                    case rel => exact ⟨k + 1, by go_num, by omega, HREL.out.1, HREL.out.2⟩
                    case measure => (simp [intOf]; try omega)
                  · have hkl2 : ¬ (k : Int) < row.length := by omega
                    have HEND := Lib.hid (show runL (mach x) (row.take (k + 1)) = xs by
                      rw [HXS.out]
                      exact congrArg (runL (mach x)) ((List.take_of_length_le (by omega)).trans (List.take_of_length_le (by omega)).symm))
                    go_wp2_with fail
                    go_roundw
                    case rel => exact ⟨k + 1, by go_num, by omega, by rw [HEND.out]; exact HOWY.out, HBWY.out⟩
                    case measure => (simp [intOf]; try omega)
          · have hkk : ¬ (k : Int) ≤ row.length := by omega
            go_wp2_with fail
            go_ret
            exact ⟨rfl, HBr.out⟩
    · have HRT := Lib.hid (right_any x w2 _ _ _ ((HX.out.to HB1.out (Nat.le_refl _)).to hb2 (Nat.le_refl _)))
      have HB2 := Lib.hid (HB1.out.trans (hb2.mono HB1.out.size))
      have HBOX2 := Lib.hid ((hb2.block _ (at_lt HBOX1.out)).trans HBOX1.out)
      rw [hr] at HRT
      clear hb2 hr x0 x1 x2
      obtain ⟨x0, x1, x2⟩ := cells3 HBOX2.out
      go_wp2_with fail
      refine HRT.out.mono ?_
      rintro e w3 ⟨rfl, hb3⟩
      have HB3 := Lib.hid (HB2.out.trans (hb3.mono HB2.out.size))
      clear hb3 x0 x1 x2
      go_wp2_with fail
      go_ret
      exact ⟨rfl, HB3.out⟩
end Go.Proofs.Ytodkeiadaodehaa
