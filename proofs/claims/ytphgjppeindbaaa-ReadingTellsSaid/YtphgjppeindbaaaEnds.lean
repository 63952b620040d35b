/-
  ReadingEnds ends true. No condition beyond what each theorem names.
-/
import Derived.Test.YtphgjppeindbaaaQ
set_option linter.unusedVariables false
set_option linter.unusedSimpArgs false
namespace Go.Proofs.Ytphgjppeindbaaa
open Go.RowKit

theorem bnd_no {t : List Int} {k : Nat} : bndB [] t k = decide (0 < t.length) := by
  unfold bndB; simp

set_option maxRecDepth 100000 in
set_option maxHeartbeats 4000000 in
theorem ends_law (w : World) (v tv : Value) (rs : List Rl) (t : List Int) (hr : rs.length ≤ 9223372036854775807) (hn : t.length ≤ 9223372036854775807) (hv : Rules w v rs) (ht : Ints w tv t) :
    Calls Try.prog 5 #[v, tv] w (Says true w) := by
  have HV := Lib.hid hv
  have HT := Lib.hid ht
  obtain ⟨pv0, cv0, hv0, -⟩ := hv.get
  obtain ⟨pt0, ct0, ht0, -⟩ := ht.get
  subst hv0 ht0
  clear hv ht
  go_enter Try.func5, Try.ntmps5
  go_wp2_with fail
  refine (shown_any w).mono ?_
  rintro e w1 ⟨rfl, hb1⟩
  have HF := Lib.hid (few_any w1 _ _ rs t hr hn (HT.out.to hb1 (Nat.le_refl _)) (HV.out.to hb1 (Nat.le_refl _)))
  have HB1 := Lib.hid hb1
  clear hb1
  go_wp2_with fail
  refine HF.out.mono ?_
  rintro e w2 ⟨v1, v2, rfl, ho1, ho2, hb2⟩
  have HB2 := Lib.hid (HB1.out.trans (hb2.mono HB1.out.size))
  have hRL := (ho1.read.rules hb2)
  have hIN := ho2.read.ints
  have hl10 := fewR_len rs
  have hs16 : (t.take 16).length ≤ 16 := by simp; omega
  generalize fewR rs = l at *
  generalize t.take 16 = s at *
  obtain ⟨p1, c1, rfl, hc1, hx1⟩ := hRL.get
  obtain ⟨p2, c2, rfl, hc2, hx2⟩ := hIN.get
  have HRL := Lib.hid hRL
  have HIN := Lib.hid hIN
  have H1 := Lib.hid (bounds_any w2 _ _ [] s (by omega) (by simp) hIN (Rules.nil w2))
  clear ho1 ho2 hb2 hRL hIN hx1 hx2 HF
  go_wp2_with fail
  refine H1.out.mono ?_
  rintro e w3 ⟨va, rfl, hba, hb3⟩
  obtain ⟨ba, oa, ca, rfl, hca, hbla, hya⟩ := hba.bnds
  have HYA := Lib.hid hya
  have HB23 := Lib.hid hb3
  have HB3 := Lib.hid (HB2.out.trans (hb3.mono HB2.out.size))
  have HRL3 := Lib.hid (HRL.out.to hb3 (Nat.le_refl _))
  have hbx := below_alloc1 w3 (.cells #[] 35)
  have HO := Lib.hid (OwnL.made (α := Rl) (E := RuleIs w3) (T := 35) (sz := 8) (base := w3.heap.size) w3 (Nat.le_refl _))
  have HRD := Lib.hid (HRL3.out.readL.below hbx (Nat.le_refl _))
  have HBX := Lib.hid hbx
  clear hya hba hb3 hbx H1
  go_wp2_with (at_builtin; refine wpList_append_rules rfl (.tmp 20) (.tmp 21) rfl _ [] rfl HO.out _ l rfl HRD.out (by simp; omega) (by simp) ?_)
  intro p4 c4 w4 hown4 hg4 _
  have HO4 := Lib.hid hown4
  have hb4 : Below w3.heap.size w3 w4 := HBX.out.grown hg4 (by simp) (fun k hk => by simp [Value.ownBlock] at hk; omega)
  have HB4 := Lib.hid hb4
  have hz4 := hb4.size
  have HO5 := Lib.hid (HO4.out.below (below_alloc1 w4 (.cells #[.int .i64 0, .slice none 0 0, .slice none 0 0, .int .i64 0, .slice none 0 0, .slice none 0 0, .bool false, .bool false] 35)) (Nat.le_refl _))
  have HRZ := Lib.hid (ReadL.one (E := RuleIs w3) (sz := 8) w4 35 rZ _ (ruleZ w3).cells (ruleZ w3))
  clear hown4 hg4 hb4
  go_wp2_with (at_builtin; refine wpList_append_rules rfl (.tmp 22) (.tmp 24) rfl _ ([] ++ l) rfl HO5.out _ [rZ] rfl HRZ.out (by simp; omega) (by simp; omega) ?_)
  intro p6 c6 w6 hown6 hg6 _
  have hb6 : Below w3.heap.size w3 w6 := (HB4.out.trans ((below_alloc1 w4 _).mono hz4)).grown hg6 (by simp; omega) (fun k hk => (HO4.out.lt k hk).1)
  have HB6 := Lib.hid hb6
  have hR6 : Rules w6 (.slice p6 (l.length + 1) c6) (l ++ [rZ]) := by simpa using hown6.read.rules hb6
  have HB26 := Lib.hid (HB23.out.trans (hb6.mono HB23.out.size))
  have HB06 := Lib.hid (HB3.out.trans (hb6.mono HB3.out.size))
  have H6 := Lib.hid (bounds_any w6 _ _ (l ++ [rZ]) s (by omega) (by simp; omega) (HIN.out.to HB26.out (Nat.le_refl _)) hR6)
  clear hown6 hg6 hb6 hR6
  go_wp2_with fail
  refine H6.out.mono ?_
  rintro e w7 ⟨vb, rfl, hbb, hb7⟩
  obtain ⟨bb, ob, cb, rfl, hcb, hblb, hyb⟩ := hbb.bnds
  have HYB := Lib.hid hyb
  have HBA7 := Lib.hid (HB6.out.trans (hb7.mono HB6.out.size))
  have HB7 := Lib.hid (HB06.out.trans (hb7.mono HB06.out.size))
  have HB27 := Lib.hid (HB26.out.trans (hb7.mono HB26.out.size))
  have HR7 := Lib.hid (HRL.out.to HB27.out (Nat.le_refl _))
  have HI7 := Lib.hid (HIN.out.to HB27.out (Nat.le_refl _))
  clear hyb hbb hb7 H6 HO HRD HO4 HO5 HRZ HBX HB4 HB6
  go_wp2_with fail
  go_loopw [8] (fun i wr => ∃ k : Nat, i = .int .i64 k ∧ k ≤ s.length + 1 ∧ Below w7.heap.size w7 wr) (fun i _ => s.length + 1 - (intOf i).toNat)
  case atStart => exact ⟨0, rfl, by omega, Below.refl _ _⟩
  case round =>
    obtain ⟨k, rfl, h1, hb⟩ := hrel
    have HB := Lib.hid hb
    have hsz := hb.size
    clear hb
    by_cases hlt : k < s.length + 1
    · have ya := cell_below HB.out (Nat.lt_of_lt_of_le hbla HBA7.out.size) (cell_below HBA7.out hbla (HYA.out k (by omega)))
      have yb := cell_below HB.out hblb (HYB.out k (by omega))
      rw [bnd_no] at ya
      by_cases hend : k = 0 ∨ k = s.length
      · rw [bnd_end hend] at yb
        have HE := Lib.hid hend
        clear hend
        by_cases h0 : 0 < s.length
        · rw [decide_eq_true h0] at ya yb
          by_cases hk0 : k = 0
          · have hk0' : ((k : Int) == 0) = true := by simp [hk0]
            clear hk0
            go_wp2_with fail
            go_roundw
            case rel => exact ⟨k + 1, by go_num, by omega, HB.out⟩
            case measure => simp [intOf]; omega
          · have hkn : k = s.length := HE.out.resolve_left hk0
            have hk0' : ((k : Int) == 0) = false := by simp; omega
            have hkn' : ((k : Int) == (s.length : Int)) = true := by simp [hkn]
            clear hk0 hkn
            go_wp2_with fail
            go_roundw
            case rel => exact ⟨k + 1, by go_num, by omega, HB.out⟩
            case measure => simp [intOf]; omega
        · rw [decide_eq_false h0] at ya yb
          have hk0 : k = 0 := by omega
          have hk0' : ((k : Int) == 0) = true := by simp [hk0]
          clear hk0
          go_wp2_with fail
          go_roundw
          case rel => exact ⟨k + 1, by go_num, by omega, HB.out⟩
          case measure => simp [intOf]; omega
      · have hk0 : 0 < k := by omega
        have hkn : k < s.length := by omega
        have h0 : 0 < s.length := by omega
        have hk0' : ((k : Int) == 0) = false := by simp; omega
        have hkn' : ((k : Int) == (s.length : Int)) = false := by simp; omega
        rw [decide_eq_true h0] at ya
        rw [bnd_in hk0 hkn, find_append_one (fitsZ (by omega))] at yb
        have HW := Lib.hid (which_any wr _ _ l s (k : Int) (by omega) (by omega) (HI7.out.to HB.out (Nat.le_refl _)) (HR7.out.to HB.out (Nat.le_refl _)))
        clear hend
        rcases which_cases l s (k : Int) with ⟨hw, hf⟩ | ⟨i, hi, hw, hf⟩
        · rw [hf] at yb
          rw [hw] at HW
          simp only [brkOr, show rZ.brk = false from rfl] at yb
          clear hw hf
          go_wp2_with fail
          refine HW.out.mono ?_
          rintro e w8 ⟨rfl, hb8⟩
          have zb := cell_below hb8 (by omega) yb
          have HB8 := Lib.hid (HB.out.trans (hb8.mono hsz))
          clear ya yb hb8
          go_wp2_with fail
          go_quiet (fail)
          go_wp2_with fail
          go_roundw
          case rel => exact ⟨k + 1, by go_num, by omega, below_drewN HB8.out _⟩
          case measure => simp [intOf]; omega
        · obtain ⟨p', c', he, -, hx⟩ := (HR7.out.to HB.out (Nat.le_refl _)).get
          obtain ⟨br, or_, hp, hlr, hyr⟩ := hx (by omega)
          subst hp
          injection he with he1 he2 he3
          subst he1 he3
          obtain ⟨row, hrow, hri⟩ := hyr i hi
          obtain ⟨r0, r1, r2, r3, r4, r5, rfl, -, -⟩ := hri
          have k6 := hrow 6 _ rfl
          have j0 : (0 : Int) ≤ i := by omega
          have j1 : (i : Int) < l.length := by omega
          rw [hf] at yb
          simp only [brkOr] at yb
          rw [hw] at HW
          generalize l[i] = rl at *
          clear hw hf hx hyr hrow
          go_wp2_with fail
          refine HW.out.mono ?_
          rintro e w8 ⟨rfl, hb8⟩
          have zb := cell_below hb8 (by omega) yb
          have z6 := cell_below hb8 hlr k6
          have HB8 := Lib.hid (HB.out.trans (hb8.mono hsz))
          have hne : (rl.brk != rl.brk) = false := by simp
          clear ya yb k6 hb8
          go_wp2_with fail
          go_quiet (fail)
          go_wp2_with fail
          go_roundw
          case rel => exact ⟨k + 1, by go_num, by omega, below_drewN HB8.out _⟩
          case measure => simp [intOf]; omega
    · go_wp2_with fail
      go_ret
      exact Says.mk rfl (HB7.out.trans (HB.out.mono HB7.out.size))
end Go.Proofs.Ytphgjppeindbaaa
