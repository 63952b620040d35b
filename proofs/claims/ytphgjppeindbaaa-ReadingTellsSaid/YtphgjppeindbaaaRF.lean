/-
  The reference's Which and Boundaries of layer 6. No condition beyond what each theorem names.
-/
import Derived.Test.YtphgjppeindbaaaRE
import Derived.Test.YtphgjppeindbaaaEnds
set_option linter.unusedVariables false
set_option linter.unusedSimpArgs false
namespace Go.Proofs.Ytphgjppeindbaaa
open Go.RowKit

theorem whichI_some {rs : List Rl} {t : List Int} {p : Int} {k : Nat} (hk : k < rs.length) (h : fitsB rs[k] t p = true) (hn : ∀ j (hj : j < rs.length), j < k → fitsB rs[j] t p = false) : whichI rs t p = k := by
  unfold whichI
  have : rs.findIdx? (fun r => fitsB r t p) = some k := List.findIdx?_eq_some_iff_getElem.2 ⟨hk, h, fun j hj => by rw [hn j (by omega) hj]; decide⟩
  rw [this]
theorem whichI_none {rs : List Rl} {t : List Int} {p : Int} {k : Nat} (hk : rs.length ≤ k) (hn : ∀ j (hj : j < rs.length), j < k → fitsB rs[j] t p = false) : whichI rs t p = -1 := by
  unfold whichI
  have : rs.findIdx? (fun r => fitsB r t p) = none := List.findIdx?_eq_none_iff.2 (fun x hx => by
    obtain ⟨j, hj, rfl⟩ := List.getElem_of_mem hx
    exact hn j hj (by omega))
  rw [this]

set_option maxHeartbeats 2000000 in
theorem refWhich_any (w : World) (v tv : Value) (rs : List Rl) (t : List Int) (p : Int) (hn : t.length ≤ 50000) (hr : rs.length ≤ 9223372036854775807) (ht : Ints w tv t) (hv : Rules w v rs) :
    Calls Try.prog 19 #[v, tv, .int .i64 p] w fun e w' => e = .returned (.int .i64 (whichI rs t p)) ∧ Below w.heap.size w w' := by
  obtain ⟨pv, cv, rfl, hcv, hxv⟩ := hv.get
  obtain ⟨pt, capt, rfl, hct, -⟩ := ht.get
  have HT := Lib.hid ht
  have HXV := Lib.hid hxv
  clear ht hv hxv
  go_enter Try.func19, Try.ntmps19
  go_wp2_with fail
  go_loopw [7] (fun i wr => ∃ k : Nat, i = .int .i64 k ∧ k ≤ rs.length ∧ (∀ j (hj : j < rs.length), j < k → fitsB rs[j] t p = false) ∧ Below w.heap.size w wr) (fun i _ => rs.length - (intOf i).toNat)
  case atStart => exact ⟨0, rfl, by omega, fun _ _ h => absurd h (Nat.not_lt_zero _), Below.refl _ _⟩
  case round =>
    obtain ⟨k, rfl, h1, hno, hb⟩ := hrel
    have HB := Lib.hid hb
    have HNO := Lib.hid hno
    by_cases hk : k < rs.length
    · obtain ⟨bb, off, rfl, hbl, hxx⟩ := HXV.out (by omega)
      obtain ⟨row, hrow, hri⟩ := hxx k hk
      have HC := Lib.hid (refFits_any wr t rs[k] row _ p hn (HT.out.to hb (Nat.le_refl _)) (hri.to hb (Nat.le_refl _)))
      obtain ⟨a, b, c, d, e, f, rfl, -, -⟩ := hri
      have k0 := cell_below hb hbl (hrow 0 _ rfl)
      have k1 := cell_below hb hbl (hrow 1 _ rfl)
      have k2 := cell_below hb hbl (hrow 2 _ rfl)
      have k3 := cell_below hb hbl (hrow 3 _ rfl)
      have k4 := cell_below hb hbl (hrow 4 _ rfl)
      have k5 := cell_below hb hbl (hrow 5 _ rfl)
      have k6 := cell_below hb hbl (hrow 6 _ rfl)
      have k7 := cell_below hb hbl (hrow 7 _ rfl)
      simp only [Nat.add_zero] at k0
      have HYES := Lib.hid (fun h => whichI_some (t := t) (p := p) hk h HNO.out)
      clear hxx hrow hno hb
      go_wp2_with fail
      refine HC.out.mono ?_
      rintro e1 w1 ⟨rfl, hb1⟩
      have HB1 := Lib.hid (HB.out.trans (hb1.mono HB.out.size))
      clear hb1 k0 k1 k2 k3 k4 k5 k6 k7 HC
      cases hf : fitsB rs[k] t p
      · have HF := Lib.hid hf
        clear hf
        go_wp2_with fail
        go_roundw
        case rel => exact ⟨k + 1, by go_num, by omega, fun j hj hjk => by
          by_cases h : j = k
          · subst h; exact HF.out
          · exact HNO.out j hj (by omega), HB1.out⟩
        case measure => simp [intOf]; omega
      · have HF := Lib.hid hf
        clear hf
        go_wp2_with fail
        go_ret
        exact ⟨ret_int (HYES.out HF.out).symm, HB1.out⟩
    · have HN := Lib.hid (whichI_none (t := t) (p := p) (show rs.length ≤ k by omega) HNO.out)
      clear hno hb
      go_wp2_with fail
      go_ret
      exact ⟨ret_int HN.out.symm, HB.out⟩

/-- the places below k with one more rule, the others without it -/
noncomputable def mixL (rs : List Rl) (t : List Int) (i k : Nat) : List Bool := (List.range (t.length + 1)).map fun p => if p < k then bndB (rs.drop i) t p else bndB (rs.drop (i + 1)) t p
theorem mixL_length (rs : List Rl) (t : List Int) (i k : Nat) : (mixL rs t i k).length = t.length + 1 := by simp [mixL]
theorem mixL_one (rs : List Rl) (t : List Int) (i : Nat) : bnds (rs.drop (i + 1)) t = mixL rs t i 1 := by
  unfold mixL bnds
  refine List.map_congr_left fun p _ => ?_
  split
  · rw [bnd_end (.inl (by omega)), bnd_end (.inl (by omega))]
  · rfl
theorem mixL_end (rs : List Rl) (t : List Int) (i k : Nat) (h1 : 1 ≤ k) (hk : t.length ≤ k) : mixL rs t i k = bnds (rs.drop i) t := by
  unfold mixL bnds
  refine List.map_congr_left fun p hp => ?_
  have := List.mem_range.1 hp
  split
  · rfl
  · rw [bnd_end (.inr (by omega)), bnd_end (.inr (by omega))]
theorem bnd_drop {rs : List Rl} {t : List Int} {i k : Nat} (hi : i < rs.length) (h1 : 0 < k) (h2 : k < t.length) : bndB (rs.drop i) t k = if fitsB rs[i] t (k : Int) then rs[i].brk else bndB (rs.drop (i + 1)) t k := by
  rw [bnd_in h1 h2, bnd_in h1 h2, List.drop_eq_getElem_cons hi, List.find?_cons]
  cases fitsB rs[i] t (k : Int) <;> rfl
theorem mixL_step (rs : List Rl) (t : List Int) (i k : Nat) (hk : k < t.length + 1) : (mixL rs t i k).set k (bndB (rs.drop i) t k) = mixL rs t i (k + 1) := by
  refine List.ext_getElem (by simp [mixL]) fun j h1 h2 => ?_
  rw [List.getElem_set]
  simp only [mixL, List.getElem_map, List.getElem_range]
  split
  · rename_i h; subst h; simp
  · rename_i h
    by_cases hj : j < k
    · rw [if_pos hj, if_pos (by omega)]
    · rw [if_neg hj, if_neg (by omega)]
theorem mixL_skip (rs : List Rl) (t : List Int) (i k : Nat) (h : bndB (rs.drop i) t k = bndB (rs.drop (i + 1)) t k) : mixL rs t i k = mixL rs t i (k + 1) := by
  unfold mixL
  refine List.map_congr_left fun p _ => ?_
  by_cases hp : p < k
  · rw [if_pos hp, if_pos (by omega)]
  · by_cases hpk : p = k
    · subst hpk; rw [if_neg hp, if_pos (by omega), h]
    · rw [if_neg hp, if_neg (by omega)]

theorem bnds_rep (t : List Int) : List.replicate (t.length + 1) (decide (0 < t.length)) = bnds [] t := by
  refine List.ext_getElem (by simp [bnds]) fun i h1 h2 => ?_
  simp only [bnds, List.getElem_replicate, List.getElem_map, List.getElem_range]
  rw [bnd_no]

set_option maxRecDepth 100000 in
set_option maxHeartbeats 4000000 in
theorem refBounds_any (w : World) (v tv : Value) (rs : List Rl) (t : List Int) (hn : t.length ≤ 50000) (hr : rs.length ≤ 1000000) (ht : Ints w tv t) (hv : Rules w v rs) :
    Calls Try.prog 15 #[v, tv] w fun e w' => ∃ v', e = .returned v' ∧ Bools w' v' (bnds rs t) ∧ Below w.heap.size w w' := by
  obtain ⟨pv, cv, rfl, hcv, hxv⟩ := hv.get
  obtain ⟨pt, capt, rfl, hct, -⟩ := ht.get
  have HT := Lib.hid ht
  have HXV := Lib.hid hxv
  have HALL := Lib.hid (all_any w t.length (decide (0 < (t.length : Int))) (by omega))
  clear ht hv hxv
  go_enter Try.func15, Try.ntmps15
  go_wp2_with fail
  generalize hd : decide (0 < t.length) = d
  have HD := Lib.hid hd
  clear HALL hd
  refine (all_any w t.length d (by omega)).mono ?_
  rintro e w1 ⟨v1, rfl, ho1, hb1⟩
  rw [← HD.out, bnds_rep, ← List.drop_length (l := rs)] at ho1
  obtain ⟨p1, c1, hv1⟩ := ho1.form
  subst hv1
  rw [bnds_length] at ho1 ⊢
  have HO1 := Lib.hid ho1
  have HB1 := Lib.hid hb1
  clear ho1 hb1
  go_wp2_with fail
  go_loopw [7] (fun i wr => ∃ k : Nat, i = .int .i64 ((k : Int) - 1) ∧ k ≤ rs.length ∧ OwnL boolE 4 1 w.heap.size wr (.slice p1 (t.length + 1) c1) (bnds (rs.drop k) t) ∧ Below w.heap.size w wr) (fun i _ => (intOf i + 1).toNat)
  case atStart => exact ⟨rs.length, rfl, Nat.le_refl _, HO1.out, HB1.out⟩
  case round =>
    obtain ⟨k, rfl, h1, hown, hb⟩ := hrel
    have HOWN := Lib.hid hown
    have HB := Lib.hid hb
    by_cases hk : 1 ≤ k
    · obtain ⟨m, hm⟩ : ∃ m, k = m + 1 := ⟨k - 1, by omega⟩
      subst hm
      have hmk : m < rs.length := by omega
      obtain ⟨bb, off, rfl, hbl, hxx⟩ := HXV.out (by omega)
      obtain ⟨row, hrow, hri⟩ := hxx m hmk
      have HC := Lib.hid (where_any wr t rs[m] row _ hn (HT.out.to hb (Nat.le_refl _)) (hri.to hb (Nat.le_refl _)))
      obtain ⟨a, b, c, e', e'', f, rfl, -, -⟩ := hri
      have k0 := cell_below hb hbl (hrow 0 _ rfl)
      have k1 := cell_below hb hbl (hrow 1 _ rfl)
      have k2 := cell_below hb hbl (hrow 2 _ rfl)
      have k3 := cell_below hb hbl (hrow 3 _ rfl)
      have k4 := cell_below hb hbl (hrow 4 _ rfl)
      have k5 := cell_below hb hbl (hrow 5 _ rfl)
      have k6 := cell_below hb hbl (hrow 6 _ rfl)
      have k7 := cell_below hb hbl (hrow 7 _ rfl)
      simp only [Nat.add_zero] at k0
      have HK6 := Lib.hid (hrow 6 _ rfl)
      have hmm : ((m + 1 : Nat) : Int) - 1 = m := by omega
      rw [hmm]
      have j0 : (0 : Int) ≤ m := by omega
      have j1 : (m : Int) < rs.length := by omega
      have HDR := Lib.hid (fun (p : Nat) (h1 : 0 < p) (h2 : p < t.length) => bnd_drop hmk h1 h2)
      generalize rs[m] = rm at *
      rw [mixL_one] at HOWN
      clear hown hb hxx hrow hmm
      go_wp2_with fail
      refine HC.out.mono ?_
      rintro e2 w2 ⟨v2, rfl, how, hb2⟩
      have HOW := Lib.hid how
      have HB2 := Lib.hid (HB.out.trans (hb2.mono HB.out.size))
      have HOWN2 := Lib.hid (HOWN.out.below hb2 (Nat.le_refl _))
      have HLT := Lib.hid (HOWN.out.lt)
      obtain ⟨p2, c2, hv2⟩ := how.form
      subst hv2
      rw [fitsL_length] at HOW ⊢
      clear how hb2 k0 k1 k2 k3 k4 k5 k6 k7 HC
      go_wp2_with fail
      go_loopw [9] (fun i wz => ∃ j : Nat, i = .int .i64 j ∧ 1 ≤ j ∧ OwnL boolE 4 1 w.heap.size wz (.slice p1 (t.length + 1) c1) (mixL rs t m j) ∧ OwnL boolE 4 1 wr.heap.size wz (.slice p2 (t.length + 1) c2) (fitsL rm t (t.length + 1)) ∧ Below w.heap.size w wz) (fun i _ => t.length - (intOf i).toNat)
      case atStart => exact ⟨1, rfl, Nat.le_refl _, HOWN2.out, HOW.out, HB2.out⟩
      case round =>
        obtain ⟨j, rfl, hj1, hown, how, hb⟩ := hrel
        have HOWN3 := Lib.hid hown
        have HOW3 := Lib.hid how
        have HB3 := Lib.hid hb
        by_cases hj : j < t.length
        · obtain ⟨p3, c3, he3, hc3, hx3⟩ := how.read.bools.get
          rw [fitsL_length] at he3
          injection he3 with e1 e2 e3
          subst e1 e3
          obtain ⟨b3, o3, rfl, hl3, hy3⟩ := hx3 (by rw [fitsL_length]; omega)
          have y3 := hy3 j (by rw [fitsL_length]; omega)
          have hg : (fitsL rm t (t.length + 1))[j]'(by rw [fitsL_length]; omega) = fitsB rm t (j : Int) := by simp [fitsL]
          rw [hg] at y3
          have hdr := HDR.out j hj1 hj
          have g1 : j < t.length + 1 := by omega
          have g2 : j ≤ t.length := by omega
          have g3 : (j : Int) < (t.length : Int) + 1 := by omega
          cases hf : fitsB rm t (j : Int)
          · rw [hf] at hdr y3
            have HSK := Lib.hid (mixL_skip rs t m j (by rw [hdr]; rfl))
            clear hown how hb hx3 hy3 hg hdr hf e2 hc3
            go_wp2_with fail
            go_roundw
            case rel => exact ⟨j + 1, by go_num, by omega, by rw [← HSK.out]; exact HOWN3.out, HOW3.out, HB3.out⟩
            case measure => simp [intOf]; omega
          · rw [hf] at hdr y3
            rw [if_pos rfl] at hdr
            have HDRJ := Lib.hid hdr
            have k6 := cell_below hb hbl HK6.out
            obtain ⟨g, cap, cur, row, hve, hgb, hheap, hrow, hrl, hrc, hE, hcsz, hst⟩ := hown.store (by omega) (k := j) (by rw [mixL_length]; omega)
            rw [mixL_length] at hve
            injection hve with e1 e2' e3
            subst e1 e3
            have HH := Lib.hid hheap
            have hstt := hst 0 [.bool rm.brk] (by simp) (by simp [Value.oneCell']) rm.brk (boolE_splice hrl _)
            have hset : (mixL rs t m j).set j rm.brk = mixL rs t m (j + 1) := by rw [← hdr]; exact mixL_step rs t m j g1
            rw [hset] at hstt
            simp only [Nat.mul_one, Nat.add_zero] at hstt
            have HST := Lib.hid hstt
            have hfit : j + 1 ≤ cur.size := by omega
            have HGB := Lib.hid hgb
            have HGL := Lib.hid ((HLT.out g rfl).2)
            clear hown how hb hx3 hy3 hg hdr hf e2 hc3 hheap hrow hrl hrc hE hcsz hst hstt hset hgb e2'
            go_wp2_with (refine wpList_store_row rfl (.tmp 45) (.tmp 44) 4 rfl g j rfl (.bool rm.brk) rfl cur _ (by kernel_rfl) HH.out hfit (by simp [Value.cells, Value.oneCell']) ?_)
            go_roundw
            case rel =>
              refine ⟨j + 1, by go_num, by omega, HST.out _ (setRow_heap _ g _ _ _ (0, 0) HH.out), ?_, ?_⟩
              · exact HOW3.out.fr (Fr.setRow (F := fun k => k = g) _ rfl _) (fun q hq hqg => by have h : q = g := hqg; have h2 := (HOW3.out.lt q hq).1; have := HGL.out; omega)
              · exact HB3.out.trans ((Fr.setRow (F := fun k => k = g) _ rfl _).below HB3.out.size (fun q hq => by have h : q = g := hq; have := HGB.out; omega))
            case measure => simp [intOf]; omega
        · have HME := Lib.hid (mixL_end rs t m j hj1 (by omega))
          clear hown how hb
          go_wp2_with fail
          go_roundw
          case rel => exact ⟨m, congrArg (Value.int .i64) (by omega), by omega, by rw [← HME.out]; exact HOWN3.out, HB3.out⟩
          case measure => simp [intOf]
    · have hk0 : k = 0 := by omega
      subst hk0
      clear hown hb
      go_wp2_with fail
      go_ret
      exact ⟨_, rfl, HOWN.out.read.bools, HB.out⟩
end Go.Proofs.Ytphgjppeindbaaa
