/-
  slices.IndexFunc of rules, Which, Boundaries of package reading. No condition beyond what each theorem names.
-/
import Derived.Test.YtphgjppeindbaaaI
set_option linter.unusedVariables false
set_option linter.unusedSimpArgs false
namespace Go.Proofs.Ytphgjppeindbaaa
open Go.RowKit

/-- what a function value says of a rule, in whatever later world -/
def DecR (F : FuncId) (C : Array Value) (q : Rl → Bool) (w : World) : Prop :=
  ∀ (r : Rl) (w1 : World) (a b c d e f : Value), Below w.heap.size w w1 → RuleIs w1 r [a, b, c, d, e, f, .bool r.brk, .bool r.start] → Calls Try.prog F (#[.agg #[a, b, c, d, e, f, .bool r.brk, .bool r.start]] ++ C) w1 (Says (q r) w1)

set_option maxHeartbeats 400000 in
theorem indexf_any (w : World) (v : Value) (xs : List Rl) (q : Rl → Bool) (F : FuncId) (C : Array Value) (hn : xs.length ≤ 9223372036854775807) (hF : Enters Try.prog F) (hv : Rules w v xs) (hq : DecR F C q w) :
    Calls Try.prog 30 #[v, .func (.func F) #[] C] w fun e w' => e = .returned (.int .i64 (idxOf q xs)) ∧ Below w.heap.size w w' := by
  obtain ⟨ad, cap, rfl, hcap, hx⟩ := hv.get
  have HX := Lib.hid hx
  unfold Enters at hF
  obtain ⟨n, hlen⟩ : ∃ n, n = xs.length := ⟨_, rfl⟩
  rw [← hlen] at hn hcap ⊢
  have HL := Lib.hid hlen
  clear hlen hx hv
  go_enter Try.func30, Try.ntmps30
  go_wp2
  go_loopw [8] (fun i wr => ∃ k : Nat, i = .int .i64 k ∧ k ≤ n ∧ (∀ j (h : j < xs.length), j < k → q xs[j] = false) ∧ Below w.heap.size w wr) (fun i _ => n - (intOf i).toNat)
  case atStart => exact ⟨0, rfl, by omega, by intro j hj h; omega, Below.refl _ _⟩
  case round =>
    obtain ⟨k, rfl, h1, h2, hb⟩ := hrel
    have H2 := Lib.hid h2
    clear h2
    by_cases hlt : k < n
    · have hl : k < xs.length := HL.out ▸ hlt
      obtain ⟨bb, off, rfl, hbl, hx⟩ := HX.out (by omega)
      obtain ⟨row, hrow, hri⟩ := hx k hl
      obtain ⟨a, b, c, d, e, f, rfl, hx1, hx2⟩ := hri
      have hQ := hq xs[k] wr a b c d e f hb ⟨a, b, c, d, e, f, rfl, hx1.to hb (Nat.le_refl _), hx2.to hb (Nat.le_refl _)⟩
      have k0 := cell_below hb hbl (hrow 0 _ rfl)
      have k1 := cell_below hb hbl (hrow 1 _ rfl)
      have k2 := cell_below hb hbl (hrow 2 _ rfl)
      have k3 := cell_below hb hbl (hrow 3 _ rfl)
      have k4 := cell_below hb hbl (hrow 4 _ rfl)
      have k5 := cell_below hb hbl (hrow 5 _ rfl)
      have k6 := cell_below hb hbl (hrow 6 _ rfl)
      have k7 := cell_below hb hbl (hrow 7 _ rfl)
      simp only [Nat.add_zero] at k0
      have HSO := Lib.hid (fun h1 h2 => idxOf_some (q := q) (xs := xs) (k := k) hl h1 h2)
      have HQ := Lib.hid hQ
      obtain ⟨rl, hrl⟩ : ∃ rl, rl = xs[k] := ⟨_, rfl⟩
      rw [← hrl] at HQ HSO k6 k7
      have HRL := Lib.hid hrl
      clear hx hrow hx1 hx2 hQ hrl
      cases hqk : q rl
      · have Hqk := Lib.hid hqk
        clear hqk
        go_wp2
        refine HQ.out.mono ?_
        rw [Hqk.out]
        rintro e w' ⟨rfl, hb2⟩
        go_wp2
        go_roundw
        case rel => exact ⟨k + 1, by go_num, by omega, fun j hj hjk => by
          by_cases e : j = k
          · subst e; rw [← HRL.out]; exact Hqk.out
          · exact H2.out j hj (by omega), hb.trans (hb2.mono hb.size)⟩
        case measure => simp [intOf]; omega
      · have Hqk := Lib.hid hqk
        clear hqk
        go_wp2
        refine HQ.out.mono ?_
        rw [Hqk.out]
        rintro e w' ⟨rfl, hb2⟩
        go_wp2
        go_ret
        exact ⟨ret_int (HSO.out (fun j hj h => H2.out j hj h) Hqk.out).symm, hb.trans (hb2.mono hb.size)⟩
    · go_wp2
      go_ret
      exact ⟨ret_int (idxOf_none (fun j hj => H2.out j hj (by have := HL.out; omega))).symm, hb⟩

theorem entersW : Enters Try.prog 31 := fun _ _ => by kernel_rfl

theorem which_dec (w : World) (b1 b2 : Nat) (tv : Value) (t : List Int) (p : Int) (hn : t.length ≤ 1000000) (ht : Ints w tv t) (h1 : w.cell? ⟨b1, 0, none⟩ = some tv) (h2 : w.cell? ⟨b2, 0, none⟩ = some (.int .i64 p)) :
    DecR 31 #[.pointer (some ⟨b1, 0, none⟩), .pointer (some ⟨b2, 0, none⟩)] (fun r => fitsB r t p) w := by
  intro r w1 a b c d e f hb hr
  have g1 := cell_below hb (World.block_lt_of_cell? w _ h1) h1
  have g2 := cell_below hb (World.block_lt_of_cell? w _ h2) h2
  have l1 := World.block_lt_of_cell? w1 _ g1
  have l2 := World.block_lt_of_cell? w1 _ g2
  have HT := Lib.hid (ht.to hb (Nat.le_refl _))
  have hb1 : Below w1.heap.size w1 (w1.alloc (.cells #[a, b, c, d, e, f, .bool r.brk, .bool r.start] 35)) := (Below.refl _ _).alloc (Nat.le_refl _) _
  have HF := Lib.hid (fits_any _ t r _ tv p hn (HT.out.to hb1 (Nat.le_refl _)) (hr.to hb1 (Nat.le_refl _)))
  have HB := Lib.hid hb1
  obtain ⟨pt, capt, rfl, -, -⟩ := ht.get
  clear hb hr ht h1 h2 hb1
  go_enter Try.func31, Try.ntmps31
  go_wp2_with fail
  refine HF.out.mono ?_
  rintro e w2 ⟨rfl, hb2⟩
  go_wp2
  go_ret
  exact ⟨rfl, HB.out.trans (hb2.mono HB.out.size)⟩

set_option maxHeartbeats 400000 in
theorem which_any (w : World) (v tv : Value) (rs : List Rl) (t : List Int) (p : Int) (hn : t.length ≤ 1000000) (hr : rs.length ≤ 9223372036854775807) (ht : Ints w tv t) (hv : Rules w v rs) :
    Calls Try.prog 18 #[v, tv, .int .i64 p] w fun e w' => e = .returned (.int .i64 (whichI rs t p)) ∧ Below w.heap.size w w' := by
  obtain ⟨pt, capt, rfl, hct, -⟩ := ht.get
  have HT := Lib.hid ht
  have HV := Lib.hid hv
  clear ht hv
  go_enter Try.func18, Try.ntmps18
  go_upto_region 1 with fail
  refine abs_wp fun W hW => ?_
  have hb : Below w.heap.size w W := by rw [hW]; exact ((Below.refl _ _).alloc (Nat.le_refl _) _).alloc (by simp) _
  have h1 : W.cell? ⟨w.heap.size, 0, none⟩ = some (.slice pt t.length capt) := by rw [hW]; simp
  have h2 : W.cell? ⟨w.heap.size + 1, 0, none⟩ = some (.int .i64 p) := by rw [hW]; simp
  have HI := Lib.hid (indexf_any W v rs _ _ _ hr entersW (HV.out.to hb (Nat.le_refl _)) (which_dec W _ _ _ t p hn (HT.out.to hb (Nat.le_refl _)) h1 h2))
  have HB := Lib.hid hb
  clear hW hb h1 h2
  go_wp2_with fail
  refine HI.out.mono ?_
  rintro e w2 ⟨rfl, hb2⟩
  go_wp2
  go_ret
  exact ⟨rfl, HB.out.trans (hb2.mono HB.out.size)⟩

theorem which_cases (rs : List Rl) (t : List Int) (p : Int) : (whichI rs t p = -1 ∧ rs.find? (fun r => fitsB r t p) = none) ∨ ∃ i, ∃ h : i < rs.length, whichI rs t p = i ∧ rs.find? (fun r => fitsB r t p) = some rs[i] := by
  unfold whichI
  cases h : rs.findIdx? (fun r => fitsB r t p) with
  | none =>
    left
    refine ⟨rfl, ?_⟩
    rw [List.findIdx?_eq_none_iff] at h
    rw [List.find?_eq_none]
    intro x hx
    have := h x hx
    simpa using this
  | some i =>
    right
    rw [List.findIdx?_eq_some_iff_getElem] at h
    obtain ⟨hi, h1, h2⟩ := h
    refine ⟨i, hi, rfl, ?_⟩
    rw [List.find?_eq_some_iff_getElem]
    exact ⟨h1, i, hi, rfl, fun j hj => by have := h2 j hj; simpa using this⟩

/-- as far as place k -/
noncomputable def bndTo (rs : List Rl) (t : List Int) (k : Nat) : List Bool := (List.range (t.length + 1)).map fun i => if i < k then bndB rs t i else false
theorem bndTo_length (rs : List Rl) (t : List Int) (k : Nat) : (bndTo rs t k).length = t.length + 1 := by simp [bndTo]
theorem bndTo_zero (rs : List Rl) (t : List Int) : bndTo rs t 0 = List.replicate (t.length + 1) false := by
  apply List.ext_getElem
  · simp [bndTo]
  · intro i h1 h2; simp [bndTo]
theorem bndTo_succ {rs : List Rl} {t : List Int} {k : Nat} (h : k < t.length + 1) {u : Bool} (hu : u = bndB rs t k) : (bndTo rs t k).set k u = bndTo rs t (k + 1) := by
  subst hu
  apply List.ext_getElem
  · simp [bndTo]
  · intro i h1 h2
    rw [List.getElem_set]
    by_cases e : k = i
    · subst e; simp [bndTo]
    · rw [if_neg e]
      by_cases h4 : i < k
      · simp [bndTo, h4, show i < k + 1 by omega]
      · simp [bndTo, h4, show ¬ i < k + 1 by omega]
theorem bndTo_all (rs : List Rl) (t : List Int) : bndTo rs t (t.length + 1) = bnds rs t := by
  unfold bndTo bnds
  exact List.map_congr_left fun i hi => by rw [if_pos (List.mem_range.1 hi)]

theorem bnd_end {rs : List Rl} {t : List Int} {k : Nat} (h : k = 0 ∨ k = t.length) : bndB rs t k = decide (0 < t.length) := by
  unfold bndB
  rcases h with h | h <;> simp [h]
theorem bnd_mid {rs : List Rl} {t : List Int} {k : Nat} (h1 : 0 < k) (h2 : k < t.length) : bndB rs t k = match rs.find? (fun r => fitsB r t k) with | some r => r.brk | none => true := by
  unfold bndB
  rw [decide_eq_true (by omega), show (k == 0) = false by simp; omega, show (k == t.length) = false by simp; omega]
  simp only [Bool.false_or, Bool.true_and]
  rfl

set_option maxHeartbeats 2000000 in
theorem bounds_any (w : World) (v tv : Value) (rs : List Rl) (t : List Int) (hn : t.length ≤ 1000000) (hr : rs.length ≤ 9223372036854775807) (ht : Ints w tv t) (hv : Rules w v rs) :
    Calls Try.prog 13 #[v, tv] w fun e w' => ∃ v', e = .returned v' ∧ Bools w' v' (bnds rs t) ∧ Below w.heap.size w w' := by
  obtain ⟨pt, capt, rfl, hct, -⟩ := ht.get
  obtain ⟨pr, capr, rfl, hcr, hxr⟩ := hv.get
  have HXR := Lib.hid hxr
  have HT := Lib.hid ht
  have HV := Lib.hid hv
  have hmk := fun w => make_bools 27 Try.underlying27 w ((t.length : Int) + 1) (t.length + 1) (by omega) (by omega)
  clear ht hv hxr
  go_enter Try.func13, Try.ntmps13
  go_upto_region 2 with fail
  refine abs_wp fun W hW0 => ?_
  have hW : W = w.alloc (.cells (List.replicate (t.length + 1) (Value.bool false)).toArray 4) := hW0
  clear hW0
  have hBW : Below w.heap.size w W := by rw [hW]; exact (Below.refl _ _).alloc (Nat.le_refl _) _
  have hrow : BRow W w.heap.size (bndTo rs t 0) := by
    rw [bndTo_zero]
    unfold BRow
    rw [hW, List.map_replicate]
    exact heap_alloc_new _ _
  obtain ⟨B, hB⟩ : ∃ B, B = w.heap.size := ⟨_, rfl⟩
  rw [← hB] at hrow ⊢
  have HB := Lib.hid hB
  have HBW := Lib.hid hBW
  have HROW := Lib.hid hrow
  clear hW hB hBW hrow hmk
  go_wp2_with fail
  go_loopw [14] (fun i wr => ∃ k : Nat, i = .int .i64 k ∧ k ≤ t.length + 1 ∧ BRow wr B (bndTo rs t k) ∧ Fr (fun j => B ≤ j) W wr) (fun i _ => t.length + 1 - (intOf i).toNat)
  case atStart => exact ⟨0, rfl, by omega, HROW.out, Fr.refl _ _⟩
  case round =>
    obtain ⟨k, rfl, h1, hrw, hfr⟩ := hrel
    have HR := Lib.hid hrw
    have HFR := Lib.hid hfr
    have hgr := hrw.lt
    have hbw : Below w.heap.size w wr := HBW.out.trans (hfr.below HBW.out.size (fun j hj => by rw [← HB.out]; omega))
    have HBR := Lib.hid hbw
    clear hrw hfr hbw
    by_cases hlt : k < t.length + 1
    · have hfs : ∀ (w' : World) (u : Bool), Fr (fun j => B ≤ j) w' (w'.setCell ⟨B, k, none⟩ (.bool u)) := fun w' u => Fr.setCell (F := fun j => B ≤ j) _ (Nat.le_refl _) _
      have HFS := Lib.hid hfs
      clear hfs
      by_cases hend : k = 0 ∨ k = t.length
      · have HS := Lib.hid (fun (u : Bool) (hu : u = decide (0 < t.length)) => bndTo_succ (rs := rs) hlt (u := u) (hu.trans (bnd_end hend).symm))
        have z1 := HR.out.cell (i := k) (by rw [bndTo_length]; exact hlt)
        have z2 := HR.out.frozen k
        by_cases h0 : 0 < t.length
        all_goals by_cases hk0 : 0 < k
        all_goals
          have hz : 0 < k → ¬ k < t.length := by omega
          first
            | (have hz2 := hz hk0)
            | skip
          clear hend hz
          first
            | (exfalso; omega)
            | (go_wp2_with fail
               go_roundw
               case rel => exact ⟨k + 1, by go_num, by omega, by first | (rw [← HS.out true (decide_eq_true (by omega)).symm]; exact HR.out.set k _) | (rw [← HS.out false (decide_eq_false (by omega)).symm]; exact HR.out.set k _), HFR.out.trans (HFS.out _ _) (fun _ _ h => h)⟩
               case measure => simp [intOf]; omega)
      · have hk0 : 0 < k := by omega
        have hkn : k < t.length := by omega
        have h0 : 0 < t.length := by omega
        have HW := Lib.hid (which_any wr _ _ rs t (k : Int) hn hr (HT.out.to HBR.out (Nat.le_refl _)) (HV.out.to HBR.out (Nat.le_refl _)))
        have HS := Lib.hid (fun (u : Bool) (hu : u = match rs.find? (fun r => fitsB r t k) with | some r => r.brk | none => true) => bndTo_succ (rs := rs) hlt (u := u) (hu.trans (bnd_mid hk0 hkn).symm))
        rcases which_cases rs t (k : Int) with ⟨hw, hf⟩ | ⟨i, hi, hw, hf⟩
        · rw [hw] at HW
          rw [hf] at HS
          clear hend hw hf
          go_wp2_with fail
          refine HW.out.mono ?_
          rintro e w1 ⟨rfl, hb1⟩
          have HR1 := Lib.hid (HR.out.below hb1 hgr)
          have HB1 := Lib.hid hb1
          have z1 := HR1.out.cell (i := k) (by rw [bndTo_length]; exact hlt)
          have z2 := HR1.out.frozen k
          clear hb1
          go_wp2
          go_roundw
          case rel => exact ⟨k + 1, by go_num, by omega, by rw [← HS.out _ rfl]; exact HR1.out.set k _, (HFR.out.trans (Fr.of_below HB1.out _) (fun _ _ h => h)).trans (HFS.out _ _) (fun _ _ h => h)⟩
          case measure => simp [intOf]; omega
        · obtain ⟨bb, off, rfl, hbl, hx⟩ := HXR.out (by omega)
          obtain ⟨row, hrow, hri⟩ := hx i hi
          obtain ⟨a, b, c, d, e, f, rfl, -, -⟩ := hri
          have y6 := hrow 6 _ rfl
          rw [hw] at HW
          rw [hf] at HS
          have j0 : (0 : Int) ≤ i := by omega
          have j1 : (i : Int) < rs.length := by omega
          have j2 : ¬ (i : Int) < 0 := by omega
          generalize rs[i] = rl at *
          clear hend hw hf hx hrow
          go_wp2_with fail
          refine HW.out.mono ?_
          rintro e w1 ⟨rfl, hb1⟩
          have HR1 := Lib.hid (HR.out.below hb1 hgr)
          have HB1 := Lib.hid hb1
          have z1 := HR1.out.cell (i := k) (by rw [bndTo_length]; exact hlt)
          have z2 := HR1.out.frozen k
          have z6 := cell_below (HBR.out.trans (hb1.mono HBR.out.size)) hbl y6
          clear hb1 y6
          go_wp2
          go_roundw
          case rel => exact ⟨k + 1, by go_num, by omega, by rw [← HS.out _ rfl]; exact HR1.out.set k _, (HFR.out.trans (Fr.of_below HB1.out _) (fun _ _ h => h)).trans (HFS.out _ _) (fun _ _ h => h)⟩
          case measure => simp [intOf]; omega
    · have hkn : k = t.length + 1 := by omega
      have HKN := Lib.hid hkn
      clear hkn
      go_wp2
      go_ret
      refine ⟨_, rfl, ?_, HBR.out⟩
      have := HR.out.bools
      rw [HKN.out, bndTo_all] at this
      rwa [show (bnds rs t).length = t.length + 1 by simp [bnds]] at this
end Go.Proofs.Ytphgjppeindbaaa
