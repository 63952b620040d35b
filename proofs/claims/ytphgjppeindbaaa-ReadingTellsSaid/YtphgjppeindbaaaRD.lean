/-
  The reference's Moves of sets; all of it. No condition beyond what each theorem names.
-/
import Derived.Test.YtphgjppeindbaaaRC
set_option linter.unusedVariables false
set_option linter.unusedSimpArgs false
namespace Go.Proofs.Ytphgjppeindbaaa
open Go.RowKit

/-- the character at i is of these classes, and the place j is in the set -/
def sv (t cls : List Int) (bs : List Bool) (i j : Nat) : Bool := (match t[i]? with | some c => decide (c ∈ cls) | none => false) && bs[j]?.getD false
theorem sv_get {t cls : List Int} {bs : List Bool} {i j : Nat} (hi : i < t.length) (hj : j < bs.length) : sv t cls bs i j = (decide (t[i] ∈ cls) && bs[j]) := by
  unfold sv; rw [List.getElem?_eq_getElem hi, List.getElem?_eq_getElem hj]; rfl
theorem sv_tr {t cls : List Int} {bs : List Bool} {i j : Nat} : sv t cls bs i j = true ↔ (∃ c, t[i]? = some c ∧ c ∈ cls) ∧ tr bs j := by
  unfold sv tr
  cases h : t[i]? <;> cases h' : bs[j]? <;> simp
theorem boolE_splice {row : List Value} (h : row.length = 1) (x : Bool) : boolE x (splice row 0 [.bool x]) := by
  match row, h with
  | [u], _ => rfl

def fwd (t cls : List Int) (bs : List Bool) (k : Nat) : List Bool := (List.range (t.length + 1)).map fun j => decide (1 ≤ j ∧ j ≤ k) && sv t cls bs (j - 1) (j - 1)
def bck (t cls : List Int) (bs : List Bool) (k : Nat) : List Bool := (List.range (t.length + 1)).map fun j => decide (j < k) && sv t cls bs j (j + 1)
theorem fwd_zero (t cls : List Int) (bs : List Bool) : List.replicate (t.length + 1) false = fwd t cls bs 0 := by
  refine List.ext_getElem (by simp [fwd]) fun i h1 h2 => ?_
  simp [fwd]
  omega
theorem bck_zero (t cls : List Int) (bs : List Bool) : List.replicate (t.length + 1) false = bck t cls bs 0 := by
  refine List.ext_getElem (by simp [bck]) fun i h1 h2 => ?_
  simp [bck]
theorem fwd_step (t cls : List Int) (bs : List Bool) (k : Nat) : (fwd t cls bs k).set (k + 1) (sv t cls bs k k) = fwd t cls bs (k + 1) := by
  refine List.ext_getElem (by simp [fwd]) fun i h1 h2 => ?_
  rw [List.getElem_set]
  simp only [fwd, List.getElem_map, List.getElem_range]
  split
  · rename_i h; subst h; simp
  · rename_i h
    congr 1
    simp only [decide_eq_decide]
    omega
theorem bck_step (t cls : List Int) (bs : List Bool) (k : Nat) : (bck t cls bs k).set k (sv t cls bs k (k + 1)) = bck t cls bs (k + 1) := by
  refine List.ext_getElem (by simp [bck]) fun i h1 h2 => ?_
  rw [List.getElem_set]
  simp only [bck, List.getElem_map, List.getElem_range]
  split
  · rename_i h; subst h; simp
  · rename_i h
    congr 1
    simp only [decide_eq_decide]
    omega
theorem img_fwd {t cls : List Int} {bs : List Bool} (hl : bs.length = t.length + 1) : img (one t cls) bs (fwd t cls bs t.length) := by
  refine ⟨by simp [fwd, hl], fun q => ?_⟩
  unfold one
  by_cases hq : q < t.length + 1
  · have h : tr (fwd t cls bs t.length) q ↔ (decide (1 ≤ q ∧ q ≤ t.length) && sv t cls bs (q - 1) (q - 1)) = true := by simp [tr, fwd, hq]
    rw [h, Bool.and_eq_true, decide_eq_true_iff, sv_tr]
    constructor
    · rintro ⟨h1, h2, h3⟩; exact ⟨q - 1, h3, by omega, h2⟩
    · rintro ⟨p, h1, rfl, h2⟩; exact ⟨by omega, h2, h1⟩
  · constructor
    · intro h; have := tr_lt h; simp [fwd] at this; omega
    · rintro ⟨p, h1, rfl, c, h2, h3⟩
      have := (List.getElem?_eq_some_iff.1 h2).1
      omega
theorem img_bck {t cls : List Int} {bs : List Bool} (hl : bs.length = t.length + 1) : img (fun p q => one t cls q p) bs (bck t cls bs t.length) := by
  refine ⟨by simp [bck, hl], fun q => ?_⟩
  unfold one
  by_cases hq : q < t.length + 1
  · have h : tr (bck t cls bs t.length) q ↔ (decide (q < t.length) && sv t cls bs q (q + 1)) = true := by simp [tr, bck, hq]
    rw [h, Bool.and_eq_true, decide_eq_true_iff, sv_tr]
    constructor
    · rintro ⟨h1, h2, h3⟩; exact ⟨q + 1, h3, rfl, h2⟩
    · rintro ⟨p, h1, rfl, h2⟩
      obtain ⟨c, h3, h4⟩ := h2
      exact ⟨(List.getElem?_eq_some_iff.1 h3).1, ⟨c, h3, h4⟩, h1⟩
  · constructor
    · intro h; have := tr_lt h; simp [bck] at this; omega
    · rintro ⟨p, h1, rfl, c, h2, h3⟩
      have := (List.getElem?_eq_some_iff.1 h2).1
      omega


set_option maxRecDepth 100000 in
set_option maxHeartbeats 4000000 in
theorem moves_1_false (t : List Int) (cls : List Int) (ps : List Nd) (hn : t.length ≤ 50000) : MovesAt t false (.mk 1 cls ps) := by
    intro w tv fv a b c bs hl ht hf hx
    skip
    rw [nodeIs_iff] at hx
    obtain ⟨rfl, hcl, hcb, hpb, hps⟩ := hx
    obtain ⟨pt, capt, rfl, hct, hxt⟩ := ht.get
    obtain ⟨pf, capf, rfl, hcf, hxf⟩ := hf.get
    obtain ⟨pc, capc, rfl, hcc, -⟩ := hcl.get
    obtain ⟨pp, capp, rfl, hcp, hxp⟩ := hps.get
    rw [hl] at hf hcf ⊢
    have HT := Lib.hid ht
    have HF := Lib.hid hf
    have HXF := Lib.hid hxf
    have HXT := Lib.hid hxt
    have HCL := Lib.hid hcl
    have HCB := Lib.hid hcb
    have HXP := Lib.hid hxp
    have HL := Lib.hid hl
    unfold R at hcb hpb
    clear hl ht hf hcl hps hxt hxf hxp
    go_enter Try.func32, Try.ntmps32
    go_upto_region 1 with fail
    refine abs_wp fun W hW => ?_
    have hBW : Below w.heap.size w W := by rw [hW]; exact below_alloc1 _ _
    have hbox : W.heap[w.heap.size]? = some (.cells #[.int .i64 1, .slice pc cls.length capc, .slice pp ps.length capp] 33) := by rw [hW]; exact heap_alloc_new _ _
    obtain ⟨B, hB⟩ : ∃ B, B = w.heap.size := ⟨_, rfl⟩
    have HBE := Lib.hid hB
    have HWZ := Lib.hid (show W.heap.size = B + 1 by rw [hW, hB]; simp)
    rw [← hB] at hbox ⊢
    have HBX := Lib.hid hbox
    have HBW := Lib.hid hBW
    have HALL := Lib.hid (all_any W t.length false (by omega))
    clear hW hBW hbox hB
    go_wp2_with fail
    refine HALL.out.mono ?_
    rintro e w1 ⟨v1, rfl, ho1, hb1⟩
    have HB1 := Lib.hid (HBW.out.trans (hb1.mono HBW.out.size))
    have HBX1 := Lib.hid ((hb1.block B (at_lt HBX.out)).trans HBX.out)
    have HSZ1 := Lib.hid (at_lt HBX1.out)
    obtain ⟨x0, x1, x2⟩ := cells3 HBX1.out
    obtain ⟨p1, c1, hv1⟩ := ho1.form
    subst hv1
    simp only [List.length_replicate] at ho1 ⊢
    have HO1 := Lib.hid ho1
    have HNO := Lib.hid ho1.read.bools
    clear ho1 hb1 HALL
    rw [HWZ.out, fwd_zero t cls bs] at HO1
    go_wp2_with fail
    go_loopw [11] (fun i wr => ∃ k : Nat, i = .int .i64 k ∧ k ≤ t.length ∧ OwnL boolE 4 1 (B + 1) wr (.slice p1 (t.length + 1) c1) (fwd t cls bs k) ∧ wr.heap[B]? = some (.cells #[.int .i64 1, .slice pc cls.length capc, .slice pp ps.length capp] 33) ∧ Below w.heap.size w wr) (fun i _ => t.length - (intOf i).toNat)
    case atStart => exact ⟨0, rfl, by omega, HO1.out, HBX1.out, HB1.out⟩
    case round =>
      obtain ⟨k, rfl, h1, hown, hbx, hb⟩ := hrel
      have HOWN := Lib.hid hown
      have HBXR := Lib.hid hbx
      have HBWR := Lib.hid hb
      by_cases hk : k < t.length
      · obtain ⟨bt, ot, rfl, hbt, hyt⟩ := HXT.out (by omega)
        obtain ⟨bf, of, rfl, hbf, hyf⟩ := HXF.out (by have := HL.out; omega)
        have y0 := cell_below hb hbt (hyt k hk)
        have hbl : bs.length = t.length + 1 := HL.out
        have f0 := cell_below hb hbf (hyf k (by omega))
        have HSV := Lib.hid (sv_get (cls := cls) hk (show k < bs.length by omega))
        have HSZR := Lib.hid (at_lt hbx)
        have HIN := Lib.hid (fun (W : World) (hW : Below wr.heap.size wr W) => in_any W (.slice pc cls.length capc) cls t[k] HCB.out ((HCL.out.to hb (Nat.le_refl _)).to hW (Nat.le_refl _)))
        have Y0 := Lib.hid y0
        have F0 := Lib.hid f0
        have hbtl : bt < wr.heap.size := Nat.lt_of_lt_of_le hbt hb.size
        have hbfl : bf < wr.heap.size := Nat.lt_of_lt_of_le hbf hb.size
        have hki : (k : Int) < (t.length : Int) := by omega
        have hki2 : k < t.length + 1 := by omega
        have hki3 : k + 1 < t.length + 1 := by omega
        have hki4 : (k : Int) + 1 < (t.length : Int) + 1 := by omega
        have hki5 : k ≤ t.length := by omega
        have hki6 : (k : Int) < (t.length : Int) + 1 := by omega
        generalize t[k] = tk at *
        generalize bs[k]'(by omega) = fk at *
        clear hown hbx hb hyt hyf y0 f0 hbl
        go_upto_region 10 with fail
        refine wp_region_plan (fun W => W.heap[B]? = some (.cells #[.int .i64 1, .slice pc cls.length capc, .slice pp ps.length capp] 33) ∧ W.cell? ⟨bt, ot + k, none⟩ = some (.int .i64 tk)) (.reads [0, 1, 2, 3, 4, 5] (.one 6 (.reads [7] .done))) 155 (by kernel_rfl) (by kernel_rfl) rfl (fun _ _ _ _ _ h => h) ⟨HBXR.out, Y0.out⟩ ?_
        apply plan_reads
        · intro W hW
          obtain ⟨s0, s1⟩ := hW
          have s2 := (cells3 s0).2.1
          repeat (refine wpRead_step (fun K hK => ?_); go_simp; refine hK _ ?_; clear hK K)
          exact wpRead_nil rfl
        have HC := Lib.hid (HIN.out wr.drew (Below.refl _ _).drew)
        refine plan_one rfl ?_
        go_wp2_with fail
        refine HC.out.mono ?_
        rintro e w2 ⟨rfl, hb2⟩
        have HB2 := Lib.hid (show Below wr.heap.size wr w2 from (Below.refl _ _).drew.trans hb2)
        have HBW2 := Lib.hid (HBWR.out.trans (HB2.out.mono HBWR.out.size))
        clear hb2 HC
        go_wp2_with fail
        refine Then.mk ⟨(HB2.out.block B HSZR.out).trans HBXR.out, cell_below HB2.out hbtl Y0.out⟩ ?_
        apply plan_reads
        · intro W hW
          repeat (refine wpRead_step (fun K hK => ?_); go_simp; refine hK _ ?_; clear hK K)
          exact wpRead_nil rfl
        refine plan_done ?_
        have f0 := cell_below HB2.out hbfl F0.out
        have hown2 := HOWN.out.below HB2.out (Nat.le_refl _)
        obtain ⟨g, cap, cur, row, hve, hg, hheap, hrow, hrl, hrc, hE, hcsz, hst⟩ := hown2.store (by omega) (k := (k + 1)) (by simp [fwd]; omega)
        have hlen : (fwd t cls bs k).length = t.length + 1 := by simp [fwd]
        rw [hlen] at hve
        injection hve with e1 e2 e3
        subst e1 e3
        have HH := Lib.hid hheap
        have HRL := Lib.hid hrl
        have HST := Lib.hid hst
        have hfit : (k + 1) + 1 ≤ cur.size := by omega
        clear hown2 hheap hrow hrl hrc hE hcsz hst hlen e2
        rcases Bool.eq_false_or_eq_true (decide (tk ∈ cls)) with hd | hd <;> rcases Bool.eq_false_or_eq_true fk with hf | hf
        all_goals
          rw [hd, hf] at HSV
          rw [hd]
          rw [hf] at f0
          simp only [Bool.and_true, Bool.and_false, Bool.true_and, Bool.false_and] at HSV
          clear hd hf
        · go_wp2_with (refine wpList_store_row rfl (.tmp 63) (.tmp 62) 4 rfl g (k + 1) rfl (.bool true) rfl cur _ (by kernel_rfl) HH.out hfit (by simp [Value.cells, Value.oneCell']) ?_)
          go_roundw
          case rel =>
            have hz := HSV.out
            have hst := HST.out 0 [.bool (sv t cls bs k k)] (by simp) (by simp [Value.oneCell']) (sv t cls bs k k) (boolE_splice HRL.out _)
            rw [fwd_step t cls bs k] at hst
            refine ⟨k + 1, by go_num, by omega, hst _ ?_, ?_, ?_⟩
            · simp only [Nat.mul_one, Nat.add_zero, hz]
              exact setRow_heap _ g _ _ _ (0, 0) HH.out
            · rw [setRow_other _ _ _ _ (by omega)]
              exact (HB2.out.block B (by have := HSZR.out; omega)).trans HBXR.out
            · exact HBW2.out.trans ((Fr.setRow (F := fun k => k = g) _ rfl _).below HBW2.out.size (fun q hq => by have h : q = g := hq; have := HBE.out; omega))
          case measure => simp [intOf]; omega
        · go_wp2_with (refine wpList_store_row rfl (.tmp 63) (.tmp 62) 4 rfl g (k + 1) rfl (.bool false) rfl cur _ (by kernel_rfl) HH.out hfit (by simp [Value.cells, Value.oneCell']) ?_)
          go_roundw
          case rel =>
            have hz := HSV.out
            have hst := HST.out 0 [.bool (sv t cls bs k k)] (by simp) (by simp [Value.oneCell']) (sv t cls bs k k) (boolE_splice HRL.out _)
            rw [fwd_step t cls bs k] at hst
            refine ⟨k + 1, by go_num, by omega, hst _ ?_, ?_, ?_⟩
            · simp only [Nat.mul_one, Nat.add_zero, hz]
              exact setRow_heap _ g _ _ _ (0, 0) HH.out
            · rw [setRow_other _ _ _ _ (by omega)]
              exact (HB2.out.block B (by have := HSZR.out; omega)).trans HBXR.out
            · exact HBW2.out.trans ((Fr.setRow (F := fun k => k = g) _ rfl _).below HBW2.out.size (fun q hq => by have h : q = g := hq; have := HBE.out; omega))
          case measure => simp [intOf]; omega
        · go_wp2_with (refine wpList_store_row rfl (.tmp 63) (.tmp 62) 4 rfl g (k + 1) rfl (.bool false) rfl cur _ (by kernel_rfl) HH.out hfit (by simp [Value.cells, Value.oneCell']) ?_)
          go_roundw
          case rel =>
            have hz := HSV.out
            have hst := HST.out 0 [.bool (sv t cls bs k k)] (by simp) (by simp [Value.oneCell']) (sv t cls bs k k) (boolE_splice HRL.out _)
            rw [fwd_step t cls bs k] at hst
            refine ⟨k + 1, by go_num, by omega, hst _ ?_, ?_, ?_⟩
            · simp only [Nat.mul_one, Nat.add_zero, hz]
              exact setRow_heap _ g _ _ _ (0, 0) HH.out
            · rw [setRow_other _ _ _ _ (by omega)]
              exact (HB2.out.block B (by have := HSZR.out; omega)).trans HBXR.out
            · exact HBW2.out.trans ((Fr.setRow (F := fun k => k = g) _ rfl _).below HBW2.out.size (fun q hq => by have h : q = g := hq; have := HBE.out; omega))
          case measure => simp [intOf]; omega
        · go_wp2_with (refine wpList_store_row rfl (.tmp 63) (.tmp 62) 4 rfl g (k + 1) rfl (.bool false) rfl cur _ (by kernel_rfl) HH.out hfit (by simp [Value.cells, Value.oneCell']) ?_)
          go_roundw
          case rel =>
            have hz := HSV.out
            have hst := HST.out 0 [.bool (sv t cls bs k k)] (by simp) (by simp [Value.oneCell']) (sv t cls bs k k) (boolE_splice HRL.out _)
            rw [fwd_step t cls bs k] at hst
            refine ⟨k + 1, by go_num, by omega, hst _ ?_, ?_, ?_⟩
            · simp only [Nat.mul_one, Nat.add_zero, hz]
              exact setRow_heap _ g _ _ _ (0, 0) HH.out
            · rw [setRow_other _ _ _ _ (by omega)]
              exact (HB2.out.block B (by have := HSZR.out; omega)).trans HBXR.out
            · exact HBW2.out.trans ((Fr.setRow (F := fun k => k = g) _ rfl _).below HBW2.out.size (fun q hq => by have h : q = g := hq; have := HBE.out; omega))
          case measure => simp [intOf]; omega
      · have hke : k = t.length := by omega
        subst hke
        clear hown hbx hb
        go_wp2_with fail
        go_ret
        exact ⟨_, _, rfl, HOWN.out.read.bools, img_same (img_fwd HL.out) (fun p q => (M_1 (ps := ps) p q).symm), HBWR.out⟩

set_option maxRecDepth 100000 in
set_option maxHeartbeats 4000000 in
theorem moves_1_true (t : List Int) (cls : List Int) (ps : List Nd) (hn : t.length ≤ 50000) : MovesAt t true (.mk 1 cls ps) := by
    intro w tv fv a b c bs hl ht hf hx
    skip
    rw [nodeIs_iff] at hx
    obtain ⟨rfl, hcl, hcb, hpb, hps⟩ := hx
    obtain ⟨pt, capt, rfl, hct, hxt⟩ := ht.get
    obtain ⟨pf, capf, rfl, hcf, hxf⟩ := hf.get
    obtain ⟨pc, capc, rfl, hcc, -⟩ := hcl.get
    obtain ⟨pp, capp, rfl, hcp, hxp⟩ := hps.get
    rw [hl] at hf hcf ⊢
    have HT := Lib.hid ht
    have HF := Lib.hid hf
    have HXF := Lib.hid hxf
    have HXT := Lib.hid hxt
    have HCL := Lib.hid hcl
    have HCB := Lib.hid hcb
    have HXP := Lib.hid hxp
    have HL := Lib.hid hl
    unfold R at hcb hpb
    clear hl ht hf hcl hps hxt hxf hxp
    go_enter Try.func32, Try.ntmps32
    go_upto_region 1 with fail
    refine abs_wp fun W hW => ?_
    have hBW : Below w.heap.size w W := by rw [hW]; exact below_alloc1 _ _
    have hbox : W.heap[w.heap.size]? = some (.cells #[.int .i64 1, .slice pc cls.length capc, .slice pp ps.length capp] 33) := by rw [hW]; exact heap_alloc_new _ _
    obtain ⟨B, hB⟩ : ∃ B, B = w.heap.size := ⟨_, rfl⟩
    have HBE := Lib.hid hB
    have HWZ := Lib.hid (show W.heap.size = B + 1 by rw [hW, hB]; simp)
    rw [← hB] at hbox ⊢
    have HBX := Lib.hid hbox
    have HBW := Lib.hid hBW
    have HALL := Lib.hid (all_any W t.length false (by omega))
    clear hW hBW hbox hB
    go_wp2_with fail
    refine HALL.out.mono ?_
    rintro e w1 ⟨v1, rfl, ho1, hb1⟩
    have HB1 := Lib.hid (HBW.out.trans (hb1.mono HBW.out.size))
    have HBX1 := Lib.hid ((hb1.block B (at_lt HBX.out)).trans HBX.out)
    have HSZ1 := Lib.hid (at_lt HBX1.out)
    obtain ⟨x0, x1, x2⟩ := cells3 HBX1.out
    obtain ⟨p1, c1, hv1⟩ := ho1.form
    subst hv1
    simp only [List.length_replicate] at ho1 ⊢
    have HO1 := Lib.hid ho1
    have HNO := Lib.hid ho1.read.bools
    clear ho1 hb1 HALL
    rw [HWZ.out, bck_zero t cls bs] at HO1
    go_wp2_with fail
    go_loopw [11] (fun i wr => ∃ k : Nat, i = .int .i64 k ∧ k ≤ t.length ∧ OwnL boolE 4 1 (B + 1) wr (.slice p1 (t.length + 1) c1) (bck t cls bs k) ∧ wr.heap[B]? = some (.cells #[.int .i64 1, .slice pc cls.length capc, .slice pp ps.length capp] 33) ∧ Below w.heap.size w wr) (fun i _ => t.length - (intOf i).toNat)
    case atStart => exact ⟨0, rfl, by omega, HO1.out, HBX1.out, HB1.out⟩
    case round =>
      obtain ⟨k, rfl, h1, hown, hbx, hb⟩ := hrel
      have HOWN := Lib.hid hown
      have HBXR := Lib.hid hbx
      have HBWR := Lib.hid hb
      by_cases hk : k < t.length
      · obtain ⟨bt, ot, rfl, hbt, hyt⟩ := HXT.out (by omega)
        obtain ⟨bf, of, rfl, hbf, hyf⟩ := HXF.out (by have := HL.out; omega)
        have y0 := cell_below hb hbt (hyt k hk)
        have hbl : bs.length = t.length + 1 := HL.out
        have f0 := cell_below hb hbf (hyf (k + 1) (by omega))
        have HSV := Lib.hid (sv_get (cls := cls) hk (show (k + 1) < bs.length by omega))
        have HSZR := Lib.hid (at_lt hbx)
        have HIN := Lib.hid (fun (W : World) (hW : Below wr.heap.size wr W) => in_any W (.slice pc cls.length capc) cls t[k] HCB.out ((HCL.out.to hb (Nat.le_refl _)).to hW (Nat.le_refl _)))
        have Y0 := Lib.hid y0
        have F0 := Lib.hid f0
        have hbtl : bt < wr.heap.size := Nat.lt_of_lt_of_le hbt hb.size
        have hbfl : bf < wr.heap.size := Nat.lt_of_lt_of_le hbf hb.size
        have hki : (k : Int) < (t.length : Int) := by omega
        have hki2 : k < t.length + 1 := by omega
        have hki3 : k + 1 < t.length + 1 := by omega
        have hki4 : (k : Int) + 1 < (t.length : Int) + 1 := by omega
        have hki5 : k ≤ t.length := by omega
        have hki6 : (k : Int) < (t.length : Int) + 1 := by omega
        generalize t[k] = tk at *
        generalize bs[(k + 1)]'(by omega) = fk at *
        clear hown hbx hb hyt hyf y0 f0 hbl
        go_upto_region 10 with fail
        refine wp_region_plan (fun W => W.heap[B]? = some (.cells #[.int .i64 1, .slice pc cls.length capc, .slice pp ps.length capp] 33) ∧ W.cell? ⟨bt, ot + k, none⟩ = some (.int .i64 tk)) (.reads [0, 1, 2, 3, 4, 5] (.one 6 (.reads [7] .done))) 155 (by kernel_rfl) (by kernel_rfl) rfl (fun _ _ _ _ _ h => h) ⟨HBXR.out, Y0.out⟩ ?_
        apply plan_reads
        · intro W hW
          obtain ⟨s0, s1⟩ := hW
          have s2 := (cells3 s0).2.1
          repeat (refine wpRead_step (fun K hK => ?_); go_simp; refine hK _ ?_; clear hK K)
          exact wpRead_nil rfl
        have HC := Lib.hid (HIN.out wr.drew (Below.refl _ _).drew)
        refine plan_one rfl ?_
        go_wp2_with fail
        refine HC.out.mono ?_
        rintro e w2 ⟨rfl, hb2⟩
        have HB2 := Lib.hid (show Below wr.heap.size wr w2 from (Below.refl _ _).drew.trans hb2)
        have HBW2 := Lib.hid (HBWR.out.trans (HB2.out.mono HBWR.out.size))
        clear hb2 HC
        go_wp2_with fail
        refine Then.mk ⟨(HB2.out.block B HSZR.out).trans HBXR.out, cell_below HB2.out hbtl Y0.out⟩ ?_
        apply plan_reads
        · intro W hW
          repeat (refine wpRead_step (fun K hK => ?_); go_simp; refine hK _ ?_; clear hK K)
          exact wpRead_nil rfl
        refine plan_done ?_
        have f0 := cell_below HB2.out hbfl F0.out
        have hown2 := HOWN.out.below HB2.out (Nat.le_refl _)
        obtain ⟨g, cap, cur, row, hve, hg, hheap, hrow, hrl, hrc, hE, hcsz, hst⟩ := hown2.store (by omega) (k := k) (by simp [bck]; omega)
        have hlen : (bck t cls bs k).length = t.length + 1 := by simp [bck]
        rw [hlen] at hve
        injection hve with e1 e2 e3
        subst e1 e3
        have HH := Lib.hid hheap
        have HRL := Lib.hid hrl
        have HST := Lib.hid hst
        have hfit : k + 1 ≤ cur.size := by omega
        clear hown2 hheap hrow hrl hrc hE hcsz hst hlen e2
        rcases Bool.eq_false_or_eq_true (decide (tk ∈ cls)) with hd | hd <;> rcases Bool.eq_false_or_eq_true fk with hf | hf
        all_goals
          rw [hd, hf] at HSV
          rw [hd]
          rw [hf] at f0
          simp only [Bool.and_true, Bool.and_false, Bool.true_and, Bool.false_and] at HSV
          clear hd hf
        · go_wp2_with (refine wpList_store_row rfl (.tmp 52) (.tmp 51) 4 rfl g k rfl (.bool true) rfl cur _ (by kernel_rfl) HH.out hfit (by simp [Value.cells, Value.oneCell']) ?_)
          go_roundw
          case rel =>
            have hz := HSV.out
            have hst := HST.out 0 [.bool (sv t cls bs k (k + 1))] (by simp) (by simp [Value.oneCell']) (sv t cls bs k (k + 1)) (boolE_splice HRL.out _)
            rw [bck_step t cls bs k] at hst
            refine ⟨k + 1, by go_num, by omega, hst _ ?_, ?_, ?_⟩
            · simp only [Nat.mul_one, Nat.add_zero, hz]
              exact setRow_heap _ g _ _ _ (0, 0) HH.out
            · rw [setRow_other _ _ _ _ (by omega)]
              exact (HB2.out.block B (by have := HSZR.out; omega)).trans HBXR.out
            · exact HBW2.out.trans ((Fr.setRow (F := fun k => k = g) _ rfl _).below HBW2.out.size (fun q hq => by have h : q = g := hq; have := HBE.out; omega))
          case measure => simp [intOf]; omega
        · go_wp2_with (refine wpList_store_row rfl (.tmp 52) (.tmp 51) 4 rfl g k rfl (.bool false) rfl cur _ (by kernel_rfl) HH.out hfit (by simp [Value.cells, Value.oneCell']) ?_)
          go_roundw
          case rel =>
            have hz := HSV.out
            have hst := HST.out 0 [.bool (sv t cls bs k (k + 1))] (by simp) (by simp [Value.oneCell']) (sv t cls bs k (k + 1)) (boolE_splice HRL.out _)
            rw [bck_step t cls bs k] at hst
            refine ⟨k + 1, by go_num, by omega, hst _ ?_, ?_, ?_⟩
            · simp only [Nat.mul_one, Nat.add_zero, hz]
              exact setRow_heap _ g _ _ _ (0, 0) HH.out
            · rw [setRow_other _ _ _ _ (by omega)]
              exact (HB2.out.block B (by have := HSZR.out; omega)).trans HBXR.out
            · exact HBW2.out.trans ((Fr.setRow (F := fun k => k = g) _ rfl _).below HBW2.out.size (fun q hq => by have h : q = g := hq; have := HBE.out; omega))
          case measure => simp [intOf]; omega
        · go_wp2_with (refine wpList_store_row rfl (.tmp 52) (.tmp 51) 4 rfl g k rfl (.bool false) rfl cur _ (by kernel_rfl) HH.out hfit (by simp [Value.cells, Value.oneCell']) ?_)
          go_roundw
          case rel =>
            have hz := HSV.out
            have hst := HST.out 0 [.bool (sv t cls bs k (k + 1))] (by simp) (by simp [Value.oneCell']) (sv t cls bs k (k + 1)) (boolE_splice HRL.out _)
            rw [bck_step t cls bs k] at hst
            refine ⟨k + 1, by go_num, by omega, hst _ ?_, ?_, ?_⟩
            · simp only [Nat.mul_one, Nat.add_zero, hz]
              exact setRow_heap _ g _ _ _ (0, 0) HH.out
            · rw [setRow_other _ _ _ _ (by omega)]
              exact (HB2.out.block B (by have := HSZR.out; omega)).trans HBXR.out
            · exact HBW2.out.trans ((Fr.setRow (F := fun k => k = g) _ rfl _).below HBW2.out.size (fun q hq => by have h : q = g := hq; have := HBE.out; omega))
          case measure => simp [intOf]; omega
        · go_wp2_with (refine wpList_store_row rfl (.tmp 52) (.tmp 51) 4 rfl g k rfl (.bool false) rfl cur _ (by kernel_rfl) HH.out hfit (by simp [Value.cells, Value.oneCell']) ?_)
          go_roundw
          case rel =>
            have hz := HSV.out
            have hst := HST.out 0 [.bool (sv t cls bs k (k + 1))] (by simp) (by simp [Value.oneCell']) (sv t cls bs k (k + 1)) (boolE_splice HRL.out _)
            rw [bck_step t cls bs k] at hst
            refine ⟨k + 1, by go_num, by omega, hst _ ?_, ?_, ?_⟩
            · simp only [Nat.mul_one, Nat.add_zero, hz]
              exact setRow_heap _ g _ _ _ (0, 0) HH.out
            · rw [setRow_other _ _ _ _ (by omega)]
              exact (HB2.out.block B (by have := HSZR.out; omega)).trans HBXR.out
            · exact HBW2.out.trans ((Fr.setRow (F := fun k => k = g) _ rfl _).below HBW2.out.size (fun q hq => by have h : q = g := hq; have := HBE.out; omega))
          case measure => simp [intOf]; omega
      · have hke : k = t.length := by omega
        subst hke
        clear hown hbx hb
        go_wp2_with fail
        go_ret
        exact ⟨_, _, rfl, HOWN.out.read.bools, img_same (img_bck HL.out) (fun p q => (M_1 (ps := ps) q p).symm), HBWR.out⟩

theorem moves_any (t : List Int) (back : Bool) (hn : t.length ≤ 50000) : ∀ x : Nd, MovesAt t back x
  | .mk op cls ps => by
    have ih : ∀ x ∈ ps, MovesAt t back x := fun x hx => by
      have := List.sizeOf_lt_of_mem hx
      exact moves_any t back hn x
    by_cases h0 : op = 0
    · subst h0; exact moves_0 t back cls ps hn
    by_cases h1 : op = 1
    · subst h1; cases back
      · exact moves_1_false t cls ps hn
      · exact moves_1_true t cls ps hn
    by_cases h2 : op = 2
    · subst h2; cases back
      · exact moves_2_false t cls ps hn ih
      · exact moves_2_true t cls ps hn ih
    by_cases h3 : op = 3
    · subst h3; exact moves_3 t back cls ps hn ih
    by_cases h4 : op = 4
    · subst h4; exact moves_4 t back cls ps hn ih
    by_cases h5 : op = 5
    · subst h5; exact moves_5 t back cls ps hn ih
    exact moves_else t back op cls ps hn h0 h1 h2 h3 h4 h5
  termination_by x => SizeOf.sizeOf x
  decreasing_by simp; omega
end Go.Proofs.Ytphgjppeindbaaa
