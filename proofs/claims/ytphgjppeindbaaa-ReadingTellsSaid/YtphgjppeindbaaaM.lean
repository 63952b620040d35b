/-
  few: rules that are not too deep, and a text that is not too long. No condition beyond what each theorem names.
-/
import Derived.Test.YtphgjppeindbaaaL
set_option linter.unusedVariables false
set_option linter.unusedSimpArgs false
namespace Go.Proofs.Ytphgjppeindbaaa
open Go.RowKit

theorem infoRule : (Try.prog.info? 35).map (fun i => (i.zero, i.size, i.bytes)) = some (some (.agg #[.int .i64 0, .slice none 0 0, .slice none 0 0, .int .i64 0, .slice none 0 0, .slice none 0 0, .bool false, .bool false]), 8, 120) := by kernel_rfl
theorem infoInt : (Try.prog.info? 3).map (fun i => (i.zero, i.size, i.bytes)) = some (some (.int .i64 0), 1, 8) := by kernel_rfl

def keepR (r : Rl) : Bool := decide (deepI 12 r.left ≤ 8) && decide (deepI 12 r.right ≤ 8) && decide (countI r.left ≤ 60) && decide (countI r.right ≤ 60)
def fewR (rs : List Rl) : List Rl := (rs.take 10).filter keepR

theorem Ints.take {w : World} {p : Option Addr} {n cap : Nat} {xs : List Int} (h : Ints w (.slice p n cap) xs) {k : Nat} (hk : k ≤ n) : Ints w (.slice p k cap) (xs.take k) := by
  obtain ⟨p', c', he, hc, hx⟩ := h
  injection he with he1 he2 he3
  subst he1 he2 he3
  have hl : (xs.take k).length = k := by rw [List.length_take]; omega
  refine ⟨p, cap, by rw [hl], by omega, fun h0 => ?_⟩
  obtain ⟨b, off, hb, hx⟩ := hx (by simp at h0 ⊢; omega)
  refine ⟨b, off, hb, fun j u hu => hx j u ?_⟩
  rw [List.map_take, List.getElem?_take] at hu
  split at hu
  · exact hu
  · cases hu

/-- what few leaves; the rules' own slices as they lay in an elder world -/
def FewPost0 (w0 w : World) (rs : List Rl) (t : List Int) (e : Ending) (w' : World) : Prop :=
  ∃ v1 v2, e = .returned (.tuple #[v1, v2]) ∧ OwnL (RuleIs w0) 35 8 w.heap.size w' v1 (fewR rs) ∧ OwnL intE 3 1 w.heap.size w' v2 (t.take 16) ∧ Below w.heap.size w w'
def FewPost (w : World) (rs : List Rl) (t : List Int) (e : Ending) (w' : World) : Prop :=
  ∃ v1 v2, e = .returned (.tuple #[v1, v2]) ∧ OwnL (RuleIs w) 35 8 w.heap.size w' v1 (fewR rs) ∧ OwnL intE 3 1 w.heap.size w' v2 (t.take 16) ∧ Below w.heap.size w w'

theorem ReadL.get {α : Type} {E : α → List Value → Prop} {sz : Nat} {w : World} {v : Value} {rs : List α} (h : ReadL E sz w v rs) (hs : 0 < sz) : ∃ p cap, v = .slice p rs.length cap ∧ rs.length ≤ cap ∧ (0 < rs.length → ∃ b off, p = some ⟨b, off, none⟩ ∧ b < w.heap.size ∧
    ∀ i (h : i < rs.length), ∃ row, cellsAt w b (off + i * sz) row ∧ E rs[i] row) := by
  obtain ⟨rows, h1, h2, h3, h4⟩ := h
  have hr : Rows w sz v rows := ⟨fun r hr => (h3 r hr).1, by rwa [h2]⟩
  obtain ⟨p, cap, rfl, h5, h6⟩ := hr.get hs
  rw [h2] at h5 h6
  refine ⟨p, cap, by rw [h2], h5, fun h0 => ?_⟩
  obtain ⟨b, off, rfl, h7, h8⟩ := h6 h0
  refine ⟨b, off, rfl, h7, fun i hi => ?_⟩
  obtain ⟨row, h9, h10⟩ := h4 i hi
  exact ⟨row, h8 i _ h9, h10⟩

theorem filter_step {q : Rl → Bool} {rs : List Rl} {k : Nat} (h : k < rs.length) : (rs.take (k + 1)).filter q = (rs.take k).filter q ++ (if q rs[k] then [rs[k]] else []) := by
  rw [List.take_succ_eq_append_getElem h, List.filter_append]
  congr 1
  cases hq : q rs[k] <;> simp [hq]

theorem keep_no {r : Rl} {a b c d : Int} (h1 : deepI 12 r.left = a) (h2 : deepI 12 r.right = b) (h3 : countI r.left = c) (h4 : countI r.right = d) : keepR r = (decide (a ≤ 8) && decide (b ≤ 8) && decide (c ≤ 60) && decide (d ≤ 60)) := by
  subst h1 h2 h3 h4; rfl

set_option maxHeartbeats 4000000 in
theorem few_from (w0 w : World) (v tv : Value) (rs : List Rl) (t : List Int) (hr : rs.length ≤ 9223372036854775807) (hn : t.length ≤ 9223372036854775807) (ht : Ints w tv t) (hv : ReadL (RuleIs w0) 8 w v rs) (hw0 : Below w0.heap.size w0 w) :
    Calls Try.prog 12 #[v, tv] w (FewPost0 w0 w rs t) := by
  obtain ⟨pt, capt, rfl, hct, -⟩ := ht.get
  obtain ⟨pr, capr, rfl, hcr, hxr⟩ := hv.get (by omega)
  have HXR := Lib.hid hxr
  have HT := Lib.hid ht
  have HW0 := Lib.hid hw0
  clear ht hv hxr hw0
  obtain ⟨i0, hi, hz0, hz1, hz2⟩ := info_parts infoRule
  have HI := Lib.hid (And.intro hi (And.intro hz0 (And.intro hz1 hz2)))
  clear hi hz0 hz1 hz2
  go_enter Try.func12, Try.ntmps12
  go_upto_block 0 with fail
  go_cut [6, 7] (fun out _ wx => OwnL (RuleIs w0) 35 8 w.heap.size wx out (fewR rs) ∧ Below w.heap.size w wx)
  case first =>
    go_wp2_with fail
    go_loopw [6, 7] (fun out i wr => ∃ k : Nat, i = .int .i64 k ∧ k ≤ rs.length ∧ k ≤ 10 ∧ OwnL (RuleIs w0) 35 8 w.heap.size wr out ((rs.take k).filter keepR) ∧ Below w.heap.size w wr) (fun _ i _ => rs.length - (intOf i).toNat)
    case atStart => exact ⟨0, rfl, by omega, by omega, OwnL.nil _, Below.refl _ _⟩
    case round =>
      obtain ⟨k, rfl, h1, h2, hown, hb⟩ := hrel
      have HOWN := Lib.hid hown
      have HB := Lib.hid hb
      have hs0 := hb.size
      clear hown
      by_cases hk : k < rs.length
      · by_cases hk10 : k < 10
        · obtain ⟨bb, off, rfl, hbl, hx⟩ := HXR.out (by omega)
          obtain ⟨row, hrow, hri⟩ := hx k hk
          have HRI := Lib.hid hri
          obtain ⟨a, b, c, d, e, f, rfl, hx1, hx2⟩ := hri
          have k0 := hrow 0 _ rfl
          have k1 := hrow 1 _ rfl
          have k2 := hrow 2 _ rfl
          have k3 := hrow 3 _ rfl
          have k4 := hrow 4 _ rfl
          have k5 := hrow 5 _ rfl
          have k6 := hrow 6 _ rfl
          have k7 := hrow 7 _ rfl
          simp only [Nat.add_zero] at k0
          have K0 := Lib.hid k0
          have K1 := Lib.hid k1
          have K2 := Lib.hid k2
          have K3 := Lib.hid k3
          have K4 := Lib.hid k4
          have K5 := Lib.hid k5
          have K6 := Lib.hid k6
          have K7 := Lib.hid k7
          have HX1 := Lib.hid (hx1.to HW0.out (Nat.le_refl _))
          have HX2 := Lib.hid (hx2.to HW0.out (Nat.le_refl _))
          have HST := Lib.hid (filter_step (q := keepR) hk)
          have hfl : ((rs.take k).filter keepR).length ≤ 10 := Nat.le_trans (List.length_filter_le _ _) (by simp; omega)
          obtain ⟨r, hrr⟩ : ∃ r, r = rs[k] := ⟨_, rfl⟩
          rw [← hrr] at HX1 HX2 HRI K6 K7 HST
          obtain ⟨dl, hdl⟩ : ∃ x, deepI 12 r.left = x := ⟨_, rfl⟩
          obtain ⟨dr, hdr⟩ : ∃ x, deepI 12 r.right = x := ⟨_, rfl⟩
          obtain ⟨cl, hcl⟩ : ∃ x, countI r.left = x := ⟨_, rfl⟩
          obtain ⟨cr, hcr'⟩ : ∃ x, countI r.right = x := ⟨_, rfl⟩
          have HK := Lib.hid (keep_no hdl hdr hcl hcr')
          have HD1 := Lib.hid (fun (W : World) (hb : Below w.heap.size w W) => deep_any 12 (by omega) r.left W a b c (HX1.out.to hb (Nat.le_refl _)))
          have HD2 := Lib.hid (fun (W : World) (hb : Below w.heap.size w W) => deep_any 12 (by omega) r.right W d e f (HX2.out.to hb (Nat.le_refl _)))
          have HC1 := Lib.hid (fun (W : World) (hb : Below w.heap.size w W) => count_any r.left W a b c (HX1.out.to hb (Nat.le_refl _)))
          have HC2 := Lib.hid (fun (W : World) (hb : Below w.heap.size w W) => count_any r.right W d e f (HX2.out.to hb (Nat.le_refl _)))
          rw [hdl] at HD1
          rw [hdr] at HD2
          rw [hcl] at HC1
          rw [hcr'] at HC2
          have HFL := Lib.hid hfl
          have hfin : ∀ W, Below wr.heap.size wr W → keepR r = false → OwnL (RuleIs w0) 35 8 w.heap.size W u6 ((rs.take (k + 1)).filter keepR) ∧ Below w.heap.size w W := by
            intro W hW hk
            rw [HST.out, hk]
            simp only [Bool.false_eq_true, if_false, List.append_nil]
            exact ⟨HOWN.out.below hW (Nat.le_refl _), HB.out.trans (hW.mono hs0)⟩
          have HFIN := Lib.hid hfin
          clear hx hrow hx1 hx2 k0 k1 k2 k3 k4 k5 k6 k7 hrr hdl hdr hcl hcr' hfin hfl
          have g0 := cell_below hb hbl K0.out
          have g1 := cell_below hb hbl K1.out
          have g2 := cell_below hb hbl K2.out
          go_wp2_with fail
          refine (HD1.out _ HB.out).mono ?_
          rintro e1 w1 ⟨rfl, hb1⟩
          have HB1 := Lib.hid hb1
          have HBW1 := Lib.hid (hb.trans (hb1.mono hs0))
          clear g0 g1 g2 hb1
          by_cases c1 : dl ≤ 8
          · have g3 := cell_below HBW1.out hbl K3.out
            have g4 := cell_below HBW1.out hbl K4.out
            have g5 := cell_below HBW1.out hbl K5.out
            go_wp2_with fail
            refine (HD2.out _ HBW1.out).mono ?_
            rintro e2 w2 ⟨rfl, hb2⟩
            have HB2 := Lib.hid (HB1.out.trans (hb2.mono HB1.out.size))
            have HBW2 := Lib.hid (HBW1.out.trans (hb2.mono HBW1.out.size))
            clear g3 g4 g5 hb2
            by_cases c2 : dr ≤ 8
            · have g0 := cell_below HBW2.out hbl K0.out
              have g1 := cell_below HBW2.out hbl K1.out
              have g2 := cell_below HBW2.out hbl K2.out
              go_wp2_with fail
              refine (HC1.out _ HBW2.out).mono ?_
              rintro e3 w3 ⟨rfl, hb3⟩
              have HB3 := Lib.hid (HB2.out.trans (hb3.mono HB2.out.size))
              have HBW3 := Lib.hid (HBW2.out.trans (hb3.mono HBW2.out.size))
              clear g0 g1 g2 hb3
              by_cases c3 : cl ≤ 60
              · have g3 := cell_below HBW3.out hbl K3.out
                have g4 := cell_below HBW3.out hbl K4.out
                have g5 := cell_below HBW3.out hbl K5.out
                go_wp2_with fail
                refine (HC2.out _ HBW3.out).mono ?_
                rintro e4 w4 ⟨rfl, hb4⟩
                have HB4 := Lib.hid (HB3.out.trans (hb4.mono HB3.out.size))
                have HBW4 := Lib.hid (HBW3.out.trans (hb4.mono HBW3.out.size))
                clear g3 g4 g5 hb4
                by_cases c4 : cr ≤ 60
                · have HKY := Lib.hid (show keepR r = true by rw [HK.out]; simp [c1, c2, c3, c4])
                  have g0 := cell_below HBW4.out hbl K0.out
                  have g1 := cell_below HBW4.out hbl K1.out
                  have g2 := cell_below HBW4.out hbl K2.out
                  have g3 := cell_below HBW4.out hbl K3.out
                  have g4 := cell_below HBW4.out hbl K4.out
                  have g5 := cell_below HBW4.out hbl K5.out
                  have g6 := cell_below HBW4.out hbl K6.out
                  have g7 := cell_below HBW4.out hbl K7.out
                  have hA : Below w4.heap.size w4 (w4.alloc (.cells #[a, b, c, d, e, f, .bool r.brk, .bool r.start] 35)) := (Below.refl _ _).alloc (Nat.le_refl _) _
                  have HA := Lib.hid hA
                  have HO4 := Lib.hid ((HOWN.out.below HB4.out (Nat.le_refl _)).below hA (Nat.le_refl _))
                  have HRD := Lib.hid (show ReadL (RuleIs w0) 8 (w4.alloc (.cells #[a, b, c, d, e, f, .bool r.brk, .bool r.start] 35)) (.slice (some ⟨w4.heap.size, 0, none⟩) 1 1) [r] from
                    ReadL.block (cs := [a, b, c, d, e, f, .bool r.brk, .bool r.start]) (heap_alloc_new _ _) [r] [[a, b, c, d, e, f, .bool r.brk, .bool r.start]] (by simp) rfl rfl (fun q hq => by
                      obtain rfl := List.mem_singleton.1 hq
                      exact HRI.out.cells) (fun i hi => by
                      obtain rfl : i = 0 := by simpa using hi
                      exact ⟨_, rfl, HRI.out⟩))
                  have hsz4 : w.heap.size ≤ w4.heap.size := HBW4.out.size
                  have HM := Lib.hid (show (([] : List Rl).length ≤ 0) by simp)
                  clear hA
                  go_wp2_with (at_builtin; refine wpList_append_L rfl (.tmp 52) (.tmp 57) 22 rfl i0 _ 120 Try.underlying22 HI.out.1 HI.out.2.1 HI.out.2.2.1 HI.out.2.2.2 rfl (by decide) u6 _ rfl HO4.out _ [r] rfl HRD.out (by have := HFL.out; simp [maxLen]; omega) (by have := HFL.out; simp; omega) (by simp; omega) ?_)
                  intro p cc w' hown' hgrow hlie
                  have HO' := Lib.hid hown'
                  have HG' := Lib.hid hgrow
                  clear hown' hgrow hlie g0 g1 g2 g3 g4 g5 g6 g7
                  go_wp2_with fail
                  go_roundw
                  case rel =>
                    refine ⟨k + 1, by go_num, by omega, by omega, by rw [HST.out, HKY.out]; simpa using HO'.out, ?_⟩
                    exact (HBW4.out.trans (HA.out.mono hsz4)).grown HG'.out (by simp; omega) (fun j hj => (HOWN.out.lt j hj).1)
                  case measure => simp [intOf]; omega
                · have HF := Lib.hid (HFIN.out w4 HB4.out (by rw [HK.out]; simp [c4]))
                  go_wp2_with fail
                  go_roundw
                  case rel => exact ⟨k + 1, by go_num, by omega, by omega, HF.out.1, HF.out.2⟩
                  case measure => simp [intOf]; omega
              · have HF := Lib.hid (HFIN.out w3 HB3.out (by rw [HK.out]; simp [c3]))
                go_wp2_with fail
                go_roundw
                case rel => exact ⟨k + 1, by go_num, by omega, by omega, HF.out.1, HF.out.2⟩
                case measure => simp [intOf]; omega
            · have HF := Lib.hid (HFIN.out w2 HB2.out (by rw [HK.out]; simp [c2]))
              go_wp2_with fail
              go_roundw
              case rel => exact ⟨k + 1, by go_num, by omega, by omega, HF.out.1, HF.out.2⟩
              case measure => simp [intOf]; omega
          · have HF := Lib.hid (HFIN.out w1 HB1.out (by rw [HK.out]; simp [c1]))
            go_wp2_with fail
            go_roundw
            case rel => exact ⟨k + 1, by go_num, by omega, by omega, HF.out.1, HF.out.2⟩
            case measure => simp [intOf]; omega
        · have HF := Lib.hid (show fewR rs = (rs.take k).filter keepR by rw [show k = 10 by omega]; rfl)
          go_wp2_with fail
          go_meet
          exact ⟨by rw [HF.out]; exact HOWN.out, HB.out⟩
      · have HF := Lib.hid (show fewR rs = (rs.take k).filter keepR by unfold fewR; rw [List.take_of_length_le (by omega), List.take_of_length_le (by omega)])
        go_wp2_with fail
        go_meet
        exact ⟨by rw [HF.out]; exact HOWN.out, HB.out⟩
  case rest =>
    obtain ⟨hown, hb⟩ := hcut
    have HOWN := Lib.hid hown
    have HB := Lib.hid hb
    have hs0 := hb.size
    clear hown hb
    obtain ⟨j0, hj, hj0, hj1, hj2⟩ := info_parts infoInt
    have HJ := Lib.hid (And.intro hj (And.intro hj0 (And.intro hj1 hj2)))
    clear hj hj0 hj1 hj2
    have hbe : Below wc.heap.size wc (wc.alloc (.cells #[] 3)) := (Below.refl _ _).alloc (Nat.le_refl _) _
    have HBE := Lib.hid hbe
    have HTT := Lib.hid ((HT.out.to HB.out (Nat.le_refl _)).to hbe (Nat.le_refl _))
    have hE : OwnL intE 3 1 w.heap.size (wc.alloc (.cells #[] 3)) (.slice (some ⟨wc.heap.size, 0, none⟩) 0 0) [] := ⟨[], World.ownsRow_made wc #[] 0 (by omega) (by unfold maxLen; omega) rfl, rfl, by simp, fun i h => by simp at h⟩
    have HE := Lib.hid hE
    clear hbe hE
    have hfin : ∀ (p : Option Addr) (c : Nat) (W : World) (m : Nat) (ys : List Int), OwnL intE 3 1 w.heap.size W (.slice p m c) ys → ys = t.take 16 → (wc.alloc (.cells #[] 3)).grownBy W (some wc.heap.size) → FewPost0 w0 w rs t (.returned (.tuple #[u6, .slice p m c])) W := by
      intro p c W m ys h1 h2 h3
      have hb1 : Below w.heap.size w W := (HB.out.trans (HBE.out.mono hs0)).grown h3 (by simp; omega) (fun k hk => by cases hk; exact hs0)
      refine ⟨_, _, rfl, ?_, by rw [← h2]; exact h1, hb1⟩
      refine (HOWN.out.below HBE.out (Nat.le_refl _)).fr (Fr.grown (F := fun k => k = wc.heap.size) h3 (fun k hk => by cases hk; rfl)) (fun k hk e => ?_)
      have := (HOWN.out.lt k hk).2
      omega
    have HFIN := Lib.hid hfin
    clear hfin
    cases pt with
    | none =>
      have h0 : t = [] := by
        obtain ⟨p', c', he, -, hx⟩ := HT.out
        injection he with he1 he2 he3
        subst he1
        cases t with
        | nil => rfl
        | cons x r => obtain ⟨b, off, e, -⟩ := hx (by simp); cases e
      subst h0
      have hRD : ReadL intE 1 (wc.alloc (.cells #[] 3)) (.slice none 0 capt) [] := ⟨[], ⟨none, capt, rfl, Nat.zero_le _, fun h => by simp at h⟩, rfl, by simp, fun i h => by simp at h⟩
      have HRD := Lib.hid hRD
      clear hRD
      go_wp2_with (at_builtin; refine wpList_append_L rfl (.tmp 60) (.tmp 65) 23 rfl j0 _ 8 Try.underlying23 HJ.out.1 HJ.out.2.1 HJ.out.2.2.1 HJ.out.2.2.2 rfl (by decide) _ [] rfl HE.out _ [] rfl HRD.out (by simp [maxLen]) (by simp) (by simp; omega) ?_)
      intro p cc w' hown' hgrow hlie
      go_wp2
      go_ret2
      exact HFIN.out _ _ _ _ _ hown' rfl hgrow
    | some ad =>
      by_cases h16 : t.length ≤ 16
      · have HRD := Lib.hid (show ReadL intE 1 (wc.alloc (.cells #[] 3)) (.slice (some ad) t.length capt) t from HTT.out.readL)
        have h17 : ¬ (16 : Int) < t.length := by omega
        go_wp2_with (at_builtin; refine wpList_append_L rfl (.tmp 60) (.tmp 65) 23 rfl j0 _ 8 Try.underlying23 HJ.out.1 HJ.out.2.1 HJ.out.2.2.1 HJ.out.2.2.2 rfl (by decide) _ [] rfl HE.out _ t rfl HRD.out (by simp [maxLen]; omega) (by simp; omega) (by simp; omega) ?_)
        intro p cc w' hown' hgrow hlie
        go_wp2
        go_ret2
        exact HFIN.out _ _ _ _ _ hown' (List.take_of_length_le h16).symm hgrow
      · have hl : (t.take 16).length = 16 := by rw [List.length_take]; omega
        have hRD : ReadL intE 1 (wc.alloc (.cells #[] 3)) (.slice (some ad) 16 capt) (t.take 16) := by
          have := (HTT.out.take (k := 16) (by omega))
          have := this.readL
          exact this
        have HRD := Lib.hid hRD
        have HL := Lib.hid hl
        have h17 : (16 : Int) < t.length := by omega
        clear hRD hl
        go_wp2_with (at_builtin; refine wpList_append_L rfl (.tmp 60) (.tmp 65) 23 rfl j0 _ 8 Try.underlying23 HJ.out.1 HJ.out.2.1 HJ.out.2.2.1 HJ.out.2.2.2 rfl (by decide) _ [] rfl HE.out _ (t.take 16) rfl HRD.out (by rw [HL.out]; simp [maxLen]) (by rw [HL.out]; simp) (by simp; omega) ?_)
        intro p cc w' hown' hgrow hlie
        go_wp2
        go_ret2
        exact HFIN.out _ _ _ _ _ hown' rfl hgrow
theorem few_any (w : World) (v tv : Value) (rs : List Rl) (t : List Int) (hr : rs.length ≤ 9223372036854775807) (hn : t.length ≤ 9223372036854775807) (ht : Ints w tv t) (hv : Rules w v rs) :
    Calls Try.prog 12 #[v, tv] w (FewPost w rs t) := few_from w w v tv rs t hr hn ht hv.readL (Below.refl _ _)
end Go.Proofs.Ytphgjppeindbaaa
