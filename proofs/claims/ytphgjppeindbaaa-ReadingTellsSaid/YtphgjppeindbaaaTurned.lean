/-
  ReadingTurned ends true. No condition beyond what each theorem names.
-/
import Derived.Test.YtphgjppeindbaaaTurn
import Derived.Test.YtphgjppeindbaaaLeft
set_option linter.unusedVariables false
set_option linter.unusedSimpArgs false
namespace Go.Proofs.Ytphgjppeindbaaa
open Go.RowKit

theorem turn_turn : ∀ (x : Nd), turnR (turnR x) = x
  | .mk op cls ps => by
    rw [turnR_mk, turnR_mk]
    congr 1
    rw [List.map_reverse, List.reverse_reverse, List.map_map]
    conv => rhs; rw [← List.map_id ps]
    refine List.map_congr_left fun x hx => ?_
    have := List.sizeOf_lt_of_mem hx
    exact turn_turn x
  termination_by x => SizeOf.sizeOf x
  decreasing_by simp; omega

def noStart (r : Rl) : Rl := ⟨r.left, r.right, r.brk, false⟩
def turnRule (r : Rl) : Rl := ⟨turnR r.right, turnR r.left, r.brk, false⟩

theorem turned_fits {s : List Int} {r : Rl} (hr : r.start = false) {p : Nat} (hp : p ≤ s.length) : fitsB (turnRule r) s.reverse ((s.length - p : Nat) : Int) = fitsB r s (p : Int) := by
  rw [Bool.eq_iff_iff, fitsB_iff, fitsB_iff]
  unfold FitsAt turnRule
  simp only [Int.toNat_natCast, hr, List.length_reverse]
  constructor
  · rintro ⟨h1, h2, ⟨a, h3, -⟩, b, h4, h5⟩
    have h6 := M_le h3
    have k3 := M_turn (t := s.reverse) (n := s.length) (by simp) _ (by omega) h3
    have k5 := M_turn (t := s.reverse) (n := s.length) (by simp) _ h4 h5
    rw [List.reverse_reverse, turn_turn, show s.length - (s.length - p) = p by omega] at k3 k5
    exact ⟨by omega, by omega, ⟨_, k5, fun h => by cases h⟩, _, by omega, k3⟩
  · rintro ⟨h1, h2, ⟨a, h3, -⟩, b, h4, h5⟩
    have k3 := M_turn (t := s) (n := s.length) rfl _ hp h3
    have k5 := M_turn (t := s) (n := s.length) rfl _ h4 h5
    exact ⟨by omega, by omega, ⟨_, k5, fun h => by cases h⟩, _, by omega, k3⟩

theorem find_map {l : List Rl} {f : Rl → Rl} {q : Rl → Bool} {d : Bool} (hb : ∀ r, (f r).brk = r.brk) : brkOr d ((l.map f).find? q) = brkOr d (l.find? (fun r => q (f r))) := by
  induction l with
  | nil => rfl
  | cons x r ih =>
    rw [List.map_cons, List.find?_cons, List.find?_cons]
    cases hq : q (f x)
    · exact ih
    · exact hb x

theorem turned_bnd {s : List Int} {l : List Rl} (hl : ∀ r ∈ l, r.start = false) {p : Nat} (hp : p ≤ s.length) : bndB (l.map turnRule) s.reverse (s.length - p) = bndB l s p := by
  by_cases h0 : p = 0 ∨ p = s.length
  · rw [bnd_end h0, bnd_end (by rw [List.length_reverse]; omega)]
    simp
  · rw [bnd_in (by omega) (by rw [List.length_reverse]; omega), bnd_in (by omega) (by omega), find_map (f := turnRule) (fun r => rfl), find_congr (fun r hr => turned_fits (hl r hr) hp)]

/-- the first k rules without Start -/
def nsTo (l : List Rl) (k : Nat) : List Rl := (l.take k).map noStart ++ l.drop k
theorem nsTo_length (l : List Rl) (k : Nat) (hk : k ≤ l.length) : (nsTo l k).length = l.length := by simp [nsTo]; omega
theorem nsTo_step {l : List Rl} {k : Nat} (hk : k < l.length) : (nsTo l k).set k (noStart l[k]) = nsTo l (k + 1) := by
  unfold nsTo
  have hl : ((l.take k).map noStart).length = k := by simp; omega
  rw [List.set_append, if_neg (by omega), hl, Nat.sub_self, List.drop_eq_getElem_cons hk, List.set_cons_zero, List.take_succ_eq_append_getElem hk, List.map_append, List.append_assoc]
  rfl
theorem nsTo_get {l : List Rl} {k : Nat} (hk : k < l.length) (h : k < (nsTo l k).length) : (nsTo l k)[k] = l[k] := by
  have hl : ((l.take k).map noStart).length = k := by simp; omega
  have h1 : (nsTo l k)[k]? = some l[k] := by
    unfold nsTo
    rw [List.getElem?_append_right (by omega), hl, Nat.sub_self]
    simp [hk]
  rw [List.getElem?_eq_getElem h] at h1
  exact Option.some.inj h1
theorem nsTo_get' {l : List Rl} {k : Nat} (hk : k < l.length) (h : k < (nsTo l (k + 1)).length) : (nsTo l (k + 1))[k] = noStart l[k] := by
  simp only [← nsTo_step hk, List.getElem_set_self]

/-- a rule, and all that it reaches lies in these blocks -/
def ruleF (F : Nat → Prop) (w : World) (r : Rl) (row : List Value) : Prop := ∃ a b c d e f, row = [a, b, c, d, e, f, .bool r.brk, .bool r.start] ∧ NodeF F w r.left a b c ∧ NodeF F w r.right d e f
theorem ruleF.is {F : Nat → Prop} {w : World} {r : Rl} {row : List Value} (h : ruleF F w r row) : RuleIs w r row := by
  obtain ⟨a, b, c, d, e, f, rfl, h1, h2⟩ := h
  exact ⟨a, b, c, d, e, f, rfl, h1.is, h2.is⟩
theorem ruleF.fr {F G : Nat → Prop} {w w' : World} {r : Rl} {row : List Value} (h : ruleF F w r row) (hf : Fr G w w') (hg : ∀ k, F k → ¬ G k) : ruleF F w' r row := by
  obtain ⟨a, b, c, d, e, f, rfl, h1, h2⟩ := h
  exact ⟨a, b, c, d, e, f, rfl, h1.fr hf hg, h2.fr hf hg⟩
theorem ruleF.below {F : Nat → Prop} {B : Nat} {w w' : World} {r : Rl} {row : List Value} (h : ruleF F w r row) (hb : Below B w w') (hB : w.heap.size ≤ B) : ruleF F w' r row := by
  obtain ⟨a, b, c, d, e, f, rfl, h1, h2⟩ := h
  exact ⟨a, b, c, d, e, f, rfl, h1.below hb hB, h2.below hb hB⟩
theorem ruleF.mono {F G : Nat → Prop} {w : World} {r : Rl} {row : List Value} (h : ruleF F w r row) (hg : ∀ k, F k → G k) : ruleF G w r row := by
  obtain ⟨a, b, c, d, e, f, rfl, h1, h2⟩ := h
  exact ⟨a, b, c, d, e, f, rfl, h1.mono hg, h2.mono hg⟩

set_option maxRecDepth 100000 in
set_option maxHeartbeats 8000000 in
theorem turned_law (w : World) (v tv : Value) (rs : List Rl) (t : List Int) (hr : rs.length ≤ 9223372036854775807) (hn : t.length ≤ 9223372036854775807) (hv : Rules w v rs) (ht : Ints w tv t) :
    Calls Try.prog 7 #[v, tv] w (Says true w) := by
  have HV := Lib.hid hv
  have HT := Lib.hid ht
  obtain ⟨pv0, cv0, hv0, -⟩ := hv.get
  obtain ⟨pt0, ct0, ht0, -⟩ := ht.get
  subst hv0 ht0
  clear hv ht
  go_enter Try.func7, Try.ntmps7
  go_wp2_with fail
  refine (shown_any w).mono ?_
  rintro e w1 ⟨rfl, hb1⟩
  have HB1 := Lib.hid hb1
  have HF := Lib.hid (few_from w w1 _ _ rs t hr hn (HT.out.to hb1 (Nat.le_refl _)) (HV.out.readL.below hb1 (Nat.le_refl _)) hb1)
  clear hb1
  go_wp2_with fail
  refine HF.out.mono ?_
  rintro e w2 ⟨v1, v2, rfl, ho1, ho2, hb2⟩
  have HB2 := Lib.hid (HB1.out.trans (hb2.mono HB1.out.size))
  have HSZ12 := Lib.hid hb2.size
  have HB12 := Lib.hid hb2
  have hl10 := fewR_len rs
  have hs16 : (t.take 16).length ≤ 16 := by simp; omega
  generalize fewR rs = l at *
  generalize t.take 16 = s at *
  have HAP := Lib.hid (ho1.apart ho2 (by decide))
  obtain ⟨p1, c1, rfl⟩ := ho1.form
  obtain ⟨p2, c2, rfl⟩ := ho2.form
  have HO1 := Lib.hid ho1
  have HO2 := Lib.hid ho2
  have HLT1 := Lib.hid ho1.lt
  clear ho1 ho2 hb2 HF
  go_upto_block 0 with fail
  go_cut [6] (fun uv wx => OwnL (RuleIs w) 35 8 w1.heap.size wx (.slice p1 l.length c1) (nsTo l l.length) ∧ OwnL intE 3 1 w1.heap.size wx (.slice p2 s.length c2) s ∧ OwnL (RuleIs wx) 35 8 w2.heap.size wx uv (l.map turnRule) ∧ Below w1.heap.size w1 wx ∧ w2.heap.size ≤ wx.heap.size)
  case first =>
    go_wp2_with fail
    go_loopw [6, 8] (fun uv i wr => ∃ k : Nat, i = .int .i64 k ∧ k ≤ l.length ∧ OwnL (RuleIs w) 35 8 w1.heap.size wr (.slice p1 l.length c1) (nsTo l k) ∧ OwnL intE 3 1 w1.heap.size wr (.slice p2 s.length c2) s ∧
      OwnL (ruleF (FF (fun k => k < w.heap.size) w2.heap.size wr uv) wr) 35 8 w2.heap.size wr uv ((l.take k).map turnRule) ∧ Below w1.heap.size w1 wr ∧ w2.heap.size ≤ wr.heap.size) (fun _ i _ => l.length - (intOf i).toNat)
    case atStart => exact ⟨0, rfl, by omega, HO1.out, HO2.out, OwnL.nil _, HB12.out, Nat.le_refl _⟩
    case round =>
      obtain ⟨k, rfl, h1, hown, hownt, hturn, hb, hsz⟩ := hrel
      have HOWN := Lib.hid hown
      have HOWT := Lib.hid hownt
      have HTN := Lib.hid hturn
      have HBR := Lib.hid hb
      have HSZ := Lib.hid hsz
      clear hown hownt hturn hb
      by_cases hk : k < l.length
      · have hky : k < (nsTo l k).length := by rw [nsTo_length l k h1]; exact hk
        obtain ⟨g, cap, cur, row, hve, hg, hheap, hrow, hrl, hrc, hE, hcsz, hst⟩ := HOWN.out.store (by omega) (k := k) hky
        rw [nsTo_length l k h1] at hve
        injection hve with e1 e2 e3
        subst e1 e3
        have hgl : g < w2.heap.size := (HLT1.out g rfl).2
        rw [nsTo_get hk] at hE
        have HE := Lib.hid hE
        obtain ⟨a, b, c, d, e, f, rfl, hx1, hx2⟩ := hE
        have HST := Lib.hid (hst 7 [.bool false] (by simp) (by simp [Value.oneCell']) (noStart l[k]) ⟨a, b, c, d, e, f, rfl, hx1, hx2⟩)
        rw [nsTo_step hk] at HST
        have HH := Lib.hid hheap
        have hfit : k * 8 + 7 + 1 ≤ cur.size := by omega
        have j0 : (0 : Int) ≤ k := by omega
        have j1 : (k : Int) < l.length := by omega
        have HX1 := Lib.hid hx1
        have HX2 := Lib.hid hx2
        have HGL := Lib.hid hgl
        have HG := Lib.hid hg
        clear hheap hrow hrl hrc hx1 hx2 hst e2 hcsz hky hgl hg
        go_upto_region 9 with (refine wpList_store_row rfl (.tmp 29) (.const (.bool false)) 4 rfl g (k * 8 + 7) rfl (.bool false) rfl cur _ (by kernel_rfl) HH.out hfit (by simp [Value.cells, Value.oneCell']) ?_)
        refine abs_wp fun W hW => ?_
        have hheap2 : W.heap[g]? = some (.cells (splice cur.toList (k * 8 + 7) [.bool false]).toArray 35) := by rw [hW]; exact setRow_heap _ g _ _ _ (0, 0) HH.out
        have HFR := Lib.hid (show Fr (fun k => k = g) wr W by rw [hW]; exact Fr.setRow (F := fun k => k = g) _ rfl _)
        have HOWN2 := Lib.hid (HST.out W hheap2)
        have hbW : Below w1.heap.size w1 W := HBR.out.trans (HFR.out.below HBR.out.size (fun q hq => by have h : q = g := hq; have := HG.out; omega))
        have HBW := Lib.hid hbW
        have HSZW := Lib.hid (Nat.le_trans HSZ.out HFR.out.size)
        have HOWT2 := Lib.hid (HOWT.out.fr HFR.out (fun q hq hqg => HAP.out g rfl (by rw [hq]; exact congrArg some hqg)))
        have HTN2 := Lib.hid (show OwnL (ruleF (FF (fun k => k < w.heap.size) w2.heap.size W u6) W) 35 8 w2.heap.size W u6 ((l.take k).map turnRule) from (HTN.out.fr HFR.out (fun q hq hqg => by have h1 := (HTN.out.lt q hq).1; have h2 := HGL.out; have h : q = g := hqg; omega)).mono fun x r hx => (hx.fr HFR.out (fun q hq hqg => by
            have h : q = g := hqg
            have h2 := HGL.out
            have h3 := HG.out
            have h4 := HB1.out.size
            rcases hq with h5 | ⟨h5, -⟩
            · have h6 : q < w.heap.size := h5
              omega
            · omega)).mono (fun q hq => by
              rcases hq with h5 | ⟨h5, h6, h7⟩
              · exact .inl h5
              · exact .inr ⟨h5, Nat.lt_of_lt_of_le h6 HFR.out.size, h7⟩))
        obtain ⟨p', c', hpe, -, hxg⟩ := HOWN2.out.read.get (by omega)
        rw [nsTo_length l (k + 1) (by omega)] at hpe
        obtain ⟨g', off', hpe2, hgl2, hxx⟩ := hxg (by rw [nsTo_length l (k + 1) (by omega)]; omega)
        injection hpe with e1 e2 e3
        rw [hpe2] at e1
        injection e1 with e1
        injection e1 with e4 e5
        subst e4 e5
        obtain ⟨row, hrow, hE⟩ := hxx k (by rw [nsTo_length l (k + 1) (by omega)]; exact hk)
        rw [nsTo_get' hk] at hE
        obtain ⟨a, b, c, d, e, f, rfl, hx1, hx2⟩ := hE
        have HN1 := Lib.hid (show NodeF (fun k => k < w.heap.size) w l[k].left a b c from hx1.foot)
        have HN2 := Lib.hid (show NodeF (fun k => k < w.heap.size) w l[k].right d e f from hx2.foot)
        obtain ⟨pu, cu, hu6⟩ := HTN2.out.form
        have hul : ((l.take k).map turnRule).length = k := by simp; omega
        rw [hul] at hu6
        subst hu6
        have HSS := Lib.hid (show ∀ W', Below W.heap.size W W' → (W'.cell? ⟨g, k * 8, none⟩ = some a ∧ W'.cell? ⟨g, k * 8 + 1, none⟩ = some b ∧ W'.cell? ⟨g, k * 8 + 2, none⟩ = some c ∧ W'.cell? ⟨g, k * 8 + 3, none⟩ = some d ∧ W'.cell? ⟨g, k * 8 + 4, none⟩ = some e ∧ W'.cell? ⟨g, k * 8 + 5, none⟩ = some f ∧ W'.cell? ⟨g, k * 8 + 6, none⟩ = some (.bool l[k].brk)) from fun W' hW' => by
          have q0 := cell_below hW' hgl2 (hrow 0 _ rfl)
          have q1 := cell_below hW' hgl2 (hrow 1 _ rfl)
          have q2 := cell_below hW' hgl2 (hrow 2 _ rfl)
          have q3 := cell_below hW' hgl2 (hrow 3 _ rfl)
          have q4 := cell_below hW' hgl2 (hrow 4 _ rfl)
          have q5 := cell_below hW' hgl2 (hrow 5 _ rfl)
          have q6 := cell_below hW' hgl2 (hrow 6 _ rfl)
          simp only [Nat.zero_add, Nat.add_zero] at q0 q1 q2 q3 q4 q5 q6
          exact ⟨q0, q1, q2, q3, q4, q5, q6⟩)
        have HBW0 := Lib.hid (HB1.out.trans (hbW.mono HB1.out.size))
        clear hW hheap2 hbW hxg hgl2 hxx hrow hx1 hx2 hul e2 e3
        refine wp_region_plan (fun W' => W'.cell? ⟨g, k * 8, none⟩ = some a ∧ W'.cell? ⟨g, k * 8 + 1, none⟩ = some b ∧ W'.cell? ⟨g, k * 8 + 2, none⟩ = some c ∧ W'.cell? ⟨g, k * 8 + 3, none⟩ = some d ∧ W'.cell? ⟨g, k * 8 + 4, none⟩ = some e ∧ W'.cell? ⟨g, k * 8 + 5, none⟩ = some f ∧ W'.cell? ⟨g, k * 8 + 6, none⟩ = some (.bool l[k].brk))
          (.reads [0, 1, 2, 3, 4, 5, 7, 8, 9, 10, 11, 13, 14, 15, 16, 17] (.one 6 (.one 12 (.reads [18] (.one 19 (.one 20 (.reads [21] .done))))))) 96 (by kernel_rfl) (by kernel_rfl) rfl (fun _ _ _ _ _ h => h) (HSS.out _ (Below.refl _ _).drew) ?_
        apply plan_reads
        · intro W' hW'
          obtain ⟨s0, s1, s2, s3, s4, s5, s6⟩ := hW'
          repeat (refine wpRead_step (fun K hK => ?_); go_simp; refine hK _ ?_; clear hK K)
          exact wpRead_nil rfl
        refine abs_plan fun W0 hW0 => ?_
        have HB0 := Lib.hid (show Below W.heap.size W W0 by rw [hW0]; exact (Below.refl _ _).drew)
        clear hW0
        have HC1 := Lib.hid (turn_any l[k].right (fun k => k < w.heap.size) W0 d e f (HN2.out.below (HBW0.out.trans (HB0.out.mono HBW0.out.size)) (Nat.le_refl _)) (fun q hq => by have h1 := HBW0.out.size; have h2 := HB0.out.size; have h3 : q < w.heap.size := hq; omega))
        refine plan_one rfl ?_
        go_wp2_with fail
        refine HC1.out.mono ?_
        rintro e1 W1 ⟨d', e', f', rfl, hn1, hb1⟩
        have HB01 := Lib.hid (HB0.out.trans (hb1.mono HB0.out.size))
        have HT1 := Lib.hid (hn1.lt)
        have HZ1 := Lib.hid (show W.heap.size ≤ W0.heap.size from HB0.out.size)
        clear hn1 hb1 HC1
        go_wp2_with fail
        refine Then.mk (HSS.out _ HB01.out) ?_
        have HC2 := Lib.hid (turn_any l[k].left (fun k => k < w.heap.size) W1 a b c (HN1.out.below (HBW0.out.trans (HB01.out.mono HBW0.out.size)) (Nat.le_refl _)) (fun q hq => by have h1 := HBW0.out.size; have h2 := HB01.out.size; have h3 : q < w.heap.size := hq; omega))
        refine plan_one rfl ?_
        go_wp2_with fail
        refine HC2.out.mono ?_
        rintro e2 W2 ⟨a', b', c', rfl, hn2, hb2⟩
        have HB02 := Lib.hid (HB01.out.trans (hb2.mono HB01.out.size))
        have HT2 := Lib.hid (hn2.lt)
        have HT12 := Lib.hid (HT1.out.below hb2 (Nat.le_refl _))
        have HZ2 := Lib.hid (show W1.heap.size ≤ W2.heap.size from hb2.size)
        have HZ0 := Lib.hid (show W.heap.size ≤ W1.heap.size from HB01.out.size)
        have HNEWE := Lib.hid (show ruleF (fun q => q < w.heap.size ∨ (w2.heap.size ≤ q ∧ q < W2.heap.size ∧ (Value.slice pu k cu).ownBlock ≠ some q)) W2 (turnRule l[k]) [d', e', f', a', b', c', .bool l[k].brk, .bool false] from ⟨d', e', f', a', b', c', rfl, NodeF.mono (fun q hq => by
            have h1 := HZ1.out
            have h2 := HZ2.out
            have h3 := HSZW.out
            rcases hq with ⟨h | h, h4⟩
            · exact .inl h
            · exact .inr ⟨by omega, by omega, fun he => by have := (HTN2.out.lt q he).2; omega⟩) _ HT12.out, NodeF.mono (fun q hq => by
            have h1 := HZ0.out
            have h3 := HSZW.out
            rcases hq with ⟨h | h, h4⟩
            · exact .inl h
            · exact .inr ⟨by omega, h4, fun he => by have := (HTN2.out.lt q he).2; omega⟩) _ HT2.out⟩)
        clear hn2 hb2 HC2
        go_wp2_with fail
        refine Then.mk (HSS.out _ HB02.out) ?_
        apply plan_reads
        · intro W' hW'
          repeat (refine wpRead_step (fun K hK => ?_); go_simp; refine hK _ ?_; clear hK K)
          exact wpRead_nil rfl
        refine plan_one rfl ?_
        have ha := below_alloc1 W2 (.cells #[d', e', f', a', b', c', .bool l[k].brk, .bool false] 35)
        have HB3' := Lib.hid (HB02.out.trans (ha.mono HB02.out.size))
        have HAL := Lib.hid ha
        clear ha
        go_wp2_with fail
        refine Then.mk (HSS.out _ HB3'.out) ?_
        refine abs_plan fun W3 hW3 => ?_
        have HB3 := Lib.hid (show Below W.heap.size W W3 by rw [hW3]; exact HB3'.out)
        have HB23 := Lib.hid (show Below W2.heap.size W2 W3 by rw [hW3]; exact HAL.out)
        have HSZ3 := Lib.hid (show W2.heap.size < W3.heap.size by rw [hW3]; simp)
        have HNEW := Lib.hid (show ReadL (ruleF (fun q => q < w.heap.size ∨ (w2.heap.size ≤ q ∧ q < W2.heap.size ∧ (Value.slice pu k cu).ownBlock ≠ some q)) W3) 8 W3 (.slice (some ⟨W2.heap.size, 0, none⟩) 1 1) [turnRule l[k]] by
          have h := HNEWE.out.below HB23.out (Nat.le_refl _)
          have h' := HNEWE.out.is.cells
          rw [hW3] at h ⊢
          exact ReadL.one W2 _ _ _ h' h)
        have HOLD := Lib.hid (show OwnL (ruleF (fun q => q < w.heap.size ∨ (w2.heap.size ≤ q ∧ q < W2.heap.size ∧ (Value.slice pu k cu).ownBlock ≠ some q)) W3) 35 8 w2.heap.size W3 (.slice pu k cu) ((l.take k).map turnRule) from (HTN2.out.below HB3.out (Nat.le_refl _)).mono fun x r hx => (hx.below HB3.out (Nat.le_refl _)).mono (fun q hq => by
            have h1 := HZ0.out
            have h2 := HZ2.out
            rcases hq with h | ⟨h, h5, h3⟩
            · exact .inl h
            · exact .inr ⟨h, by omega, h3⟩))
        clear hW3
        refine plan_one rfl ?_
        refine wpList_append_rules rfl (.tmp 30) (.tmp 49) rfl (.slice pu k cu) ((l.take k).map turnRule) rfl HOLD.out (.slice (some ⟨W2.heap.size, 0, none⟩) 1 1) [turnRule l[k]] rfl HNEW.out (by simp; omega) (Nat.le_trans HSZW.out HB3.out.size) ?_
        intro p4 c4 w4 hown4 hg4 hlie4
        have hl4 : ((l.take k).map turnRule).length + [turnRule l[k]].length = k + 1 := by simp; omega
        rw [hl4] at hown4 hlie4 ⊢
        have HOW4 := Lib.hid (show OwnL (ruleF (FF (fun k => k < w.heap.size) w2.heap.size w4 (.slice p4 (k + 1) c4)) w4) 35 8 w2.heap.size w4 (.slice p4 (k + 1) c4) ((l.take (k + 1)).map turnRule) by
          rw [List.take_succ_eq_append_getElem hk, List.map_append]
          refine hown4.mono fun x r hx => ((hx.fr (Fr.grown (F := fun q => (Value.slice pu k cu).ownBlock = some q) hg4 (fun q h => h)) (fun q hq he => ?_)).mono (fun q hq => ?_))
          · have h1 := (HTN2.out.lt q he).1
            have h2 := HSZ12.out
            have h3 := HB1.out.size
            rcases hq with h | ⟨h, h5, h6⟩
            · omega
            · exact h6 he
          · have h5 := HSZ3.out
            have h6 := hg4.size
            rcases hq with h | ⟨h, h2, h3⟩
            · exact .inl h
            · refine .inr ⟨h, by omega, fun he => ?_⟩
              rcases hlie4 with h7 | h7
              · exact h3 (h7 ▸ he)
              · rw [he] at h7; injection h7 with h7; omega)
        have HFR4 := Lib.hid (show Fr (fun q => w2.heap.size ≤ q) W w4 from (Fr.of_below (HB3.out) _).trans (Fr.grown (F := fun q => w2.heap.size ≤ q) hg4 (fun q hq => (HTN2.out.lt q hq).1)) (fun _ _ h => h))
        have HSS4 := Lib.hid (show (w4.cell? ⟨g, k * 8, none⟩ = some a ∧ w4.cell? ⟨g, k * 8 + 1, none⟩ = some b ∧ w4.cell? ⟨g, k * 8 + 2, none⟩ = some c ∧ w4.cell? ⟨g, k * 8 + 3, none⟩ = some d ∧ w4.cell? ⟨g, k * 8 + 4, none⟩ = some e ∧ w4.cell? ⟨g, k * 8 + 5, none⟩ = some f ∧ w4.cell? ⟨g, k * 8 + 6, none⟩ = some (.bool l[k].brk)) from by
          obtain ⟨q0, q1, q2, q3, q4, q5, q6⟩ := HSS.out W (Below.refl _ _)
          have hn : ¬ w2.heap.size ≤ g := by have := HGL.out; omega
          exact ⟨HFR4.out.cell hn q0, HFR4.out.cell hn q1, HFR4.out.cell hn q2, HFR4.out.cell hn q3, HFR4.out.cell hn q4, HFR4.out.cell hn q5, HFR4.out.cell hn q6⟩)
        clear hown4 hg4 hlie4 hl4
        go_wp2_with fail
        refine Then.mk HSS4.out ?_
        apply plan_reads
        · intro W' hW'
          repeat (refine wpRead_step (fun K hK => ?_); go_simp; refine hK _ ?_; clear hK K)
          exact wpRead_nil rfl
        refine plan_done ?_
        go_wp2_with fail
        go_roundw
        case rel =>
          have hbe := HFR4.out.below HSZW.out (fun k hk => hk)
          refine ⟨k + 1, by go_num, by omega, ?_, ?_, HOW4.out, HBW.out.trans (hbe.mono (by have := HSZ12.out; omega)), Nat.le_trans HSZW.out HFR4.out.size⟩
          · exact HOWN2.out.fr HFR4.out (fun q hq he => by
              have h : g = q := by simpa [Value.ownBlock] using hq
              have h1 : w2.heap.size ≤ q := he
              have := HGL.out
              omega)
          · exact HOWT2.out.fr HFR4.out (fun q hq he => by
              have h1 : w2.heap.size ≤ q := he
              have := (HO2.out.lt q hq).2
              omega)
        case measure => simp [intOf]; omega
      · have hke : k = l.length := by omega
        subst hke
        have HTE := Lib.hid (show l.take l.length = l from List.take_length)
        go_wp2_with fail
        go_meet
        case rel => exact ⟨HOWN.out, HOWT.out, by have h := HTN.out; rw [HTE.out] at h; exact h.mono (fun x r hx => hx.is), HBR.out, HSZ.out⟩
  case rest =>
    obtain ⟨hown, hownt, hturn, hbc, hszc⟩ := hcut
    have hns : nsTo l l.length = l.map noStart := by unfold nsTo; rw [List.take_length, List.drop_length, List.append_nil]
    rw [hns] at hown
    have HBW := Lib.hid (HB1.out.trans (hbc.mono HB1.out.size))
    have HRL := Lib.hid (show Rules wc (.slice p1 l.length c1) (l.map noStart) from hown.read.rules HBW.out)
    have HIN := Lib.hid (show Ints wc (.slice p2 s.length c2) s from hownt.read.ints)
    have HRT := Lib.hid (show Rules wc u6 (l.map turnRule) from hturn.read.rules (Below.refl _ _))
    obtain ⟨pu, cu, rfl⟩ := hturn.form
    have hlt : (l.map turnRule).length = l.length := by simp
    obtain ⟨pz, cz, hz, hcz, hxz⟩ := HIN.out.get
    injection hz with e1 e2 e3
    subst e1 e3
    have HXZ := Lib.hid hxz
    rw [hlt] at HRT ⊢
    clear hown hownt hturn hbc hszc hns e2 hxz hlt
    go_wp2_with fail
    go_loopw [7, 9] (fun bv i wr => ∃ k : Nat, i = .int .i64 ((k : Int) - 1) ∧ k ≤ s.length ∧ OwnL intE 3 1 wc.heap.size wr bv (s.drop k).reverse ∧ Below wc.heap.size wc wr) (fun _ i _ => (intOf i + 1).toNat)
    case atStart => exact ⟨s.length, rfl, Nat.le_refl _, by rw [List.drop_length]; exact OwnL.nil _, Below.refl _ _⟩
    case round =>
      obtain ⟨k, rfl, h1, hown, hb⟩ := hrel
      have HOWN := Lib.hid hown
      have HBR := Lib.hid hb
      clear hown
      by_cases hk : 1 ≤ k
      · obtain ⟨m, hm⟩ : ∃ m, k = m + 1 := ⟨k - 1, by omega⟩
        subst hm
        have hmk : m < s.length := by omega
        obtain ⟨bi, oi, rfl, hbi, hyi⟩ := HXZ.out (by omega)
        have y0 := cell_below hb hbi (hyi m hmk)
        have HSTEP := Lib.hid (show (s.drop m).reverse = (s.drop (m + 1)).reverse ++ [s[m]] by rw [List.drop_eq_getElem_cons hmk, List.reverse_cons])
        have hmm : ((m + 1 : Nat) : Int) - 1 = m := by omega
        rw [hmm]
        have j0 : (0 : Int) ≤ m := by omega
        have j1 : (m : Int) < s.length := by omega
        generalize s[m] = sm at *
        have ha := below_alloc1 wr (.cells #[.int .i64 sm] 3)
        have HA := Lib.hid ha
        have HO2 := Lib.hid (HOWN.out.below ha (Nat.le_refl _))
        have HRD := Lib.hid (ReadL.one (E := intE) (sz := 1) wr 3 sm [.int .i64 sm] (by simp [Value.oneCell']) rfl)
        have HSZ := Lib.hid (Nat.le_trans hb.size ha.size)
        have HLEN := Lib.hid (show (s.drop (m + 1)).reverse.length + [sm].length ≤ 1000000 by simp; omega)
        clear ha hyi hb hmm
        go_wp2_with (at_builtin; refine wpList_append_ints rfl (.tmp 58) (.tmp 63) rfl u7 (s.drop (m + 1)).reverse rfl HO2.out _ [sm] rfl HRD.out HLEN.out HSZ.out ?_)
        intro p5 c5 w5 hown hg _
        have HB5 := Lib.hid ((HBR.out.trans (HA.out.mono HBR.out.size)).grown hg HSZ.out (fun k hk => (HO2.out.lt k hk).1))
        have HOW5 := Lib.hid hown
        clear hown hg y0
        go_wp2_with fail
        go_roundw
        case rel => exact ⟨m, congrArg (Value.int .i64) (by omega), by omega, by rw [HSTEP.out]; exact HOW5.out, HB5.out⟩
        case measure => simp [intOf]
      · have hk0 : k = 0 := by omega
        have HK0 := Lib.hid hk0
        have hneg : ¬ (0 : Int) ≤ (k : Int) - 1 := by omega
        have hneg2 : (k : Int) - 1 < 0 := by omega
        have hown := HOWN.out
        rw [hk0] at hown
        simp only [List.drop_zero] at hown
        obtain ⟨p7, c7, rfl⟩ := hown.form
        have hlr : s.reverse.length = s.length := List.length_reverse
        have HBK := Lib.hid (show Ints wr (.slice p7 s.length c7) s.reverse by have := hown.read.ints; rwa [hlr] at this)
        rw [hlr]
        have HBWR := Lib.hid (HBW.out.trans (hb.mono HBW.out.size))
        have HC1 := Lib.hid (bounds_any wr _ _ (l.map noStart) s (by omega) (by simp; omega) (HIN.out.to hb (Nat.le_refl _)) (HRL.out.to hb (Nat.le_refl _)))
        clear hk0 hown hlr hb
        go_wp2_with fail
        refine HC1.out.mono ?_
        rintro e w3 ⟨va, rfl, hba, hb3⟩
        obtain ⟨ba, oa, ca, rfl, hca, hbla, hya⟩ := hba.bnds
        have HYA := Lib.hid hya
        have HB3 := Lib.hid (HBR.out.trans (hb3.mono HBR.out.size))
        have HC2 := Lib.hid (bounds_any w3 _ _ (l.map turnRule) s.reverse (by simp; omega) (by simp; omega) (HBK.out.to hb3 (Nat.le_refl _)) (HRT.out.to HB3.out (Nat.le_refl _)))
        clear hba hya hb3 HC1
        go_wp2_with fail
        refine HC2.out.mono ?_
        rintro e w4 ⟨vb, rfl, hbb, hb4⟩
        obtain ⟨bb, ob, cb, rfl, hcb, hblb, hyb⟩ := hbb.bnds
        have hlr : s.reverse.length = s.length := List.length_reverse
        rw [hlr] at hyb hcb ⊢
        have HYB := Lib.hid hyb
        have HB34 := Lib.hid hb4
        have HBW4 := Lib.hid (HBW.out.trans ((HB3.out.trans (hb4.mono HB3.out.size)).mono HBW.out.size))
        have HTB := Lib.hid (fun (p : Nat) (hp : p ≤ s.length) => turned_bnd (s := s) (l := l.map noStart) (fun r hr => by obtain ⟨r', -, rfl⟩ := List.mem_map.1 hr; rfl) hp)
        have HMM := Lib.hid (show (l.map noStart).map turnRule = l.map turnRule by rw [List.map_map]; rfl)
        clear hbb hyb hb4 hlr HC2
        go_wp2_with fail
        go_loopw [12] (fun i wz => ∃ m : Nat, i = .int .i64 m ∧ m ≤ s.length + 1 ∧ Below w4.heap.size w4 wz) (fun i _ => s.length + 1 - (intOf i).toNat)
        case atStart => exact ⟨0, rfl, by omega, Below.refl _ _⟩
        case round =>
          obtain ⟨m, rfl, h2, hb⟩ := hrel
          have HB2 := Lib.hid hb
          by_cases hm : m < s.length + 1
          · obtain ⟨q, hq⟩ : ∃ q, q = s.length - m := ⟨_, rfl⟩
            have hq2 : m + q = s.length := by omega
            have ya := cell_below hb (Nat.lt_of_lt_of_le hbla HB34.out.size) (cell_below HB34.out hbla (HYA.out m (by omega)))
            have yb := cell_below hb hblb (HYB.out q (by omega))
            have htb := HTB.out m (by omega)
            rw [HMM.out, ← hq] at htb
            rw [htb] at yb
            generalize bndB (l.map noStart) s m = ans at *
            have hne : (ans != ans) = false := by simp
            have hqi : (s.length : Int) + 1 - 1 - m = q := by omega
            have hqi2 : (s.length : Int) - m = q := by omega
            have j3 : m ≤ s.length := by omega
            have j5 : q ≤ s.length := by omega
            have j6 : q < s.length + 1 := by omega
            have j7 : (m : Int) < (s.length : Int) + 1 := by omega
            have j8 : (q : Int) < (s.length : Int) + 1 := by omega
            have HQ2 := Lib.hid hq2
            clear hb htb hq hq2
            go_wp2_with fail
            go_quiet (fail)
            go_wp2_with fail
            go_roundw
            case rel => exact ⟨m + 1, by go_num, by omega, below_drewN HB2.out _⟩
            case measure => simp [intOf]; omega
          · clear hb
            go_wp2_with fail
            go_ret
            exact Says.mk rfl (HBW4.out.trans (HB2.out.mono HBW4.out.size))
end Go.Proofs.Ytphgjppeindbaaa
