/-
  ReadingParts ends true. No condition beyond what each theorem names.
-/
import Derived.Test.YtphgjppeindbaaaV
set_option linter.unusedVariables false
set_option linter.unusedSimpArgs false
namespace Go.Proofs.Ytphgjppeindbaaa
open Go.RowKit

theorem fewR_two {x y : Rl} (h : 2 ≤ (fewR [x, y]).length) : fewR [x, y] = [x, y] := by
  unfold fewR at *
  exact (List.filter_sublist).eq_of_length_le h

theorem alt_fits (x y : Nd) (t : List Int) (p : Int) : fitsB ⟨.mk 3 [] [x, y], .mk 0 [] [], false, false⟩ t p = (fitsB ⟨x, .mk 0 [] [], false, false⟩ t p || fitsB ⟨y, .mk 0 [] [], false, false⟩ t p) := by
  rw [Bool.eq_iff_iff, Bool.or_eq_true, fitsB_iff, fitsB_iff, fitsB_iff]
  constructor
  · rintro ⟨h1, h2, ⟨a, h3, h4⟩, h5⟩
    have h3' : Malt t [x, y] a p.toNat := by unfold M at h3; simpa using h3
    simp only [Malt, or_false] at h3'
    rcases h3' with h3' | h3'
    · exact .inl ⟨h1, h2, ⟨a, h3', h4⟩, h5⟩
    · exact .inr ⟨h1, h2, ⟨a, h3', h4⟩, h5⟩
  · rintro (⟨h1, h2, ⟨a, h3, h4⟩, h5⟩ | ⟨h1, h2, ⟨a, h3, h4⟩, h5⟩)
    · exact ⟨h1, h2, ⟨a, by unfold M; simp [Malt]; exact .inl h3, h4⟩, h5⟩
    · exact ⟨h1, h2, ⟨a, by unfold M; simp [Malt]; exact .inr h3, h4⟩, h5⟩

theorem opt_fits (x : Nd) (t : List Int) (p : Int) : fitsB ⟨.mk 5 [] [x], .mk 0 [] [], false, true⟩ t p = (fitsB ⟨x, .mk 0 [] [], false, true⟩ t p || p == 0) := by
  rw [Bool.eq_iff_iff, Bool.or_eq_true, fitsB_iff, fitsB_iff, beq_iff_eq]
  constructor
  · rintro ⟨h1, h2, ⟨a, h3, h4⟩, h5⟩
    have h6 := h4 rfl
    subst h6
    unfold M at h3
    simp only [List.length_singleton, true_and, show ¬ (5 : Int) = 0 by decide, show ¬ (5 : Int) = 1 by decide, show ¬ (5 : Int) = 2 by decide, show ¬ (5 : Int) = 3 by decide, show ¬ (5 : Int) = 4 by decide, if_false, if_true] at h3
    rcases h3 with h3 | h3
    · exact .inr (by omega)
    · exact .inl ⟨h1, h2, ⟨0, Malt_one.1 h3, h4⟩, h5⟩
  · rintro (⟨h1, h2, ⟨a, h3, h4⟩, h5⟩ | rfl)
    · exact ⟨h1, h2, ⟨a, by unfold M; simp; exact .inr (Malt_one.2 h3), h4⟩, h5⟩
    · exact ⟨by omega, by omega, ⟨0, by unfold M; simp, fun _ => rfl⟩, 0, Nat.zero_le _, by unfold M; simp⟩

theorem rule_left {w : World} {x : Nd} {a b c : Value} (h : NodeIs w x a b c) (st : Bool) : RuleIs w ⟨x, .mk 0 [] [], false, st⟩ [a, b, c, .int .i64 0, .slice none 0 0, .slice none 0 0, .bool false, .bool st] := ⟨_, _, _, _, _, _, rfl, h, nodeZ w⟩

theorem NodeIs.row {w : World} {x : Nd} {a b c : Value} (h : NodeIs w x a b c) : ndRow [a, b, c] := by
  obtain ⟨op, p, l, c1, q, m, d, rfl, rfl, rfl⟩ := h.form
  exact ⟨_, _, _, _, _, _, _, rfl⟩

theorem nodes_two {w W : World} {x y : Nd} {a b c a2 b2 c2 : Value} {g : Nat} {T : TypeId} (hb : W.heap[g]? = some (.cells #[a, b, c, a2, b2, c2] T)) (hx : NodeIs W x a b c) (hy : NodeIs W y a2 b2 c2) : Nodes W (.slice (some ⟨g, 0, none⟩) 2 2) [x, y] :=
  Nodes.mk (rows := [[a, b, c], [a2, b2, c2]]) (Raw.of_block (cs := [a, b, c, a2, b2, c2]) hb) rfl (fun r hr => by
    simp at hr
    rcases hr with rfl | rfl
    · exact hx.row
    · exact hy.row) (fun i hi => by
    match i, hi with
    | 0, _ => exact ⟨a, b, c, rfl, hx⟩
    | 1, _ => exact ⟨a2, b2, c2, rfl, hy⟩)

theorem nodes_one {w W : World} {x : Nd} {a b c : Value} {g : Nat} {T : TypeId} (hb : W.heap[g]? = some (.cells #[a, b, c] T)) (hx : NodeIs W x a b c) : Nodes W (.slice (some ⟨g, 0, none⟩) 1 1) [x] :=
  Nodes.mk (rows := [[a, b, c]]) (Raw.of_block (cs := [a, b, c]) hb) rfl (fun r hr => by
    simp at hr
    subst hr
    exact hx.row) (fun i hi => by
    match i, hi with
    | 0, _ => exact ⟨a, b, c, rfl, hx⟩)

set_option maxRecDepth 100000 in
set_option maxHeartbeats 8000000 in
theorem parts_law (w : World) (tv : Value) (x y : Nd) (a b c a2 b2 c2 : Value) (t : List Int) (p : Int) (hn : t.length ≤ 9223372036854775807) (hx : NodeIs w x a b c) (hy : NodeIs w y a2 b2 c2) (ht : Ints w tv t) :
    Calls Try.prog 9 #[.agg #[a, b, c], .agg #[a2, b2, c2], tv, .int .i64 p] w (Says true w) := by
  have HX := Lib.hid hx
  have HY := Lib.hid hy
  have HT := Lib.hid ht
  obtain ⟨pt0, ct0, ht0, -⟩ := ht.get
  subst ht0
  clear ht hx hy
  go_enter Try.func9, Try.ntmps9
  go_upto_region 1 with fail
  refine abs_wp fun W hW => ?_
  obtain ⟨B, hB⟩ : ∃ B, B = w.heap.size := ⟨_, rfl⟩
  have hbx : W.heap[B]? = some (.cells #[a, b, c] 33) := by rw [hW, hB]; exact heap_alloc2_old _ _ _
  have hby : W.heap[B + 1]? = some (.cells #[a2, b2, c2] 33) := by rw [hW, hB]; exact heap_alloc2_new _ _ _
  have hbW : Below w.heap.size w W := by rw [hW]; exact (below_alloc1 w _).alloc (by simp) _
  have HBX := Lib.hid hbx
  have HBY := Lib.hid hby
  have HBW := Lib.hid hbW
  rw [← hB]
  clear hW hbx hby hbW hB
  go_wp2_with fail
  refine (shown_any W).mono ?_
  rintro e1 w1 ⟨rfl, hb1⟩
  have HX1 := Lib.hid ((hb1.block B (at_lt HBX.out)).trans HBX.out)
  have HY1 := Lib.hid ((hb1.block (B + 1) (at_lt HBY.out)).trans HBY.out)
  have HB1 := Lib.hid (HBW.out.trans (hb1.mono HBW.out.size))
  obtain ⟨x0, x1, x2⟩ := cells3 HX1.out
  obtain ⟨y0, y1, y2⟩ := cells3 HY1.out
  have ha := below_alloc1 w1 (.cells #[a, b, c, .int .i64 0, .slice none 0 0, .slice none 0 0, .bool false, .bool false, a2, b2, c2, .int .i64 0, .slice none 0 0, .slice none 0 0, .bool false, .bool false] 35)
  have HA := Lib.hid ha
  have HR2 := Lib.hid (ReadL.block (T := 35) (E := RuleIs w) (sz := 8) (cs := [a, b, c, .int .i64 0, .slice none 0 0, .slice none 0 0, .bool false, .bool false, a2, b2, c2, .int .i64 0, .slice none 0 0, .slice none 0 0, .bool false, .bool false]) (heap_alloc_new w1 _)
    [⟨x, .mk 0 [] [], false, false⟩, ⟨y, .mk 0 [] [], false, false⟩] [[a, b, c, .int .i64 0, .slice none 0 0, .slice none 0 0, .bool false, .bool false], [a2, b2, c2, .int .i64 0, .slice none 0 0, .slice none 0 0, .bool false, .bool false]] rfl rfl rfl
    (fun r hr => by
      simp only [List.mem_cons, List.not_mem_nil, or_false] at hr
      rcases hr with rfl | rfl
      · exact (rule_left HX.out false).cells
      · exact (rule_left HY.out false).cells) (fun i hi => by
      match i, hi with
      | 0, _ => exact ⟨_, rfl, rule_left HX.out false⟩
      | 1, _ => exact ⟨_, rfl, rule_left HY.out false⟩))
  have HF1 := Lib.hid (few_from w (w1.alloc (.cells #[a, b, c, .int .i64 0, .slice none 0 0, .slice none 0 0, .bool false, .bool false, a2, b2, c2, .int .i64 0, .slice none 0 0, .slice none 0 0, .bool false, .bool false] 35)) (.slice (some ⟨w1.heap.size, 0, none⟩) 2 2) _ [⟨x, .mk 0 [] [], false, false⟩, ⟨y, .mk 0 [] [], false, false⟩] t (by simp) hn (HT.out.to (HB1.out.trans (HA.out.mono HB1.out.size)) (Nat.le_refl _)) HR2.out (HB1.out.trans (HA.out.mono HB1.out.size)))
  clear hb1 ha
  go_wp2_with fail
  refine HF1.out.mono ?_
  rintro e2 w2 ⟨v1, v2, rfl, ho1, ho2, hb2⟩
  have hb12 := HA.out.trans (hb2.mono HA.out.size)
  have HB2 := Lib.hid (HB1.out.trans (hb12.mono HB1.out.size))
  have HX2 := Lib.hid ((hb12.block B (at_lt HX1.out)).trans HX1.out)
  have HY2 := Lib.hid ((hb12.block (B + 1) (at_lt HY1.out)).trans HY1.out)
  have hRL := ho1.read
  have hIN := ho2.read.ints
  have hs16 : (t.take 16).length ≤ 16 := by simp; omega
  generalize t.take 16 = s at *
  have HTWO := Lib.hid (fewR_two (x := ⟨x, .mk 0 [] [], false, false⟩) (y := ⟨y, .mk 0 [] [], false, false⟩))
  generalize fewR [⟨x, .mk 0 [] [], false, false⟩, ⟨y, .mk 0 [] [], false, false⟩] = l at *
  obtain ⟨p1, c1, rfl, hc1, hx1⟩ := hRL.get (by omega)
  obtain ⟨p2, cc2, rfl, hc2, hx2⟩ := hIN.get
  have HIN := Lib.hid hIN
  have HXO := Lib.hid hx1
  clear ho1 ho2 hb2 hb12 HF1 hIN hx2 hx1 hRL x0 x1 x2 y0 y1 y2 HR2
  by_cases hl2 : l.length < 2
  · have hl3 : (l.length : Int) < 2 := by omega
    go_wp2_with fail
    go_ret
    exact Says.mk rfl HB2.out
  have hl3 : ¬ (l.length : Int) < 2 := by omega
  obtain rfl := HTWO.out (by omega)
  obtain ⟨bb, off, rfl, hbl, hxx⟩ := HXO.out (by simp)
  obtain ⟨row, hrow, hri⟩ := hxx 0 (by simp)
  obtain ⟨row', hrow', hri'⟩ := hxx 1 (by simp)
  have HRI := Lib.hid hri
  have HRI' := Lib.hid hri'
  obtain ⟨d0, d1, d2, d3, d4, d5, rfl, -, -⟩ := hri
  obtain ⟨f0, f1, f2, f3, f4, f5, rfl, -, -⟩ := hri'
  have HRX := Lib.hid (show RuleIs w ⟨x, .mk 0 [] [], false, false⟩ [d0, d1, d2, d3, d4, d5, .bool false, .bool false] from HRI.out)
  have HRY := Lib.hid (show RuleIs w ⟨y, .mk 0 [] [], false, false⟩ [f0, f1, f2, f3, f4, f5, .bool false, .bool false] from HRI'.out)
  have K0 := Lib.hid (show cellsAt w2 bb (off + 0) [d0, d1, d2, d3, d4, d5, .bool false, .bool false] from hrow)
  have K1 := Lib.hid (show cellsAt w2 bb (off + 8) [f0, f1, f2, f3, f4, f5, .bool false, .bool false] from hrow')
  simp only [List.length_cons, List.length_nil] at hc1 hl3
  clear hxx hrow hrow' hl2 HRI HRI'
  go_upto_region 6 with fail
  generalize (bits BinOp.and IntKind.i64 p 255).tmod ((s.length : Int) + 1) = q
  have k0 := K0.out 0 _ rfl
  have k1 := K0.out 1 _ rfl
  have k2 := K0.out 2 _ rfl
  have k3 := K0.out 3 _ rfl
  have k4 := K0.out 4 _ rfl
  have k5 := K0.out 5 _ rfl
  have k6 := K0.out 6 _ rfl
  have k7 := K0.out 7 _ rfl
  simp only [Nat.add_zero] at k0 k1 k2 k3 k4 k5 k6 k7
  have HC1 := Lib.hid (fits_any w2 s _ _ _ q (by omega) HIN.out (HRX.out.to HB2.out (Nat.le_refl _)))
  go_wp2_with fail
  refine HC1.out.mono ?_
  rintro e w3 ⟨rfl, hb3⟩
  have k0' := cell_below hb3 hbl (K1.out 0 _ rfl)
  have k1' := cell_below hb3 hbl (K1.out 1 _ rfl)
  have k2' := cell_below hb3 hbl (K1.out 2 _ rfl)
  have k3' := cell_below hb3 hbl (K1.out 3 _ rfl)
  have k4' := cell_below hb3 hbl (K1.out 4 _ rfl)
  have k5' := cell_below hb3 hbl (K1.out 5 _ rfl)
  have k6' := cell_below hb3 hbl (K1.out 6 _ rfl)
  have k7' := cell_below hb3 hbl (K1.out 7 _ rfl)
  simp only [Nat.add_zero, Nat.add_assoc, Nat.reduceAdd] at k0' k1' k2' k3' k4' k5' k6' k7'
  have HB3 := Lib.hid hb3
  have HC2 := Lib.hid (fits_any w3 s _ _ _ q (by omega) (HIN.out.to hb3 (Nat.le_refl _)) (HRY.out.to (HB2.out.trans (hb3.mono HB2.out.size)) (Nat.le_refl _)))
  clear hb3 k0 k1 k2 k3 k4 k5 k6 k7 HC1
  go_wp2_with fail
  refine HC2.out.mono ?_
  rintro e w4 ⟨rfl, hb4⟩
  have HB4 := Lib.hid (HB3.out.trans (hb4.mono HB3.out.size))
  have HX4 := Lib.hid ((HB4.out.block B (at_lt HX2.out)).trans HX2.out)
  have HY4 := Lib.hid ((HB4.out.block (B + 1) (at_lt HY2.out)).trans HY2.out)
  obtain ⟨x0, x1, x2⟩ := cells3 HX4.out
  obtain ⟨y0, y1, y2⟩ := cells3 HY4.out
  have HBW4 := Lib.hid (HB2.out.trans (HB4.out.mono HB2.out.size))
  have hA4 := below_alloc1 w4 (.cells #[a, b, c, a2, b2, c2] 33)
  have hbW4 := HBW4.out.trans (hA4.mono HBW4.out.size)
  have HC3 := Lib.hid (fits_any (w4.alloc (.cells #[a, b, c, a2, b2, c2] 33)) s ⟨.mk 3 [] [x, y], .mk 0 [] [], false, false⟩ [.int .i64 3, .slice none 0 0, .slice (some ⟨w4.heap.size, 0, none⟩) 2 2, .int .i64 0, .slice none 0 0, .slice none 0 0, .bool false, .bool false] _ q (by omega)
    ((HIN.out.to HB4.out (Nat.le_refl _)).to hA4 (Nat.le_refl _))
    (rule_left (nodeIs_iff.2 ⟨rfl, Ints.nil _, by unfold R; simp, by unfold R; simp, nodes_two (w := w) (heap_alloc_new w4 _) (HX.out.to hbW4 (Nat.le_refl _)) (HY.out.to hbW4 (Nat.le_refl _))⟩) false))
  rw [alt_fits] at HC3
  have HA4 := Lib.hid hA4
  clear hb4 k0' k1' k2' k3' k4' k5' k6' k7' hA4 hbW4 HC2
  go_wp2_with fail
  refine HC3.out.mono ?_
  rintro e w5 ⟨rfl, hb5⟩
  have HB5 := Lib.hid (HB4.out.trans ((HA4.out.trans (hb5.mono HA4.out.size)).mono HB4.out.size))
  clear hb5 x0 x1 x2 y0 y1 y2 HC3
  have HX5 := Lib.hid ((HB5.out.block B (at_lt HX2.out)).trans HX2.out)
  obtain ⟨x0, x1, x2⟩ := cells3 HX5.out
  have HBW5 := Lib.hid (HB2.out.trans (HB5.out.mono HB2.out.size))
  have hA5 := below_alloc1 w5 (.cells #[a, b, c] 33)
  have hbW5 := HBW5.out.trans (hA5.mono HBW5.out.size)
  have HC4 := Lib.hid (fits_any (w5.alloc (.cells #[a, b, c] 33)) s ⟨.mk 5 [] [x], .mk 0 [] [], false, true⟩ [.int .i64 5, .slice none 0 0, .slice (some ⟨w5.heap.size, 0, none⟩) 1 1, .int .i64 0, .slice none 0 0, .slice none 0 0, .bool false, .bool true] _ q (by omega)
    ((HIN.out.to HB5.out (Nat.le_refl _)).to hA5 (Nat.le_refl _))
    (rule_left (nodeIs_iff.2 ⟨rfl, Ints.nil _, by unfold R; simp, by unfold R; simp, nodes_one (w := w) (heap_alloc_new w5 _) (HX.out.to hbW5 (Nat.le_refl _))⟩) true))
  rw [opt_fits] at HC4
  have HA5 := Lib.hid hA5
  clear hA5 hbW5
  go_wp2_with fail
  refine HC4.out.mono ?_
  rintro e w6 ⟨rfl, hb6⟩
  have HB6 := Lib.hid (HB5.out.trans ((HA5.out.trans (hb6.mono HA5.out.size)).mono HB5.out.size))
  clear hb6 x0 x1 x2 HC4
  have HX6 := Lib.hid ((HB6.out.block B (at_lt HX2.out)).trans HX2.out)
  obtain ⟨x0, x1, x2⟩ := cells3 HX6.out
  have HBW6 := Lib.hid (HB2.out.trans (HB6.out.mono HB2.out.size))
  have HC5 := Lib.hid (fits_any w6 s _ _ _ q (by omega) (HIN.out.to HB6.out (Nat.le_refl _)) ((rule_left HX.out true).to HBW6.out (Nat.le_refl _)))
  go_wp2_with fail
  refine HC5.out.mono ?_
  rintro e w7 ⟨rfl, hb7⟩
  have HB7 := Lib.hid (HBW6.out.trans (hb7.mono HBW6.out.size))
  clear hb7 x0 x1 x2 HC5
  generalize fitsB ⟨x, .mk 0 [] [], false, false⟩ s q = o1
  generalize fitsB ⟨y, .mk 0 [] [], false, false⟩ s q = o2
  generalize fitsB ⟨x, .mk 0 [] [], false, true⟩ s q = o3
  by_cases hq : q = 0
  · have hq' : (q == 0) = true := by simp [hq]
    clear hq
    simp only [hq', Bool.or_true]
    cases o1 <;> cases o2 <;> cases o3
    all_goals
      go_wp2_with fail
      go_ret
      exact Says.mk rfl HB7.out
  · have hq' : (q == 0) = false := by simp [hq]
    clear hq
    simp only [hq', Bool.or_false]
    cases o1 <;> cases o2 <;> cases o3
    all_goals
      go_wp2_with fail
      go_ret
      exact Says.mk rfl HB7.out
end Go.Proofs.Ytphgjppeindbaaa
