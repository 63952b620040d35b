/-
  NfaRights. No condition beyond what each theorem names.
-/
import Derived.Test.YtodkeiadaodehaaMK
import Derived.Test.YtodkeiadaodehaaML
set_option linter.unusedVariables false
set_option linter.unusedSimpArgs false
namespace Go.Proofs.Ytodkeiadaodehaa
open Go.RowKit

set_option maxRecDepth 100000 in
set_option maxHeartbeats 8000000 in
theorem rights_law (w : World) (x : Nd) (a b c : Value) (hx : NodeIs w x a b c) :
    Calls Try.prog 7 #[.agg #[a, b, c]] w (Says true w) := by
  have HX := Lib.hid hx
  obtain ⟨op, pp, l, c1, q, m, d, rfl, rfl, rfl⟩ := hx.form
  clear hx
  go_enter Try.func7, Try.ntmps7
  go_upto_region 1 with fail
  refine abs_wp fun W hW => ?_
  obtain ⟨B, hB⟩ : ∃ B, B = w.heap.size := ⟨_, rfl⟩
  have hbox : W.heap[B]? = some (.cells #[.int .i64 op, .slice pp l c1, .slice q m d] 25) := by rw [hW, hB]; exact heap_alloc_new _ _
  have hbe : Below w.heap.size w W := by rw [hW]; exact below_alloc1 _ _
  rw [← hB]
  have HBE := Lib.hid hbe
  have HBOX := Lib.hid hbox
  clear hW hbox hbe hB
  go_wp2_with fail
  refine (shown_any W).mono ?_
  rintro e w1 ⟨rfl, hb1⟩
  have HB1 := Lib.hid (HBE.out.trans (hb1.mono HBE.out.size))
  have HX1 := Lib.hid ((hb1.block _ (at_lt HBOX.out)).trans HBOX.out)
  clear hb1
  obtain ⟨x0, x1, x2⟩ := cells3 HX1.out
  have HM := Lib.hid (most_any x w1 1 _ _ _ (HX.out.to HB1.out (Nat.le_refl _)) (by omega))
  go_wp2_with fail
  refine HM.out.mono ?_
  rintro e w2 ⟨hab, hb2⟩
  obtain ⟨t, rfl⟩ := hab
  have HB2 := Lib.hid (HB1.out.trans (hb2.mono HB1.out.size))
  have HX2 := Lib.hid ((hb2.block _ (at_lt HX1.out)).trans HX1.out)
  clear hb2 x0 x1 x2
  obtain ⟨x0, x1, x2⟩ := cells3 HX2.out
  cases t
  case true =>
    go_wp2_with fail
    go_ret
    exact ⟨ret_val rfl, HB2.out⟩
  -- the turned, turned
  have HR1 := Lib.hid (rrev_any x w2 _ _ _ (HX.out.to HB2.out (Nat.le_refl _)))
  go_wp2_with fail
  refine HR1.out.mono ?_
  rintro e w3 ⟨a3, b3, c3, rfl, hn3, hb3⟩
  have HB3 := Lib.hid (HB2.out.trans (hb3.mono HB2.out.size))
  have HX3 := Lib.hid ((hb3.block _ (at_lt HX2.out)).trans HX2.out)
  have HR2 := Lib.hid (rrev_any (revX x) w3 _ _ _ hn3.is)
  clear hb3 hn3 x0 x1 x2
  go_wp2_with fail
  refine HR2.out.mono ?_
  rintro e w4 ⟨a4, b4, c4, rfl, hn4, hb4⟩
  have HB4 := Lib.hid (HB3.out.trans (hb4.mono HB3.out.size))
  have HX4 := Lib.hid ((hb4.block _ (at_lt HX3.out)).trans HX3.out)
  have hn4' := hn4.is
  rw [rev_rev] at hn4'
  obtain ⟨o1, p1, l1, d1, q1, m1, e1, rfl, rfl, rfl⟩ := hn4'.form
  have HN4 := Lib.hid hn4'
  clear hb4 hn4 hn4'
  go_upto_region 6 with fail
  refine abs_wp fun w5 hw5 => ?_
  have hbw : Below w4.heap.size w4 w5 := by rw [hw5]; exact below_alloc1 _ _
  have HWAS := Lib.hid (show w5.heap[w4.heap.size]? = some (.cells #[.int .i64 o1, .slice p1 l1 d1, .slice q1 m1 e1] 25) by rw [hw5]; exact heap_alloc_new _ _)
  obtain ⟨P, hP⟩ : ∃ P, P = w4.heap.size := ⟨_, rfl⟩
  rw [← hP] at HWAS ⊢
  have HB5 := Lib.hid (HB4.out.trans (hbw.mono HB4.out.size))
  have HX5 := Lib.hid ((hbw.block _ (at_lt HX4.out)).trans HX4.out)
  have HN5 := Lib.hid (HN4.out.to hbw (Nat.le_refl _))
  clear hw5 hbw hP
  obtain ⟨x0, x1, x2⟩ := cells3 HX5.out
  -- Right of the reference
  have HRR := Lib.hid (Right_any x w5 _ _ _ (HX.out.to HB5.out (Nat.le_refl _)))
  obtain ⟨g, hg⟩ : ∃ g, g = rightB x := ⟨_, rfl⟩
  rw [← hg] at HRR
  have HG := Lib.hid hg
  clear hg
  go_wp2_with fail
  refine HRR.out.mono ?_
  rintro e w6 ⟨rfl, hb6⟩
  have HB6 := Lib.hid (HB5.out.trans (hb6.mono HB5.out.size))
  have HX6 := Lib.hid ((hb6.block _ (at_lt HX5.out)).trans HX5.out)
  have HW6 := Lib.hid ((hb6.block _ (at_lt HWAS.out)).trans HWAS.out)
  have HN6 := Lib.hid (HN5.out.to hb6 (Nat.le_refl _))
  clear hb6 x0 x1 x2
  obtain ⟨x0, x1, x2⟩ := cells3 HX6.out
  have HNW := Lib.hid (new_any x w6 _ _ _ (HX.out.to HB6.out (Nat.le_refl _)))
  go_wp2_with fail
  refine HNW.out.mono ?_
  rintro e w7 hnew
  have HND := Lib.hid (show ∃ mv ev, e = .returned (.tuple #[mv, .int .i64 ev]) ∧ ((g = true ∧ ev = 0 ∧ ∃ m, mv = .pointer (some ⟨m, 0, none⟩)) ∨ (g = false ∧ ev = 1 ∧ mv = .pointer none)) from by
    rw [HG.out]
    rcases hnew.2 with ⟨h1, m, -, h2, -⟩ | ⟨h1, h2⟩
    · exact ⟨_, _, h2, .inl ⟨h1, rfl, m, rfl⟩⟩
    · exact ⟨_, _, h2, .inr ⟨h1, rfl, rfl⟩⟩)
  have HB7 := Lib.hid (HB6.out.trans (hnew.1.mono HB6.out.size))
  have HX7 := Lib.hid ((hnew.1.block _ (at_lt HX6.out)).trans HX6.out)
  have HW7 := Lib.hid ((hnew.1.block _ (at_lt HW6.out)).trans HW6.out)
  have HN7 := Lib.hid (HN6.out.to hnew.1 (Nat.le_refl _))
  clear hnew x0 x1 x2
  obtain ⟨mv, ev, rfl, hmv⟩ := HND.out
  have HMV := Lib.hid hmv
  clear hmv HND
  go_upto_region 8 with fail
  have HSS := Lib.hid (show ∀ W', Below w7.heap.size w7 W' → W'.heap[B]? = some (.cells #[.int .i64 op, .slice pp l c1, .slice q m d] 25) from fun W' h => (h.block _ (at_lt HX7.out)).trans HX7.out)
  refine wp_region_plan (fun W' => W'.heap[B]? = some (.cells #[.int .i64 op, .slice pp l c1, .slice q m d] 25)) (.reads [0, 2] (.one 1 (.one 3 (.one 4 (.reads [5] .done))))) 66 (by kernel_rfl) (by kernel_rfl) rfl (fun _ _ _ _ _ h => h) HX7.out ?_
  apply plan_reads
  · intro W' hW'
    obtain ⟨s0, s1, s2⟩ := cells3 hW'
    repeat (refine wpRead_step (fun K hK => ?_); go_simp; refine hK _ ?_; clear hK K)
    exact wpRead_nil rfl
  refine abs_plan fun w8 hw8 => ?_
  have HB8' := Lib.hid (show Below w7.heap.size w7 w8 by rw [hw8]; exact (Below.refl _ _).drew)
  have HB8 := Lib.hid (HB7.out.trans (HB8'.out.mono HB7.out.size))
  clear hw8
  refine plan_one rfl ?_
  have HV1 := Lib.hid (rev_x x w8 _ _ _ (HX.out.to HB8.out (Nat.le_refl _)))
  go_wp2_with fail
  refine HV1.out.mono ?_
  rintro e w9 ⟨a9, b9, c9, rfl, hn9, hb9⟩
  have HB9' := Lib.hid (HB8'.out.trans (hb9.mono HB8'.out.size))
  have HB9 := Lib.hid (HB7.out.trans (HB9'.out.mono HB7.out.size))
  have HN9 := Lib.hid hn9.is
  clear hn9 hb9
  go_wp2_with fail
  refine Then.mk (HSS.out _ HB9'.out) ?_
  refine plan_one rfl ?_
  have HV2 := Lib.hid (rrev_any x w9 _ _ _ (HX.out.to HB9.out (Nat.le_refl _)))
  go_wp2_with fail
  refine HV2.out.mono ?_
  rintro e w10 ⟨a10, b10, c10, rfl, hn10, hb10⟩
  have HB10' := Lib.hid (HB9'.out.trans (hb10.mono HB9'.out.size))
  have HB10 := Lib.hid (HB7.out.trans (HB10'.out.mono HB7.out.size))
  have HN10 := Lib.hid hn10.is
  have HN9b := Lib.hid (HN9.out.to hb10 (Nat.le_refl _))
  clear hn10 hb10
  go_wp2_with fail
  refine Then.mk (HSS.out _ HB10'.out) ?_
  refine plan_one rfl ?_
  have HSM := Lib.hid (same_any (revX x) (revX x) w10 _ _ _ _ _ _ HN9b.out HN10.out)
  rw [sameB_self] at HSM
  go_wp2_with fail
  refine HSM.out.mono ?_
  rintro e w11 ⟨rfl, hb11⟩
  have HB11' := Lib.hid (HB10'.out.trans (hb11.mono HB10'.out.size))
  have HB11 := Lib.hid (HB7.out.trans (HB11'.out.mono HB7.out.size))
  clear hb11
  go_wp2_with fail
  refine Then.mk (HSS.out _ HB11'.out) ?_
  apply plan_reads
  · intro W' hW'
    repeat (refine wpRead_step (fun K hK => ?_); go_simp; refine hK _ ?_; clear hK K)
    exact wpRead_nil rfl
  refine plan_done ?_
  have hwas := (HB11'.out.block _ (at_lt HW7.out)).trans HW7.out
  obtain ⟨x0, x1, x2⟩ := cells3 (HSS.out _ HB11'.out)
  obtain ⟨y0, y1, y2⟩ := cells3 hwas
  have HX11 := Lib.hid (HSS.out _ HB11'.out)
  clear hwas
  have HST := Lib.hid (same_any x x w11 _ _ _ _ _ _ (HX.out.to HB11.out (Nat.le_refl _)) (HN7.out.to HB11'.out (Nat.le_refl _)))
  rw [sameB_self] at HST
  go_wp2_with fail
  refine HST.out.mono ?_
  rintro e w12 ⟨rfl, hb12⟩
  have HB12 := Lib.hid (HB11.out.trans (hb12.mono HB11.out.size))
  have hx12 := (hb12.block _ (at_lt HX11.out)).trans HX11.out
  clear hb12 x0 x1 x2 y0 y1 y2
  obtain ⟨x0, x1, x2⟩ := cells3 hx12
  clear hx12
  have HRN := Lib.hid (right_any x w12 _ _ _ (HX.out.to HB12.out (Nat.le_refl _)))
  rw [← HG.out] at HRN
  go_wp2_with fail
  refine HRN.out.mono ?_
  rintro e w13 ⟨rfl, hb13⟩
  have HB13 := Lib.hid (HB12.out.trans (hb13.mono HB12.out.size))
  clear hb13 x0 x1 x2
  rcases HMV.out with ⟨rfl, rfl, m0, rfl⟩ | ⟨rfl, rfl, rfl⟩
  · go_wp2_with fail
    go_ret
    exact ⟨ret_val rfl, HB13.out⟩
  · go_wp2_with fail
    go_ret
    exact ⟨ret_val rfl, HB13.out⟩

end Go.Proofs.Ytodkeiadaodehaa
