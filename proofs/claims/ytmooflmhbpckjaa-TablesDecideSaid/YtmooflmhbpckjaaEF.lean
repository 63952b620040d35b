/-
  dfa: the situation behind one class more. No condition beyond what each theorem names.
-/
import Derived.Test.YtmooflmhbpckjaaEE
set_option linter.unusedVariables false
set_option linter.unusedSimpArgs false
namespace Go.Proofs.Ytmooflmhbpckjaa
open Go.RowKit

theorem zip_snoc {α β γ : Type} (f : α → β → γ) {l : List α} {s : List β} {k : Nat} (h1 : k < l.length) (h2 : k < s.length) : (List.zipWith f l s).take (k + 1) = (List.zipWith f l s).take k ++ [f l[k] s[k]] := by
  rw [List.take_succ_eq_append_getElem (by simp; omega), List.getElem_zipWith]

theorem stepE_range {S : List Sta} {whole : Bool} {s : List Int} {c v : Int} (h : v ∈ stepE S whole s c) : 0 ≤ v ∧ v < S.length := by
  unfold stepE at h
  split at h
  · exact closedL_range h
  · rcases (mem_uniR (fun v hv => closedL_range hv) (fun v hv => closedL_range hv)).1 h with h | h
    · exact closedL_range h
    · exact closedL_range h
open Classical in
theorem uniR_length (N : Nat) (a b : List Int) : (uniR N a b).length ≤ N := by
  unfold uniR
  rw [List.length_map]
  exact Nat.le_trans (List.length_filter_le _ _) (by simp)
theorem stepE_length (S : List Sta) (whole : Bool) (s : List Int) (c : Int) : (stepE S whole s c).length ≤ S.length := by
  unfold stepE
  split
  · exact closedL_length _ _
  · exact uniR_length _ _ _

theorem SitOk.step {l : List (Nd × Bool)} {s : List (List Int)} (hl : ∀ e ∈ l, RightX e.1) (h : SitOk l s) (c : Nat) : SitOk l ((autoE l).step s c) := by
  refine ⟨by show (List.zipWith _ l s).length = _; simp [h.1], fun i h1 h2 => ?_⟩
  have h3 : i < s.length := by rw [h.1]; exact h1
  have e : ((autoE l).step s c)[i] = stepE (mach l[i].1) l[i].2 s[i] c := by
    simp only [autoE]
    rw [List.getElem_zipWith]
  rw [e]
  have hle := (mach_laws (hl l[i] (List.getElem_mem h1))).len
  exact ⟨fun u hu => stepE_range hu, Nat.le_trans (stepE_length _ _ _ _) hle⟩
theorem SitOk.start {l : List (Nd × Bool)} (hl : ∀ e ∈ l, RightX e.1) : SitOk l (autoE l).start := by
  refine ⟨by show (l.map _).length = _; simp, fun i h1 h2 => ?_⟩
  have e : ((autoE l).start)[i] = closedL (mach l[i].1) [0] := by
    simp only [autoE]
    rw [List.getElem_map]
  rw [e]
  have hle := (mach_laws (hl l[i] (List.getElem_mem h1))).len
  exact ⟨fun u hu => closedL_range hu, Nat.le_trans (closedL_length _ _) hle⟩

set_option maxRecDepth 100000 in
set_option maxHeartbeats 8000000 in
theorem step_sit (F : Nat → Prop) (w : World) (bb : Nat) (l : List (Nd × Bool)) (hB : BuilderR w bb l) (hl : l.length ≤ 64) (hr : ∀ e ∈ l, RightX e.1) (v : Value) (s : List (List Int)) (hs : LLF F w v s) (hok : SitOk l s) (c : Nat) :
    Calls Try.prog 57 #[.pointer (some ⟨bb, 0, none⟩), v, .int .i64 c] w fun e w' => ∃ v', e = .returned v' ∧ OwnLL w.heap.size w' v' ((autoE l).step s c) ∧ Below w.heap.size w w' := by
  have hstep : (autoE l).step s c = List.zipWith (fun (e : Nd × Bool) si => stepE (mach e.1) e.2 si (c : Int)) l s := rfl
  rw [hstep]
  obtain ⟨hbl, pl, cl, pm, cm, c0, c1, hcl, hcm, hgg⟩ := hB.get
  obtain ⟨p, cp, rfl, hc, hg⟩ := hs.1.get (by decide)
  obtain ⟨hsl, hsr⟩ := hok
  rw [hsl] at hc ⊢
  have HGG := Lib.hid hgg
  have HG := Lib.hid hg
  have HSR := Lib.hid hsr
  have HSL := Lib.hid hsl
  have HR := Lib.hid hr
  have HLEN := Lib.hid (show (List.zipWith (fun (e : Nd × Bool) si => stepE (mach e.1) e.2 si (c : Int)) l s).length = l.length by simp [hsl])
  clear hB hs hgg hg hsr hsl hr hstep
  obtain ⟨Z, hZ⟩ : ∃ Z, Z = List.zipWith (fun (e : Nd × Bool) si => stepE (mach e.1) e.2 si (c : Int)) l s := ⟨_, rfl⟩
  rw [← hZ] at HLEN ⊢
  have HZ := Lib.hid hZ
  clear hZ
  have C0 := Lib.hid c0
  have C1 := Lib.hid c1
  go_enter Try.func57, Try.ntmps57
  go_wp2_with fail
  clear c0 c1
  go_loopw [7, 16] (fun u i wr => ∃ k : Nat, i = .int .i64 k ∧ k ≤ l.length ∧ OwnLL w.heap.size wr u (Z.take k) ∧ Below w.heap.size w wr) (fun _ i _ => l.length - (intOf i).toNat)
  case atStart => exact ⟨0, rfl, by omega, OwnLL.nil _ _, Below.refl _ _⟩
  case round =>
    obtain ⟨k, rfl, h1, hown, hb⟩ := hrel
    obtain ⟨pu, cu, hu⟩ := OwnL.form hown
    subst hu
    have hul : (Z.take k).length = k := by rw [List.length_take, HLEN.out]; omega
    rw [hul] at hown ⊢
    have HOW := Lib.hid hown
    have HB := Lib.hid hb
    have hbs := hb.size
    clear hown hul
    by_cases hk : k < l.length
    · obtain ⟨b1, o1, b2, o2, rfl, rfl, hb1, hb2, hcc⟩ := HGG.out (by omega)
      obtain ⟨d0, m, d1, hm⟩ := hcc k hk
      have hks : k < s.length := by rw [HSL.out]; exact hk
      obtain ⟨b3, o3, rfl, hb3, hss⟩ := HG.out (by omega)
      obtain ⟨row, hcell, sv, rfl, -, hsv, -⟩ := hss k hks
      have d2 : w.cell? ⟨b3, o3 + k, none⟩ = some sv := by have := hcell 0 sv rfl; simpa using this
      obtain ⟨h2, h3⟩ := HSR.out k hk hks
      have hlw := mach_laws (HR.out l[k] (List.getElem_mem hk))
      have HZK := Lib.hid (show Z.take (k + 1) = Z.take k ++ [stepE (mach l[k].1) l[k].2 s[k] c] by rw [HZ.out]; exact zip_snoc _ hk hks)
      have y0 := cell_below hb hbl C0.out
      have y1 := cell_below hb hb1 d0
      have y2 := cell_below hb hb2 d1
      have y3 := cell_below hb hb3 d2
      have HM := Lib.hid (hm.to (hb.mono (Nat.le_refl _)))
      have HST := Lib.hid (step_any wr m (mach l[k].1) HM.out hlw sv s[k] c (hsv.to hb (Nat.le_refl _)) (by omega) h2)
      obtain ⟨q, cq, rfl, -, -⟩ := hsv.get
      have HLW := Lib.hid hlw
      have hkk : (k : Int) < l.length := by omega
      have hk0 : (0 : Int) ≤ k := by omega
      clear hcc hss hcell hm hsv h2 hlw
      generalize mach l[k].1 = S at *
      generalize s[k] = sk at *
      obtain ⟨wh, hwh⟩ : ∃ wh, wh = l[k].2 := ⟨_, rfl⟩
      rw [← hwh] at y1 HZK
      clear hwh d0 d1 d2
      go_wp2_with fail
      refine HST.out.mono ?_
      rintro e w1 ⟨u1, rfl, hown1, hbw1⟩
      obtain ⟨p1, q1, hu1⟩ := hown1.form
      subst hu1
      have HO1 := Lib.hid hown1
      have HB1 := Lib.hid hbw1
      have HL1 := Lib.hid (closedL_length S (stepTo S sk c))
      have z0 := (hbw1.cell (p := ⟨bb, 0, none⟩) (World.block_lt_of_cell? wr _ y0)).trans y0
      have z1 := (hbw1.cell (p := ⟨b1, o1 + k * 4 + 3, none⟩) (World.block_lt_of_cell? wr _ y1)).trans y1
      clear hown1 hbw1 y0 y1 y2 y3
      cases wh
      · have HST2 := Lib.hid (start_any w1 m S (HM.out.to HB1.out) HLW.out)
        go_wp2_with fail
        refine HST2.out.mono ?_
        rintro e w2 ⟨u2, rfl, hown2, hbw2⟩
        obtain ⟨p2, q2, hu2⟩ := hown2.form
        subst hu2
        have HO2 := Lib.hid hown2
        have HB2 := Lib.hid (HB1.out.trans (hbw2.mono HB1.out.size))
        have HO12 := Lib.hid (HO1.out.below hbw2 (Nat.le_refl _))
        have HL2 := Lib.hid (closedL_length S [0])
        have hls := HLW.out.len
        clear hown2 hbw2 z0 z1
        go_wp2_with (refine wpList_append_ints rfl (.tmp 37) (.tmp 39) rfl _ (closedL S (stepTo S sk c)) rfl (base := wr.heap.size) HO12.out _ (closedL S [0]) rfl HO2.out.read (by have := HL1.out; have := HL2.out; omega) HB2.out.size ?_; intro p3 c3 w3 hown3 hg3 hlie3)
        have HO3 := Lib.hid hown3
        have HB3 := Lib.hid (HB2.out.trans ((Fr.grown (F := fun q => (Value.slice p1 (closedL S (stepTo S sk c)).length q1).ownBlock = some q) hg3 (fun q h => h)).below HB2.out.size (fun q hq => (HO12.out.lt q hq).1)))
        clear hown3 hg3 hlie3
        have HSORT := Lib.hid (sort_own wr.heap.size w3 _ _ HO3.out (by have := HL1.out; have := HL2.out; rw [List.length_append]; omega))
        go_wp2_with fail
        refine HSORT.out.mono ?_
        rintro e w4 ⟨rfl, hown4, hg4⟩
        have HO4 := Lib.hid hown4
        have HB4 := Lib.hid (HB3.out.trans ((Fr.grown (F := fun q => (Value.slice p3 ((closedL S (stepTo S sk c)).length + (closedL S [0]).length) c3).ownBlock = some q) hg4 (fun q h => h)).below HB3.out.size (fun q hq => (HO3.out.lt q hq).1)))
        clear hown4 hg4
        have HCOMP := Lib.hid (compact_own wr.heap.size w4 _ _ HO4.out (by have := HL1.out; have := HL2.out; rw [List.length_mergeSort, List.length_append]; omega))
        have HDED := Lib.hid (ded_sorted_uni (N := S.length) (a := closedL S (stepTo S sk c)) (b := closedL S [0]) (fun v hv => closedL_range hv) (fun v hv => closedL_range hv))
        go_wp2_with fail
        refine HCOMP.out.mono ?_
        rintro e w5 ⟨u5, rfl, hown5, hf5, -⟩
        rw [HDED.out] at hown5
        obtain ⟨p5, q5, hu5⟩ := hown5.form
        subst hu5
        have HO5 := Lib.hid hown5
        have HB5 := Lib.hid (HB4.out.trans (hf5.below HB4.out.size (fun q hq => (HO4.out.lt q hq).1)))
        have HSE := Lib.hid (show stepE S false sk c = uniR S.length (closedL S (stepTo S sk c)) (closedL S [0]) from if_neg (by simp))
        rw [HSE.out] at HZK
        have HLE := Lib.hid (HOW.out.below HB5.out (Nat.le_refl _))
        have hwl := HB5.out.size
        clear hown5 hf5
        go_wp2_with (refine wpList_append_LL rfl (.tmp 45) (.tmp 47) 118 Try.underlying118 rfl _ (Z.take k) k (by rw [List.length_take, HLEN.out]; omega) rfl w5 HLE.out _ (uniR S.length (closedL S (stepTo S sk c)) (closedL S [0])) (HO5.out.based hbs) rfl rfl (by omega) (Nat.le_trans hbs hwl) ?_; intro p6 c6 w6 hown6 hb6 hf6 hl6)
        have HREL := Lib.hid (show OwnLL w.heap.size w6 (.slice p6 (k + 1) c6) (Z.take (k + 1)) ∧ Below w.heap.size w w6 by
          refine ⟨by rw [HZK.out]; exact hown6, HB.out.trans ((HB5.out.mono hbs).trans hb6)⟩)
        clear hown6 hb6 hf6 hl6 hb
        go_wp2_with fail
        go_roundw
        case rel => exact ⟨k + 1, by go_num, by omega, HREL.out.1, HREL.out.2⟩
        case measure => simp [intOf]; omega
      · have HLE := Lib.hid (HOW.out.below HB1.out (Nat.le_refl _))
        have hwl := HB1.out.size
        go_wp2_with (refine wpList_append_LL rfl (.tmp 45) (.tmp 47) 118 Try.underlying118 rfl _ (Z.take k) k (by rw [List.length_take, HLEN.out]; omega) rfl w1 HLE.out _ (closedL S (stepTo S sk c)) (HO1.out.based hbs) rfl rfl (by omega) (Nat.le_trans hbs hwl) ?_; intro p4 c4 w4 hown4 hb4 hf4 hl4)
        have HREL := Lib.hid (show OwnLL w.heap.size w4 (.slice p4 (k + 1) c4) (Z.take (k + 1)) ∧ Below w.heap.size w w4 by
          refine ⟨by rw [HZK.out]; exact hown4, HB.out.trans ((HB1.out.mono hbs).trans hb4)⟩)
        clear hown4 hb4 hf4 hl4 hb z0 z1
        go_wp2_with fail
        go_roundw
        case rel => exact ⟨k + 1, by go_num, by omega, HREL.out.1, HREL.out.2⟩
        case measure => simp [intOf]; omega
    · have hkk : ¬ (k : Int) < l.length := by omega
      have hke : Z.take k = Z := List.take_of_length_le (by rw [HLEN.out]; omega)
      rw [hke] at HOW
      clear hke
      go_wp2_with fail
      go_ret
      exact ⟨_, rfl, HOW.out, HB.out⟩
end Go.Proofs.Ytmooflmhbpckjaa
