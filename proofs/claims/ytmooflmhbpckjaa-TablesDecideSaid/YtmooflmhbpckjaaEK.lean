/-
  dfa: least: the machine with as few states as can be, numbered as they are met. No condition beyond what each theorem names.
-/
import Derived.Test.YtmooflmhbpckjaaEJ
set_option linter.unusedVariables false
set_option linter.unusedSimpArgs false
namespace Go.Proofs.Ytmooflmhbpckjaa
open Go.RowKit Go.Maps Classical

/-- the least machine is the language's -/
def LeastPost (w : World) (N : List (List Nat)) (O : List Nat) (classes : Nat) (e : Ending) (w' : World) : Prop :=
  ∃ ob O', w.heap.size ≤ ob ∧ e = .returned (.pointer (some ⟨ob, 0, none⟩)) ∧ MachD w' ob classes (canonNext (langN N O classes 0) classes 2000) O' ∧ O'.map some = canonOut (langN N O classes 0) classes 2000 ∧ Below w.heap.size w w'

set_option maxRecDepth 100000 in
set_option maxHeartbeats 8000000 in
theorem least_any (w : World) (mo classes : Nat) (N : List (List Nat)) (O : List Nat) (hM : MachD w mo classes N O) (hok : OkN N O classes) (h0 : 0 < N.length) (hn : N.length ≤ 2000) (hc : classes ≤ 24) (hO : ∀ o ∈ O, o < 2 ^ 64) :
    Calls Try.prog 38 #[.pointer (some ⟨mo, 0, none⟩)] w (LeastPost w N O classes) := by
  have HPA := Lib.hid (parted_any w mo classes N O hM hok hn hc hO)
  have HMD := Lib.hid hM
  have HOK := Lib.hid hok
  have hmm := @run_makeMap Try.prog
  have hmt : ∀ (w : World), (Instr.makeSlice 46 (.int .i64 (classes : Nat)) (.int .i64 (classes : Nat))).run Try.prog w = .ok (.slice (some ⟨w.heap.size, 0, none⟩) classes classes) (w.alloc (.cells (List.replicate classes (Value.int .i64 0)).toArray 3)) := fun w => make_ints _ Try.underlying46 w _ classes rfl (by omega)
  clear hM hok hO
  go_enter Try.func38, Try.ntmps38
  go_wp2_with fail
  refine HPA.out.mono ?_
  rintro e w1 ⟨gp, p, rfl, hgp0, hvp, hpl, hps, hpt, hb1⟩
  obtain ⟨nn, hnn⟩ : ∃ nn, nn = N.length := ⟨_, rfl⟩
  rw [← hnn] at hn h0 hpl hps ⊢
  obtain ⟨hol, pn, cn, po, co, m0, m1, m2, hcn, hco, hgn, hgo⟩ := (HMD.out.to hb1).get hnn.symm (by rw [← HOK.out.len, hnn])
  have HN := Lib.hid hnn
  have HGN := Lib.hid hgn
  have HGO := Lib.hid hgo
  have HVP := Lib.hid hvp
  have HPL := Lib.hid hpl
  have HPS := Lib.hid hps
  have HPT := Lib.hid hpt
  have HM0 := Lib.hid m0
  have HM1 := Lib.hid m1
  have HM2 := Lib.hid m2
  have HB1 := Lib.hid hb1
  have hb1s := hb1.size
  have hgpl := hvp.lt
  have pget : ∀ (w2 : World) (_ : VRow w2 gp 3 ((natsI p).map (Value.int .i64))) (i : Nat) (_ : i < nn), w2.cell? ⟨gp, i, none⟩ = some (.int .i64 (at0 p i : Nat)) := fun w2 hv i hi => by
    refine hv.cell ?_
    unfold natsI
    rw [List.map_map, List.getElem?_map]
    unfold at0
    rw [List.getElem?_eq_getElem (by rw [HPL.out]; exact hi)]
    rfl
  have HPG := Lib.hid pget
  obtain ⟨a0, ha0⟩ : ∃ a0, a0 = at0 p 0 := ⟨_, rfl⟩
  have d0 := pget w1 hvp 0 h0
  rw [← ha0] at d0
  have HA0 := Lib.hid ha0
  have ha0s : a0 < nn := by rw [ha0]; exact at0_small hps h0 0
  have HWF := Lib.hid (show (Lit.int .i64 (a0 : Nat)).wf = true from WalkArith.wf_i64 (by omega))
  have HKEY := Lib.hid (keyOf_int_mk (P := Try.prog) (k := 3) Try.underlying3 HWF.out)
  have hwf0 : (Lit.int .i64 0).wf = true := by decide
  obtain ⟨mb, hmb⟩ : ∃ mb, mb = w1.heap.size := ⟨_, rfl⟩
  have hal := below_alloc1 w1 (.map #[] 0)
  have HAL := Lib.hid hal
  have HNEW := Lib.hid (show NumMap 3 (w1.alloc (.map #[] 0)) mb [] by rw [hmb]; exact NumMap.new _ _)
  have d1 := cell_below hal hgpl d0
  have HMB := Lib.hid hmb
  clear hgn hgo hvp hpl hps hpt hnn m0 m1 m2 hal d0 pget ha0 hb1
  go_wp2_with (first | (refine stop_at (.insert 127 (.tmp 15) (.tmp 18) (.const (.int .i64 0))) rfl ?_) | fail)
  refine ⟨?_⟩
  rw [← hmb]
  clear hmb
  refine wpList_insert_own _ rfl _ _ _ 127 rfl 3 3 lawI Try.underlying127 _ mb 0 _ rfl HNEW.out.2.2 (by unfold maxLen; omega) _ _ (litI a0) rfl rfl HKEY.out _ [] (plainElem_int Try.underlying3 hwf0) ?_
  intro w3 hown3 hg3
  have HN3 := Lib.hid (show NumMap 3 w3 mb [litI a0] from ⟨by simp, fun k hk => by rw [List.mem_singleton.1 hk]; trivial, hown3⟩)
  have hf3 : Fr (fun k => k = mb) (w1.alloc (.map #[] 0)) w3 := Fr.grown (F := fun k => k = mb) hg3 (fun k h => by injection h with h; exact h.symm)
  have HB3 := Lib.hid (show Below w1.heap.size w1 w3 from HAL.out.trans (hf3.below HAL.out.size (fun k (hk : k = mb) => by have := HMB.out; omega)))
  have HBS := Lib.hid HB3.out.size
  clear hown3 hg3 hf3 d1
  go_upto_region 4 with fail
  refine abs_wp fun W4 hW4 => ?_
  have hal4 := below_alloc1 w3 (.cells #[Value.int .i64 0] 3)
  have HB4 := Lib.hid (show Below w1.heap.size w1 W4 by rw [hW4]; exact HB3.out.trans (hal4.mono HBS.out))
  have HN4 := Lib.hid (show NumMap 3 W4 mb [litI a0] by rw [hW4]; exact HN3.out.fr (Fr.of_belowB hal4) (by have := HN3.out.lt; omega))
  have HO4 := Lib.hid (show OwnL intE 3 1 w1.heap.size W4 (.slice (some ⟨w3.heap.size, 0, none⟩) 1 1) (natsI [0]) by
    rw [hW4]
    exact OwnL.block1 (E := intE) w3 3 (0 : Int) [.int .i64 0] ⟨rfl, by simp [Value.oneCell']⟩ rfl HBS.out)
  have y0 := cell_below HB4.out hol HM0.out
  have HW4S := Lib.hid (show W4.heap.size = w3.heap.size + 1 by rw [hW4]; simp)
  clear hW4 hal4
  go_upto_region 5 with fail
  refine abs_wp fun W hW => ?_
  obtain ⟨ob, hob⟩ : ∃ ob, ob = W4.heap.size := ⟨_, rfl⟩
  have hal5 := below_alloc1 W4 (.cells #[.int .i64 (classes : Nat), .slice none 0 0, .slice none 0 0] 67)
  obtain ⟨g, hg⟩ : ∃ g, g = langN N O classes := ⟨_, rfl⟩
  have HG := Lib.hid hg
  have hbs3 := HBS.out
  have hW4s := HW4S.out
  have hmbe := HMB.out
  have HLS := Lib.hid (show LSt w1.heap.size W mb ob classes (fun _ => False) (.slice (some ⟨w3.heap.size, 0, none⟩) 1 1) (.slice none 0 0) (.slice none 0 0) ([0].map fun x => litI (at0 p x)) [0] (nextsAt (langAuto (g 0)) classes 0) (([0].take 0).map (at0 O)) by
    rw [hW, hob]
    refine ⟨⟨heap_alloc_new _ _, by omega, OwnL.nil _, OwnL.nil _, fun k hk => hk.elim⟩, ?_, by omega, OwnL.below HO4.out hal5 (Nat.le_refl _), fun k hk => hk.elim⟩
    rw [List.map_cons, List.map_nil, ← HA0.out]
    exact HN4.out.fr (Fr.of_belowB hal5) (by have := HN4.out.lt; omega))
  have HBW := Lib.hid (show Below w1.heap.size w1 W by rw [hW]; exact HB4.out.trans (hal5.mono (by omega)))
  have hob0 : w1.heap.size ≤ ob := by omega
  rw [← hob]
  have hmb0 : w1.heap.size ≤ mb := by omega
  clear hW hal5 hob hW4s y0 hg hmbe
  go_wp2_with fail
  go_loopw [5, 7] (fun u i w2 => ∃ (n : Nat) (M : List Nat) (F : Nat → Prop) (nv ov : Value), i = .int .i64 n ∧ n ≤ M.length ∧ M.map g = cl (langAuto (g 0)) classes n ∧ (∀ x ∈ M, x < nn) ∧ LSt w1.heap.size w2 mb ob classes F u nv ov (M.map fun x => litI (at0 p x)) M (nextsAt (langAuto (g 0)) classes n) ((M.take n).map (at0 O)) ∧ Below w1.heap.size w1 w2) (fun _ i _ => nn - (intOf i).toNat)
  case atStart => exact ⟨0, [0], _, _, _, rfl, by simp, rfl, fun x hx => by rw [List.mem_singleton.1 hx]; exact h0, HLS.out, HBW.out⟩
  case round =>
    obtain ⟨n, M, F, nv, ov, rfl, hn1, hmg, hml, hls, hbn⟩ := hrel
    obtain ⟨q, hq⟩ : ∃ q, q = M.length := ⟨_, rfl⟩
    obtain ⟨pm, cm, hu⟩ := hls.met.form
    have hql : (natsI M).length = q := by unfold natsI; rw [List.length_map, hq]
    rw [hql] at hu
    subst hu
    have HQ := Lib.hid hq
    have HQL := Lib.hid hql
    have HMG := Lib.hid hmg
    have HML := Lib.hid hml
    have HLS2 := Lib.hid hls
    have HBN := Lib.hid hbn
    have hbns := hbn.size
    have hqn : q ≤ nn := by
      have h1 := sub_len _ ((List.range nn).map litI) hls.num.1 (fun y hy => by
        obtain ⟨x, hx, rfl⟩ := List.mem_map.1 hy
        exact List.mem_map.2 ⟨at0 p x, List.mem_range.2 (at0_small HPS.out h0 x), rfl⟩)
      rw [List.length_map, List.length_map, List.length_range] at h1
      omega
    rw [← hq] at hn1
    clear hq hql hmg hml hls
    by_cases hni : n < q
    · have hnl : n < M.length := by rw [← HQ.out]; exact hni
      obtain ⟨s, hs⟩ : ∃ s, s = M[n] := ⟨_, rfl⟩
      have HS := Lib.hid (show M[n]? = some s by rw [hs]; exact List.getElem?_eq_getElem hnl)
      have hsn : s < nn := HML.out s (by rw [hs]; exact List.getElem_mem hnl)
      have hnii : (n : Int) < q := by omega
      have hn0 : (0 : Int) ≤ n := by omega
      have y0 := cell_below hbn hol HM0.out
      clear hs hnl
      go_upto_region 9 with fail
      refine abs_wp fun W1 hW1 => ?_
      obtain ⟨gx, hgx⟩ : ∃ gx, gx = wr.heap.size := ⟨_, rfl⟩
      have hal := below_alloc1 wr (.cells (List.replicate classes (Value.int .i64 0)).toArray 3)
      have hW2 : W1 = wr.alloc (.cells (List.replicate classes (Value.int .i64 0)).toArray 3) := by rw [hW1]; simp
      have HV1 := Lib.hid (show VRow W1 gx 3 (List.replicate classes (Value.int .i64 0)) by rw [hW2, hgx]; exact heap_alloc_new _ _)
      have HL1 := Lib.hid (show LSt w1.heap.size W1 mb ob classes F (.slice pm q cm) nv ov (M.map fun x => litI (at0 p x)) M (nextsAt (langAuto (g 0)) classes n) ((M.take n).map (at0 O)) by rw [hW2]; exact HLS2.out.below hal)
      have HBW1 := Lib.hid (show Below w1.heap.size w1 W1 by rw [hW2]; exact HBN.out.trans (hal.mono hbns))
      have HGF := Lib.hid (show ¬ F gx by intro h; have := (HLS2.out.m.foot gx h).2.1; omega)
      have HGM := Lib.hid (show (Value.slice pm q cm).ownBlock ≠ some gx by intro h; have := (HLS2.out.met.lt gx h).2; omega)
      have hg0 : w1.heap.size ≤ gx := by omega
      rw [← hgx]
      obtain ⟨L, hL⟩ : ∃ L, L = cl (langAuto (g 0)) classes n := ⟨_, rfl⟩
      have HLE := Lib.hid hL
      obtain ⟨N', hN'⟩ : ∃ N', N' = nextsAt (langAuto (g 0)) classes n := ⟨_, rfl⟩
      obtain ⟨O', hO'⟩ : ∃ O', O' = (M.take n).map (at0 O) := ⟨_, rfl⟩
      rw [← hN', ← hO'] at HL1
      have HN' := Lib.hid hN'
      have HO' := Lib.hid hO'
      have HLG := Lib.hid (show L[n]? = some (g s) by rw [hL, ← HMG.out, List.getElem?_map, HS.out]; rfl)
      -- what is read
      have hsN : s < N.length := by rw [← HN.out]; exact hsn
      obtain ⟨r, hr⟩ : ∃ r, r = N[s] := ⟨_, rfl⟩
      have HR := Lib.hid hr
      have HROW := Lib.hid (HOK.out.row r (by rw [hr]; exact List.getElem_mem hsN))
      obtain ⟨bn, on, rv, rfl, hbnl, e0, hrv⟩ := HGN.out s r (by rw [hr]; exact List.getElem?_eq_getElem hsN)
      obtain ⟨pr, cr, rfl, hcr, hrc⟩ := hrv.get
      have hrl : (natsI r).length = classes := by unfold natsI; rw [List.length_map]; exact HROW.out.1
      have HRC := Lib.hid hrc
      have HRL := Lib.hid hrl
      rw [hrl] at e0 hcr
      have e1 := cell_below HBW1.out hbnl e0
      have e2 := cell_below HBW1.out hol HM1.out
      obtain ⟨pm3, cm3, he, hqm, hxx⟩ := HL1.out.met.read.at (by decide) HQL.out
      injection he with i1 i2 i3
      subst i1 i3
      obtain ⟨bm, om, row, rfl, hbml, hcell, hrow⟩ := hxx n (s : Int) (by unfold natsI; rw [List.getElem?_map, HS.out]; rfl)
      have hrow : row = [.int .i64 (s : Nat)] := hrow
      subst hrow
      have e3 : W1.cell? ⟨bm, om + n, none⟩ = some (.int .i64 (s : Nat)) := by have := hcell 0 _ rfl; simpa using this
      have hsi : (s : Int) < nn := by omega
      have hs0 : (0 : Int) ≤ s := by omega
      have hdr : ∀ nq, Fr (fun _ => False) W1 (W1.drewN nq) := fun nq => (Fr.refl (fun _ => False) W1).drewN nq
      have HDR := Lib.hid hdr
      clear hW1 hW2 hal hgx hL hN' hO' hr hrv hrc hrl e0 i2 hxx hcell hdr y0
      go_quiet (fail)
      clear e1 e2 e3
      go_wp2_with fail
      go_loopw [5, 49] (fun u j w2 => ∃ (c : Nat) (M2 : List Nat), j = .int .i64 c ∧ c ≤ classes ∧ M2.map g = rowS (langAuto (g 0)) (g s) L c ∧ (∀ x ∈ M2, x < nn) ∧ M <+: M2 ∧ LSt w1.heap.size w2 mb ob classes F u nv ov (M2.map fun x => litI (at0 p x)) M2 N' O' ∧ VRow w2 gx 3 ((natsI (rowN (langAuto (g 0)) L (g s) c)).map (.int .i64) ++ List.replicate (classes - c) (.int .i64 0)) ∧ u.ownBlock ≠ some gx ∧ Below w1.heap.size w1 w2) (fun _ j _ => classes - (intOf j).toNat)
      case atStart => exact ⟨0, M, rfl, by omega, by rw [HMG.out, HLE.out]; rfl, HML.out, List.prefix_refl _, HL1.out.fr (HDR.out _) (fun _ _ h => h.elim), HV1.out, HGM.out, HBW1.out.trans ((HDR.out _).below HBW1.out.size (fun _ h => h.elim))⟩
      case round =>
        obtain ⟨c, M2, rfl, hc1, hm2, hml2, hpre, hls, hv, hgm, hb2⟩ := hrel
        obtain ⟨q2, hq2⟩ : ∃ q2, q2 = M2.length := ⟨_, rfl⟩
        obtain ⟨pm2, cm2, hu⟩ := hls.met.form
        have hql2 : (natsI M2).length = q2 := by unfold natsI; rw [List.length_map, hq2]
        rw [hql2] at hu
        subst hu
        have HQ2 := Lib.hid hq2
        have HQL2 := Lib.hid hql2
        have HM2G := Lib.hid hm2
        have HML2 := Lib.hid hml2
        have HPRE := Lib.hid hpre
        have HL2 := Lib.hid hls
        have HV2 := Lib.hid hv
        have HGM2 := Lib.hid hgm
        have HB2 := Lib.hid hb2
        have hb2s := hb2.size
        have hqn2 : q2 ≤ nn := by
          have h1 := sub_len _ ((List.range nn).map litI) hls.num.1 (fun y hy => by
            obtain ⟨x, hx, rfl⟩ := List.mem_map.1 hy
            exact List.mem_map.2 ⟨at0 p x, List.mem_range.2 (at0_small HPS.out h0 x), rfl⟩)
          rw [List.length_map, List.length_map, List.length_range] at h1
          omega
        clear hq2 hql2 hm2 hml2 hpre hls hv hgm
        by_cases hcc : c < classes
        · have hcr2 : c < r.length := by rw [HROW.out.1]; exact hcc
          obtain ⟨b2, o2, rfl, hb2l, hrc⟩ := HRC.out (by rw [HRL.out]; omega)
          obtain ⟨n', hn'⟩ : ∃ n', n' = r[c] := ⟨_, rfl⟩
          have d3 : w1.cell? ⟨b2, o2 + c, none⟩ = some (.int .i64 (n' : Nat)) := by
            have := hrc c (by rw [HRL.out]; exact hcc)
            rw [this]
            simp [natsI, hn']
          have d4 := cell_below hb2 hb2l d3
          have hnn' : n' < nn := by rw [HN.out, hn']; exact HROW.out.2 _ (List.getElem_mem hcr2)
          have d5 := HPG.out wr (HVP.out.fr (Fr.of_belowB hb2) (by omega)) n' hnn'
          have HGO2 := Lib.hid (show goN N s c = n' by
            have h1 : N[s]? = some r := by rw [HR.out]; exact List.getElem?_eq_getElem hsN
            unfold goN
            rw [h1]
            show at0 r c = n'
            unfold at0
            rw [List.getElem?_eq_getElem hcr2, hn']
            rfl)
          have HST := Lib.hid (show g n' = (langAuto (g 0)).step (g s) c by rw [HG.out, ← HGO2.out]; exact langN_step N O hcc s)
          obtain ⟨a1, ha1⟩ : ∃ a1, a1 = at0 p n' := ⟨_, rfl⟩
          have ha1s : a1 < nn := by rw [ha1]; exact at0_small HPS.out h0 _
          rw [← ha1] at d5
          have HNU := Lib.hid (number_int wr mb (M2.map fun x => litI (at0 p x)) (a1 : Nat) HL2.out.num (WalkArith.wf_i64 (by omega)) (by rw [List.length_map, ← HQ2.out]; omega))
          have hmp := mark_place (p := p) (classes := classes) HPT.out (M := M2) (fun x hx => by rw [← HN.out]; exact HML2.out x hx) (n := n') (by rw [← HN.out]; exact hnn')
          rw [← HG.out, ← ha1, HM2G.out, HST.out] at hmp
          obtain ⟨L2, hL2⟩ : ∃ L2, L2 = rowS (langAuto (g 0)) (g s) L c := ⟨_, rfl⟩
          obtain ⟨s', hs'⟩ : ∃ s', s' = (langAuto (g 0)).step (g s) c := ⟨_, rfl⟩
          rw [← hL2, ← hs'] at hmp
          have HMP := Lib.hid hmp
          have HL2E := Lib.hid hL2
          have HSE := Lib.hid hs'
          obtain ⟨k', hk'⟩ : ∃ k', k' = place L2 s' := ⟨_, rfl⟩
          have HK := Lib.hid hk'
          have hk'l : k' ≤ 2000 := by
            rw [hk']
            have := place_le L2 s'
            have h2 : L2.length = q2 := by rw [hL2, ← HM2G.out, List.length_map, ← HQ2.out]
            omega
          have HROWS := Lib.hid (show rowN (langAuto (g 0)) L (g s) (c + 1) = rowN (langAuto (g 0)) L (g s) c ++ [k'] by rw [rowN_snoc, HK.out, HL2E.out, HSE.out])
          have HPUT := Lib.hid (show rowS (langAuto (g 0)) (g s) L (c + 1) = putS L2 s' by rw [rowS, ← HL2E.out, HSE.out])
          have HNU2 := Lib.hid (show Calls Try.prog 61 #[.map (some mb), .int .i64 (a1 : Nat)] wr fun e w' => e = .returned (.tuple #[.int .i64 (k' : Nat), .bool (!decide (s' ∈ L2))]) ∧ NumMap 3 w' mb (putS (M2.map fun x => litI (at0 p x)) (litI a1)) ∧ wr.grownBy w' (some mb) by
            refine HNU.out.mono ?_
            rintro e w' ⟨h1, h2, h3⟩
            have e1' : place (M2.map fun x => litI (at0 p x)) (Lit.int .i64 (a1 : Nat)) = k' := by rw [HK.out, ← HMP.out.1]; rfl
            have e3 : (Lit.int .i64 (a1 : Nat) ∈ M2.map fun x => litI (at0 p x)) ↔ s' ∈ L2 := HMP.out.2
            rw [e1', show decide (Lit.int .i64 (a1 : Nat) ∈ M2.map fun x => litI (at0 p x)) = decide (s' ∈ L2) by simp only [e3]] at h1
            exact ⟨h1, h2, h3⟩)
          have hcci : (c : Int) < classes := by omega
          have hc0 : (0 : Int) ≤ c := by omega
          have hnni : (n' : Int) < nn := by omega
          have hn'0 : (0 : Int) ≤ n' := by omega
          have HA1 := Lib.hid ha1
          clear hrc d3 hn' hb2 ha1 hmp hL2 hs' hk' HNU
          by_cases hfresh : s' ∈ L2
          · have hdec : decide (s' ∈ L2) = true := decide_eq_true hfresh
            rw [hdec] at HNU2
            have HFR := Lib.hid hfresh
            clear hdec hfresh
            go_wp2_with fail
            refine HNU2.out.mono ?_
            rintro e w6 ⟨rfl, hnm6, hg6⟩
            have hmem : litI a1 ∈ M2.map fun x => litI (at0 p x) := HMP.out.2.2 HFR.out
            rw [putS, if_pos hmem] at hnm6
            have HL6 := Lib.hid (HL2.out.newK hg6 hnm6)
            have hf6 : Fr (fun k => k = mb) wr w6 := Fr.grown (F := fun k => k = mb) hg6 (fun k h => by injection h with h; exact h.symm)
            have hgmb : ¬ gx = mb := fun h => HL2.out.num.notAt HV2.out h
            have HV6 := Lib.hid (HV2.out.fr hf6 hgmb)
            have HB6 := Lib.hid (HB2.out.trans (hf6.below hb2s (fun k (hk : k = mb) => by omega)))
            have hrl := rowN_length (langAuto (g 0)) L (g s) c
            have hfl : ((natsI (rowN (langAuto (g 0)) L (g s) c)).map (Value.int .i64)).length = c := by simp [natsI, hrl]
            have HFS := Lib.hid (fill_set ((natsI (rowN (langAuto (g 0)) L (g s) c)).map (Value.int .i64)) (classes - c) (.int .i64 (k' : Nat)) (.int .i64 0) hfl (by omega))
            have z0 := HV6.out.cell (i := c) (u := .int .i64 0) (by rw [List.getElem?_append_right (by omega), hfl, Nat.sub_self, List.getElem?_replicate, if_pos (by omega)])
            have z1 := HV6.out.fz c
            clear hnm6 hg6 hf6 hgmb hmem hrl hfl d4 d5
            go_upto_region 16 with fail
            refine abs_wp fun W8 hW8 => ?_
            have HL8 := Lib.hid (show LSt w1.heap.size W8 mb ob classes F (.slice pm2 q2 cm2) nv ov (M2.map fun x => litI (at0 p x)) M2 N' O' by rw [hW8]; exact HL6.out.put HV6.out HGF.out HGM2.out c _)
            have HV8 := Lib.hid (show VRow W8 gx 3 ((natsI (rowN (langAuto (g 0)) L (g s) (c + 1))).map (.int .i64) ++ List.replicate (classes - (c + 1)) (.int .i64 0)) by
              have h := HV6.out.set c (.int .i64 k')
              rw [HFS.out] at h
              rw [hW8, HROWS.out]
              have e : (natsI (rowN (langAuto (g 0)) L (g s) c ++ [k'])).map (Value.int .i64) = (natsI (rowN (langAuto (g 0)) L (g s) c)).map (Value.int .i64) ++ [.int .i64 (k' : Nat)] := by simp [natsI]
              rw [e, show classes - (c + 1) = classes - c - 1 by omega]
              exact h)
            have HB8 := Lib.hid (show Below w1.heap.size w1 W8 by rw [hW8]; exact HB6.out.trans ((Fr.setCell (F := fun k => k = gx) w6 rfl _).below HB6.out.size (fun k (hk : k = gx) => by omega)))
            have HMS := Lib.hid (show M2.map g = rowS (langAuto (g 0)) (g s) L (c + 1) by rw [HPUT.out, putS, if_pos HFR.out, HL2E.out, HM2G.out])
            clear hW8 z0 z1
            go_wp2_with fail
            go_roundw
            case rel => exact ⟨c + 1, M2, by go_num, by omega, HMS.out, HML2.out, HPRE.out, HL8.out, HV8.out, HGM2.out, HB8.out⟩
            case measure => simp [intOf]; omega
          · have hdec : decide (s' ∈ L2) = false := decide_eq_false hfresh
            rw [hdec] at HNU2
            have HFR := Lib.hid hfresh
            clear hdec hfresh
            go_wp2_with fail
            refine HNU2.out.mono ?_
            rintro e w6 ⟨rfl, hnm6, hg6⟩
            have hmem : ¬ litI a1 ∈ M2.map fun x => litI (at0 p x) := fun h => HFR.out (HMP.out.2.1 h)
            rw [putS, if_neg hmem] at hnm6
            have hks : (M2.map fun x => litI (at0 p x)) ++ [litI a1] = (M2 ++ [n']).map fun x => litI (at0 p x) := by rw [List.map_append, List.map_cons, List.map_nil, HA1.out]
            rw [hks] at hnm6
            have HL6 := Lib.hid (HL2.out.newK hg6 hnm6)
            have hf6 : Fr (fun k => k = mb) wr w6 := Fr.grown (F := fun k => k = mb) hg6 (fun k h => by injection h with h; exact h.symm)
            have hgmb : ¬ gx = mb := fun h => HL2.out.num.notAt HV2.out h
            have HV6 := Lib.hid (HV2.out.fr hf6 hgmb)
            have HB6 := Lib.hid (HB2.out.trans (hf6.below hb2s (fun k (hk : k = mb) => by omega)))
            have hal6 := below_alloc1 w6 (.cells #[Value.int .i64 (n' : Nat)] 3)
            have HAL6 := Lib.hid hal6
            have hbw6 := HB6.out.size
            have HO6 := Lib.hid (show OwnL intE 3 1 w1.heap.size (w6.alloc (.cells #[Value.int .i64 (n' : Nat)] 3)) (.slice pm2 q2 cm2) (natsI M2) from HL6.out.met.below hal6 (Nat.le_refl _))
            clear hnm6 hg6 hf6 hgmb hmem hks hal6 d4 d5
            go_wp2_with (refine stop_at (.call { callee := .builtin .append, args := #[.tmp 64, .tmp 66], argTypes := #[46, 46] }) rfl ?_)
            refine ⟨?_⟩
            refine wpList_append_ints rfl (.tmp 64) (.tmp 66) rfl (.slice pm2 q2 cm2) (natsI M2) rfl HO6.out _ [(n' : Int)] rfl (ReadL.one (E := intE) w6 _ (n' : Int) [Value.int .i64 (n' : Nat)] ⟨rfl, by simp [Value.oneCell']⟩ rfl) (by rw [HQL2.out]; simp; omega) (Nat.le_trans hbw6 HAL6.out.size) ?_
            rw [HQL2.out]
            intro p7 c7 w7 hown7 hg7 hlie7
            have hf7 : Fr (fun k => (Value.slice pm2 q2 cm2).ownBlock = some k) w6 w7 := (Fr.of_below HAL6.out _).trans (Fr.grown (F := fun k => (Value.slice pm2 q2 cm2).ownBlock = some k) hg7 (fun k h => h)) (fun _ _ h => h)
            have e7 : natsI (M2 ++ [n']) = natsI M2 ++ [(n' : Int)] := by simp [natsI]
            have hl7 : (Value.slice p7 (q2 + [(n' : Int)].length) c7).ownBlock = (Value.slice pm2 q2 cm2).ownBlock ∨ ∀ k, (Value.slice p7 (q2 + [(n' : Int)].length) c7).ownBlock = some k → w6.heap.size ≤ k := by
              rcases hlie7 with h | h
              · exact .inl h
              · refine .inr fun k hk => ?_
                rw [h] at hk
                have := Option.some.inj hk
                have := HAL6.out.size
                omega
            have HL7 := Lib.hid (show LSt w1.heap.size w7 mb ob classes F (.slice p7 (q2 + 1) c7) nv ov ((M2 ++ [n']).map fun x => litI (at0 p x)) (M2 ++ [n']) N' O' from HL6.out.newM hf7 (by rw [e7]; exact hown7) hl7)
            have HV7 := Lib.hid (HV6.out.fr hf7 HGM2.out)
            have hgx6 := HV6.out.lt
            have HGM7 := Lib.hid (show (Value.slice p7 (q2 + 1) c7).ownBlock ≠ some gx from fun hk => by
              rcases hl7 with h | h
              · exact HGM2.out (h ▸ hk)
              · have := h gx hk; omega)
            have HB7 := Lib.hid (HB6.out.trans (hf7.below hbw6 (fun k hk => (HL6.out.met.lt k hk).1)))
            have hrl := rowN_length (langAuto (g 0)) L (g s) c
            have hfl : ((natsI (rowN (langAuto (g 0)) L (g s) c)).map (Value.int .i64)).length = c := by simp [natsI, hrl]
            have HFS := Lib.hid (fill_set ((natsI (rowN (langAuto (g 0)) L (g s) c)).map (Value.int .i64)) (classes - c) (.int .i64 (k' : Nat)) (.int .i64 0) hfl (by omega))
            have z0 := HV7.out.cell (i := c) (u := .int .i64 0) (by rw [List.getElem?_append_right (by omega), hfl, Nat.sub_self, List.getElem?_replicate, if_pos (by omega)])
            have z1 := HV7.out.fz c
            clear hown7 hg7 hlie7 hf7 e7 hl7 hgx6 hrl hfl
            go_upto_region 16 with fail
            refine abs_wp fun W8 hW8 => ?_
            have HL8 := Lib.hid (show LSt w1.heap.size W8 mb ob classes F (.slice p7 (q2 + 1) c7) nv ov ((M2 ++ [n']).map fun x => litI (at0 p x)) (M2 ++ [n']) N' O' by rw [hW8]; exact HL7.out.put HV7.out HGF.out HGM7.out c _)
            have HV8 := Lib.hid (show VRow W8 gx 3 ((natsI (rowN (langAuto (g 0)) L (g s) (c + 1))).map (.int .i64) ++ List.replicate (classes - (c + 1)) (.int .i64 0)) by
              have h := HV7.out.set c (.int .i64 k')
              rw [HFS.out] at h
              rw [hW8, HROWS.out]
              have e : (natsI (rowN (langAuto (g 0)) L (g s) c ++ [k'])).map (Value.int .i64) = (natsI (rowN (langAuto (g 0)) L (g s) c)).map (Value.int .i64) ++ [.int .i64 (k' : Nat)] := by simp [natsI]
              rw [e, show classes - (c + 1) = classes - c - 1 by omega]
              exact h)
            have HB8 := Lib.hid (show Below w1.heap.size w1 W8 by rw [hW8]; exact HB7.out.trans ((Fr.setCell (F := fun k => k = gx) w7 rfl _).below HB7.out.size (fun k (hk : k = gx) => by omega)))
            have HMS := Lib.hid (show (M2 ++ [n']).map g = rowS (langAuto (g 0)) (g s) L (c + 1) by rw [HPUT.out, putS, if_neg HFR.out, List.map_append, HM2G.out, ← HL2E.out, List.map_cons, List.map_nil, HST.out, HSE.out])
            have HMX := Lib.hid (show ∀ x ∈ M2 ++ [n'], x < nn from fun x hx => by
              rcases List.mem_append.1 hx with h | h
              · exact HML2.out x h
              · rw [List.mem_singleton.1 h]; exact hnn')
            clear hW8 z0 z1
            go_wp2_with fail
            go_roundw
            case rel => exact ⟨c + 1, M2 ++ [n'], by go_num, by omega, HMS.out, HMX.out, HPRE.out.trans (List.prefix_append _ _), HL8.out, HV8.out, HGM7.out, HB8.out⟩
            case measure => simp [intOf]; omega
        · have hcci : ¬ (c : Int) < classes := by omega
          obtain rfl : classes = c := by omega
          have hcl1 : cl (langAuto (g 0)) classes (n + 1) = rowS (langAuto (g 0)) (g s) L classes := by rw [cl_succ (A := langAuto (g 0)) (s := g s) (by rw [← HLE.out]; exact HLG.out), ← HLE.out]
          have HCL := Lib.hid hcl1
          have hV9 := HV2.out
          rw [Nat.sub_self, List.replicate_zero, List.append_nil] at hV9
          have HV9 := Lib.hid hV9
          have HNS := Lib.hid (show nextsAt (langAuto (g 0)) classes (n + 1) = N' ++ [rowN (langAuto (g 0)) L (g s) classes] by rw [nextsAt_succ (s := g s) (by rw [← HLE.out]; exact HLG.out), HN'.out, ← HLE.out])
          have hqq : q ≤ q2 := by have := HPRE.out.length_le; rw [← HQ.out, ← HQ2.out] at this; exact this
          have hs2 : M2[n]? = some s := by
            obtain ⟨rr, hrr⟩ := HPRE.out
            rw [← hrr, List.getElem?_append_left (by rw [← HQ.out]; exact hni)]
            exact HS.out
          have HS2 := Lib.hid hs2
          have HOS := Lib.hid (show (M2.take (n + 1)).map (at0 O) = O' ++ [at0 O s] by
            obtain ⟨rr, hrr⟩ := HPRE.out
            obtain ⟨hn2l, hn2e⟩ := List.getElem?_eq_some_iff.1 hs2
            rw [List.take_succ_eq_append_getElem hn2l, List.map_append, hn2e, ← hrr, List.take_append_of_le_length (by rw [← HQ.out]; omega), HO'.out]
            rfl)
          have hNl : N'.length = n := by
            rw [HN'.out]
            unfold nextsAt
            rw [List.length_map, List.length_take, ← HMG.out, List.length_map, ← HQ.out]
            omega
          have hOl : O'.length = n := by
            rw [HO'.out, List.length_map, List.length_take, ← HQ.out]
            omega
          have HNL := Lib.hid hNl
          have HOL := Lib.hid hOl
          obtain ⟨pn2, cn2, hnv⟩ := HL2.out.m.next.form
          obtain ⟨po2, co2, hov⟩ := HL2.out.m.outs.form
          rw [hNl] at hnv
          rw [hOl] at hov
          obtain ⟨m0, m1, m2⟩ := cells3 HL2.out.m.mach
          have f1 := fz_at HL2.out.m.mach 1
          have HNV := Lib.hid hnv
          have HOV := Lib.hid hov
          rw [hnv] at m1
          rw [hov] at m2
          have hal := below_alloc1 wr (.cells #[Value.slice (some ⟨gx, 0, none⟩) classes classes] 46)
          have HAL := Lib.hid hal
          have hgl := HV2.out.lt
          have HEN := Lib.hid (show nrowE (fun k => F k ∨ k = gx) wr (rowN (langAuto (g 0)) L (g s) classes) [Value.slice (some ⟨gx, 0, none⟩) classes classes] by
            have hrl := rowN_length (langAuto (g 0)) L (g s) classes
            have hnl2 : (natsI (rowN (langAuto (g 0)) L (g s) classes)).length = classes := by simp [natsI, hrl]
            refine ⟨_, rfl, rfl, ?_, fun _ k hk => .inr (by injection hk with hk; exact hk.symm)⟩
            have h := Raw.of_block (n := classes) (cs := (natsI (rowN (langAuto (g 0)) L (g s) classes)).map (Value.int .i64)) HV9.out
            unfold Ints
            rw [hnl2]
            exact h)
          have HON := Lib.hid (show OwnL (nrowE (fun k => F k ∨ k = gx) wr) 46 1 w1.heap.size (wr.alloc (.cells #[Value.slice (some ⟨gx, 0, none⟩) classes classes] 46)) (.slice pn2 n cn2) N' by
            rw [← hnv]
            exact OwnL.mono (OwnL.below HL2.out.m.next hal (Nat.le_refl _)) (fun x r hr => rowE.mono hr (fun k hk => .inl hk)))
          clear hnv hov hNl hOl hcl1 hV9 hs2
          go_wp2_with (refine stop_at (.call { callee := .builtin .append, args := #[.tmp 77, .tmp 79], argTypes := #[65, 65] }) rfl ?_)
          refine ⟨?_⟩
          refine wpList_append_nrows rfl (.tmp 77) (.tmp 79) rfl (.slice pn2 n cn2) N' n HNL.out rfl HON.out _ (rowN (langAuto (g 0)) L (g s) classes) rfl (ReadL.one wr _ _ [Value.slice (some ⟨gx, 0, none⟩) classes classes] ⟨rfl, by simp [Value.oneCell']⟩ HEN.out) (by omega) (Nat.le_trans hb2s HAL.out.size) ?_
          intro p7 c7 w7 hown7 hg7 hlie7
          have hf7 : Fr (fun k => (Value.slice pn2 n cn2).ownBlock = some k) wr w7 := (Fr.of_below HAL.out _).trans (Fr.grown (F := fun k => (Value.slice pn2 n cn2).ownBlock = some k) hg7 (fun k h => h)) (fun _ _ h => h)
          have hob7 := (hf7.block ob (at_lt HL2.out.m.mach) (by rw [← HNV.out]; exact HL2.out.m.next.notAt HL2.out.m.mach (by decide))).trans HL2.out.m.mach
          obtain ⟨y0, y1, y2⟩ := cells3 hob7
          have f7 := fz_at hob7 1
          have HF7 := Lib.hid hf7
          have HOW7 := Lib.hid hown7
          have HLI7 := Lib.hid hlie7
          clear hown7 hg7 hlie7 hf7 hob7 m0 m1 m2 f1 hal
          go_upto_region 18 with fail
          refine abs_wp fun W9 hW9 => ?_
          have h9 := HL2.out.newN hb2s (F' := fun k => F k ∨ k = gx) (fun k hk => .inl hk) (fun k hk => by
            rcases hk with hk | hk
            · exact .inl hk
            · subst hk
              exact .inr ⟨hg0, hgl, fun e => HV2.out.not_mach HL2.out.m.mach e, HL2.out.m.next.notAt HV2.out (by decide), HL2.out.m.outs.notAt HV2.out (by decide), HL2.out.num.notAt HV2.out, HGM2.out⟩) (w1 := w7) (w2 := W9) (nv' := .slice p7 (n + 1) c7) (N' := N' ++ [rowN (langAuto (g 0)) L (g s) classes]) (by rw [HNV.out]; exact HF7.out) HOW7.out (by
            rw [HNV.out]
            rcases HLI7.out with h | h
            · exact .inl h
            · refine .inr fun k hk => ?_
              rw [h] at hk
              have := Option.some.inj hk
              have := HAL.out.size
              omega) hW9
          have HL9 := Lib.hid h9.1
          have HB9 := Lib.hid (HB2.out.trans (h9.2.below hb2s (fun k hk => by
            rcases hk with hk | hk
            · exact (HL2.out.m.next.lt k hk).1
            · rw [hk]; exact hob0)))
          clear h9 hW9 y0 y1 y2 f7
          have hb9s := HB9.out.size
          have hni2 : (n : Int) < q2 := by omega
          obtain ⟨pm3, cm3, he, hqm2, hxx⟩ := HL9.out.met.read.at (by decide) HQL2.out
          injection he with i1 i2 i3
          subst i1 i3
          obtain ⟨bm2, om2, row, rfl, hbml2, hcell, hrow2⟩ := hxx n (s : Int) (by unfold natsI; rw [List.getElem?_map, HS2.out]; rfl)
          have hrow2 : row = [.int .i64 (s : Nat)] := hrow2
          subst hrow2
          have d0 : W9.cell? ⟨bm2, om2 + n, none⟩ = some (.int .i64 (s : Nat)) := by have := hcell 0 _ rfl; simpa using this
          have hsO : s < O.length := by rw [← HOK.out.len]; exact hsN
          obtain ⟨oz, hoz⟩ : ∃ oz, oz = at0 O s := ⟨_, rfl⟩
          have hOs : O[s]? = some oz := by rw [hoz]; unfold at0; rw [List.getElem?_eq_getElem hsO]; rfl
          obtain ⟨bo, oo, rfl, hbol, e4⟩ := HGO.out s oz hOs
          have e5 := cell_below HB9.out hbol e4
          have e6 := cell_below HB9.out hol HM2.out
          obtain ⟨m0, m1, m2⟩ := cells3 HL9.out.m.mach
          rw [HOV.out] at m2
          have HOZ := Lib.hid hoz
          have HSS := Lib.hid (show W9.cell? ⟨ob, 2, none⟩ = some (.slice po2 n co2) ∧ W9.cell? ⟨mo, 2, none⟩ = some (.slice (some ⟨bo, oo, none⟩) nn co) ∧ W9.cell? ⟨bm2, om2 + n, none⟩ = some (.int .i64 (s : Nat)) ∧ W9.cell? ⟨bo, oo + s, none⟩ = some (.int .u64 (oz : Nat)) from ⟨m2, e6, d0, e5⟩)
          have keep : ∀ W' : World, Fr (fun k => (Value.slice po2 n co2).ownBlock = some k) W9 W' → W'.cell? ⟨ob, 2, none⟩ = some (.slice po2 n co2) ∧ W'.cell? ⟨mo, 2, none⟩ = some (.slice (some ⟨bo, oo, none⟩) nn co) ∧ W'.cell? ⟨bm2, om2 + n, none⟩ = some (.int .i64 (s : Nat)) ∧ W'.cell? ⟨bo, oo + s, none⟩ = some (.int .u64 (oz : Nat)) := fun W' hf => by
            have old : ∀ k, k < w1.heap.size → ¬ (Value.slice po2 n co2).ownBlock = some k := fun k hk h => by
              rw [← HOV.out] at h
              have := (HL9.out.m.outs.lt k h).1
              omega
            refine ⟨hf.cell (p := ⟨ob, 2, none⟩) (by rw [← HOV.out]; exact HL9.out.m.outs.notAt HL9.out.m.mach (by decide)) m2, hf.cell (p := ⟨mo, 2, none⟩) (old mo hol) e6, hf.cell (p := ⟨bm2, om2 + n, none⟩) (fun h => ?_) d0, hf.cell (p := ⟨bo, oo + s, none⟩) (old bo hbol) e5⟩
            obtain ⟨cs, hcs⟩ := HL9.out.met.blkT bm2 rfl
            exact HL9.out.m.outs.notAt hcs (by decide) (by rw [HOV.out]; exact h)
          have HKEEP := Lib.hid keep
          clear hxx hcell i2 d0 e4 e5 e6 m0 m1 m2 hoz hOs keep
          refine wp_region_fin 19 (fun W => W.cell? ⟨ob, 2, none⟩ = some (.slice po2 n co2) ∧ W.cell? ⟨mo, 2, none⟩ = some (.slice (some ⟨bo, oo, none⟩) nn co) ∧ W.cell? ⟨bm2, om2 + n, none⟩ = some (.int .i64 (s : Nat)) ∧ W.cell? ⟨bo, oo + s, none⟩ = some (.int .u64 (oz : Nat))) (.reads [0, 1, 2, 3, 4, 5, 6, 7, 8, 9, 10, 11, 12, 13, 14] (.one 15 (.one 16 (.one 17 (.one 18 (.last 19)))))) 103 (by kernel_rfl) (by kernel_rfl) rfl (fun _ _ _ _ _ h => h) HSS.out ?_
          apply plan_reads
          · intro W hW
            obtain ⟨k0, k1, k2, k3⟩ := hW
            repeat (refine wpRead_step (fun K hK => ?_); go_simp; refine hK _ ?_; clear hK K)
            exact wpRead_nil rfl
          refine abs_plan fun WA hWA => ?_
          have hd9 : Fr (fun _ => False) W9 WA := by rw [hWA]; exact (Fr.refl (fun _ => False) _).drew
          have HLA := Lib.hid (HL9.out.fr hd9 (fun _ _ h => h.elim))
          have HBA := Lib.hid (HB9.out.trans (hd9.below hb9s (fun _ h => h.elim)))
          have HD9 := Lib.hid hd9
          have hbas := HBA.out.size
          clear hWA hd9
          refine plan_one rfl ?_
          have halA := below_alloc1 WA (.cells #[Value.int .u64 (oz : Nat)] 37)
          have HALA := Lib.hid halA
          have HS1 := Lib.hid (HKEEP.out _ ((HD9.out.mono (fun _ _ h => h.elim)).trans (Fr.of_below halA _) (fun _ _ h => h)))
          have HOO := Lib.hid (show OwnL u64E 37 1 w1.heap.size (WA.alloc (.cells #[Value.int .u64 (oz : Nat)] 37)) (.slice po2 n co2) O' by rw [← HOV.out]; exact OwnL.below HLA.out.m.outs halA (Nat.le_refl _))
          clear halA
          go_wp2_with fail
          refine Then.mk HS1.out ?_
          refine plan_one rfl ?_
          refine wpList_append_u64 rfl (.tmp 87) (.tmp 98) rfl (.slice po2 n co2) O' n HOL.out rfl HOO.out _ oz rfl (ReadL.one WA _ oz [Value.int .u64 (oz : Nat)] ⟨rfl, by simp [Value.oneCell']⟩ rfl) (by omega) (Nat.le_trans hbas HALA.out.size) ?_
          intro pB cB wB hownB hgB hlieB
          have hfB : Fr (fun k => (Value.slice po2 n co2).ownBlock = some k) WA wB := (Fr.of_below HALA.out _).trans (Fr.grown (F := fun k => (Value.slice po2 n co2).ownBlock = some k) hgB (fun k h => h)) (fun _ _ h => h)
          have HFB := Lib.hid hfB
          have hobB := (hfB.block ob (at_lt HLA.out.m.mach) (by rw [← HOV.out]; exact HLA.out.m.outs.notAt HLA.out.m.mach (by decide))).trans HLA.out.m.mach
          have HSB := Lib.hid (HKEEP.out wB ((HD9.out.mono (fun _ _ h => h.elim)).trans hfB (fun _ _ h => h)))
          have HOB := Lib.hid hobB
          have HOWB := Lib.hid hownB
          have HLIB := Lib.hid hlieB
          clear hownB hgB hlieB hfB hobB
          go_wp2_with fail
          refine Then.mk HSB.out ?_
          refine plan_one rfl ?_
          go_wp2_with fail
          refine Then.mk HSB.out ?_
          refine plan_one rfl ?_
          go_wp2_with fail
          refine Then.mk HSB.out ?_
          refine plan_last rfl ?_
          obtain ⟨y0, y1, y2⟩ := cells3 HOB.out
          have fB := fz_at HOB.out 2
          go_wp2_with fail
          have hC := HLA.out.newO hbas (w1 := wB) (w2 := wB.setCell ⟨ob, 2, none⟩ (.slice pB (n + 1) cB)) (ov' := .slice pB (n + 1) cB) (O' := O' ++ [oz]) (by rw [HOV.out]; exact HFB.out) HOWB.out (by
            rw [HOV.out]
            rcases HLIB.out with h | h
            · exact .inl h
            · refine .inr fun k hk => ?_
              rw [h] at hk
              have := Option.some.inj hk
              have := HALA.out.size
              omega) rfl
          go_roundw
          case rel =>
            refine ⟨n + 1, M2, (fun k => F k ∨ k = gx), .slice p7 (n + 1) c7, .slice pB (n + 1) cB, by go_num, by rw [← HQ2.out]; omega, by rw [HCL.out]; exact HM2G.out, HML2.out, ?_, HBA.out.trans (hC.2.below hbas (fun k hk => ?_))⟩
            · rw [HNS.out, HOS.out, ← HOZ.out]
              exact hC.1
            · rcases hk with hk | hk
              · exact (HLA.out.m.outs.lt k hk).1
              · rw [hk]; exact hob0
          case measure => simp [intOf]; omega
    · have hnii : ¬ (n : Int) < q := by omega
      obtain rfl : q = n := by omega
      have hlen : (cl (langAuto (g 0)) classes q).length = q := by rw [← HMG.out, List.length_map, ← HQ.out]
      have hov : Over (langAuto (g 0)) classes q := by unfold Over; rw [hlen]; exact Nat.le_refl _
      have HSAME := Lib.hid (show cl (langAuto (g 0)) classes 2000 = cl (langAuto (g 0)) classes q from over_mono hov (by omega))
      have HNX := Lib.hid (nextsAt_over hov)
      clear hlen hov
      go_wp2_with fail
      go_ret
      refine ⟨ob, (M.take q).map (at0 O), by omega, rfl, ?_, ?_, HB1.out.trans (HBN.out.mono hb1s)⟩
      · have h := HLS2.out.m.machD
        rw [HNX.out, ← HSAME.out] at h
        rw [HG.out] at h
        exact h
      · rw [List.take_of_length_le (by rw [← HQ.out]; exact Nat.le_refl _), canonOut, canonL, ← HG.out, HSAME.out, ← HMG.out, List.map_map, List.map_map]
        apply List.map_congr_left
        intro x hx
        have hxO : x < O.length := by rw [← HOK.out.len, ← HN.out]; exact HML.out x hx
        show some (at0 O x) = g x []
        rw [HG.out]
        unfold langN at0
        rw [if_pos (by simp)]
        show some (O[x]?.getD 0) = O[x]?
        rw [List.getElem?_eq_getElem hxO]
        rfl
end Go.Proofs.Ytmooflmhbpckjaa
