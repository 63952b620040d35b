/-
  join: a state goes to others without a class. No condition beyond what each theorem names.
-/
import Derived.Test.YtmooflmhbpckjaaNA
set_option linter.unusedVariables false
set_option linter.unusedSimpArgs false
namespace Go.Proofs.Ytmooflmhbpckjaa
open Go.RowKit

set_option maxRecDepth 100000 in
set_option maxHeartbeats 4000000 in
theorem join_any (base : Nat) (w : World) (m : Nat) (L : List Sta) (first last : Int) (i : Nat) (tv : Value) (ts : List Int) (hi : i < L.length) (hL : L.length ≤ 1000000) (hm : Mach base w m L first last) (ht : Ints w tv ts) (hlen : (L[i]).free.length + ts.length ≤ 1000000) :
    Calls Try.prog 73 #[.pointer (some ⟨m, 0, none⟩), .int .i64 i, tv] w fun e w' => e = .returned (.tuple #[]) ∧ Mach base w' m (joinF L i ts) first last ∧ Below base w w' ∧ KeepN w w' := by
  obtain ⟨lv, Ls, hbm, hbx, hmap, hown, hall, hap⟩ := hm
  have hlen2 : Ls.length = L.length := by rw [← hmap, List.length_map]
  obtain ⟨pl, cl, hlv⟩ := hown.form
  subst hlv
  rw [hlen2] at hbx hown
  have hil : i < Ls.length := by omega
  obtain ⟨hfv, htv⟩ := hall Ls[i] (List.getElem_mem hil)
  obtain ⟨g, cap, cur, row, hve, hg, hheap, hrow, hrl, hrc, hE, hcsz, hst⟩ := hown.store (by omega) (k := i) hil
  rw [hlen2] at hve
  injection hve with e1 e2 e3
  subst e1 e3
  have hE' : row = [Ls[i].fv, .bool Ls[i].s.set, Ls[i].tv] := hE
  subst hE'
  have hfree : Ls[i].s = L[i] := by simp [← hmap]
  obtain ⟨pf, cf, hfe⟩ := hfv.form
  have y0 := hrow 0 _ rfl
  simp only [Nat.add_zero] at y0
  rw [hfe] at y0
  have HBX := Lib.hid hbx
  have HY0 := Lib.hid y0
  have HT := Lib.hid ht
  have j0 : (0 : Int) ≤ i := by omega
  have j1 : (i : Int) < L.length := by omega
  obtain ⟨pt0, ct0, ht0, -⟩ := ht.get
  subst ht0
  have HFV := Lib.hid (show OwnL intE 3 1 base w (.slice pf Ls[i].s.free.length cf) Ls[i].s.free by rw [← hfe]; exact hfv)
  have HLEN := Lib.hid (show Ls[i].s.free.length + ts.length ≤ 1000000 by rw [hfree]; exact hlen)
  have HST := Lib.hid hst
  have HH := Lib.hid hheap
  have HALL := Lib.hid hall
  have HAP := Lib.hid hap
  have HMAP := Lib.hid hmap
  have HFE := Lib.hid hfe
  have HOWN := Lib.hid hown
  have hfit : i * 3 + 1 ≤ cur.size := by omega
  have HS0 := Lib.hid (cells3 hbx).1
  have hbw : base ≤ w.heap.size := by have := at_lt hbx; omega
  clear hmap hown hall hap hbx hst hheap hrow hrl hrc hE hcsz e2 hfv htv hfe hfree y0 ht hlen
  go_enter Try.func73, Try.ntmps73
  go_upto_region 0 with fail
  refine wp_region_plan (fun W => W.cell? ⟨m, 0, none⟩ = some (.slice (some ⟨g, 0, none⟩) L.length cl)) (.reads [0, 1, 2, 3, 4, 5, 6, 7, 8, 9, 10, 11, 13] (.one 12 (.one 14 (.reads [15, 16] (.one 17 .done))))) 23 (by kernel_rfl) (by kernel_rfl) rfl (fun _ _ _ _ _ h => h) HS0.out ?_
  apply plan_reads
  · intro W hW
    repeat (refine wpRead_step (fun K hK => ?_); go_simp; refine hK _ ?_; clear hK K)
    exact wpRead_nil rfl
  refine plan_one rfl ?_
  have y0 : w.drew.cell? ⟨g, i * 3, none⟩ = some (.slice pf Ls[i].s.free.length cf) := HY0.out
  go_wp2_with fail
  refine Then.mk HS0.out ?_
  refine plan_one rfl ?_
  refine wpList_append_ints rfl (.tmp 18) (.tmp 19) rfl (.slice pf Ls[i].s.free.length cf) Ls[i].s.free rfl (base := base) HFV.out _ ts rfl HT.out.readL HLEN.out hbw ?_
  intro p1 c1 w1 hown1 hg1 hlie1
  have hne1 := HFV.out.notAt HBX.out (by decide)
  have hneg := HFV.out.notAt HH.out (by decide)
  have HFR1 := Lib.hid (show Fr (fun k => (Value.slice pf Ls[i].s.free.length cf).ownBlock = some k) w w1 from ((Fr.refl _ w).drewN 1 : Fr _ w w.drew).trans (Fr.grown (F := fun k => (Value.slice pf Ls[i].s.free.length cf).ownBlock = some k) hg1 (fun k h => h)) (fun _ _ h => h))
  have HM1 := Lib.hid ((HFR1.out.block m (at_lt HBX.out) hne1).trans HBX.out)
  have HH1 := Lib.hid ((HFR1.out.block g (at_lt HH.out) hneg).trans HH.out)
  have HOW1 := Lib.hid hown1
  have HLIE1 := Lib.hid hlie1
  clear hown1 hg1 hlie1 hne1 hneg y0
  go_wp2_with fail
  refine Then.mk (cells3 HM1.out).1 ?_
  apply plan_reads
  · intro W hW
    repeat (refine wpRead_step (fun K hK => ?_); go_simp; refine hK _ ?_; clear hK K)
    exact wpRead_nil rfl
  refine plan_one rfl ?_
  refine wpList_store_row rfl (.tmp 22) (.tmp 20) 46 rfl g (i * 3) rfl (.slice p1 (Ls[i].s.free.length + ts.length) c1) rfl cur _ (by kernel_rfl) HH1.out hfit (by simp [Value.cells, Value.oneCell']) ?_
  refine abs_list fun W2 hW2 => ?_
  have HFR2 := Lib.hid (show Fr (fun k => k = g) w1 W2 by rw [hW2]; exact Fr.setRow (F := fun k => k = g) _ rfl _)
  have HG2 := Lib.hid (show W2.heap[g]? = some (.cells (splice cur.toList (i * 3) [.slice p1 (Ls[i].s.free.length + ts.length) c1]).toArray 146) by rw [hW2]; exact setRow_heap _ g _ _ _ (0, 0) HH1.out)
  have hmg : m ≠ g := fun h => by
    have h1 := HM1.out
    rw [h, HH1.out] at h1
    cases h1
  have HM2 := Lib.hid ((HFR2.out.block m (at_lt HM1.out) hmg).trans HM1.out)
  clear hW2 hmg
  go_wp2_with fail
  refine Then.mk (cells3 HM2.out).1 ?_
  refine plan_done ?_
  go_wp2_with fail
  go_end0
  have hset : (Ls.set i ⟨⟨Ls[i].s.free ++ ts, Ls[i].s.set, Ls[i].s.takes⟩, .slice p1 (Ls[i].s.free.length + ts.length) c1, Ls[i].tv⟩).map (·.s) = joinF L i ts := by
    have hs : L[i] = Ls[i].s := by simp [← HMAP.out]
    rw [List.map_set, HMAP.out]
    unfold joinF
    refine List.ext_getElem (by simp) fun j h1 h2 => ?_
    rw [List.getElem_set, List.getElem_modify]
    split
    · rename_i h; subst h; rw [hs]
    · rfl
  have hkeep : KeepN w W2 := (KeepN.of_own HFV.out (by decide) HFR1.out rfl).trans (KeepN.of_at HH1.out (by decide) HFR2.out)
  refine ⟨rfl, ⟨.slice (some ⟨g, 0, none⟩) L.length cl, _, hbm, HM2.out, hset, ?_, ?_, ?_⟩, ?_, hkeep⟩
  · have h := HST.out 0 [.slice p1 (Ls[i].s.free.length + ts.length) c1] (by simp) (by simp [Value.oneCell']) ⟨⟨Ls[i].s.free ++ ts, Ls[i].s.set, Ls[i].s.takes⟩, .slice p1 (Ls[i].s.free.length + ts.length) c1, Ls[i].tv⟩ rfl W2 HG2.out
    exact h
  · intro x hx
    obtain ⟨j, hj, rfl⟩ := List.getElem_of_mem hx
    rw [List.length_set] at hj
    rw [List.getElem_set]
    split
    · rename_i h
      subst h
      refine ⟨HOW1.out.fr HFR2.out (fun q hq he => HOW1.out.notAt HH1.out (by decide) (by rw [hq]; exact congrArg some he)), ?_⟩
      have h1 : OwnL intE 3 1 base w1 Ls[i].tv Ls[i].s.takes := (HALL.out _ (List.getElem_mem hil)).2.fr HFR1.out (fun q hq he => HAP.out.2 _ (List.getElem_mem hil) _ (List.getElem_mem hil) q (by rw [HFE.out]; exact he) hq)
      exact h1.fr HFR2.out (fun q hq he => h1.notAt HH1.out (by decide) (by rw [hq]; exact congrArg some he))
    · rename_i h
      have h1 : OwnL intE 3 1 base w1 Ls[j].fv Ls[j].s.free := (HALL.out _ (List.getElem_mem hj)).1.fr HFR1.out (fun q hq he => HAP.out.1 i j hil hj h q (by rw [HFE.out]; exact he) hq)
      have h2 : OwnL intE 3 1 base w1 Ls[j].tv Ls[j].s.takes := (HALL.out _ (List.getElem_mem hj)).2.fr HFR1.out (fun q hq he => HAP.out.2 _ (List.getElem_mem hil) _ (List.getElem_mem hj) q (by rw [HFE.out]; exact he) hq)
      exact ⟨h1.fr HFR2.out (fun q hq he => h1.notAt HH1.out (by decide) (by rw [hq]; exact congrArg some he)), h2.fr HFR2.out (fun q hq he => h2.notAt HH1.out (by decide) (by rw [hq]; exact congrArg some he))⟩
  · have hnew : ∀ q, (Value.slice p1 (Ls[i].s.free.length + ts.length) c1).ownBlock = some q → Ls[i].fv.ownBlock = some q ∨ w.heap.size ≤ q := fun q hq => by
      rcases HLIE1.out with h | h
      · exact .inl (by rw [HFE.out, ← h]; exact hq)
      · rw [hq] at h
        injection h with h
        exact .inr (by rw [h]; exact Nat.le_refl _)
    refine ⟨fun a b ha hb hab q hq hq2 => ?_, fun x hx y hy q hq hq2 => ?_⟩
    · rw [List.length_set] at ha hb
      rw [List.getElem_set] at hq hq2
      split at hq
      · rename_i h
        subst h
        rw [if_neg hab] at hq2
        rcases hnew q hq with h | h
        · exact HAP.out.1 i b hil hb hab q h hq2
        · have := ((HALL.out _ (List.getElem_mem hb)).1.lt q hq2).2; omega
      · rename_i h
        split at hq2
        · rename_i h'
          subst h'
          rcases hnew q hq2 with h3 | h3
          · exact HAP.out.1 i a hil ha h q h3 hq
          · have := ((HALL.out _ (List.getElem_mem ha)).1.lt q hq).2; omega
        · exact HAP.out.1 a b ha hb hab q hq hq2
    · have hy2 : ∃ y' ∈ Ls, y'.tv = y.tv := by
        rcases List.mem_or_eq_of_mem_set hy with h | h
        · exact ⟨y, h, rfl⟩
        · exact ⟨Ls[i], List.getElem_mem hil, by rw [h]⟩
      obtain ⟨y', hy', hyt⟩ := hy2
      rw [← hyt] at hq2
      rcases List.mem_or_eq_of_mem_set hx with h | h
      · exact HAP.out.2 x h y' hy' q hq hq2
      · rw [h] at hq
        rcases hnew q hq with h3 | h3
        · exact HAP.out.2 _ (List.getElem_mem hil) y' hy' q h3 hq2
        · have := ((HALL.out _ hy').2.lt q hq2).2; omega
  · have h1 : Below base w w1 := HFR1.out.below hbw (fun q hq => (HFV.out.lt q hq).1)
    exact h1.trans (HFR2.out.below (Nat.le_trans hbw h1.size) (fun q hq => by have h : q = g := hq; omega))
end Go.Proofs.Ytmooflmhbpckjaa
