/-
  Right's closure, kind by kind. No condition beyond what each theorem names.
-/
import Derived.Test.YtmooflmhbpckjaaNH
set_option linter.unusedVariables false
set_option linter.unusedSimpArgs false
namespace Go.Proofs.Ytmooflmhbpckjaa
open Go.RowKit

theorem Ints.fr' {F : Nat → Prop} {w w' : World} {v : Value} {xs : List Int} (h : Ints w v xs) (hf : Fr F w w') (hn : 0 < xs.length → ∀ k, v.ownBlock = some k → ¬ F k) : Ints w' v xs := Raw.fr hf h (by simpa using hn)

theorem rising_succ {cls : List Int} {k : Nat} (hk : k < cls.length) (h : rising (cls.take k)) (h1 : 0 ≤ cls[k]) (h2 : cls[k] < 24) (h3 : ∀ h0 : 0 < k, cls[k - 1] < cls[k]) : rising (cls.take (k + 1)) := by
  intro i hi
  rw [List.length_take] at hi
  simp only [List.getElem_take]
  by_cases e : i = k
  · subst e; exact ⟨h1, h2, h3⟩
  · have := h i (by rw [List.length_take]; omega)
    simp only [List.getElem_take] at this
    exact this

set_option maxRecDepth 100000 in
set_option maxHeartbeats 4000000 in
theorem right_0 (cls : List Int) (ps : List Nd) (ih : ∀ x ∈ ps, RightAt x) : ∀ (w : World) (mb rb : Nat) (mc d : Nat) (a b c : Value), mc + 1 ≤ 400 → d ≤ 32 → ((0 : Int) = 1 ∨ cls.length = 0) → ((0 : Int) = 0 ∨ (0 : Int) = 1 → ps.length = 0) → ((0 : Int) = 4 ∨ (0 : Int) = 5 → ps.length = 1) → NodeF (fun k => k ≠ mb) w (.mk 0 cls ps) a b c → mc ≤ 400 → d ≤ 33 → RVars w mb rb mc →
    Calls Try.prog 32 #[.agg #[a, b, c], .int .i64 d, .pointer (some ⟨mb, 0, none⟩), .pointer (some ⟨rb, 0, none⟩)] w (RPost w mb rb mc (.mk 0 cls ps) d) := by
  intro w mb rb mc d a b c hmc1 hd1 hone hnil hsing hx hmc hd hv
  have IH := Lib.hid ih
  have HONE := Lib.hid hone
  have HNIL := Lib.hid hnil
  have HSING := Lib.hid hsing
  clear ih hone hnil hsing
  rw [nodeF_iff] at hx
  obtain ⟨rfl, hcl, hclf, hcb, hpb, hps⟩ := hx
  obtain ⟨pc, capc, rfl, hcc, hxc⟩ := hcl.get
  obtain ⟨pp, capp, rfl, hcp, hxp⟩ := hps.get
  unfold R at hcb hpb
  have HXC := Lib.hid (show Ints w (.slice pc cls.length capc) cls ∧ Lies (fun k => k ≠ mb) (.slice pc cls.length capc) cls.length from ⟨hcl, hclf⟩)
  have HXP := Lib.hid hxp
  have HV := Lib.hid hv
  clear hcl hps hxc hxp hv hclf
  go_enter Try.func32, Try.ntmps32
  go_upto_region 1 with fail
  refine abs_wp fun W hW => ?_
  obtain ⟨B, hB⟩ : ∃ B, B = w.heap.size := ⟨_, rfl⟩
  have hbox : W.heap[B]? = some (.cells #[.int .i64 0, .slice pc cls.length capc, .slice pp ps.length capp] 49) := by rw [hW, hB]; exact heap_alloc_new _ _
  have hbe : Below w.heap.size w W := by rw [hW]; exact below_alloc1 _ _
  have hbm : B ≠ mb := by have := at_lt HV.out.2.1; omega
  rw [← hB]
  have HBE := Lib.hid hbe
  have HBOX := Lib.hid hbox
  have HBM := Lib.hid hbm
  have HM1 := Lib.hid ((hbe.block mb (at_lt HV.out.2.1)).trans HV.out.2.1)
  have HR1 := Lib.hid ((hbe.block rb (at_lt HV.out.2.2)).trans HV.out.2.2)
  have x0 : W.cell? ⟨mb, 0, none⟩ = some (.int .i64 mc) := by simp [World.cell?, HM1.out]
  have f0 : W.frozen? ⟨mb, 0, none⟩ = false := fz_at HM1.out 0
  clear hW hbox hbe hB hbm
  go_upto_region 2 with fail
  refine abs_wp fun W1 hW1 => ?_
  have HF1 := Lib.hid (show Fr (fun k => k = mb) w W1 by
    rw [hW1]; exact (Fr.of_below HBE.out _).trans (Fr.setCell (F := fun k => k = mb) W rfl _) (fun _ _ h => h))
  have HBOX1 := Lib.hid (show W1.heap[B]? = some (.cells #[.int .i64 0, .slice pc cls.length capc, .slice pp ps.length capp] 49) by
    rw [hW1]; exact ((Fr.setCell (F := fun k => k = mb) W rfl _).block B (at_lt HBOX.out) HBM.out).trans HBOX.out)
  have HM2 := Lib.hid (show W1.heap[mb]? = some (.cells #[.int .i64 ((mc : Int) + 1)] 3) by rw [hW1]; have h := blk_set HM1.out 0 (.int .i64 ((mc : Int) + 1)); exact h)
  have HR2 := Lib.hid (show W1.heap[rb]? = some (.cells #[.func (.func 32) #[] #[.pointer (some ⟨mb, 0, none⟩), .pointer (some ⟨rb, 0, none⟩)]] 86) by
    rw [hW1]; exact ((Fr.setCell (F := fun k => k = mb) W rfl _).block rb (at_lt HR1.out) (fun h => HV.out.1 h.symm)).trans HR1.out)
  clear hW1 x0 f0
  have x0 : W1.cell? ⟨mb, 0, none⟩ = some (.int .i64 ((mc : Int) + 1)) := by simp [World.cell?, HM2.out]
  obtain ⟨y0, y1, y2⟩ := cells3 HBOX1.out
  have c1' : ¬ (400 : Int) < (mc : Int) + 1 := by omega
  have c2' : ¬ (32 : Int) < (d : Int) := by omega
  have c3' : ¬ (0 : Int) < cls.length := by have := HONE.out; omega
  have c4' : ¬ (0 : Int) < ps.length := by have := HNIL.out; omega
  go_wp2_with fail
  go_loop [52] (fun i => ∃ k : Nat, i = .int .i64 k ∧ k ≤ cls.length ∧ rising (cls.take k)) (fun i => cls.length - (intOf i).toNat)
  case atStart => exact ⟨0, rfl, by omega, by intro i h; simp at h⟩
  case round =>
    obtain ⟨k, rfl, h1, hris⟩ := hrel
    have HRIS := Lib.hid hris
    clear hris
    by_cases hk : k < cls.length
    · exact absurd hk (by omega)
    · have hke : cls.take k = cls := List.take_of_length_le (by omega)
      have HRI := Lib.hid (show rising cls by rw [← hke]; exact HRIS.out)
      have hkk : ¬ (k : Int) < cls.length := by omega
      clear hke
      obtain ⟨y0, y1, y2⟩ := cells3 HBOX1.out
      have HV2 := Lib.hid (show RVars W1 mb rb ((mc + 1 + cntL (ps.take 0) : Nat) : Int) from ⟨HV.out.1, by rw [HM2.out]; simp [cntL], HR2.out⟩)
      clear x0 hkk
      go_wp2_with fail
      go_loopw [81] (fun i wr => ∃ k : Nat, i = .int .i64 k ∧ k ≤ ps.length ∧ mc + 1 + cntL (ps.take k) ≤ 400 ∧ WfL (d + 1) (ps.take k) ∧ RVars wr mb rb ((mc + 1 + cntL (ps.take k) : Nat) : Int) ∧ Fr (fun k => k = mb) w wr) (fun i _ => ps.length - (intOf i).toNat)
      case atStart => exact ⟨0, rfl, by omega, by simp [cntL]; omega, by simp [WfL], HV2.out, HF1.out⟩
      case round =>
        obtain ⟨j, rfl, j1, jc, jw, jv, jf⟩ := hrel
        obtain ⟨n, hn⟩ : ∃ n, n = mc + 1 + cntL (ps.take j) := ⟨_, rfl⟩
        rw [← hn] at jc jv
        have HN := Lib.hid hn
        have HW := Lib.hid jw
        have HVr := Lib.hid jv
        have HFr := Lib.hid jf
        have r9 : wr.cell? ⟨rb, 0, none⟩ = some (.func (.func 32) #[] #[.pointer (some ⟨mb, 0, none⟩), .pointer (some ⟨rb, 0, none⟩)]) := by simp [World.cell?, jv.2.2]
        have hrlt : rb < wr.heap.size := at_lt jv.2.2
        clear hn jw jv jf
        by_cases hj : j < ps.length
        · exact absurd (HNIL.out (by simp)) (by omega)
        · have hke : ps.take j = ps := List.take_of_length_le (by omega)
          have hjj : ¬ (j : Int) < ps.length := by omega
          have HYES := Lib.hid (show (Wf d (.mk 0 cls ps) ∧ mc + cnt (.mk 0 cls ps) ≤ 400) ∧ n = mc + cnt (.mk 0 cls ps) from by
            have h1 := HN.out
            have h2 := HW.out
            rw [hke] at h1 h2
            have h3 : mc + cnt (.mk 0 cls ps) = n := by simp only [cnt]; omega
            refine ⟨⟨?_, by omega⟩, h3.symm⟩
            unfold Wf
            refine ⟨hd1, by omega, fun h => ?_, fun h => ?_, fun h => HSING.out (by first | exact h | simp), HRI.out, h2⟩
            · rcases HONE.out with h4 | h4
              · first | exact absurd h4 h | exact absurd rfl h
              · exact List.eq_nil_of_length_eq_zero h4
            · exact List.eq_nil_of_length_eq_zero (HNIL.out (by first | exact h | simp)))
          clear hke r9
          go_wp2_with fail
          go_ret
          exact ⟨true, rfl, ⟨fun _ => HYES.out.1, fun _ => rfl⟩, fun _ => by rw [← HYES.out.2]; exact HVr.out, HFr.out⟩

set_option maxRecDepth 100000 in
set_option maxHeartbeats 4000000 in
theorem right_1 (cls : List Int) (ps : List Nd) (ih : ∀ x ∈ ps, RightAt x) : ∀ (w : World) (mb rb : Nat) (mc d : Nat) (a b c : Value), mc + 1 ≤ 400 → d ≤ 32 → ((1 : Int) = 1 ∨ cls.length = 0) → ((1 : Int) = 0 ∨ (1 : Int) = 1 → ps.length = 0) → ((1 : Int) = 4 ∨ (1 : Int) = 5 → ps.length = 1) → NodeF (fun k => k ≠ mb) w (.mk 1 cls ps) a b c → mc ≤ 400 → d ≤ 33 → RVars w mb rb mc →
    Calls Try.prog 32 #[.agg #[a, b, c], .int .i64 d, .pointer (some ⟨mb, 0, none⟩), .pointer (some ⟨rb, 0, none⟩)] w (RPost w mb rb mc (.mk 1 cls ps) d) := by
  intro w mb rb mc d a b c hmc1 hd1 hone hnil hsing hx hmc hd hv
  have IH := Lib.hid ih
  have HONE := Lib.hid hone
  have HNIL := Lib.hid hnil
  have HSING := Lib.hid hsing
  clear ih hone hnil hsing
  rw [nodeF_iff] at hx
  obtain ⟨rfl, hcl, hclf, hcb, hpb, hps⟩ := hx
  obtain ⟨pc, capc, rfl, hcc, hxc⟩ := hcl.get
  obtain ⟨pp, capp, rfl, hcp, hxp⟩ := hps.get
  unfold R at hcb hpb
  have HXC := Lib.hid (show Ints w (.slice pc cls.length capc) cls ∧ Lies (fun k => k ≠ mb) (.slice pc cls.length capc) cls.length from ⟨hcl, hclf⟩)
  have HXP := Lib.hid hxp
  have HV := Lib.hid hv
  clear hcl hps hxc hxp hv hclf
  go_enter Try.func32, Try.ntmps32
  go_upto_region 1 with fail
  refine abs_wp fun W hW => ?_
  obtain ⟨B, hB⟩ : ∃ B, B = w.heap.size := ⟨_, rfl⟩
  have hbox : W.heap[B]? = some (.cells #[.int .i64 1, .slice pc cls.length capc, .slice pp ps.length capp] 49) := by rw [hW, hB]; exact heap_alloc_new _ _
  have hbe : Below w.heap.size w W := by rw [hW]; exact below_alloc1 _ _
  have hbm : B ≠ mb := by have := at_lt HV.out.2.1; omega
  rw [← hB]
  have HBE := Lib.hid hbe
  have HBOX := Lib.hid hbox
  have HBM := Lib.hid hbm
  have HM1 := Lib.hid ((hbe.block mb (at_lt HV.out.2.1)).trans HV.out.2.1)
  have HR1 := Lib.hid ((hbe.block rb (at_lt HV.out.2.2)).trans HV.out.2.2)
  have x0 : W.cell? ⟨mb, 0, none⟩ = some (.int .i64 mc) := by simp [World.cell?, HM1.out]
  have f0 : W.frozen? ⟨mb, 0, none⟩ = false := fz_at HM1.out 0
  clear hW hbox hbe hB hbm
  go_upto_region 2 with fail
  refine abs_wp fun W1 hW1 => ?_
  have HF1 := Lib.hid (show Fr (fun k => k = mb) w W1 by
    rw [hW1]; exact (Fr.of_below HBE.out _).trans (Fr.setCell (F := fun k => k = mb) W rfl _) (fun _ _ h => h))
  have HBOX1 := Lib.hid (show W1.heap[B]? = some (.cells #[.int .i64 1, .slice pc cls.length capc, .slice pp ps.length capp] 49) by
    rw [hW1]; exact ((Fr.setCell (F := fun k => k = mb) W rfl _).block B (at_lt HBOX.out) HBM.out).trans HBOX.out)
  have HM2 := Lib.hid (show W1.heap[mb]? = some (.cells #[.int .i64 ((mc : Int) + 1)] 3) by rw [hW1]; have h := blk_set HM1.out 0 (.int .i64 ((mc : Int) + 1)); exact h)
  have HR2 := Lib.hid (show W1.heap[rb]? = some (.cells #[.func (.func 32) #[] #[.pointer (some ⟨mb, 0, none⟩), .pointer (some ⟨rb, 0, none⟩)]] 86) by
    rw [hW1]; exact ((Fr.setCell (F := fun k => k = mb) W rfl _).block rb (at_lt HR1.out) (fun h => HV.out.1 h.symm)).trans HR1.out)
  clear hW1 x0 f0
  have x0 : W1.cell? ⟨mb, 0, none⟩ = some (.int .i64 ((mc : Int) + 1)) := by simp [World.cell?, HM2.out]
  obtain ⟨y0, y1, y2⟩ := cells3 HBOX1.out
  have c1' : ¬ (400 : Int) < (mc : Int) + 1 := by omega
  have c2' : ¬ (32 : Int) < (d : Int) := by omega
  have c4' : ¬ (0 : Int) < ps.length := by have := HNIL.out; omega
  go_wp2_with fail
  go_loop [52] (fun i => ∃ k : Nat, i = .int .i64 k ∧ k ≤ cls.length ∧ rising (cls.take k)) (fun i => cls.length - (intOf i).toNat)
  case atStart => exact ⟨0, rfl, by omega, by intro i h; simp at h⟩
  case round =>
    obtain ⟨k, rfl, h1, hris⟩ := hrel
    have HRIS := Lib.hid hris
    clear hris
    by_cases hk : k < cls.length
    · obtain ⟨hcl, hclf⟩ := HXC.out
      obtain ⟨pc', capc', he, hcc', hxc⟩ := (hcl.fr' HF1.out (fun h0 q hq hqm => hclf h0 q hq hqm)).get
      injection he with e1 e2 e3
      subst e1 e3
      obtain ⟨bb, off, rfl, hbl, hxx⟩ := hxc (by omega)
      have z0 := hxx k hk
      have hkk : (k : Int) < cls.length := by omega
      have hk0 : (0 : Int) ≤ k := by omega
      obtain ⟨v, hv⟩ : ∃ v, v = cls[k] := ⟨_, rfl⟩
      rw [← hv] at z0
      have HVV := Lib.hid hv
      have HNO := Lib.hid (show ∀ (_ : v < 0 ∨ 24 ≤ v ∨ (∃ h0 : 0 < k, v ≤ cls[k - 1])), ¬ (Wf d (.mk 1 cls ps) ∧ mc + cnt (.mk 1 cls ps) ≤ 400) from fun hbad ⟨hwf, _⟩ => by
        unfold Wf at hwf
        obtain ⟨r1, r2, r3⟩ := hwf.2.2.2.2.2.1 k hk
        rcases hbad with h | h | ⟨h0, h⟩
        · omega
        · omega
        · have := r3 h0; omega)
      by_cases g1 : v < 0
      · have HN := Lib.hid (HNO.out (.inl g1))
        clear hxx hxc hv hcl hclf
        go_wp2_with fail
        go_ret
        exact ⟨false, rfl, ⟨(fun h => by cases h), fun h => (HN.out h).elim⟩, (fun h => by cases h), HF1.out⟩
      by_cases g2 : 24 ≤ v
      · have HN := Lib.hid (HNO.out (.inr (.inl g2)))
        clear hxx hxc hv hcl hclf
        go_wp2_with fail
        go_ret
        exact ⟨false, rfl, ⟨(fun h => by cases h), fun h => (HN.out h).elim⟩, (fun h => by cases h), HF1.out⟩
      by_cases g3 : 0 < k
      · have g3' : (0 : Int) < k := by omega
        have z1 := hxx (k - 1) (by omega)
        obtain ⟨u, hu⟩ : ∃ u, u = cls[k - 1] := ⟨_, rfl⟩
        rw [← hu] at z1
        have hsub : ((k : Int) - 1).toNat = k - 1 := by omega
        have hs0 : 0 ≤ (k : Int) - 1 := by omega
        have hs1 : 1 ≤ (k : Int) := by omega
        have hs2 : (k : Int) - 1 < cls.length := by omega
        obtain ⟨y0, y1, y2⟩ := cells3 HBOX1.out
        by_cases g4 : v ≤ u
        · have HN := Lib.hid (HNO.out (.inr (.inr ⟨g3, by rw [← hu]; exact g4⟩)))
          clear hxx hxc hv hcl hclf hu
          go_wp2_with fail
          go_ret
          exact ⟨false, rfl, ⟨(fun h => by cases h), fun h => (HN.out h).elim⟩, (fun h => by cases h), HF1.out⟩
        · have HS := Lib.hid (show rising (cls.take (k + 1)) from rising_succ hk HRIS.out (by omega) (by omega) (fun h0 => by omega))
          clear hxx hxc hv hcl hclf hu
          go_wp2_with fail
          go_round
          case rel => exact ⟨k + 1, by go_num, by omega, HS.out⟩
          case measure => simp [intOf]; omega
      · have g3' : ¬ (0 : Int) < k := by omega
        have HS := Lib.hid (show rising (cls.take (k + 1)) from rising_succ hk HRIS.out (by omega) (by omega) (fun h0 => by omega))
        clear hxx hxc hv hcl hclf
        go_wp2_with fail
        go_round
        case rel => exact ⟨k + 1, by go_num, by omega, HS.out⟩
        case measure => simp [intOf]; omega
    · have hke : cls.take k = cls := List.take_of_length_le (by omega)
      have HRI := Lib.hid (show rising cls by rw [← hke]; exact HRIS.out)
      have hkk : ¬ (k : Int) < cls.length := by omega
      clear hke
      obtain ⟨y0, y1, y2⟩ := cells3 HBOX1.out
      have HV2 := Lib.hid (show RVars W1 mb rb ((mc + 1 + cntL (ps.take 0) : Nat) : Int) from ⟨HV.out.1, by rw [HM2.out]; simp [cntL], HR2.out⟩)
      clear x0 hkk
      go_wp2_with fail
      go_loopw [81] (fun i wr => ∃ k : Nat, i = .int .i64 k ∧ k ≤ ps.length ∧ mc + 1 + cntL (ps.take k) ≤ 400 ∧ WfL (d + 1) (ps.take k) ∧ RVars wr mb rb ((mc + 1 + cntL (ps.take k) : Nat) : Int) ∧ Fr (fun k => k = mb) w wr) (fun i _ => ps.length - (intOf i).toNat)
      case atStart => exact ⟨0, rfl, by omega, by simp [cntL]; omega, by simp [WfL], HV2.out, HF1.out⟩
      case round =>
        obtain ⟨j, rfl, j1, jc, jw, jv, jf⟩ := hrel
        obtain ⟨n, hn⟩ : ∃ n, n = mc + 1 + cntL (ps.take j) := ⟨_, rfl⟩
        rw [← hn] at jc jv
        have HN := Lib.hid hn
        have HW := Lib.hid jw
        have HVr := Lib.hid jv
        have HFr := Lib.hid jf
        have r9 : wr.cell? ⟨rb, 0, none⟩ = some (.func (.func 32) #[] #[.pointer (some ⟨mb, 0, none⟩), .pointer (some ⟨rb, 0, none⟩)]) := by simp [World.cell?, jv.2.2]
        have hrlt : rb < wr.heap.size := at_lt jv.2.2
        clear hn jw jv jf
        by_cases hj : j < ps.length
        · exact absurd (HNIL.out (by simp)) (by omega)
        · have hke : ps.take j = ps := List.take_of_length_le (by omega)
          have hjj : ¬ (j : Int) < ps.length := by omega
          have HYES := Lib.hid (show (Wf d (.mk 1 cls ps) ∧ mc + cnt (.mk 1 cls ps) ≤ 400) ∧ n = mc + cnt (.mk 1 cls ps) from by
            have h1 := HN.out
            have h2 := HW.out
            rw [hke] at h1 h2
            have h3 : mc + cnt (.mk 1 cls ps) = n := by simp only [cnt]; omega
            refine ⟨⟨?_, by omega⟩, h3.symm⟩
            unfold Wf
            refine ⟨hd1, by omega, fun h => ?_, fun h => ?_, fun h => HSING.out (by first | exact h | simp), HRI.out, h2⟩
            · rcases HONE.out with h4 | h4
              · first | exact absurd h4 h | exact absurd rfl h
              · exact List.eq_nil_of_length_eq_zero h4
            · exact List.eq_nil_of_length_eq_zero (HNIL.out (by first | exact h | simp)))
          clear hke r9
          go_wp2_with fail
          go_ret
          exact ⟨true, rfl, ⟨fun _ => HYES.out.1, fun _ => rfl⟩, fun _ => by rw [← HYES.out.2]; exact HVr.out, HFr.out⟩

set_option maxRecDepth 100000 in
set_option maxHeartbeats 4000000 in
theorem right_2 (cls : List Int) (ps : List Nd) (ih : ∀ x ∈ ps, RightAt x) : ∀ (w : World) (mb rb : Nat) (mc d : Nat) (a b c : Value), mc + 1 ≤ 400 → d ≤ 32 → ((2 : Int) = 1 ∨ cls.length = 0) → ((2 : Int) = 0 ∨ (2 : Int) = 1 → ps.length = 0) → ((2 : Int) = 4 ∨ (2 : Int) = 5 → ps.length = 1) → NodeF (fun k => k ≠ mb) w (.mk 2 cls ps) a b c → mc ≤ 400 → d ≤ 33 → RVars w mb rb mc →
    Calls Try.prog 32 #[.agg #[a, b, c], .int .i64 d, .pointer (some ⟨mb, 0, none⟩), .pointer (some ⟨rb, 0, none⟩)] w (RPost w mb rb mc (.mk 2 cls ps) d) := by
  intro w mb rb mc d a b c hmc1 hd1 hone hnil hsing hx hmc hd hv
  have IH := Lib.hid ih
  have HONE := Lib.hid hone
  have HNIL := Lib.hid hnil
  have HSING := Lib.hid hsing
  clear ih hone hnil hsing
  rw [nodeF_iff] at hx
  obtain ⟨rfl, hcl, hclf, hcb, hpb, hps⟩ := hx
  obtain ⟨pc, capc, rfl, hcc, hxc⟩ := hcl.get
  obtain ⟨pp, capp, rfl, hcp, hxp⟩ := hps.get
  unfold R at hcb hpb
  have HXC := Lib.hid (show Ints w (.slice pc cls.length capc) cls ∧ Lies (fun k => k ≠ mb) (.slice pc cls.length capc) cls.length from ⟨hcl, hclf⟩)
  have HXP := Lib.hid hxp
  have HV := Lib.hid hv
  clear hcl hps hxc hxp hv hclf
  go_enter Try.func32, Try.ntmps32
  go_upto_region 1 with fail
  refine abs_wp fun W hW => ?_
  obtain ⟨B, hB⟩ : ∃ B, B = w.heap.size := ⟨_, rfl⟩
  have hbox : W.heap[B]? = some (.cells #[.int .i64 2, .slice pc cls.length capc, .slice pp ps.length capp] 49) := by rw [hW, hB]; exact heap_alloc_new _ _
  have hbe : Below w.heap.size w W := by rw [hW]; exact below_alloc1 _ _
  have hbm : B ≠ mb := by have := at_lt HV.out.2.1; omega
  rw [← hB]
  have HBE := Lib.hid hbe
  have HBOX := Lib.hid hbox
  have HBM := Lib.hid hbm
  have HM1 := Lib.hid ((hbe.block mb (at_lt HV.out.2.1)).trans HV.out.2.1)
  have HR1 := Lib.hid ((hbe.block rb (at_lt HV.out.2.2)).trans HV.out.2.2)
  have x0 : W.cell? ⟨mb, 0, none⟩ = some (.int .i64 mc) := by simp [World.cell?, HM1.out]
  have f0 : W.frozen? ⟨mb, 0, none⟩ = false := fz_at HM1.out 0
  clear hW hbox hbe hB hbm
  go_upto_region 2 with fail
  refine abs_wp fun W1 hW1 => ?_
  have HF1 := Lib.hid (show Fr (fun k => k = mb) w W1 by
    rw [hW1]; exact (Fr.of_below HBE.out _).trans (Fr.setCell (F := fun k => k = mb) W rfl _) (fun _ _ h => h))
  have HBOX1 := Lib.hid (show W1.heap[B]? = some (.cells #[.int .i64 2, .slice pc cls.length capc, .slice pp ps.length capp] 49) by
    rw [hW1]; exact ((Fr.setCell (F := fun k => k = mb) W rfl _).block B (at_lt HBOX.out) HBM.out).trans HBOX.out)
  have HM2 := Lib.hid (show W1.heap[mb]? = some (.cells #[.int .i64 ((mc : Int) + 1)] 3) by rw [hW1]; have h := blk_set HM1.out 0 (.int .i64 ((mc : Int) + 1)); exact h)
  have HR2 := Lib.hid (show W1.heap[rb]? = some (.cells #[.func (.func 32) #[] #[.pointer (some ⟨mb, 0, none⟩), .pointer (some ⟨rb, 0, none⟩)]] 86) by
    rw [hW1]; exact ((Fr.setCell (F := fun k => k = mb) W rfl _).block rb (at_lt HR1.out) (fun h => HV.out.1 h.symm)).trans HR1.out)
  clear hW1 x0 f0
  have x0 : W1.cell? ⟨mb, 0, none⟩ = some (.int .i64 ((mc : Int) + 1)) := by simp [World.cell?, HM2.out]
  obtain ⟨y0, y1, y2⟩ := cells3 HBOX1.out
  have c1' : ¬ (400 : Int) < (mc : Int) + 1 := by omega
  have c2' : ¬ (32 : Int) < (d : Int) := by omega
  have c3' : ¬ (0 : Int) < cls.length := by have := HONE.out; omega
  go_wp2_with fail
  go_loop [52] (fun i => ∃ k : Nat, i = .int .i64 k ∧ k ≤ cls.length ∧ rising (cls.take k)) (fun i => cls.length - (intOf i).toNat)
  case atStart => exact ⟨0, rfl, by omega, by intro i h; simp at h⟩
  case round =>
    obtain ⟨k, rfl, h1, hris⟩ := hrel
    have HRIS := Lib.hid hris
    clear hris
    by_cases hk : k < cls.length
    · exact absurd hk (by omega)
    · have hke : cls.take k = cls := List.take_of_length_le (by omega)
      have HRI := Lib.hid (show rising cls by rw [← hke]; exact HRIS.out)
      have hkk : ¬ (k : Int) < cls.length := by omega
      clear hke
      obtain ⟨y0, y1, y2⟩ := cells3 HBOX1.out
      have HV2 := Lib.hid (show RVars W1 mb rb ((mc + 1 + cntL (ps.take 0) : Nat) : Int) from ⟨HV.out.1, by rw [HM2.out]; simp [cntL], HR2.out⟩)
      clear x0 hkk
      go_wp2_with fail
      go_loopw [81] (fun i wr => ∃ k : Nat, i = .int .i64 k ∧ k ≤ ps.length ∧ mc + 1 + cntL (ps.take k) ≤ 400 ∧ WfL (d + 1) (ps.take k) ∧ RVars wr mb rb ((mc + 1 + cntL (ps.take k) : Nat) : Int) ∧ Fr (fun k => k = mb) w wr) (fun i _ => ps.length - (intOf i).toNat)
      case atStart => exact ⟨0, rfl, by omega, by simp [cntL]; omega, by simp [WfL], HV2.out, HF1.out⟩
      case round =>
        obtain ⟨j, rfl, j1, jc, jw, jv, jf⟩ := hrel
        obtain ⟨n, hn⟩ : ∃ n, n = mc + 1 + cntL (ps.take j) := ⟨_, rfl⟩
        rw [← hn] at jc jv
        have HN := Lib.hid hn
        have HW := Lib.hid jw
        have HVr := Lib.hid jv
        have HFr := Lib.hid jf
        have r9 : wr.cell? ⟨rb, 0, none⟩ = some (.func (.func 32) #[] #[.pointer (some ⟨mb, 0, none⟩), .pointer (some ⟨rb, 0, none⟩)]) := by simp [World.cell?, jv.2.2]
        have hrlt : rb < wr.heap.size := at_lt jv.2.2
        clear hn jw jv jf
        by_cases hj : j < ps.length
        · obtain ⟨bb, off, rfl, hbl, hbF, hxx⟩ := HXP.out (by omega)
          obtain ⟨x, y, z, c0, c1, c2, hnode⟩ := hxx j hj
          have r0 := HFr.out.cell (p := ⟨bb, _, none⟩) hbF c0
          have r1 := HFr.out.cell (p := ⟨bb, _, none⟩) hbF c1
          have r2 := HFr.out.cell (p := ⟨bb, _, none⟩) hbF c2
          obtain ⟨o0, p0, l0, d0, q0, m0, e0, rfl, rfl, rfl⟩ := (hnode.is).form
          have HD := Lib.hid (show ∀ W', Below wr.heap.size wr W' → Calls Try.prog 32 #[.agg #[.int .i64 o0, .slice p0 l0 d0, .slice q0 m0 e0], .int .i64 ((d : Int) + 1), .pointer (some ⟨mb, 0, none⟩), .pointer (some ⟨rb, 0, none⟩)] W' (RPost W' mb rb n ps[j] (d + 1)) from fun W' hW' => by
            have h := IH.out ps[j] (List.getElem_mem hj) W' mb rb n (d + 1) _ _ _ (NodeF.below hW' (Nat.le_refl _) _ (NodeF.fr HFr.out (fun q hq => hq) _ hnode)) jc (by omega)
              ⟨HVr.out.1, (hW'.block _ (at_lt HVr.out.2.1)).trans HVr.out.2.1, (hW'.block _ (at_lt HVr.out.2.2)).trans HVr.out.2.2⟩
            rwa [show ((d + 1 : Nat) : Int) = (d : Int) + 1 by omega] at h)
          have HCT := Lib.hid (cntL_take hj)
          have HCL := Lib.hid (cntL_take_le ps (j + 1))
          have hjj : (j : Int) < ps.length := by omega
          have hj0 : (0 : Int) ≤ j := by omega
          clear hxx c0 c1 c2 hnode
          have r9' : ∀ o, (wr.alloc o).cell? ⟨rb, 0, none⟩ = some (.func (.func 32) #[] #[.pointer (some ⟨mb, 0, none⟩), .pointer (some ⟨rb, 0, none⟩)]) := fun o => by rw [World.cell?_alloc_lt _ _ _ hrlt]; exact r9
          go_wp2_with fail
          refine (HD.out _ (below_alloc1 _ _)).mono ?_
          rintro e w3 ⟨b, rfl, hiff, hrv, hfr3⟩
          have HI := Lib.hid hiff
          have HRV := Lib.hid hrv
          have HF3 := Lib.hid ((HFr.out.trans (Fr.of_below (below_alloc1 wr (.cells #[.int .i64 o0, .slice p0 l0 d0, .slice q0 m0 e0] 49)) (fun k => k = mb)) (fun _ _ h => h)).trans hfr3 (fun _ _ h => h))
          clear hiff hrv hfr3 r9' r0 r1 r2 r9
          cases b
          · have HNO := Lib.hid (show ¬ (Wf d (.mk 2 cls ps) ∧ mc + cnt (.mk 2 cls ps) ≤ 400) from fun ⟨hwf, hc⟩ => by
              unfold Wf at hwf
              have h := HI.out.2 ⟨(WfL_iff.1 hwf.2.2.2.2.2.2) _ (List.getElem_mem hj), by have := HN.out; have := HCT.out; have := HCL.out; simp only [cnt] at hc; omega⟩
              cases h)
            go_wp2_with fail
            go_ret
            exact ⟨false, rfl, ⟨(fun h => by cases h), fun h => (HNO.out h).elim⟩, (fun h => by cases h), HF3.out⟩
          · have HREL := Lib.hid (show mc + 1 + cntL (ps.take (j + 1)) ≤ 400 ∧ WfL (d + 1) (ps.take (j + 1)) ∧ RVars w3 mb rb ((mc + 1 + cntL (ps.take (j + 1)) : Nat) : Int) from by
              obtain ⟨g1, g2⟩ := HI.out.1 rfl
              have h1 := HCT.out
              have h2 := HN.out
              refine ⟨by omega, ?_, ?_⟩
              · rw [WfL_iff]
                intro x hx
                rw [List.take_succ_eq_append_getElem hj] at hx
                rcases List.mem_append.1 hx with hx | hx
                · exact (WfL_iff.1 HW.out) x hx
                · rw [List.mem_singleton.1 hx]; exact g1
              · have h3 := HRV.out rfl
                rwa [show n + cnt ps[j] = mc + 1 + cntL (ps.take (j + 1)) by omega] at h3)
            go_wp2_with fail
            go_roundw
            case rel => exact ⟨j + 1, by go_num, by omega, HREL.out.1, HREL.out.2.1, HREL.out.2.2, HF3.out⟩
            case measure => simp [intOf]; omega
        · have hke : ps.take j = ps := List.take_of_length_le (by omega)
          have hjj : ¬ (j : Int) < ps.length := by omega
          have HYES := Lib.hid (show (Wf d (.mk 2 cls ps) ∧ mc + cnt (.mk 2 cls ps) ≤ 400) ∧ n = mc + cnt (.mk 2 cls ps) from by
            have h1 := HN.out
            have h2 := HW.out
            rw [hke] at h1 h2
            have h3 : mc + cnt (.mk 2 cls ps) = n := by simp only [cnt]; omega
            refine ⟨⟨?_, by omega⟩, h3.symm⟩
            unfold Wf
            refine ⟨hd1, by omega, fun h => ?_, fun h => ?_, fun h => HSING.out (by first | exact h | simp), HRI.out, h2⟩
            · rcases HONE.out with h4 | h4
              · first | exact absurd h4 h | exact absurd rfl h
              · exact List.eq_nil_of_length_eq_zero h4
            · exact List.eq_nil_of_length_eq_zero (HNIL.out (by first | exact h | simp)))
          clear hke r9
          go_wp2_with fail
          go_ret
          exact ⟨true, rfl, ⟨fun _ => HYES.out.1, fun _ => rfl⟩, fun _ => by rw [← HYES.out.2]; exact HVr.out, HFr.out⟩

set_option maxRecDepth 100000 in
set_option maxHeartbeats 4000000 in
theorem right_3 (cls : List Int) (ps : List Nd) (ih : ∀ x ∈ ps, RightAt x) : ∀ (w : World) (mb rb : Nat) (mc d : Nat) (a b c : Value), mc + 1 ≤ 400 → d ≤ 32 → ((3 : Int) = 1 ∨ cls.length = 0) → ((3 : Int) = 0 ∨ (3 : Int) = 1 → ps.length = 0) → ((3 : Int) = 4 ∨ (3 : Int) = 5 → ps.length = 1) → NodeF (fun k => k ≠ mb) w (.mk 3 cls ps) a b c → mc ≤ 400 → d ≤ 33 → RVars w mb rb mc →
    Calls Try.prog 32 #[.agg #[a, b, c], .int .i64 d, .pointer (some ⟨mb, 0, none⟩), .pointer (some ⟨rb, 0, none⟩)] w (RPost w mb rb mc (.mk 3 cls ps) d) := by
  intro w mb rb mc d a b c hmc1 hd1 hone hnil hsing hx hmc hd hv
  have IH := Lib.hid ih
  have HONE := Lib.hid hone
  have HNIL := Lib.hid hnil
  have HSING := Lib.hid hsing
  clear ih hone hnil hsing
  rw [nodeF_iff] at hx
  obtain ⟨rfl, hcl, hclf, hcb, hpb, hps⟩ := hx
  obtain ⟨pc, capc, rfl, hcc, hxc⟩ := hcl.get
  obtain ⟨pp, capp, rfl, hcp, hxp⟩ := hps.get
  unfold R at hcb hpb
  have HXC := Lib.hid (show Ints w (.slice pc cls.length capc) cls ∧ Lies (fun k => k ≠ mb) (.slice pc cls.length capc) cls.length from ⟨hcl, hclf⟩)
  have HXP := Lib.hid hxp
  have HV := Lib.hid hv
  clear hcl hps hxc hxp hv hclf
  go_enter Try.func32, Try.ntmps32
  go_upto_region 1 with fail
  refine abs_wp fun W hW => ?_
  obtain ⟨B, hB⟩ : ∃ B, B = w.heap.size := ⟨_, rfl⟩
  have hbox : W.heap[B]? = some (.cells #[.int .i64 3, .slice pc cls.length capc, .slice pp ps.length capp] 49) := by rw [hW, hB]; exact heap_alloc_new _ _
  have hbe : Below w.heap.size w W := by rw [hW]; exact below_alloc1 _ _
  have hbm : B ≠ mb := by have := at_lt HV.out.2.1; omega
  rw [← hB]
  have HBE := Lib.hid hbe
  have HBOX := Lib.hid hbox
  have HBM := Lib.hid hbm
  have HM1 := Lib.hid ((hbe.block mb (at_lt HV.out.2.1)).trans HV.out.2.1)
  have HR1 := Lib.hid ((hbe.block rb (at_lt HV.out.2.2)).trans HV.out.2.2)
  have x0 : W.cell? ⟨mb, 0, none⟩ = some (.int .i64 mc) := by simp [World.cell?, HM1.out]
  have f0 : W.frozen? ⟨mb, 0, none⟩ = false := fz_at HM1.out 0
  clear hW hbox hbe hB hbm
  go_upto_region 2 with fail
  refine abs_wp fun W1 hW1 => ?_
  have HF1 := Lib.hid (show Fr (fun k => k = mb) w W1 by
    rw [hW1]; exact (Fr.of_below HBE.out _).trans (Fr.setCell (F := fun k => k = mb) W rfl _) (fun _ _ h => h))
  have HBOX1 := Lib.hid (show W1.heap[B]? = some (.cells #[.int .i64 3, .slice pc cls.length capc, .slice pp ps.length capp] 49) by
    rw [hW1]; exact ((Fr.setCell (F := fun k => k = mb) W rfl _).block B (at_lt HBOX.out) HBM.out).trans HBOX.out)
  have HM2 := Lib.hid (show W1.heap[mb]? = some (.cells #[.int .i64 ((mc : Int) + 1)] 3) by rw [hW1]; have h := blk_set HM1.out 0 (.int .i64 ((mc : Int) + 1)); exact h)
  have HR2 := Lib.hid (show W1.heap[rb]? = some (.cells #[.func (.func 32) #[] #[.pointer (some ⟨mb, 0, none⟩), .pointer (some ⟨rb, 0, none⟩)]] 86) by
    rw [hW1]; exact ((Fr.setCell (F := fun k => k = mb) W rfl _).block rb (at_lt HR1.out) (fun h => HV.out.1 h.symm)).trans HR1.out)
  clear hW1 x0 f0
  have x0 : W1.cell? ⟨mb, 0, none⟩ = some (.int .i64 ((mc : Int) + 1)) := by simp [World.cell?, HM2.out]
  obtain ⟨y0, y1, y2⟩ := cells3 HBOX1.out
  have c1' : ¬ (400 : Int) < (mc : Int) + 1 := by omega
  have c2' : ¬ (32 : Int) < (d : Int) := by omega
  have c3' : ¬ (0 : Int) < cls.length := by have := HONE.out; omega
  go_wp2_with fail
  go_loop [52] (fun i => ∃ k : Nat, i = .int .i64 k ∧ k ≤ cls.length ∧ rising (cls.take k)) (fun i => cls.length - (intOf i).toNat)
  case atStart => exact ⟨0, rfl, by omega, by intro i h; simp at h⟩
  case round =>
    obtain ⟨k, rfl, h1, hris⟩ := hrel
    have HRIS := Lib.hid hris
    clear hris
    by_cases hk : k < cls.length
    · exact absurd hk (by omega)
    · have hke : cls.take k = cls := List.take_of_length_le (by omega)
      have HRI := Lib.hid (show rising cls by rw [← hke]; exact HRIS.out)
      have hkk : ¬ (k : Int) < cls.length := by omega
      clear hke
      obtain ⟨y0, y1, y2⟩ := cells3 HBOX1.out
      have HV2 := Lib.hid (show RVars W1 mb rb ((mc + 1 + cntL (ps.take 0) : Nat) : Int) from ⟨HV.out.1, by rw [HM2.out]; simp [cntL], HR2.out⟩)
      clear x0 hkk
      go_wp2_with fail
      go_loopw [81] (fun i wr => ∃ k : Nat, i = .int .i64 k ∧ k ≤ ps.length ∧ mc + 1 + cntL (ps.take k) ≤ 400 ∧ WfL (d + 1) (ps.take k) ∧ RVars wr mb rb ((mc + 1 + cntL (ps.take k) : Nat) : Int) ∧ Fr (fun k => k = mb) w wr) (fun i _ => ps.length - (intOf i).toNat)
      case atStart => exact ⟨0, rfl, by omega, by simp [cntL]; omega, by simp [WfL], HV2.out, HF1.out⟩
      case round =>
        obtain ⟨j, rfl, j1, jc, jw, jv, jf⟩ := hrel
        obtain ⟨n, hn⟩ : ∃ n, n = mc + 1 + cntL (ps.take j) := ⟨_, rfl⟩
        rw [← hn] at jc jv
        have HN := Lib.hid hn
        have HW := Lib.hid jw
        have HVr := Lib.hid jv
        have HFr := Lib.hid jf
        have r9 : wr.cell? ⟨rb, 0, none⟩ = some (.func (.func 32) #[] #[.pointer (some ⟨mb, 0, none⟩), .pointer (some ⟨rb, 0, none⟩)]) := by simp [World.cell?, jv.2.2]
        have hrlt : rb < wr.heap.size := at_lt jv.2.2
        clear hn jw jv jf
        by_cases hj : j < ps.length
        · obtain ⟨bb, off, rfl, hbl, hbF, hxx⟩ := HXP.out (by omega)
          obtain ⟨x, y, z, c0, c1, c2, hnode⟩ := hxx j hj
          have r0 := HFr.out.cell (p := ⟨bb, _, none⟩) hbF c0
          have r1 := HFr.out.cell (p := ⟨bb, _, none⟩) hbF c1
          have r2 := HFr.out.cell (p := ⟨bb, _, none⟩) hbF c2
          obtain ⟨o0, p0, l0, d0, q0, m0, e0, rfl, rfl, rfl⟩ := (hnode.is).form
          have HD := Lib.hid (show ∀ W', Below wr.heap.size wr W' → Calls Try.prog 32 #[.agg #[.int .i64 o0, .slice p0 l0 d0, .slice q0 m0 e0], .int .i64 ((d : Int) + 1), .pointer (some ⟨mb, 0, none⟩), .pointer (some ⟨rb, 0, none⟩)] W' (RPost W' mb rb n ps[j] (d + 1)) from fun W' hW' => by
            have h := IH.out ps[j] (List.getElem_mem hj) W' mb rb n (d + 1) _ _ _ (NodeF.below hW' (Nat.le_refl _) _ (NodeF.fr HFr.out (fun q hq => hq) _ hnode)) jc (by omega)
              ⟨HVr.out.1, (hW'.block _ (at_lt HVr.out.2.1)).trans HVr.out.2.1, (hW'.block _ (at_lt HVr.out.2.2)).trans HVr.out.2.2⟩
            rwa [show ((d + 1 : Nat) : Int) = (d : Int) + 1 by omega] at h)
          have HCT := Lib.hid (cntL_take hj)
          have HCL := Lib.hid (cntL_take_le ps (j + 1))
          have hjj : (j : Int) < ps.length := by omega
          have hj0 : (0 : Int) ≤ j := by omega
          clear hxx c0 c1 c2 hnode
          have r9' : ∀ o, (wr.alloc o).cell? ⟨rb, 0, none⟩ = some (.func (.func 32) #[] #[.pointer (some ⟨mb, 0, none⟩), .pointer (some ⟨rb, 0, none⟩)]) := fun o => by rw [World.cell?_alloc_lt _ _ _ hrlt]; exact r9
          go_wp2_with fail
          refine (HD.out _ (below_alloc1 _ _)).mono ?_
          rintro e w3 ⟨b, rfl, hiff, hrv, hfr3⟩
          have HI := Lib.hid hiff
          have HRV := Lib.hid hrv
          have HF3 := Lib.hid ((HFr.out.trans (Fr.of_below (below_alloc1 wr (.cells #[.int .i64 o0, .slice p0 l0 d0, .slice q0 m0 e0] 49)) (fun k => k = mb)) (fun _ _ h => h)).trans hfr3 (fun _ _ h => h))
          clear hiff hrv hfr3 r9' r0 r1 r2 r9
          cases b
          · have HNO := Lib.hid (show ¬ (Wf d (.mk 3 cls ps) ∧ mc + cnt (.mk 3 cls ps) ≤ 400) from fun ⟨hwf, hc⟩ => by
              unfold Wf at hwf
              have h := HI.out.2 ⟨(WfL_iff.1 hwf.2.2.2.2.2.2) _ (List.getElem_mem hj), by have := HN.out; have := HCT.out; have := HCL.out; simp only [cnt] at hc; omega⟩
              cases h)
            go_wp2_with fail
            go_ret
            exact ⟨false, rfl, ⟨(fun h => by cases h), fun h => (HNO.out h).elim⟩, (fun h => by cases h), HF3.out⟩
          · have HREL := Lib.hid (show mc + 1 + cntL (ps.take (j + 1)) ≤ 400 ∧ WfL (d + 1) (ps.take (j + 1)) ∧ RVars w3 mb rb ((mc + 1 + cntL (ps.take (j + 1)) : Nat) : Int) from by
              obtain ⟨g1, g2⟩ := HI.out.1 rfl
              have h1 := HCT.out
              have h2 := HN.out
              refine ⟨by omega, ?_, ?_⟩
              · rw [WfL_iff]
                intro x hx
                rw [List.take_succ_eq_append_getElem hj] at hx
                rcases List.mem_append.1 hx with hx | hx
                · exact (WfL_iff.1 HW.out) x hx
                · rw [List.mem_singleton.1 hx]; exact g1
              · have h3 := HRV.out rfl
                rwa [show n + cnt ps[j] = mc + 1 + cntL (ps.take (j + 1)) by omega] at h3)
            go_wp2_with fail
            go_roundw
            case rel => exact ⟨j + 1, by go_num, by omega, HREL.out.1, HREL.out.2.1, HREL.out.2.2, HF3.out⟩
            case measure => simp [intOf]; omega
        · have hke : ps.take j = ps := List.take_of_length_le (by omega)
          have hjj : ¬ (j : Int) < ps.length := by omega
          have HYES := Lib.hid (show (Wf d (.mk 3 cls ps) ∧ mc + cnt (.mk 3 cls ps) ≤ 400) ∧ n = mc + cnt (.mk 3 cls ps) from by
            have h1 := HN.out
            have h2 := HW.out
            rw [hke] at h1 h2
            have h3 : mc + cnt (.mk 3 cls ps) = n := by simp only [cnt]; omega
            refine ⟨⟨?_, by omega⟩, h3.symm⟩
            unfold Wf
            refine ⟨hd1, by omega, fun h => ?_, fun h => ?_, fun h => HSING.out (by first | exact h | simp), HRI.out, h2⟩
            · rcases HONE.out with h4 | h4
              · first | exact absurd h4 h | exact absurd rfl h
              · exact List.eq_nil_of_length_eq_zero h4
            · exact List.eq_nil_of_length_eq_zero (HNIL.out (by first | exact h | simp)))
          clear hke r9
          go_wp2_with fail
          go_ret
          exact ⟨true, rfl, ⟨fun _ => HYES.out.1, fun _ => rfl⟩, fun _ => by rw [← HYES.out.2]; exact HVr.out, HFr.out⟩

set_option maxRecDepth 100000 in
set_option maxHeartbeats 4000000 in
theorem right_4 (cls : List Int) (ps : List Nd) (ih : ∀ x ∈ ps, RightAt x) : ∀ (w : World) (mb rb : Nat) (mc d : Nat) (a b c : Value), mc + 1 ≤ 400 → d ≤ 32 → ((4 : Int) = 1 ∨ cls.length = 0) → ((4 : Int) = 0 ∨ (4 : Int) = 1 → ps.length = 0) → ((4 : Int) = 4 ∨ (4 : Int) = 5 → ps.length = 1) → NodeF (fun k => k ≠ mb) w (.mk 4 cls ps) a b c → mc ≤ 400 → d ≤ 33 → RVars w mb rb mc →
    Calls Try.prog 32 #[.agg #[a, b, c], .int .i64 d, .pointer (some ⟨mb, 0, none⟩), .pointer (some ⟨rb, 0, none⟩)] w (RPost w mb rb mc (.mk 4 cls ps) d) := by
  intro w mb rb mc d a b c hmc1 hd1 hone hnil hsing hx hmc hd hv
  have IH := Lib.hid ih
  have HONE := Lib.hid hone
  have HNIL := Lib.hid hnil
  have HSING := Lib.hid hsing
  clear ih hone hnil hsing
  rw [nodeF_iff] at hx
  obtain ⟨rfl, hcl, hclf, hcb, hpb, hps⟩ := hx
  obtain ⟨pc, capc, rfl, hcc, hxc⟩ := hcl.get
  obtain ⟨pp, capp, rfl, hcp, hxp⟩ := hps.get
  unfold R at hcb hpb
  have HXC := Lib.hid (show Ints w (.slice pc cls.length capc) cls ∧ Lies (fun k => k ≠ mb) (.slice pc cls.length capc) cls.length from ⟨hcl, hclf⟩)
  have HXP := Lib.hid hxp
  have HV := Lib.hid hv
  clear hcl hps hxc hxp hv hclf
  go_enter Try.func32, Try.ntmps32
  go_upto_region 1 with fail
  refine abs_wp fun W hW => ?_
  obtain ⟨B, hB⟩ : ∃ B, B = w.heap.size := ⟨_, rfl⟩
  have hbox : W.heap[B]? = some (.cells #[.int .i64 4, .slice pc cls.length capc, .slice pp ps.length capp] 49) := by rw [hW, hB]; exact heap_alloc_new _ _
  have hbe : Below w.heap.size w W := by rw [hW]; exact below_alloc1 _ _
  have hbm : B ≠ mb := by have := at_lt HV.out.2.1; omega
  rw [← hB]
  have HBE := Lib.hid hbe
  have HBOX := Lib.hid hbox
  have HBM := Lib.hid hbm
  have HM1 := Lib.hid ((hbe.block mb (at_lt HV.out.2.1)).trans HV.out.2.1)
  have HR1 := Lib.hid ((hbe.block rb (at_lt HV.out.2.2)).trans HV.out.2.2)
  have x0 : W.cell? ⟨mb, 0, none⟩ = some (.int .i64 mc) := by simp [World.cell?, HM1.out]
  have f0 : W.frozen? ⟨mb, 0, none⟩ = false := fz_at HM1.out 0
  clear hW hbox hbe hB hbm
  go_upto_region 2 with fail
  refine abs_wp fun W1 hW1 => ?_
  have HF1 := Lib.hid (show Fr (fun k => k = mb) w W1 by
    rw [hW1]; exact (Fr.of_below HBE.out _).trans (Fr.setCell (F := fun k => k = mb) W rfl _) (fun _ _ h => h))
  have HBOX1 := Lib.hid (show W1.heap[B]? = some (.cells #[.int .i64 4, .slice pc cls.length capc, .slice pp ps.length capp] 49) by
    rw [hW1]; exact ((Fr.setCell (F := fun k => k = mb) W rfl _).block B (at_lt HBOX.out) HBM.out).trans HBOX.out)
  have HM2 := Lib.hid (show W1.heap[mb]? = some (.cells #[.int .i64 ((mc : Int) + 1)] 3) by rw [hW1]; have h := blk_set HM1.out 0 (.int .i64 ((mc : Int) + 1)); exact h)
  have HR2 := Lib.hid (show W1.heap[rb]? = some (.cells #[.func (.func 32) #[] #[.pointer (some ⟨mb, 0, none⟩), .pointer (some ⟨rb, 0, none⟩)]] 86) by
    rw [hW1]; exact ((Fr.setCell (F := fun k => k = mb) W rfl _).block rb (at_lt HR1.out) (fun h => HV.out.1 h.symm)).trans HR1.out)
  clear hW1 x0 f0
  have x0 : W1.cell? ⟨mb, 0, none⟩ = some (.int .i64 ((mc : Int) + 1)) := by simp [World.cell?, HM2.out]
  obtain ⟨y0, y1, y2⟩ := cells3 HBOX1.out
  have c1' : ¬ (400 : Int) < (mc : Int) + 1 := by omega
  have c2' : ¬ (32 : Int) < (d : Int) := by omega
  have c3' : ¬ (0 : Int) < cls.length := by have := HONE.out; omega
  have c5' : ((ps.length : Int) != 1) = false := by have := HSING.out; simp; omega
  go_wp2_with fail
  go_loop [52] (fun i => ∃ k : Nat, i = .int .i64 k ∧ k ≤ cls.length ∧ rising (cls.take k)) (fun i => cls.length - (intOf i).toNat)
  case atStart => exact ⟨0, rfl, by omega, by intro i h; simp at h⟩
  case round =>
    obtain ⟨k, rfl, h1, hris⟩ := hrel
    have HRIS := Lib.hid hris
    clear hris
    by_cases hk : k < cls.length
    · exact absurd hk (by omega)
    · have hke : cls.take k = cls := List.take_of_length_le (by omega)
      have HRI := Lib.hid (show rising cls by rw [← hke]; exact HRIS.out)
      have hkk : ¬ (k : Int) < cls.length := by omega
      clear hke
      obtain ⟨y0, y1, y2⟩ := cells3 HBOX1.out
      have HV2 := Lib.hid (show RVars W1 mb rb ((mc + 1 + cntL (ps.take 0) : Nat) : Int) from ⟨HV.out.1, by rw [HM2.out]; simp [cntL], HR2.out⟩)
      clear x0 hkk
      go_wp2_with fail
      go_loopw [81] (fun i wr => ∃ k : Nat, i = .int .i64 k ∧ k ≤ ps.length ∧ mc + 1 + cntL (ps.take k) ≤ 400 ∧ WfL (d + 1) (ps.take k) ∧ RVars wr mb rb ((mc + 1 + cntL (ps.take k) : Nat) : Int) ∧ Fr (fun k => k = mb) w wr) (fun i _ => ps.length - (intOf i).toNat)
      case atStart => exact ⟨0, rfl, by omega, by simp [cntL]; omega, by simp [WfL], HV2.out, HF1.out⟩
      case round =>
        obtain ⟨j, rfl, j1, jc, jw, jv, jf⟩ := hrel
        obtain ⟨n, hn⟩ : ∃ n, n = mc + 1 + cntL (ps.take j) := ⟨_, rfl⟩
        rw [← hn] at jc jv
        have HN := Lib.hid hn
        have HW := Lib.hid jw
        have HVr := Lib.hid jv
        have HFr := Lib.hid jf
        have r9 : wr.cell? ⟨rb, 0, none⟩ = some (.func (.func 32) #[] #[.pointer (some ⟨mb, 0, none⟩), .pointer (some ⟨rb, 0, none⟩)]) := by simp [World.cell?, jv.2.2]
        have hrlt : rb < wr.heap.size := at_lt jv.2.2
        clear hn jw jv jf
        by_cases hj : j < ps.length
        · obtain ⟨bb, off, rfl, hbl, hbF, hxx⟩ := HXP.out (by omega)
          obtain ⟨x, y, z, c0, c1, c2, hnode⟩ := hxx j hj
          have r0 := HFr.out.cell (p := ⟨bb, _, none⟩) hbF c0
          have r1 := HFr.out.cell (p := ⟨bb, _, none⟩) hbF c1
          have r2 := HFr.out.cell (p := ⟨bb, _, none⟩) hbF c2
          obtain ⟨o0, p0, l0, d0, q0, m0, e0, rfl, rfl, rfl⟩ := (hnode.is).form
          have HD := Lib.hid (show ∀ W', Below wr.heap.size wr W' → Calls Try.prog 32 #[.agg #[.int .i64 o0, .slice p0 l0 d0, .slice q0 m0 e0], .int .i64 ((d : Int) + 1), .pointer (some ⟨mb, 0, none⟩), .pointer (some ⟨rb, 0, none⟩)] W' (RPost W' mb rb n ps[j] (d + 1)) from fun W' hW' => by
            have h := IH.out ps[j] (List.getElem_mem hj) W' mb rb n (d + 1) _ _ _ (NodeF.below hW' (Nat.le_refl _) _ (NodeF.fr HFr.out (fun q hq => hq) _ hnode)) jc (by omega)
              ⟨HVr.out.1, (hW'.block _ (at_lt HVr.out.2.1)).trans HVr.out.2.1, (hW'.block _ (at_lt HVr.out.2.2)).trans HVr.out.2.2⟩
            rwa [show ((d + 1 : Nat) : Int) = (d : Int) + 1 by omega] at h)
          have HCT := Lib.hid (cntL_take hj)
          have HCL := Lib.hid (cntL_take_le ps (j + 1))
          have hjj : (j : Int) < ps.length := by omega
          have hj0 : (0 : Int) ≤ j := by omega
          clear hxx c0 c1 c2 hnode
          have r9' : ∀ o, (wr.alloc o).cell? ⟨rb, 0, none⟩ = some (.func (.func 32) #[] #[.pointer (some ⟨mb, 0, none⟩), .pointer (some ⟨rb, 0, none⟩)]) := fun o => by rw [World.cell?_alloc_lt _ _ _ hrlt]; exact r9
          go_wp2_with fail
          refine (HD.out _ (below_alloc1 _ _)).mono ?_
          rintro e w3 ⟨b, rfl, hiff, hrv, hfr3⟩
          have HI := Lib.hid hiff
          have HRV := Lib.hid hrv
          have HF3 := Lib.hid ((HFr.out.trans (Fr.of_below (below_alloc1 wr (.cells #[.int .i64 o0, .slice p0 l0 d0, .slice q0 m0 e0] 49)) (fun k => k = mb)) (fun _ _ h => h)).trans hfr3 (fun _ _ h => h))
          clear hiff hrv hfr3 r9' r0 r1 r2 r9
          cases b
          · have HNO := Lib.hid (show ¬ (Wf d (.mk 4 cls ps) ∧ mc + cnt (.mk 4 cls ps) ≤ 400) from fun ⟨hwf, hc⟩ => by
              unfold Wf at hwf
              have h := HI.out.2 ⟨(WfL_iff.1 hwf.2.2.2.2.2.2) _ (List.getElem_mem hj), by have := HN.out; have := HCT.out; have := HCL.out; simp only [cnt] at hc; omega⟩
              cases h)
            go_wp2_with fail
            go_ret
            exact ⟨false, rfl, ⟨(fun h => by cases h), fun h => (HNO.out h).elim⟩, (fun h => by cases h), HF3.out⟩
          · have HREL := Lib.hid (show mc + 1 + cntL (ps.take (j + 1)) ≤ 400 ∧ WfL (d + 1) (ps.take (j + 1)) ∧ RVars w3 mb rb ((mc + 1 + cntL (ps.take (j + 1)) : Nat) : Int) from by
              obtain ⟨g1, g2⟩ := HI.out.1 rfl
              have h1 := HCT.out
              have h2 := HN.out
              refine ⟨by omega, ?_, ?_⟩
              · rw [WfL_iff]
                intro x hx
                rw [List.take_succ_eq_append_getElem hj] at hx
                rcases List.mem_append.1 hx with hx | hx
                · exact (WfL_iff.1 HW.out) x hx
                · rw [List.mem_singleton.1 hx]; exact g1
              · have h3 := HRV.out rfl
                rwa [show n + cnt ps[j] = mc + 1 + cntL (ps.take (j + 1)) by omega] at h3)
            go_wp2_with fail
            go_roundw
            case rel => exact ⟨j + 1, by go_num, by omega, HREL.out.1, HREL.out.2.1, HREL.out.2.2, HF3.out⟩
            case measure => simp [intOf]; omega
        · have hke : ps.take j = ps := List.take_of_length_le (by omega)
          have hjj : ¬ (j : Int) < ps.length := by omega
          have HYES := Lib.hid (show (Wf d (.mk 4 cls ps) ∧ mc + cnt (.mk 4 cls ps) ≤ 400) ∧ n = mc + cnt (.mk 4 cls ps) from by
            have h1 := HN.out
            have h2 := HW.out
            rw [hke] at h1 h2
            have h3 : mc + cnt (.mk 4 cls ps) = n := by simp only [cnt]; omega
            refine ⟨⟨?_, by omega⟩, h3.symm⟩
            unfold Wf
            refine ⟨hd1, by omega, fun h => ?_, fun h => ?_, fun h => HSING.out (by first | exact h | simp), HRI.out, h2⟩
            · rcases HONE.out with h4 | h4
              · first | exact absurd h4 h | exact absurd rfl h
              · exact List.eq_nil_of_length_eq_zero h4
            · exact List.eq_nil_of_length_eq_zero (HNIL.out (by first | exact h | simp)))
          clear hke r9
          go_wp2_with fail
          go_ret
          exact ⟨true, rfl, ⟨fun _ => HYES.out.1, fun _ => rfl⟩, fun _ => by rw [← HYES.out.2]; exact HVr.out, HFr.out⟩

set_option maxRecDepth 100000 in
set_option maxHeartbeats 4000000 in
theorem right_5 (cls : List Int) (ps : List Nd) (ih : ∀ x ∈ ps, RightAt x) : ∀ (w : World) (mb rb : Nat) (mc d : Nat) (a b c : Value), mc + 1 ≤ 400 → d ≤ 32 → ((5 : Int) = 1 ∨ cls.length = 0) → ((5 : Int) = 0 ∨ (5 : Int) = 1 → ps.length = 0) → ((5 : Int) = 4 ∨ (5 : Int) = 5 → ps.length = 1) → NodeF (fun k => k ≠ mb) w (.mk 5 cls ps) a b c → mc ≤ 400 → d ≤ 33 → RVars w mb rb mc →
    Calls Try.prog 32 #[.agg #[a, b, c], .int .i64 d, .pointer (some ⟨mb, 0, none⟩), .pointer (some ⟨rb, 0, none⟩)] w (RPost w mb rb mc (.mk 5 cls ps) d) := by
  intro w mb rb mc d a b c hmc1 hd1 hone hnil hsing hx hmc hd hv
  have IH := Lib.hid ih
  have HONE := Lib.hid hone
  have HNIL := Lib.hid hnil
  have HSING := Lib.hid hsing
  clear ih hone hnil hsing
  rw [nodeF_iff] at hx
  obtain ⟨rfl, hcl, hclf, hcb, hpb, hps⟩ := hx
  obtain ⟨pc, capc, rfl, hcc, hxc⟩ := hcl.get
  obtain ⟨pp, capp, rfl, hcp, hxp⟩ := hps.get
  unfold R at hcb hpb
  have HXC := Lib.hid (show Ints w (.slice pc cls.length capc) cls ∧ Lies (fun k => k ≠ mb) (.slice pc cls.length capc) cls.length from ⟨hcl, hclf⟩)
  have HXP := Lib.hid hxp
  have HV := Lib.hid hv
  clear hcl hps hxc hxp hv hclf
  go_enter Try.func32, Try.ntmps32
  go_upto_region 1 with fail
  refine abs_wp fun W hW => ?_
  obtain ⟨B, hB⟩ : ∃ B, B = w.heap.size := ⟨_, rfl⟩
  have hbox : W.heap[B]? = some (.cells #[.int .i64 5, .slice pc cls.length capc, .slice pp ps.length capp] 49) := by rw [hW, hB]; exact heap_alloc_new _ _
  have hbe : Below w.heap.size w W := by rw [hW]; exact below_alloc1 _ _
  have hbm : B ≠ mb := by have := at_lt HV.out.2.1; omega
  rw [← hB]
  have HBE := Lib.hid hbe
  have HBOX := Lib.hid hbox
  have HBM := Lib.hid hbm
  have HM1 := Lib.hid ((hbe.block mb (at_lt HV.out.2.1)).trans HV.out.2.1)
  have HR1 := Lib.hid ((hbe.block rb (at_lt HV.out.2.2)).trans HV.out.2.2)
  have x0 : W.cell? ⟨mb, 0, none⟩ = some (.int .i64 mc) := by simp [World.cell?, HM1.out]
  have f0 : W.frozen? ⟨mb, 0, none⟩ = false := fz_at HM1.out 0
  clear hW hbox hbe hB hbm
  go_upto_region 2 with fail
  refine abs_wp fun W1 hW1 => ?_
  have HF1 := Lib.hid (show Fr (fun k => k = mb) w W1 by
    rw [hW1]; exact (Fr.of_below HBE.out _).trans (Fr.setCell (F := fun k => k = mb) W rfl _) (fun _ _ h => h))
  have HBOX1 := Lib.hid (show W1.heap[B]? = some (.cells #[.int .i64 5, .slice pc cls.length capc, .slice pp ps.length capp] 49) by
    rw [hW1]; exact ((Fr.setCell (F := fun k => k = mb) W rfl _).block B (at_lt HBOX.out) HBM.out).trans HBOX.out)
  have HM2 := Lib.hid (show W1.heap[mb]? = some (.cells #[.int .i64 ((mc : Int) + 1)] 3) by rw [hW1]; have h := blk_set HM1.out 0 (.int .i64 ((mc : Int) + 1)); exact h)
  have HR2 := Lib.hid (show W1.heap[rb]? = some (.cells #[.func (.func 32) #[] #[.pointer (some ⟨mb, 0, none⟩), .pointer (some ⟨rb, 0, none⟩)]] 86) by
    rw [hW1]; exact ((Fr.setCell (F := fun k => k = mb) W rfl _).block rb (at_lt HR1.out) (fun h => HV.out.1 h.symm)).trans HR1.out)
  clear hW1 x0 f0
  have x0 : W1.cell? ⟨mb, 0, none⟩ = some (.int .i64 ((mc : Int) + 1)) := by simp [World.cell?, HM2.out]
  obtain ⟨y0, y1, y2⟩ := cells3 HBOX1.out
  have c1' : ¬ (400 : Int) < (mc : Int) + 1 := by omega
  have c2' : ¬ (32 : Int) < (d : Int) := by omega
  have c3' : ¬ (0 : Int) < cls.length := by have := HONE.out; omega
  have c5' : ((ps.length : Int) != 1) = false := by have := HSING.out; simp; omega
  go_wp2_with fail
  go_loop [52] (fun i => ∃ k : Nat, i = .int .i64 k ∧ k ≤ cls.length ∧ rising (cls.take k)) (fun i => cls.length - (intOf i).toNat)
  case atStart => exact ⟨0, rfl, by omega, by intro i h; simp at h⟩
  case round =>
    obtain ⟨k, rfl, h1, hris⟩ := hrel
    have HRIS := Lib.hid hris
    clear hris
    by_cases hk : k < cls.length
    · exact absurd hk (by omega)
    · have hke : cls.take k = cls := List.take_of_length_le (by omega)
      have HRI := Lib.hid (show rising cls by rw [← hke]; exact HRIS.out)
      have hkk : ¬ (k : Int) < cls.length := by omega
      clear hke
      obtain ⟨y0, y1, y2⟩ := cells3 HBOX1.out
      have HV2 := Lib.hid (show RVars W1 mb rb ((mc + 1 + cntL (ps.take 0) : Nat) : Int) from ⟨HV.out.1, by rw [HM2.out]; simp [cntL], HR2.out⟩)
      clear x0 hkk
      go_wp2_with fail
      go_loopw [81] (fun i wr => ∃ k : Nat, i = .int .i64 k ∧ k ≤ ps.length ∧ mc + 1 + cntL (ps.take k) ≤ 400 ∧ WfL (d + 1) (ps.take k) ∧ RVars wr mb rb ((mc + 1 + cntL (ps.take k) : Nat) : Int) ∧ Fr (fun k => k = mb) w wr) (fun i _ => ps.length - (intOf i).toNat)
      case atStart => exact ⟨0, rfl, by omega, by simp [cntL]; omega, by simp [WfL], HV2.out, HF1.out⟩
      case round =>
        obtain ⟨j, rfl, j1, jc, jw, jv, jf⟩ := hrel
        obtain ⟨n, hn⟩ : ∃ n, n = mc + 1 + cntL (ps.take j) := ⟨_, rfl⟩
        rw [← hn] at jc jv
        have HN := Lib.hid hn
        have HW := Lib.hid jw
        have HVr := Lib.hid jv
        have HFr := Lib.hid jf
        have r9 : wr.cell? ⟨rb, 0, none⟩ = some (.func (.func 32) #[] #[.pointer (some ⟨mb, 0, none⟩), .pointer (some ⟨rb, 0, none⟩)]) := by simp [World.cell?, jv.2.2]
        have hrlt : rb < wr.heap.size := at_lt jv.2.2
        clear hn jw jv jf
        by_cases hj : j < ps.length
        · obtain ⟨bb, off, rfl, hbl, hbF, hxx⟩ := HXP.out (by omega)
          obtain ⟨x, y, z, c0, c1, c2, hnode⟩ := hxx j hj
          have r0 := HFr.out.cell (p := ⟨bb, _, none⟩) hbF c0
          have r1 := HFr.out.cell (p := ⟨bb, _, none⟩) hbF c1
          have r2 := HFr.out.cell (p := ⟨bb, _, none⟩) hbF c2
          obtain ⟨o0, p0, l0, d0, q0, m0, e0, rfl, rfl, rfl⟩ := (hnode.is).form
          have HD := Lib.hid (show ∀ W', Below wr.heap.size wr W' → Calls Try.prog 32 #[.agg #[.int .i64 o0, .slice p0 l0 d0, .slice q0 m0 e0], .int .i64 ((d : Int) + 1), .pointer (some ⟨mb, 0, none⟩), .pointer (some ⟨rb, 0, none⟩)] W' (RPost W' mb rb n ps[j] (d + 1)) from fun W' hW' => by
            have h := IH.out ps[j] (List.getElem_mem hj) W' mb rb n (d + 1) _ _ _ (NodeF.below hW' (Nat.le_refl _) _ (NodeF.fr HFr.out (fun q hq => hq) _ hnode)) jc (by omega)
              ⟨HVr.out.1, (hW'.block _ (at_lt HVr.out.2.1)).trans HVr.out.2.1, (hW'.block _ (at_lt HVr.out.2.2)).trans HVr.out.2.2⟩
            rwa [show ((d + 1 : Nat) : Int) = (d : Int) + 1 by omega] at h)
          have HCT := Lib.hid (cntL_take hj)
          have HCL := Lib.hid (cntL_take_le ps (j + 1))
          have hjj : (j : Int) < ps.length := by omega
          have hj0 : (0 : Int) ≤ j := by omega
          clear hxx c0 c1 c2 hnode
          have r9' : ∀ o, (wr.alloc o).cell? ⟨rb, 0, none⟩ = some (.func (.func 32) #[] #[.pointer (some ⟨mb, 0, none⟩), .pointer (some ⟨rb, 0, none⟩)]) := fun o => by rw [World.cell?_alloc_lt _ _ _ hrlt]; exact r9
          go_wp2_with fail
          refine (HD.out _ (below_alloc1 _ _)).mono ?_
          rintro e w3 ⟨b, rfl, hiff, hrv, hfr3⟩
          have HI := Lib.hid hiff
          have HRV := Lib.hid hrv
          have HF3 := Lib.hid ((HFr.out.trans (Fr.of_below (below_alloc1 wr (.cells #[.int .i64 o0, .slice p0 l0 d0, .slice q0 m0 e0] 49)) (fun k => k = mb)) (fun _ _ h => h)).trans hfr3 (fun _ _ h => h))
          clear hiff hrv hfr3 r9' r0 r1 r2 r9
          cases b
          · have HNO := Lib.hid (show ¬ (Wf d (.mk 5 cls ps) ∧ mc + cnt (.mk 5 cls ps) ≤ 400) from fun ⟨hwf, hc⟩ => by
              unfold Wf at hwf
              have h := HI.out.2 ⟨(WfL_iff.1 hwf.2.2.2.2.2.2) _ (List.getElem_mem hj), by have := HN.out; have := HCT.out; have := HCL.out; simp only [cnt] at hc; omega⟩
              cases h)
            go_wp2_with fail
            go_ret
            exact ⟨false, rfl, ⟨(fun h => by cases h), fun h => (HNO.out h).elim⟩, (fun h => by cases h), HF3.out⟩
          · have HREL := Lib.hid (show mc + 1 + cntL (ps.take (j + 1)) ≤ 400 ∧ WfL (d + 1) (ps.take (j + 1)) ∧ RVars w3 mb rb ((mc + 1 + cntL (ps.take (j + 1)) : Nat) : Int) from by
              obtain ⟨g1, g2⟩ := HI.out.1 rfl
              have h1 := HCT.out
              have h2 := HN.out
              refine ⟨by omega, ?_, ?_⟩
              · rw [WfL_iff]
                intro x hx
                rw [List.take_succ_eq_append_getElem hj] at hx
                rcases List.mem_append.1 hx with hx | hx
                · exact (WfL_iff.1 HW.out) x hx
                · rw [List.mem_singleton.1 hx]; exact g1
              · have h3 := HRV.out rfl
                rwa [show n + cnt ps[j] = mc + 1 + cntL (ps.take (j + 1)) by omega] at h3)
            go_wp2_with fail
            go_roundw
            case rel => exact ⟨j + 1, by go_num, by omega, HREL.out.1, HREL.out.2.1, HREL.out.2.2, HF3.out⟩
            case measure => simp [intOf]; omega
        · have hke : ps.take j = ps := List.take_of_length_le (by omega)
          have hjj : ¬ (j : Int) < ps.length := by omega
          have HYES := Lib.hid (show (Wf d (.mk 5 cls ps) ∧ mc + cnt (.mk 5 cls ps) ≤ 400) ∧ n = mc + cnt (.mk 5 cls ps) from by
            have h1 := HN.out
            have h2 := HW.out
            rw [hke] at h1 h2
            have h3 : mc + cnt (.mk 5 cls ps) = n := by simp only [cnt]; omega
            refine ⟨⟨?_, by omega⟩, h3.symm⟩
            unfold Wf
            refine ⟨hd1, by omega, fun h => ?_, fun h => ?_, fun h => HSING.out (by first | exact h | simp), HRI.out, h2⟩
            · rcases HONE.out with h4 | h4
              · first | exact absurd h4 h | exact absurd rfl h
              · exact List.eq_nil_of_length_eq_zero h4
            · exact List.eq_nil_of_length_eq_zero (HNIL.out (by first | exact h | simp)))
          clear hke r9
          go_wp2_with fail
          go_ret
          exact ⟨true, rfl, ⟨fun _ => HYES.out.1, fun _ => rfl⟩, fun _ => by rw [← HYES.out.2]; exact HVr.out, HFr.out⟩
end Go.Proofs.Ytmooflmhbpckjaa
