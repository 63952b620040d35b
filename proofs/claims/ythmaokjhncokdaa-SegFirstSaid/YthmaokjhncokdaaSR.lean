import Derived.Test.YthmaokjhncokdaaSM
import Derived.Test.YthmaokjhncokdaaBN
import Derived.Test.YthmaokjhncokdaaB1
import Derived.Test.YthmaokjhncokdaaSX
/-
  SegFirst: a rule ahead of all that always fits says it all; one that says break behind all others changes nothing. No condition beyond what each theorem names.
-/
set_option linter.unusedVariables false
set_option linter.unusedSimpArgs false
namespace Go.Proofs.Ythmaokjhncokdaa
open Go.RowKit Classical

theorem plan_three {P : Program} {ops : Array Oper} {S : World → Prop} {Q : Exit → Act → World → Prop} {i j k : Nat} {p q r : Plan} {a : Act} {w : World} {o u v : Oper} (ho : ops[i]? = some o) (hu : ops[j]? = some u) (hv : ops[k]? = some v) (h1 : wpList P ops (Then S (p.wp P ops S Q) Q) [o] a w) (h2 : wpList P ops (Then S (q.wp P ops S Q) Q) [u] a w) (h3 : wpList P ops (Then S (r.wp P ops S Q) Q) [v] a w) :
    Plan.wp P ops S Q (.three i p j q k r) a w := ⟨fun o' ho' => by rw [ho] at ho'; cases ho'; exact h1, fun o' ho' => by rw [hu] at ho'; cases ho'; exact h2, fun o' ho' => by rw [hv] at ho'; cases ho'; exact h3⟩
theorem read_of_rules {w : World} {v : Value} {rs : List Rl} (h : Rules w v rs) : ReadL (RuleIs w) 8 w v rs := by
  obtain ⟨rows, ⟨h1, h2⟩, h3, h4⟩ := h
  refine ⟨rows, by rw [← h3]; exact h2, h3, fun r hr => ?_, h4⟩
  obtain ⟨i, hi, rfl⟩ := List.getElem_of_mem hr
  obtain ⟨row, g1, g2⟩ := h4 i (by rw [← h3]; exact hi)
  rw [List.getElem?_eq_getElem hi] at g1
  rw [Option.some.inj g1]
  exact g2.cells
theorem OwnL.none8 (E : Rl → List Value → Prop) (w : World) : OwnL E 54 8 w.heap.size (w.alloc (.cells #[] 54)) (.slice (some ⟨w.heap.size, 0, none⟩) 0 0) [] :=
  ⟨[], World.ownsRow_made w #[] 0 (Nat.le_refl _) (by unfold maxLen; omega) rfl, rfl, by simp, fun i h => by simp at h⟩
theorem segAt_first (b : Bool) (rs : List Rl) (row : List Int) {k : Nat} (h0 : 0 < k) (h1 : k < row.length) : segAt ([rl0 b] ++ rs) row k = b := by
  unfold segAt
  rw [List.singleton_append, says_first]
  have h2 : 0 < row.length := by omega
  have h3 : ¬ k = 0 := by omega
  have h4 : ¬ k = row.length := by omega
  simp [h2, h3, h4]
theorem rl0_is (w : World) (b : Bool) : RuleIs w (rl0 b) [.int .i64 0, .slice none 0 0, .slice none 0 0, .int .i64 0, .slice none 0 0, .slice none 0 0, .bool b, .bool false] := ⟨_, _, _, _, _, _, rfl, node_none w, node_none w⟩

set_option maxRecDepth 100000 in
set_option maxHeartbeats 16000000 in
theorem first_law (w : World) (pc : Option Addr) (nc cc : Nat) (hcc : nc ≤ cc) (hpc : 0 < nc → ∃ a, pc = some a) (rv : Value) (rs0 : List Rl) (hr : Rules w rv rs0) (hl : rs0.length ≤ 9223372036854775807) (v : Value) (t : List Int) (hv : Ints w v t) (hn : t.length ≤ 9223372036854775807) (is_ : Bool) :
    Calls Try.prog 10 #[.agg #[.slice pc nc cc, rv], v, .bool is_] w (Says true w) := by
  obtain ⟨pr, cr, rfl, -, -⟩ := hr.get
  have HR := Lib.hid hr
  have HPC := Lib.hid hpc
  have HL := Lib.hid hl
  obtain ⟨pt, ct, rfl, hct, -⟩ := hv.get
  have HV := Lib.hid hv
  obtain ⟨m0, hm0⟩ : ∃ m0, m0 = rs0.length := ⟨_, rfl⟩
  rw [← hm0]
  have HM0 := Lib.hid hm0
  clear hr hpc hl hm0 hv
  go_enter Try.func10, Try.ntmps10
  go_upto_region 1 with fail
  refine abs_wp fun W hW => ?_
  obtain ⟨B, hB⟩ : ∃ B, B = w.heap.size := ⟨_, rfl⟩
  have hbx : W.heap[B]? = some (.cells #[.slice pc nc cc, .slice pr m0 cr] 25) := by rw [hW, hB]; exact heap_alloc_new _ _
  have hbe : Below w.heap.size w W := by rw [hW]; exact below_alloc1 _ _
  rw [← hB]
  have HBE := Lib.hid hbe
  have HBX := Lib.hid hbx
  have HBB := Lib.hid hB
  clear hW hbx hbe hB
  go_wp2_with fail
  refine (shown10 W).mono ?_
  rintro e w1 ⟨rfl, hb1⟩
  have HB1 := Lib.hid (HBE.out.trans (hb1.mono HBE.out.size))
  have HBX1 := Lib.hid ((hb1.block _ (at_lt HBX.out)).trans HBX.out)
  clear hb1
  obtain ⟨x0, x1⟩ := cells2 HBX1.out
  have HFW := Lib.hid (few10_any w w1 HB1.out pc nc cc hcc HPC.out (.slice pr m0 cr) rs0 (by have h := HR.out; rwa [← HM0.out] at h) HL.out)
  obtain ⟨rs, hrs⟩ : ∃ rs, rs = few9L rs0 := ⟨_, rfl⟩
  have hr8 : rs.length ≤ 8 := by rw [hrs]; exact few9_length _
  have HRS := Lib.hid hrs
  clear hrs
  go_wp2_with fail
  refine HFW.out.mono ?_
  rintro e w2 ⟨pc2, cc2, pv, rfl, hown, hb2⟩
  rw [← HRS.out] at hown
  obtain ⟨nn, hnn⟩ : ∃ nn, nn = min nc 30 := ⟨_, rfl⟩
  rw [← hnn]
  obtain ⟨pq, cq, hpv⟩ := hown.form
  subst hpv
  obtain ⟨m, hm⟩ : ∃ m, m = rs.length := ⟨_, rfl⟩
  rw [← hm] at hr8 hown ⊢
  have HM := Lib.hid hm
  have HOWN := Lib.hid hown
  have HNN := Lib.hid (show nn ≤ 30 by omega)
  have HBX2 := Lib.hid ((hb2.block _ (at_lt HBX1.out)).trans HBX1.out)
  have HB2 := Lib.hid (HB1.out.trans (hb2.mono HB1.out.size))
  have HS1 := Lib.hid (at_lt HBX1.out)
  clear hm hnn hown hb2 x0 x1 HFW
  go_wp2_with (refine stop_at (.store 25 (.tmp 3) (.tmp 25)) rfl ?_)
  refine ⟨?_⟩
  refine wpList_store_obj rfl (.tmp 3) (.tmp 25) 25 rfl B rfl [.slice pc2 nn cc2, .slice pq m cq] rfl _ _ HBX2.out (by kernel_rfl) rfl (by simp [Value.oneCell']) ?_
  intro w3 hb3 hf3
  have HB3 := Lib.hid (show Below w.heap.size w w3 from HB2.out.trans (hf3.below HB2.out.size (fun j hj => by have hj : j = B := hj; have := HBB.out; omega)))
  have HRU := Lib.hid (show Rules w3 (.slice pq m cq) rs from rules_of_read ((HOWN.out.fr hf3 (fun j hj he => by have he : j = B := he; have h1 := (HOWN.out.lt j hj).1; have h2 := HS1.out; omega)).read.monoE (fun x r hr => hr.to HB3.out (Nat.le_refl _))))
  have HBX3 := Lib.hid (show w3.heap[B]? = some (.cells #[.slice pc2 nn cc2, .slice pq m cq] 25) from hb3)
  clear hb3 hf3
  obtain ⟨row, hrow⟩ : ∃ row, row = t.take 30 := ⟨_, rfl⟩
  have hrl : row.length = min t.length 30 := by rw [hrow, List.length_take, Nat.min_comm]
  go_upto_region 3 with fail
  change Code.wp Try.prog _ _ { tmps := _, defers := _ } _
  go_cut [1] (fun rv wx => Ints w rv row ∧ wx = w3)
  case first =>
    as_aux_lemma =>
      cases pt with
      | none =>
        have h0 : t = [] := by
          obtain ⟨p', c', he, -, hx⟩ := HV.out
          injection he with he1 he2 he3
          subst he1
          cases t with
          | nil => rfl
          | cons x r => obtain ⟨b, off, e, -⟩ := hx (by simp); cases e
        subst h0
        have HI := Lib.hid (show Ints w (.slice none 0 ct) row by rw [hrow]; exact HV.out)
        clear hrow hrl
        go_wp2_with fail
        go_meet
        case rel => exact ⟨HI.out, rfl⟩
      | some ad =>
        by_cases h40 : t.length ≤ 30
        · have h41 : ¬ (30 : Int) < t.length := by omega
          have HI := Lib.hid (show Ints w (.slice (some ad) (min (t.length : Int) 30).toNat ct) row by rw [hrow, List.take_of_length_le h40, show (min (t.length : Int) 30).toNat = t.length by omega]; exact HV.out)
          clear hrow hrl
          go_wp2_with fail
          go_meet
          case rel => exact ⟨HI.out, rfl⟩
        · have h41 : (30 : Int) < t.length := by omega
          have HI := Lib.hid (show Ints w (.slice (some ad) (min (t.length : Int) 30).toNat ct) row by rw [hrow, show (min (t.length : Int) 30).toNat = 30 by omega]; exact HV.out.take (by omega))
          clear hrow hrl
          go_wp2_with fail
          go_meet
          case rel => exact ⟨HI.out, rfl⟩
  case rest =>
    obtain ⟨hi, rfl⟩ := hcut
    obtain ⟨ptr, ctr, rfl, hcr, -⟩ := hi.get
    have hr30 : row.length ≤ 30 := by omega
    have HI := Lib.hid hi
    obtain ⟨nr, hnr⟩ : ∃ nr, nr = row.length := ⟨_, rfl⟩
    rw [← hnr] at hr30 hcr ⊢
    have HNR := Lib.hid hnr
    rw [← hnr] at HI
    clear hi hrow hrl hnr
    generalize hwc : wc = w3 at *
    clear hwc wc
    have HRR := Lib.hid (show ∀ W, Below w3.heap.size w3 W → ReadL (RuleIs w3) 8 W (.slice pq m cq) rs from fun W hW => (read_of_rules HRU.out).below hW (Nat.le_refl _))
    have HBXQ := Lib.hid HBX3.out
    have HQ := Lib.hid (Below.refl w3.heap.size w3)
    go_upto_region 4 with fail
    go_cut [8] (fun v wx => ∃ G p c, v = .pointer (some ⟨G, 0, none⟩) ∧ RS (RuleIs w3) w3.heap.size G (.slice pc2 nn cc2) wx (.slice p (1 + m) c) ([rl0 is_] ++ rs) ∧ Below w3.heap.size w3 wx)
    case first =>
      refine wp_region_plan (fun W => Below w3.heap.size w3 W) (.reads [0, 1, 2, 3, 5, 6] (.two 4 (.two 7 (.reads [8] (.one 9 (.one 10 .done))) 9 (.one 7 (.reads [8] (.one 10 .done)))) 9 (.one 4 (.one 7 (.reads [8] (.one 10 .done)))))) 153 (by kernel_rfl) (by kernel_rfl) rfl (fun _ _ _ _ _ h => h) HQ.out.drew ?_
      apply plan_readsW
      · intro W hW
        obtain ⟨x0, x1⟩ := cells2 ((hW.block _ (at_lt HBXQ.out)).trans HBXQ.out)
        clear hW
        iterate 6 (refine WR_step (fun K hK => ?_); go_simp; refine hK.out _ ?_; clear hK K)
        exact WR_nil rfl
      refine abs_plan fun W0 hW0 => ?_
      have HV0 := Lib.hid (show Below w3.heap.size w3 W0 by rw [hW0]; exact HQ.out.drew)
      clear hW0
      refine plan_two rfl rfl ?_ ?_
      · skip
        go_wp2_with fail
        have HAL1 := Lib.hid (below_alloc1 W0 (.cells #[.int .i64 0, .slice none 0 0, .slice none 0 0, .int .i64 0, .slice none 0 0, .slice none 0 0, .bool is_, .bool false] 54))
        refine Then.mk (HV0.out.trans (HAL1.out.mono HV0.out.size)) ?_
        have HN1 := Lib.hid (OwnL.one (E := RuleIs w3) (sz := 8) (base := W0.heap.size) W0 54 (rl0 is_) [.int .i64 0, .slice none 0 0, .slice none 0 0, .int .i64 0, .slice none 0 0, .slice none 0 0, .bool is_, .bool false] (Nat.le_refl _) ⟨rfl, by simp [Value.oneCell']⟩ (rl0_is w3 is_))
        obtain ⟨W1, hW1⟩ : ∃ V, V = W0.alloc (.cells #[.int .i64 0, .slice none 0 0, .slice none 0 0, .int .i64 0, .slice none 0 0, .slice none 0 0, .bool is_, .bool false] 54) := ⟨_, rfl⟩
        have HV1 := Lib.hid (show Below w3.heap.size w3 W1 by rw [hW1]; exact HV0.out.trans (HAL1.out.mono HV0.out.size))
        have HB1 := Lib.hid (show Below W0.heap.size W0 W1 by rw [hW1]; exact HAL1.out)
        rw [← hW1] at HN1 ⊢
        clear hW1
        have HZS1 := Lib.hid HB1.out.size
        refine plan_two rfl rfl ?_ ?_
        · skip
          refine wpList_append_rules rfl (.tmp 35) (.tmp 37) rfl (Value.slice (some ⟨W0.heap.size, 0, none⟩) 1 1) ([rl0 is_]) (1) (by rfl) rfl (HN1.out) _ (rs) (m) HM.out.symm rfl (HRR.out W1 HV1.out) (by omega) HZS1.out ?_
          intro p2 c2 W2 hown2 hg2 hlie2
          have HN2 := Lib.hid hown2
          have HF2 := Lib.hid (show Fr (fun j => (Value.slice (some ⟨W0.heap.size, 0, none⟩) 1 1).ownBlock = some j) W1 W2 from Fr.grown (F := fun j => (Value.slice (some ⟨W0.heap.size, 0, none⟩) 1 1).ownBlock = some j) hg2 (fun k h => h))
          have HV2 := Lib.hid (show Below w3.heap.size w3 W2 from HV1.out.trans (HF2.out.below HV1.out.size (fun j hj => by have h1 := (HN1.out.lt j hj).1; have h2 := HV0.out.size; omega)))
          clear hown2 hg2 hlie2
          have HZL2 := Lib.hid (Nat.le_trans HZS1.out HF2.out.size)
          refine Then.mk HV2.out ?_
          apply plan_readsW
          · intro W hW
            clear hW
            iterate 1 (refine WR_step (fun K hK => ?_); go_simp; refine hK.out _ ?_; clear hK K)
            exact WR_nil rfl
          refine plan_one rfl ?_
          go_wp2_with fail
          have HAL3 := Lib.hid (below_alloc1 W2 (.cells #[.slice none 0 0, .slice none 0 0] 25))
          refine Then.mk (HV2.out.trans (HAL3.out.mono HV2.out.size)) ?_
          have HN3 := Lib.hid (heap_alloc_new W2 (.cells #[.slice none 0 0, .slice none 0 0] 25))
          obtain ⟨W3, hW3⟩ : ∃ V, V = W2.alloc (.cells #[.slice none 0 0, .slice none 0 0] 25) := ⟨_, rfl⟩
          have HV3 := Lib.hid (show Below w3.heap.size w3 W3 by rw [hW3]; exact HV2.out.trans (HAL3.out.mono HV2.out.size))
          have HB3 := Lib.hid (show Below W2.heap.size W2 W3 by rw [hW3]; exact HAL3.out)
          rw [← hW3] at HN3 ⊢
          clear hW3
          have HL3 := Lib.hid (HN2.out.below HB3.out (Nat.le_refl _))
          have HZL3 := Lib.hid (Nat.le_trans HZL2.out HB3.out.size)
          have HSBL3 := Lib.hid (show (Value.slice p2 (1 + m) c2).ownBlock ≠ some W2.heap.size from fun h => by have := (HN2.out.lt _ h).2; omega)
          refine plan_one rfl ?_
          refine wpList_store_obj rfl (.tmp 8) (.tmp 39) 25 rfl (W2.heap.size) rfl [.slice pc2 nn cc2, Value.slice p2 (1 + m) c2] rfl _ _ HN3.out (by kernel_rfl) rfl (by simp [Value.oneCell']) ?_
          intro W4 hb4 hf4
          have HV4 := Lib.hid (show Below w3.heap.size w3 W4 from HV3.out.trans (hf4.below HV3.out.size (fun j hj => by have hj : j = W2.heap.size := hj; have h1 := HV2.out.size; omega)))
          have HRS4 := Lib.hid (show RS (RuleIs w3) w3.heap.size (W2.heap.size) (.slice pc2 nn cc2) W4 (Value.slice p2 (1 + m) c2) (([rl0 is_]) ++ (rs)) from ⟨hb4, (HL3.out.fr hf4 (fun j hj h => by have h : j = W2.heap.size := h; exact HSBL3.out (h ▸ hj))).base HV0.out.size, HSBL3.out⟩)
          clear hb4 hf4
          refine Then.mk HV4.out ?_
          refine plan_done ?_
          go_wp2_with fail
          go_meet
          case rel => exact ⟨_, _, _, rfl, HRS4.out, HV4.out⟩
        · skip
          go_wp2_with fail
          have HAL5 := Lib.hid (below_alloc1 W1 (.cells #[.slice none 0 0, .slice none 0 0] 25))
          refine Then.mk (HV1.out.trans (HAL5.out.mono HV1.out.size)) ?_
          have HN5 := Lib.hid (heap_alloc_new W1 (.cells #[.slice none 0 0, .slice none 0 0] 25))
          obtain ⟨W5, hW5⟩ : ∃ V, V = W1.alloc (.cells #[.slice none 0 0, .slice none 0 0] 25) := ⟨_, rfl⟩
          have HV5 := Lib.hid (show Below w3.heap.size w3 W5 by rw [hW5]; exact HV1.out.trans (HAL5.out.mono HV1.out.size))
          have HB5 := Lib.hid (show Below W1.heap.size W1 W5 by rw [hW5]; exact HAL5.out)
          rw [← hW5] at HN5 ⊢
          clear hW5
          have HS5 := Lib.hid (HN1.out.below HB5.out (Nat.le_refl _))
          have HZS5 := Lib.hid (Nat.le_trans HZS1.out HB5.out.size)
          have HSBS5 := Lib.hid (show (Value.slice (some ⟨W0.heap.size, 0, none⟩) 1 1).ownBlock ≠ some W1.heap.size from fun h => by have := (HN1.out.lt _ h).2; omega)
          refine plan_one rfl ?_
          refine wpList_append_rules rfl (.tmp 35) (.tmp 37) rfl (Value.slice (some ⟨W0.heap.size, 0, none⟩) 1 1) ([rl0 is_]) (1) (by rfl) rfl (HS5.out) _ (rs) (m) HM.out.symm rfl (HRR.out W5 HV5.out) (by omega) HZS5.out ?_
          intro p6 c6 W6 hown6 hg6 hlie6
          have HN6 := Lib.hid hown6
          have HF6 := Lib.hid (show Fr (fun j => (Value.slice (some ⟨W0.heap.size, 0, none⟩) 1 1).ownBlock = some j) W5 W6 from Fr.grown (F := fun j => (Value.slice (some ⟨W0.heap.size, 0, none⟩) 1 1).ownBlock = some j) hg6 (fun k h => h))
          have HV6 := Lib.hid (show Below w3.heap.size w3 W6 from HV5.out.trans (HF6.out.below HV5.out.size (fun j hj => by have h1 := (HS5.out.lt j hj).1; have h2 := HV0.out.size; omega)))
          have HX6 := Lib.hid ((HF6.out.block _ (at_lt HN5.out) (HSBS5.out)).trans HN5.out)
          have HSBL6 := Lib.hid (show (Value.slice p6 (1 + m) c6).ownBlock ≠ some (W1.heap.size) from fun h => by
            rcases hlie6 with h5 | h5
            · exact HSBS5.out (h5 ▸ h)
            · rw [h] at h5; injection h5 with h5; have h6 := at_lt HN5.out; omega)
          clear hown6 hg6 hlie6
          have HZL6 := Lib.hid (Nat.le_trans HZS5.out HF6.out.size)
          refine Then.mk HV6.out ?_
          apply plan_readsW
          · intro W hW
            clear hW
            iterate 1 (refine WR_step (fun K hK => ?_); go_simp; refine hK.out _ ?_; clear hK K)
            exact WR_nil rfl
          refine plan_one rfl ?_
          refine wpList_store_obj rfl (.tmp 8) (.tmp 39) 25 rfl (W1.heap.size) rfl [.slice pc2 nn cc2, Value.slice p6 (1 + m) c6] rfl _ _ HX6.out (by kernel_rfl) rfl (by simp [Value.oneCell']) ?_
          intro W7 hb7 hf7
          have HV7 := Lib.hid (show Below w3.heap.size w3 W7 from HV6.out.trans (hf7.below HV6.out.size (fun j hj => by have hj : j = W1.heap.size := hj; have h1 := HV1.out.size; omega)))
          have HRS7 := Lib.hid (show RS (RuleIs w3) w3.heap.size (W1.heap.size) (.slice pc2 nn cc2) W7 (Value.slice p6 (1 + m) c6) (([rl0 is_]) ++ (rs)) from ⟨hb7, (HN6.out.fr hf7 (fun j hj h => by have h : j = W1.heap.size := h; exact HSBL6.out (h ▸ hj))).base HV0.out.size, HSBL6.out⟩)
          clear hb7 hf7
          refine Then.mk HV7.out ?_
          refine plan_done ?_
          go_wp2_with fail
          go_meet
          case rel => exact ⟨_, _, _, rfl, HRS7.out, HV7.out⟩
      · skip
        go_wp2_with fail
        have HAL8 := Lib.hid (below_alloc1 W0 (.cells #[.slice none 0 0, .slice none 0 0] 25))
        refine Then.mk (HV0.out.trans (HAL8.out.mono HV0.out.size)) ?_
        have HN8 := Lib.hid (heap_alloc_new W0 (.cells #[.slice none 0 0, .slice none 0 0] 25))
        obtain ⟨W8, hW8⟩ : ∃ V, V = W0.alloc (.cells #[.slice none 0 0, .slice none 0 0] 25) := ⟨_, rfl⟩
        have HV8 := Lib.hid (show Below w3.heap.size w3 W8 by rw [hW8]; exact HV0.out.trans (HAL8.out.mono HV0.out.size))
        have HB8 := Lib.hid (show Below W0.heap.size W0 W8 by rw [hW8]; exact HAL8.out)
        rw [← hW8] at HN8 ⊢
        clear hW8
        refine plan_one rfl ?_
        go_wp2_with fail
        have HAL9 := Lib.hid (below_alloc1 W8 (.cells #[.int .i64 0, .slice none 0 0, .slice none 0 0, .int .i64 0, .slice none 0 0, .slice none 0 0, .bool is_, .bool false] 54))
        refine Then.mk (HV8.out.trans (HAL9.out.mono HV8.out.size)) ?_
        have HN9 := Lib.hid (OwnL.one (E := RuleIs w3) (sz := 8) (base := W8.heap.size) W8 54 (rl0 is_) [.int .i64 0, .slice none 0 0, .slice none 0 0, .int .i64 0, .slice none 0 0, .slice none 0 0, .bool is_, .bool false] (Nat.le_refl _) ⟨rfl, by simp [Value.oneCell']⟩ (rl0_is w3 is_))
        obtain ⟨W9, hW9⟩ : ∃ V, V = W8.alloc (.cells #[.int .i64 0, .slice none 0 0, .slice none 0 0, .int .i64 0, .slice none 0 0, .slice none 0 0, .bool is_, .bool false] 54) := ⟨_, rfl⟩
        have HV9 := Lib.hid (show Below w3.heap.size w3 W9 by rw [hW9]; exact HV8.out.trans (HAL9.out.mono HV8.out.size))
        have HB9 := Lib.hid (show Below W8.heap.size W8 W9 by rw [hW9]; exact HAL9.out)
        rw [← hW9] at HN9 ⊢
        clear hW9
        have HX9 := Lib.hid ((HB9.out.block _ (at_lt HN8.out)).trans HN8.out)
        have HZS9 := Lib.hid HB9.out.size
        have HSBS9 := Lib.hid (show (Value.slice (some ⟨W8.heap.size, 0, none⟩) 1 1).ownBlock ≠ some (W0.heap.size) from fun h => by have h1 := (HN9.out.lt _ h).1; have h2 := at_lt HN8.out; omega)
        refine plan_one rfl ?_
        refine wpList_append_rules rfl (.tmp 35) (.tmp 37) rfl (Value.slice (some ⟨W8.heap.size, 0, none⟩) 1 1) ([rl0 is_]) (1) (by rfl) rfl (HN9.out) _ (rs) (m) HM.out.symm rfl (HRR.out W9 HV9.out) (by omega) HZS9.out ?_
        intro p10 c10 W10 hown10 hg10 hlie10
        have HN10 := Lib.hid hown10
        have HF10 := Lib.hid (show Fr (fun j => (Value.slice (some ⟨W8.heap.size, 0, none⟩) 1 1).ownBlock = some j) W9 W10 from Fr.grown (F := fun j => (Value.slice (some ⟨W8.heap.size, 0, none⟩) 1 1).ownBlock = some j) hg10 (fun k h => h))
        have HV10 := Lib.hid (show Below w3.heap.size w3 W10 from HV9.out.trans (HF10.out.below HV9.out.size (fun j hj => by have h1 := (HN9.out.lt j hj).1; have h2 := HV8.out.size; omega)))
        have HX10 := Lib.hid ((HF10.out.block _ (at_lt HX9.out) (HSBS9.out)).trans HX9.out)
        have HSBL10 := Lib.hid (show (Value.slice p10 (1 + m) c10).ownBlock ≠ some (W0.heap.size) from fun h => by
          rcases hlie10 with h5 | h5
          · exact HSBS9.out (h5 ▸ h)
          · rw [h] at h5; injection h5 with h5; have h6 := at_lt HX9.out; omega)
        clear hown10 hg10 hlie10
        have HZL10 := Lib.hid (Nat.le_trans HZS9.out HF10.out.size)
        refine Then.mk HV10.out ?_
        apply plan_readsW
        · intro W hW
          clear hW
          iterate 1 (refine WR_step (fun K hK => ?_); go_simp; refine hK.out _ ?_; clear hK K)
          exact WR_nil rfl
        refine plan_one rfl ?_
        refine wpList_store_obj rfl (.tmp 8) (.tmp 39) 25 rfl (W0.heap.size) rfl [.slice pc2 nn cc2, Value.slice p10 (1 + m) c10] rfl _ _ HX10.out (by kernel_rfl) rfl (by simp [Value.oneCell']) ?_
        intro W11 hb11 hf11
        have HV11 := Lib.hid (show Below w3.heap.size w3 W11 from HV10.out.trans (hf11.below HV10.out.size (fun j hj => by have hj : j = W0.heap.size := hj; have h1 := HV0.out.size; omega)))
        have HRS11 := Lib.hid (show RS (RuleIs w3) w3.heap.size (W0.heap.size) (.slice pc2 nn cc2) W11 (Value.slice p10 (1 + m) c10) (([rl0 is_]) ++ (rs)) from ⟨hb11, (HN10.out.fr hf11 (fun j hj h => by have h : j = W0.heap.size := h; exact HSBL10.out (h ▸ hj))).base HV8.out.size, HSBL10.out⟩)
        clear hb11 hf11
        refine Then.mk HV11.out ?_
        refine plan_done ?_
        go_wp2_with fail
        go_meet
        case rel => exact ⟨_, _, _, rfl, HRS11.out, HV11.out⟩
    case rest =>
      go_upto_region 5 with fail
      refine abs_wp fun w4 hw4 => ?_
      rw [← hw4] at hcut
      obtain ⟨G1, p1, c1, rfl, hrs1, hb1⟩ := hcut
      have HRS1 := Lib.hid hrs1
      have HB41 := Lib.hid hb1
      have HG1 := Lib.hid (at_lt hrs1.out)
      clear hw4 hrs1 hb1
      have HRU4 := Lib.hid (HRU.out.to HB41.out (Nat.le_refl _))
      have HRR4 := Lib.hid (show ∀ W, Below w4.heap.size w4 W → ReadL (RuleIs w4) 8 W (.slice pq m cq) rs from fun W hW => (read_of_rules HRU4.out).below hW (Nat.le_refl _))
      have HBX4 := Lib.hid ((HB41.out.block _ (at_lt HBXQ.out)).trans HBXQ.out)
      have HQ4 := Lib.hid (Below.refl w4.heap.size w4)
      go_cut [9] (fun v wx => ∃ G p c, v = .pointer (some ⟨G, 0, none⟩) ∧ RS (RuleIs w4) w4.heap.size G (.slice pc2 nn cc2) wx (.slice p (m + 1) c) (([] ++ rs) ++ [rl0 true]) ∧ Below w4.heap.size w4 wx)
      case first =>
        refine wp_region_plan (fun W => Below w4.heap.size w4 W) (.reads [0, 1, 3, 4, 6] (.three 2 (.three 5 (.two 7 (.two 8 (.reads [9] (.one 10 (.one 11 .done))) 10 (.one 8 (.reads [9] (.one 11 .done)))) 10 (.one 7 (.one 8 (.reads [9] (.one 11 .done))))) 7 (.two 5 (.two 8 (.reads [9] (.one 10 (.one 11 .done))) 10 (.one 8 (.reads [9] (.one 11 .done)))) 10 (.one 5 (.one 8 (.reads [9] (.one 11 .done))))) 10 (.two 5 (.one 7 (.one 8 (.reads [9] (.one 11 .done)))) 7 (.one 5 (.one 8 (.reads [9] (.one 11 .done)))))) 7 (.two 2 (.two 5 (.two 8 (.reads [9] (.one 10 (.one 11 .done))) 10 (.one 8 (.reads [9] (.one 11 .done)))) 10 (.one 5 (.one 8 (.reads [9] (.one 11 .done))))) 10 (.one 2 (.one 5 (.one 8 (.reads [9] (.one 11 .done)))))) 10 (.two 2 (.two 5 (.one 7 (.one 8 (.reads [9] (.one 11 .done)))) 7 (.one 5 (.one 8 (.reads [9] (.one 11 .done))))) 7 (.one 2 (.one 5 (.one 8 (.reads [9] (.one 11 .done)))))))) 153 (by kernel_rfl) (by kernel_rfl) rfl (fun _ _ _ _ _ h => h) HQ4.out.drew ?_
        apply plan_readsW
        · intro W hW
          obtain ⟨x0, x1⟩ := cells2 ((hW.block _ (at_lt HBX4.out)).trans HBX4.out)
          clear hW
          iterate 5 (refine WR_step (fun K hK => ?_); go_simp; refine hK.out _ ?_; clear hK K)
          exact WR_nil rfl
        refine abs_plan fun W0 hW0 => ?_
        have HV0 := Lib.hid (show Below w4.heap.size w4 W0 by rw [hW0]; exact HQ4.out.drew)
        clear hW0
        refine plan_three rfl rfl rfl ?_ ?_ ?_
        · skip
          go_wp2_with fail
          have HAL1 := Lib.hid (below_alloc1 W0 (.cells #[] 54))
          refine Then.mk (HV0.out.trans (HAL1.out.mono HV0.out.size)) ?_
          have HN1 := Lib.hid (OwnL.none8 (RuleIs w4) W0)
          obtain ⟨W1, hW1⟩ : ∃ V, V = W0.alloc (.cells #[] 54) := ⟨_, rfl⟩
          have HV1 := Lib.hid (show Below w4.heap.size w4 W1 by rw [hW1]; exact HV0.out.trans (HAL1.out.mono HV0.out.size))
          have HB1 := Lib.hid (show Below W0.heap.size W0 W1 by rw [hW1]; exact HAL1.out)
          rw [← hW1] at HN1 ⊢
          clear hW1
          have HZE1 := Lib.hid HB1.out.size
          refine plan_three rfl rfl rfl ?_ ?_ ?_
          · skip
            refine wpList_append_rules rfl (.tmp 42) (.tmp 44) rfl (Value.slice (some ⟨W0.heap.size, 0, none⟩) 0 0) ([]) (0) (by rfl) rfl (HN1.out) _ (rs) (m) HM.out.symm rfl (HRR4.out W1 HV1.out) (by omega) HZE1.out ?_
            intro p2 c2 W2 hown2 hg2 hlie2
            simp only [Nat.zero_add] at hown2 hg2 hlie2 ⊢
            have HN2 := Lib.hid hown2
            have HF2 := Lib.hid (show Fr (fun j => (Value.slice (some ⟨W0.heap.size, 0, none⟩) 0 0).ownBlock = some j) W1 W2 from Fr.grown (F := fun j => (Value.slice (some ⟨W0.heap.size, 0, none⟩) 0 0).ownBlock = some j) hg2 (fun k h => h))
            have HV2 := Lib.hid (show Below w4.heap.size w4 W2 from HV1.out.trans (HF2.out.below HV1.out.size (fun j hj => by have h1 := (HN1.out.lt j hj).1; have h2 := HV0.out.size; omega)))
            clear hown2 hg2 hlie2
            have HZL2 := Lib.hid (Nat.le_trans HZE1.out HF2.out.size)
            refine Then.mk HV2.out ?_
            refine plan_two rfl rfl ?_ ?_
            · skip
              go_wp2_with fail
              have HAL3 := Lib.hid (below_alloc1 W2 (.cells #[.int .i64 0, .slice none 0 0, .slice none 0 0, .int .i64 0, .slice none 0 0, .slice none 0 0, .bool true, .bool false] 54))
              refine Then.mk (HV2.out.trans (HAL3.out.mono HV2.out.size)) ?_
              have HN3 := Lib.hid (OwnL.one (E := RuleIs w4) (sz := 8) (base := W2.heap.size) W2 54 (rl0 true) [.int .i64 0, .slice none 0 0, .slice none 0 0, .int .i64 0, .slice none 0 0, .slice none 0 0, .bool true, .bool false] (Nat.le_refl _) ⟨rfl, by simp [Value.oneCell']⟩ (rl0_is w4 true))
              obtain ⟨W3, hW3⟩ : ∃ V, V = W2.alloc (.cells #[.int .i64 0, .slice none 0 0, .slice none 0 0, .int .i64 0, .slice none 0 0, .slice none 0 0, .bool true, .bool false] 54) := ⟨_, rfl⟩
              have HV3 := Lib.hid (show Below w4.heap.size w4 W3 by rw [hW3]; exact HV2.out.trans (HAL3.out.mono HV2.out.size))
              have HB3 := Lib.hid (show Below W2.heap.size W2 W3 by rw [hW3]; exact HAL3.out)
              rw [← hW3] at HN3 ⊢
              clear hW3
              have HL3 := Lib.hid (HN2.out.below HB3.out (Nat.le_refl _))
              have HZL3 := Lib.hid (Nat.le_trans HZL2.out HB3.out.size)
              have HZS3 := Lib.hid HB3.out.size
              have HSOS3 := Lib.hid (show ∀ j, (Value.slice (some ⟨W2.heap.size, 0, none⟩) 1 1).ownBlock = some j → (Value.slice p2 (m) c2).ownBlock ≠ some j from fun j h1 h2 => by have h3 := (HN3.out.lt _ h1).1; have h4 := (HN2.out.lt _ h2).2; omega)
              refine plan_two rfl rfl ?_ ?_
              · skip
                refine wpList_append_rules rfl (.tmp 45) (.tmp 47) rfl (Value.slice p2 (m) c2) (([]) ++ (rs)) (m) (by rw [List.length_append, ← HM.out]; exact Nat.zero_add m) rfl (HL3.out) _ ([rl0 true]) (1) (by rfl) rfl (HN3.out.read) (by omega) HZL3.out ?_
                intro p4 c4 W4 hown4 hg4 hlie4
                have HN4 := Lib.hid hown4
                have HF4 := Lib.hid (show Fr (fun j => (Value.slice p2 (m) c2).ownBlock = some j) W3 W4 from Fr.grown (F := fun j => (Value.slice p2 (m) c2).ownBlock = some j) hg4 (fun k h => h))
                have HV4 := Lib.hid (show Below w4.heap.size w4 W4 from HV3.out.trans (HF4.out.below HV3.out.size (fun j hj => by have h1 := (HL3.out.lt j hj).1; have h2 := HV0.out.size; omega)))
                clear hown4 hg4 hlie4
                have HZM4 := Lib.hid (Nat.le_trans HZL3.out HF4.out.size)
                refine Then.mk HV4.out ?_
                apply plan_readsW
                · intro W hW
                  clear hW
                  iterate 1 (refine WR_step (fun K hK => ?_); go_simp; refine hK.out _ ?_; clear hK K)
                  exact WR_nil rfl
                refine plan_one rfl ?_
                go_wp2_with fail
                have HAL5 := Lib.hid (below_alloc1 W4 (.cells #[.slice none 0 0, .slice none 0 0] 25))
                refine Then.mk (HV4.out.trans (HAL5.out.mono HV4.out.size)) ?_
                have HN5 := Lib.hid (heap_alloc_new W4 (.cells #[.slice none 0 0, .slice none 0 0] 25))
                obtain ⟨W5, hW5⟩ : ∃ V, V = W4.alloc (.cells #[.slice none 0 0, .slice none 0 0] 25) := ⟨_, rfl⟩
                have HV5 := Lib.hid (show Below w4.heap.size w4 W5 by rw [hW5]; exact HV4.out.trans (HAL5.out.mono HV4.out.size))
                have HB5 := Lib.hid (show Below W4.heap.size W4 W5 by rw [hW5]; exact HAL5.out)
                rw [← hW5] at HN5 ⊢
                clear hW5
                have HM5 := Lib.hid (HN4.out.below HB5.out (Nat.le_refl _))
                have HZM5 := Lib.hid (Nat.le_trans HZM4.out HB5.out.size)
                have HSBM5 := Lib.hid (show (Value.slice p4 (m + 1) c4).ownBlock ≠ some W4.heap.size from fun h => by have := (HN4.out.lt _ h).2; omega)
                refine plan_one rfl ?_
                refine wpList_store_obj rfl (.tmp 9) (.tmp 49) 25 rfl (W4.heap.size) rfl [.slice pc2 nn cc2, Value.slice p4 (m + 1) c4] rfl _ _ HN5.out (by kernel_rfl) rfl (by simp [Value.oneCell']) ?_
                intro W6 hb6 hf6
                have HV6 := Lib.hid (show Below w4.heap.size w4 W6 from HV5.out.trans (hf6.below HV5.out.size (fun j hj => by have hj : j = W4.heap.size := hj; have h1 := HV4.out.size; omega)))
                have HRS6 := Lib.hid (show RS (RuleIs w4) w4.heap.size (W4.heap.size) (.slice pc2 nn cc2) W6 (Value.slice p4 (m + 1) c4) ((([]) ++ (rs)) ++ ([rl0 true])) from ⟨hb6, (HM5.out.fr hf6 (fun j hj h => by have h : j = W4.heap.size := h; exact HSBM5.out (h ▸ hj))).base HV0.out.size, HSBM5.out⟩)
                clear hb6 hf6
                refine Then.mk HV6.out ?_
                refine plan_done ?_
                go_wp2_with fail
                go_meet
                case rel => exact ⟨_, _, _, rfl, HRS6.out, HV6.out⟩
              · skip
                go_wp2_with fail
                have HAL7 := Lib.hid (below_alloc1 W3 (.cells #[.slice none 0 0, .slice none 0 0] 25))
                refine Then.mk (HV3.out.trans (HAL7.out.mono HV3.out.size)) ?_
                have HN7 := Lib.hid (heap_alloc_new W3 (.cells #[.slice none 0 0, .slice none 0 0] 25))
                obtain ⟨W7, hW7⟩ : ∃ V, V = W3.alloc (.cells #[.slice none 0 0, .slice none 0 0] 25) := ⟨_, rfl⟩
                have HV7 := Lib.hid (show Below w4.heap.size w4 W7 by rw [hW7]; exact HV3.out.trans (HAL7.out.mono HV3.out.size))
                have HB7 := Lib.hid (show Below W3.heap.size W3 W7 by rw [hW7]; exact HAL7.out)
                rw [← hW7] at HN7 ⊢
                clear hW7
                have HL7 := Lib.hid (HL3.out.below HB7.out (Nat.le_refl _))
                have HZL7 := Lib.hid (Nat.le_trans HZL3.out HB7.out.size)
                have HS7 := Lib.hid (HN3.out.below HB7.out (Nat.le_refl _))
                have HZS7 := Lib.hid (Nat.le_trans HZS3.out HB7.out.size)
                have HSBL7 := Lib.hid (show (Value.slice p2 (m) c2).ownBlock ≠ some W3.heap.size from fun h => by have := (HL3.out.lt _ h).2; omega)
                have HSBS7 := Lib.hid (show (Value.slice (some ⟨W2.heap.size, 0, none⟩) 1 1).ownBlock ≠ some W3.heap.size from fun h => by have := (HN3.out.lt _ h).2; omega)
                refine plan_one rfl ?_
                refine wpList_append_rules rfl (.tmp 45) (.tmp 47) rfl (Value.slice p2 (m) c2) (([]) ++ (rs)) (m) (by rw [List.length_append, ← HM.out]; exact Nat.zero_add m) rfl (HL7.out) _ ([rl0 true]) (1) (by rfl) rfl (HS7.out.read) (by omega) HZL7.out ?_
                intro p8 c8 W8 hown8 hg8 hlie8
                have HN8 := Lib.hid hown8
                have HF8 := Lib.hid (show Fr (fun j => (Value.slice p2 (m) c2).ownBlock = some j) W7 W8 from Fr.grown (F := fun j => (Value.slice p2 (m) c2).ownBlock = some j) hg8 (fun k h => h))
                have HV8 := Lib.hid (show Below w4.heap.size w4 W8 from HV7.out.trans (HF8.out.below HV7.out.size (fun j hj => by have h1 := (HL7.out.lt j hj).1; have h2 := HV0.out.size; omega)))
                have HX8 := Lib.hid ((HF8.out.block _ (at_lt HN7.out) (HSBL7.out)).trans HN7.out)
                have HSBM8 := Lib.hid (show (Value.slice p8 (m + 1) c8).ownBlock ≠ some (W3.heap.size) from fun h => by
                  rcases hlie8 with h5 | h5
                  · exact HSBL7.out (h5 ▸ h)
                  · rw [h] at h5; injection h5 with h5; have h6 := at_lt HN7.out; omega)
                clear hown8 hg8 hlie8
                have HZM8 := Lib.hid (Nat.le_trans HZL7.out HF8.out.size)
                refine Then.mk HV8.out ?_
                apply plan_readsW
                · intro W hW
                  clear hW
                  iterate 1 (refine WR_step (fun K hK => ?_); go_simp; refine hK.out _ ?_; clear hK K)
                  exact WR_nil rfl
                refine plan_one rfl ?_
                refine wpList_store_obj rfl (.tmp 9) (.tmp 49) 25 rfl (W3.heap.size) rfl [.slice pc2 nn cc2, Value.slice p8 (m + 1) c8] rfl _ _ HX8.out (by kernel_rfl) rfl (by simp [Value.oneCell']) ?_
                intro W9 hb9 hf9
                have HV9 := Lib.hid (show Below w4.heap.size w4 W9 from HV8.out.trans (hf9.below HV8.out.size (fun j hj => by have hj : j = W3.heap.size := hj; have h1 := HV3.out.size; omega)))
                have HRS9 := Lib.hid (show RS (RuleIs w4) w4.heap.size (W3.heap.size) (.slice pc2 nn cc2) W9 (Value.slice p8 (m + 1) c8) ((([]) ++ (rs)) ++ ([rl0 true])) from ⟨hb9, (HN8.out.fr hf9 (fun j hj h => by have h : j = W3.heap.size := h; exact HSBM8.out (h ▸ hj))).base HV0.out.size, HSBM8.out⟩)
                clear hb9 hf9
                refine Then.mk HV9.out ?_
                refine plan_done ?_
                go_wp2_with fail
                go_meet
                case rel => exact ⟨_, _, _, rfl, HRS9.out, HV9.out⟩
            · skip
              go_wp2_with fail
              have HAL10 := Lib.hid (below_alloc1 W2 (.cells #[.slice none 0 0, .slice none 0 0] 25))
              refine Then.mk (HV2.out.trans (HAL10.out.mono HV2.out.size)) ?_
              have HN10 := Lib.hid (heap_alloc_new W2 (.cells #[.slice none 0 0, .slice none 0 0] 25))
              obtain ⟨W10, hW10⟩ : ∃ V, V = W2.alloc (.cells #[.slice none 0 0, .slice none 0 0] 25) := ⟨_, rfl⟩
              have HV10 := Lib.hid (show Below w4.heap.size w4 W10 by rw [hW10]; exact HV2.out.trans (HAL10.out.mono HV2.out.size))
              have HB10 := Lib.hid (show Below W2.heap.size W2 W10 by rw [hW10]; exact HAL10.out)
              rw [← hW10] at HN10 ⊢
              clear hW10
              have HL10 := Lib.hid (HN2.out.below HB10.out (Nat.le_refl _))
              have HZL10 := Lib.hid (Nat.le_trans HZL2.out HB10.out.size)
              have HSBL10 := Lib.hid (show (Value.slice p2 (m) c2).ownBlock ≠ some W2.heap.size from fun h => by have := (HN2.out.lt _ h).2; omega)
              refine plan_one rfl ?_
              go_wp2_with fail
              have HAL11 := Lib.hid (below_alloc1 W10 (.cells #[.int .i64 0, .slice none 0 0, .slice none 0 0, .int .i64 0, .slice none 0 0, .slice none 0 0, .bool true, .bool false] 54))
              refine Then.mk (HV10.out.trans (HAL11.out.mono HV10.out.size)) ?_
              have HN11 := Lib.hid (OwnL.one (E := RuleIs w4) (sz := 8) (base := W10.heap.size) W10 54 (rl0 true) [.int .i64 0, .slice none 0 0, .slice none 0 0, .int .i64 0, .slice none 0 0, .slice none 0 0, .bool true, .bool false] (Nat.le_refl _) ⟨rfl, by simp [Value.oneCell']⟩ (rl0_is w4 true))
              obtain ⟨W11, hW11⟩ : ∃ V, V = W10.alloc (.cells #[.int .i64 0, .slice none 0 0, .slice none 0 0, .int .i64 0, .slice none 0 0, .slice none 0 0, .bool true, .bool false] 54) := ⟨_, rfl⟩
              have HV11 := Lib.hid (show Below w4.heap.size w4 W11 by rw [hW11]; exact HV10.out.trans (HAL11.out.mono HV10.out.size))
              have HB11 := Lib.hid (show Below W10.heap.size W10 W11 by rw [hW11]; exact HAL11.out)
              rw [← hW11] at HN11 ⊢
              clear hW11
              have HL11 := Lib.hid (HL10.out.below HB11.out (Nat.le_refl _))
              have HZL11 := Lib.hid (Nat.le_trans HZL10.out HB11.out.size)
              have HX11 := Lib.hid ((HB11.out.block _ (at_lt HN10.out)).trans HN10.out)
              have HZS11 := Lib.hid HB11.out.size
              have HSBS11 := Lib.hid (show (Value.slice (some ⟨W10.heap.size, 0, none⟩) 1 1).ownBlock ≠ some (W2.heap.size) from fun h => by have h1 := (HN11.out.lt _ h).1; have h2 := at_lt HN10.out; omega)
              have HSOS11 := Lib.hid (show ∀ j, (Value.slice (some ⟨W10.heap.size, 0, none⟩) 1 1).ownBlock = some j → (Value.slice p2 (m) c2).ownBlock ≠ some j from fun j h1 h2 => by have h3 := (HN11.out.lt _ h1).1; have h4 := (HL10.out.lt _ h2).2; omega)
              refine plan_one rfl ?_
              refine wpList_append_rules rfl (.tmp 45) (.tmp 47) rfl (Value.slice p2 (m) c2) (([]) ++ (rs)) (m) (by rw [List.length_append, ← HM.out]; exact Nat.zero_add m) rfl (HL11.out) _ ([rl0 true]) (1) (by rfl) rfl (HN11.out.read) (by omega) HZL11.out ?_
              intro p12 c12 W12 hown12 hg12 hlie12
              have HN12 := Lib.hid hown12
              have HF12 := Lib.hid (show Fr (fun j => (Value.slice p2 (m) c2).ownBlock = some j) W11 W12 from Fr.grown (F := fun j => (Value.slice p2 (m) c2).ownBlock = some j) hg12 (fun k h => h))
              have HV12 := Lib.hid (show Below w4.heap.size w4 W12 from HV11.out.trans (HF12.out.below HV11.out.size (fun j hj => by have h1 := (HL11.out.lt j hj).1; have h2 := HV0.out.size; omega)))
              have HX12 := Lib.hid ((HF12.out.block _ (at_lt HX11.out) (HSBL10.out)).trans HX11.out)
              have HSBM12 := Lib.hid (show (Value.slice p12 (m + 1) c12).ownBlock ≠ some (W2.heap.size) from fun h => by
                rcases hlie12 with h5 | h5
                · exact HSBL10.out (h5 ▸ h)
                · rw [h] at h5; injection h5 with h5; have h6 := at_lt HX11.out; omega)
              clear hown12 hg12 hlie12
              have HZM12 := Lib.hid (Nat.le_trans HZL11.out HF12.out.size)
              refine Then.mk HV12.out ?_
              apply plan_readsW
              · intro W hW
                clear hW
                iterate 1 (refine WR_step (fun K hK => ?_); go_simp; refine hK.out _ ?_; clear hK K)
                exact WR_nil rfl
              refine plan_one rfl ?_
              refine wpList_store_obj rfl (.tmp 9) (.tmp 49) 25 rfl (W2.heap.size) rfl [.slice pc2 nn cc2, Value.slice p12 (m + 1) c12] rfl _ _ HX12.out (by kernel_rfl) rfl (by simp [Value.oneCell']) ?_
              intro W13 hb13 hf13
              have HV13 := Lib.hid (show Below w4.heap.size w4 W13 from HV12.out.trans (hf13.below HV12.out.size (fun j hj => by have hj : j = W2.heap.size := hj; have h1 := HV2.out.size; omega)))
              have HRS13 := Lib.hid (show RS (RuleIs w4) w4.heap.size (W2.heap.size) (.slice pc2 nn cc2) W13 (Value.slice p12 (m + 1) c12) ((([]) ++ (rs)) ++ ([rl0 true])) from ⟨hb13, (HN12.out.fr hf13 (fun j hj h => by have h : j = W2.heap.size := h; exact HSBM12.out (h ▸ hj))).base HV0.out.size, HSBM12.out⟩)
              clear hb13 hf13
              refine Then.mk HV13.out ?_
              refine plan_done ?_
              go_wp2_with fail
              go_meet
              case rel => exact ⟨_, _, _, rfl, HRS13.out, HV13.out⟩
          · skip
            go_wp2_with fail
            have HAL14 := Lib.hid (below_alloc1 W1 (.cells #[.int .i64 0, .slice none 0 0, .slice none 0 0, .int .i64 0, .slice none 0 0, .slice none 0 0, .bool true, .bool false] 54))
            refine Then.mk (HV1.out.trans (HAL14.out.mono HV1.out.size)) ?_
            have HN14 := Lib.hid (OwnL.one (E := RuleIs w4) (sz := 8) (base := W1.heap.size) W1 54 (rl0 true) [.int .i64 0, .slice none 0 0, .slice none 0 0, .int .i64 0, .slice none 0 0, .slice none 0 0, .bool true, .bool false] (Nat.le_refl _) ⟨rfl, by simp [Value.oneCell']⟩ (rl0_is w4 true))
            obtain ⟨W14, hW14⟩ : ∃ V, V = W1.alloc (.cells #[.int .i64 0, .slice none 0 0, .slice none 0 0, .int .i64 0, .slice none 0 0, .slice none 0 0, .bool true, .bool false] 54) := ⟨_, rfl⟩
            have HV14 := Lib.hid (show Below w4.heap.size w4 W14 by rw [hW14]; exact HV1.out.trans (HAL14.out.mono HV1.out.size))
            have HB14 := Lib.hid (show Below W1.heap.size W1 W14 by rw [hW14]; exact HAL14.out)
            rw [← hW14] at HN14 ⊢
            clear hW14
            have HE14 := Lib.hid (HN1.out.below HB14.out (Nat.le_refl _))
            have HZE14 := Lib.hid (Nat.le_trans HZE1.out HB14.out.size)
            have HZS14 := Lib.hid HB14.out.size
            have HSOS14 := Lib.hid (show ∀ j, (Value.slice (some ⟨W1.heap.size, 0, none⟩) 1 1).ownBlock = some j → (Value.slice (some ⟨W0.heap.size, 0, none⟩) 0 0).ownBlock ≠ some j from fun j h1 h2 => by have h3 := (HN14.out.lt _ h1).1; have h4 := (HN1.out.lt _ h2).2; omega)
            refine plan_two rfl rfl ?_ ?_
            · skip
              refine wpList_append_rules rfl (.tmp 42) (.tmp 44) rfl (Value.slice (some ⟨W0.heap.size, 0, none⟩) 0 0) ([]) (0) (by rfl) rfl (HE14.out) _ (rs) (m) HM.out.symm rfl (HRR4.out W14 HV14.out) (by omega) HZE14.out ?_
              intro p15 c15 W15 hown15 hg15 hlie15
              simp only [Nat.zero_add] at hown15 hg15 hlie15 ⊢
              have HN15 := Lib.hid hown15
              have HF15 := Lib.hid (show Fr (fun j => (Value.slice (some ⟨W0.heap.size, 0, none⟩) 0 0).ownBlock = some j) W14 W15 from Fr.grown (F := fun j => (Value.slice (some ⟨W0.heap.size, 0, none⟩) 0 0).ownBlock = some j) hg15 (fun k h => h))
              have HV15 := Lib.hid (show Below w4.heap.size w4 W15 from HV14.out.trans (HF15.out.below HV14.out.size (fun j hj => by have h1 := (HE14.out.lt j hj).1; have h2 := HV0.out.size; omega)))
              have HS15 := Lib.hid (HN14.out.fr HF15.out (fun j hj h => HSOS14.out j hj h))
              have HZS15 := Lib.hid (Nat.le_trans HZS14.out HF15.out.size)
              clear hown15 hg15 hlie15
              have HZL15 := Lib.hid (Nat.le_trans HZE14.out HF15.out.size)
              refine Then.mk HV15.out ?_
              refine plan_two rfl rfl ?_ ?_
              · skip
                refine wpList_append_rules rfl (.tmp 45) (.tmp 47) rfl (Value.slice p15 (m) c15) (([]) ++ (rs)) (m) (by rw [List.length_append, ← HM.out]; exact Nat.zero_add m) rfl (HN15.out) _ ([rl0 true]) (1) (by rfl) rfl (HS15.out.read) (by omega) HZL15.out ?_
                intro p16 c16 W16 hown16 hg16 hlie16
                have HN16 := Lib.hid hown16
                have HF16 := Lib.hid (show Fr (fun j => (Value.slice p15 (m) c15).ownBlock = some j) W15 W16 from Fr.grown (F := fun j => (Value.slice p15 (m) c15).ownBlock = some j) hg16 (fun k h => h))
                have HV16 := Lib.hid (show Below w4.heap.size w4 W16 from HV15.out.trans (HF16.out.below HV15.out.size (fun j hj => by have h1 := (HN15.out.lt j hj).1; have h2 := HV0.out.size; omega)))
                clear hown16 hg16 hlie16
                have HZM16 := Lib.hid (Nat.le_trans HZL15.out HF16.out.size)
                refine Then.mk HV16.out ?_
                apply plan_readsW
                · intro W hW
                  clear hW
                  iterate 1 (refine WR_step (fun K hK => ?_); go_simp; refine hK.out _ ?_; clear hK K)
                  exact WR_nil rfl
                refine plan_one rfl ?_
                go_wp2_with fail
                have HAL17 := Lib.hid (below_alloc1 W16 (.cells #[.slice none 0 0, .slice none 0 0] 25))
                refine Then.mk (HV16.out.trans (HAL17.out.mono HV16.out.size)) ?_
                have HN17 := Lib.hid (heap_alloc_new W16 (.cells #[.slice none 0 0, .slice none 0 0] 25))
                obtain ⟨W17, hW17⟩ : ∃ V, V = W16.alloc (.cells #[.slice none 0 0, .slice none 0 0] 25) := ⟨_, rfl⟩
                have HV17 := Lib.hid (show Below w4.heap.size w4 W17 by rw [hW17]; exact HV16.out.trans (HAL17.out.mono HV16.out.size))
                have HB17 := Lib.hid (show Below W16.heap.size W16 W17 by rw [hW17]; exact HAL17.out)
                rw [← hW17] at HN17 ⊢
                clear hW17
                have HM17 := Lib.hid (HN16.out.below HB17.out (Nat.le_refl _))
                have HZM17 := Lib.hid (Nat.le_trans HZM16.out HB17.out.size)
                have HSBM17 := Lib.hid (show (Value.slice p16 (m + 1) c16).ownBlock ≠ some W16.heap.size from fun h => by have := (HN16.out.lt _ h).2; omega)
                refine plan_one rfl ?_
                refine wpList_store_obj rfl (.tmp 9) (.tmp 49) 25 rfl (W16.heap.size) rfl [.slice pc2 nn cc2, Value.slice p16 (m + 1) c16] rfl _ _ HN17.out (by kernel_rfl) rfl (by simp [Value.oneCell']) ?_
                intro W18 hb18 hf18
                have HV18 := Lib.hid (show Below w4.heap.size w4 W18 from HV17.out.trans (hf18.below HV17.out.size (fun j hj => by have hj : j = W16.heap.size := hj; have h1 := HV16.out.size; omega)))
                have HRS18 := Lib.hid (show RS (RuleIs w4) w4.heap.size (W16.heap.size) (.slice pc2 nn cc2) W18 (Value.slice p16 (m + 1) c16) ((([]) ++ (rs)) ++ ([rl0 true])) from ⟨hb18, (HM17.out.fr hf18 (fun j hj h => by have h : j = W16.heap.size := h; exact HSBM17.out (h ▸ hj))).base HV0.out.size, HSBM17.out⟩)
                clear hb18 hf18
                refine Then.mk HV18.out ?_
                refine plan_done ?_
                go_wp2_with fail
                go_meet
                case rel => exact ⟨_, _, _, rfl, HRS18.out, HV18.out⟩
              · skip
                go_wp2_with fail
                have HAL19 := Lib.hid (below_alloc1 W15 (.cells #[.slice none 0 0, .slice none 0 0] 25))
                refine Then.mk (HV15.out.trans (HAL19.out.mono HV15.out.size)) ?_
                have HN19 := Lib.hid (heap_alloc_new W15 (.cells #[.slice none 0 0, .slice none 0 0] 25))
                obtain ⟨W19, hW19⟩ : ∃ V, V = W15.alloc (.cells #[.slice none 0 0, .slice none 0 0] 25) := ⟨_, rfl⟩
                have HV19 := Lib.hid (show Below w4.heap.size w4 W19 by rw [hW19]; exact HV15.out.trans (HAL19.out.mono HV15.out.size))
                have HB19 := Lib.hid (show Below W15.heap.size W15 W19 by rw [hW19]; exact HAL19.out)
                rw [← hW19] at HN19 ⊢
                clear hW19
                have HS19 := Lib.hid (HS15.out.below HB19.out (Nat.le_refl _))
                have HZS19 := Lib.hid (Nat.le_trans HZS15.out HB19.out.size)
                have HL19 := Lib.hid (HN15.out.below HB19.out (Nat.le_refl _))
                have HZL19 := Lib.hid (Nat.le_trans HZL15.out HB19.out.size)
                have HSBS19 := Lib.hid (show (Value.slice (some ⟨W1.heap.size, 0, none⟩) 1 1).ownBlock ≠ some W15.heap.size from fun h => by have := (HS15.out.lt _ h).2; omega)
                have HSBL19 := Lib.hid (show (Value.slice p15 (m) c15).ownBlock ≠ some W15.heap.size from fun h => by have := (HN15.out.lt _ h).2; omega)
                refine plan_one rfl ?_
                refine wpList_append_rules rfl (.tmp 45) (.tmp 47) rfl (Value.slice p15 (m) c15) (([]) ++ (rs)) (m) (by rw [List.length_append, ← HM.out]; exact Nat.zero_add m) rfl (HL19.out) _ ([rl0 true]) (1) (by rfl) rfl (HS19.out.read) (by omega) HZL19.out ?_
                intro p20 c20 W20 hown20 hg20 hlie20
                have HN20 := Lib.hid hown20
                have HF20 := Lib.hid (show Fr (fun j => (Value.slice p15 (m) c15).ownBlock = some j) W19 W20 from Fr.grown (F := fun j => (Value.slice p15 (m) c15).ownBlock = some j) hg20 (fun k h => h))
                have HV20 := Lib.hid (show Below w4.heap.size w4 W20 from HV19.out.trans (HF20.out.below HV19.out.size (fun j hj => by have h1 := (HL19.out.lt j hj).1; have h2 := HV0.out.size; omega)))
                have HX20 := Lib.hid ((HF20.out.block _ (at_lt HN19.out) (HSBL19.out)).trans HN19.out)
                have HSBM20 := Lib.hid (show (Value.slice p20 (m + 1) c20).ownBlock ≠ some (W15.heap.size) from fun h => by
                  rcases hlie20 with h5 | h5
                  · exact HSBL19.out (h5 ▸ h)
                  · rw [h] at h5; injection h5 with h5; have h6 := at_lt HN19.out; omega)
                clear hown20 hg20 hlie20
                have HZM20 := Lib.hid (Nat.le_trans HZL19.out HF20.out.size)
                refine Then.mk HV20.out ?_
                apply plan_readsW
                · intro W hW
                  clear hW
                  iterate 1 (refine WR_step (fun K hK => ?_); go_simp; refine hK.out _ ?_; clear hK K)
                  exact WR_nil rfl
                refine plan_one rfl ?_
                refine wpList_store_obj rfl (.tmp 9) (.tmp 49) 25 rfl (W15.heap.size) rfl [.slice pc2 nn cc2, Value.slice p20 (m + 1) c20] rfl _ _ HX20.out (by kernel_rfl) rfl (by simp [Value.oneCell']) ?_
                intro W21 hb21 hf21
                have HV21 := Lib.hid (show Below w4.heap.size w4 W21 from HV20.out.trans (hf21.below HV20.out.size (fun j hj => by have hj : j = W15.heap.size := hj; have h1 := HV15.out.size; omega)))
                have HRS21 := Lib.hid (show RS (RuleIs w4) w4.heap.size (W15.heap.size) (.slice pc2 nn cc2) W21 (Value.slice p20 (m + 1) c20) ((([]) ++ (rs)) ++ ([rl0 true])) from ⟨hb21, (HN20.out.fr hf21 (fun j hj h => by have h : j = W15.heap.size := h; exact HSBM20.out (h ▸ hj))).base HV0.out.size, HSBM20.out⟩)
                clear hb21 hf21
                refine Then.mk HV21.out ?_
                refine plan_done ?_
                go_wp2_with fail
                go_meet
                case rel => exact ⟨_, _, _, rfl, HRS21.out, HV21.out⟩
            · skip
              go_wp2_with fail
              have HAL22 := Lib.hid (below_alloc1 W14 (.cells #[.slice none 0 0, .slice none 0 0] 25))
              refine Then.mk (HV14.out.trans (HAL22.out.mono HV14.out.size)) ?_
              have HN22 := Lib.hid (heap_alloc_new W14 (.cells #[.slice none 0 0, .slice none 0 0] 25))
              obtain ⟨W22, hW22⟩ : ∃ V, V = W14.alloc (.cells #[.slice none 0 0, .slice none 0 0] 25) := ⟨_, rfl⟩
              have HV22 := Lib.hid (show Below w4.heap.size w4 W22 by rw [hW22]; exact HV14.out.trans (HAL22.out.mono HV14.out.size))
              have HB22 := Lib.hid (show Below W14.heap.size W14 W22 by rw [hW22]; exact HAL22.out)
              rw [← hW22] at HN22 ⊢
              clear hW22
              have HE22 := Lib.hid (HE14.out.below HB22.out (Nat.le_refl _))
              have HZE22 := Lib.hid (Nat.le_trans HZE14.out HB22.out.size)
              have HS22 := Lib.hid (HN14.out.below HB22.out (Nat.le_refl _))
              have HZS22 := Lib.hid (Nat.le_trans HZS14.out HB22.out.size)
              have HSBE22 := Lib.hid (show (Value.slice (some ⟨W0.heap.size, 0, none⟩) 0 0).ownBlock ≠ some W14.heap.size from fun h => by have := (HE14.out.lt _ h).2; omega)
              have HSBS22 := Lib.hid (show (Value.slice (some ⟨W1.heap.size, 0, none⟩) 1 1).ownBlock ≠ some W14.heap.size from fun h => by have := (HN14.out.lt _ h).2; omega)
              refine plan_one rfl ?_
              refine wpList_append_rules rfl (.tmp 42) (.tmp 44) rfl (Value.slice (some ⟨W0.heap.size, 0, none⟩) 0 0) ([]) (0) (by rfl) rfl (HE22.out) _ (rs) (m) HM.out.symm rfl (HRR4.out W22 HV22.out) (by omega) HZE22.out ?_
              intro p23 c23 W23 hown23 hg23 hlie23
              simp only [Nat.zero_add] at hown23 hg23 hlie23 ⊢
              have HN23 := Lib.hid hown23
              have HF23 := Lib.hid (show Fr (fun j => (Value.slice (some ⟨W0.heap.size, 0, none⟩) 0 0).ownBlock = some j) W22 W23 from Fr.grown (F := fun j => (Value.slice (some ⟨W0.heap.size, 0, none⟩) 0 0).ownBlock = some j) hg23 (fun k h => h))
              have HV23 := Lib.hid (show Below w4.heap.size w4 W23 from HV22.out.trans (HF23.out.below HV22.out.size (fun j hj => by have h1 := (HE22.out.lt j hj).1; have h2 := HV0.out.size; omega)))
              have HS23 := Lib.hid (HS22.out.fr HF23.out (fun j hj h => HSOS14.out j hj h))
              have HZS23 := Lib.hid (Nat.le_trans HZS22.out HF23.out.size)
              have HX23 := Lib.hid ((HF23.out.block _ (at_lt HN22.out) (HSBE22.out)).trans HN22.out)
              have HSBL23 := Lib.hid (show (Value.slice p23 (m) c23).ownBlock ≠ some (W14.heap.size) from fun h => by
                rcases hlie23 with h5 | h5
                · exact HSBE22.out (h5 ▸ h)
                · rw [h] at h5; injection h5 with h5; have h6 := at_lt HN22.out; omega)
              clear hown23 hg23 hlie23
              have HZL23 := Lib.hid (Nat.le_trans HZE22.out HF23.out.size)
              refine Then.mk HV23.out ?_
              refine plan_one rfl ?_
              refine wpList_append_rules rfl (.tmp 45) (.tmp 47) rfl (Value.slice p23 (m) c23) (([]) ++ (rs)) (m) (by rw [List.length_append, ← HM.out]; exact Nat.zero_add m) rfl (HN23.out) _ ([rl0 true]) (1) (by rfl) rfl (HS23.out.read) (by omega) HZL23.out ?_
              intro p24 c24 W24 hown24 hg24 hlie24
              have HN24 := Lib.hid hown24
              have HF24 := Lib.hid (show Fr (fun j => (Value.slice p23 (m) c23).ownBlock = some j) W23 W24 from Fr.grown (F := fun j => (Value.slice p23 (m) c23).ownBlock = some j) hg24 (fun k h => h))
              have HV24 := Lib.hid (show Below w4.heap.size w4 W24 from HV23.out.trans (HF24.out.below HV23.out.size (fun j hj => by have h1 := (HN23.out.lt j hj).1; have h2 := HV0.out.size; omega)))
              have HX24 := Lib.hid ((HF24.out.block _ (at_lt HX23.out) (HSBL23.out)).trans HX23.out)
              have HSBM24 := Lib.hid (show (Value.slice p24 (m + 1) c24).ownBlock ≠ some (W14.heap.size) from fun h => by
                rcases hlie24 with h5 | h5
                · exact HSBL23.out (h5 ▸ h)
                · rw [h] at h5; injection h5 with h5; have h6 := at_lt HX23.out; omega)
              clear hown24 hg24 hlie24
              have HZM24 := Lib.hid (Nat.le_trans HZL23.out HF24.out.size)
              refine Then.mk HV24.out ?_
              apply plan_readsW
              · intro W hW
                clear hW
                iterate 1 (refine WR_step (fun K hK => ?_); go_simp; refine hK.out _ ?_; clear hK K)
                exact WR_nil rfl
              refine plan_one rfl ?_
              refine wpList_store_obj rfl (.tmp 9) (.tmp 49) 25 rfl (W14.heap.size) rfl [.slice pc2 nn cc2, Value.slice p24 (m + 1) c24] rfl _ _ HX24.out (by kernel_rfl) rfl (by simp [Value.oneCell']) ?_
              intro W25 hb25 hf25
              have HV25 := Lib.hid (show Below w4.heap.size w4 W25 from HV24.out.trans (hf25.below HV24.out.size (fun j hj => by have hj : j = W14.heap.size := hj; have h1 := HV14.out.size; omega)))
              have HRS25 := Lib.hid (show RS (RuleIs w4) w4.heap.size (W14.heap.size) (.slice pc2 nn cc2) W25 (Value.slice p24 (m + 1) c24) ((([]) ++ (rs)) ++ ([rl0 true])) from ⟨hb25, (HN24.out.fr hf25 (fun j hj h => by have h : j = W14.heap.size := h; exact HSBM24.out (h ▸ hj))).base HV0.out.size, HSBM24.out⟩)
              clear hb25 hf25
              refine Then.mk HV25.out ?_
              refine plan_done ?_
              go_wp2_with fail
              go_meet
              case rel => exact ⟨_, _, _, rfl, HRS25.out, HV25.out⟩
          · skip
            go_wp2_with fail
            have HAL26 := Lib.hid (below_alloc1 W1 (.cells #[.slice none 0 0, .slice none 0 0] 25))
            refine Then.mk (HV1.out.trans (HAL26.out.mono HV1.out.size)) ?_
            have HN26 := Lib.hid (heap_alloc_new W1 (.cells #[.slice none 0 0, .slice none 0 0] 25))
            obtain ⟨W26, hW26⟩ : ∃ V, V = W1.alloc (.cells #[.slice none 0 0, .slice none 0 0] 25) := ⟨_, rfl⟩
            have HV26 := Lib.hid (show Below w4.heap.size w4 W26 by rw [hW26]; exact HV1.out.trans (HAL26.out.mono HV1.out.size))
            have HB26 := Lib.hid (show Below W1.heap.size W1 W26 by rw [hW26]; exact HAL26.out)
            rw [← hW26] at HN26 ⊢
            clear hW26
            have HE26 := Lib.hid (HN1.out.below HB26.out (Nat.le_refl _))
            have HZE26 := Lib.hid (Nat.le_trans HZE1.out HB26.out.size)
            have HSBE26 := Lib.hid (show (Value.slice (some ⟨W0.heap.size, 0, none⟩) 0 0).ownBlock ≠ some W1.heap.size from fun h => by have := (HN1.out.lt _ h).2; omega)
            refine plan_two rfl rfl ?_ ?_
            · skip
              refine wpList_append_rules rfl (.tmp 42) (.tmp 44) rfl (Value.slice (some ⟨W0.heap.size, 0, none⟩) 0 0) ([]) (0) (by rfl) rfl (HE26.out) _ (rs) (m) HM.out.symm rfl (HRR4.out W26 HV26.out) (by omega) HZE26.out ?_
              intro p27 c27 W27 hown27 hg27 hlie27
              simp only [Nat.zero_add] at hown27 hg27 hlie27 ⊢
              have HN27 := Lib.hid hown27
              have HF27 := Lib.hid (show Fr (fun j => (Value.slice (some ⟨W0.heap.size, 0, none⟩) 0 0).ownBlock = some j) W26 W27 from Fr.grown (F := fun j => (Value.slice (some ⟨W0.heap.size, 0, none⟩) 0 0).ownBlock = some j) hg27 (fun k h => h))
              have HV27 := Lib.hid (show Below w4.heap.size w4 W27 from HV26.out.trans (HF27.out.below HV26.out.size (fun j hj => by have h1 := (HE26.out.lt j hj).1; have h2 := HV0.out.size; omega)))
              have HX27 := Lib.hid ((HF27.out.block _ (at_lt HN26.out) (HSBE26.out)).trans HN26.out)
              have HSBL27 := Lib.hid (show (Value.slice p27 (m) c27).ownBlock ≠ some (W1.heap.size) from fun h => by
                rcases hlie27 with h5 | h5
                · exact HSBE26.out (h5 ▸ h)
                · rw [h] at h5; injection h5 with h5; have h6 := at_lt HN26.out; omega)
              clear hown27 hg27 hlie27
              have HZL27 := Lib.hid (Nat.le_trans HZE26.out HF27.out.size)
              refine Then.mk HV27.out ?_
              refine plan_one rfl ?_
              go_wp2_with fail
              have HAL28 := Lib.hid (below_alloc1 W27 (.cells #[.int .i64 0, .slice none 0 0, .slice none 0 0, .int .i64 0, .slice none 0 0, .slice none 0 0, .bool true, .bool false] 54))
              refine Then.mk (HV27.out.trans (HAL28.out.mono HV27.out.size)) ?_
              have HN28 := Lib.hid (OwnL.one (E := RuleIs w4) (sz := 8) (base := W27.heap.size) W27 54 (rl0 true) [.int .i64 0, .slice none 0 0, .slice none 0 0, .int .i64 0, .slice none 0 0, .slice none 0 0, .bool true, .bool false] (Nat.le_refl _) ⟨rfl, by simp [Value.oneCell']⟩ (rl0_is w4 true))
              obtain ⟨W28, hW28⟩ : ∃ V, V = W27.alloc (.cells #[.int .i64 0, .slice none 0 0, .slice none 0 0, .int .i64 0, .slice none 0 0, .slice none 0 0, .bool true, .bool false] 54) := ⟨_, rfl⟩
              have HV28 := Lib.hid (show Below w4.heap.size w4 W28 by rw [hW28]; exact HV27.out.trans (HAL28.out.mono HV27.out.size))
              have HB28 := Lib.hid (show Below W27.heap.size W27 W28 by rw [hW28]; exact HAL28.out)
              rw [← hW28] at HN28 ⊢
              clear hW28
              have HL28 := Lib.hid (HN27.out.below HB28.out (Nat.le_refl _))
              have HZL28 := Lib.hid (Nat.le_trans HZL27.out HB28.out.size)
              have HX28 := Lib.hid ((HB28.out.block _ (at_lt HX27.out)).trans HX27.out)
              have HZS28 := Lib.hid HB28.out.size
              have HSBS28 := Lib.hid (show (Value.slice (some ⟨W27.heap.size, 0, none⟩) 1 1).ownBlock ≠ some (W1.heap.size) from fun h => by have h1 := (HN28.out.lt _ h).1; have h2 := at_lt HX27.out; omega)
              have HSOS28 := Lib.hid (show ∀ j, (Value.slice (some ⟨W27.heap.size, 0, none⟩) 1 1).ownBlock = some j → (Value.slice p27 (m) c27).ownBlock ≠ some j from fun j h1 h2 => by have h3 := (HN28.out.lt _ h1).1; have h4 := (HN27.out.lt _ h2).2; omega)
              refine plan_one rfl ?_
              refine wpList_append_rules rfl (.tmp 45) (.tmp 47) rfl (Value.slice p27 (m) c27) (([]) ++ (rs)) (m) (by rw [List.length_append, ← HM.out]; exact Nat.zero_add m) rfl (HL28.out) _ ([rl0 true]) (1) (by rfl) rfl (HN28.out.read) (by omega) HZL28.out ?_
              intro p29 c29 W29 hown29 hg29 hlie29
              have HN29 := Lib.hid hown29
              have HF29 := Lib.hid (show Fr (fun j => (Value.slice p27 (m) c27).ownBlock = some j) W28 W29 from Fr.grown (F := fun j => (Value.slice p27 (m) c27).ownBlock = some j) hg29 (fun k h => h))
              have HV29 := Lib.hid (show Below w4.heap.size w4 W29 from HV28.out.trans (HF29.out.below HV28.out.size (fun j hj => by have h1 := (HL28.out.lt j hj).1; have h2 := HV0.out.size; omega)))
              have HX29 := Lib.hid ((HF29.out.block _ (at_lt HX28.out) (HSBL27.out)).trans HX28.out)
              have HSBM29 := Lib.hid (show (Value.slice p29 (m + 1) c29).ownBlock ≠ some (W1.heap.size) from fun h => by
                rcases hlie29 with h5 | h5
                · exact HSBL27.out (h5 ▸ h)
                · rw [h] at h5; injection h5 with h5; have h6 := at_lt HX28.out; omega)
              clear hown29 hg29 hlie29
              have HZM29 := Lib.hid (Nat.le_trans HZL28.out HF29.out.size)
              refine Then.mk HV29.out ?_
              apply plan_readsW
              · intro W hW
                clear hW
                iterate 1 (refine WR_step (fun K hK => ?_); go_simp; refine hK.out _ ?_; clear hK K)
                exact WR_nil rfl
              refine plan_one rfl ?_
              refine wpList_store_obj rfl (.tmp 9) (.tmp 49) 25 rfl (W1.heap.size) rfl [.slice pc2 nn cc2, Value.slice p29 (m + 1) c29] rfl _ _ HX29.out (by kernel_rfl) rfl (by simp [Value.oneCell']) ?_
              intro W30 hb30 hf30
              have HV30 := Lib.hid (show Below w4.heap.size w4 W30 from HV29.out.trans (hf30.below HV29.out.size (fun j hj => by have hj : j = W1.heap.size := hj; have h1 := HV1.out.size; omega)))
              have HRS30 := Lib.hid (show RS (RuleIs w4) w4.heap.size (W1.heap.size) (.slice pc2 nn cc2) W30 (Value.slice p29 (m + 1) c29) ((([]) ++ (rs)) ++ ([rl0 true])) from ⟨hb30, (HN29.out.fr hf30 (fun j hj h => by have h : j = W1.heap.size := h; exact HSBM29.out (h ▸ hj))).base HV0.out.size, HSBM29.out⟩)
              clear hb30 hf30
              refine Then.mk HV30.out ?_
              refine plan_done ?_
              go_wp2_with fail
              go_meet
              case rel => exact ⟨_, _, _, rfl, HRS30.out, HV30.out⟩
            · skip
              go_wp2_with fail
              have HAL31 := Lib.hid (below_alloc1 W26 (.cells #[.int .i64 0, .slice none 0 0, .slice none 0 0, .int .i64 0, .slice none 0 0, .slice none 0 0, .bool true, .bool false] 54))
              refine Then.mk (HV26.out.trans (HAL31.out.mono HV26.out.size)) ?_
              have HN31 := Lib.hid (OwnL.one (E := RuleIs w4) (sz := 8) (base := W26.heap.size) W26 54 (rl0 true) [.int .i64 0, .slice none 0 0, .slice none 0 0, .int .i64 0, .slice none 0 0, .slice none 0 0, .bool true, .bool false] (Nat.le_refl _) ⟨rfl, by simp [Value.oneCell']⟩ (rl0_is w4 true))
              obtain ⟨W31, hW31⟩ : ∃ V, V = W26.alloc (.cells #[.int .i64 0, .slice none 0 0, .slice none 0 0, .int .i64 0, .slice none 0 0, .slice none 0 0, .bool true, .bool false] 54) := ⟨_, rfl⟩
              have HV31 := Lib.hid (show Below w4.heap.size w4 W31 by rw [hW31]; exact HV26.out.trans (HAL31.out.mono HV26.out.size))
              have HB31 := Lib.hid (show Below W26.heap.size W26 W31 by rw [hW31]; exact HAL31.out)
              rw [← hW31] at HN31 ⊢
              clear hW31
              have HE31 := Lib.hid (HE26.out.below HB31.out (Nat.le_refl _))
              have HZE31 := Lib.hid (Nat.le_trans HZE26.out HB31.out.size)
              have HX31 := Lib.hid ((HB31.out.block _ (at_lt HN26.out)).trans HN26.out)
              have HZS31 := Lib.hid HB31.out.size
              have HSBS31 := Lib.hid (show (Value.slice (some ⟨W26.heap.size, 0, none⟩) 1 1).ownBlock ≠ some (W1.heap.size) from fun h => by have h1 := (HN31.out.lt _ h).1; have h2 := at_lt HN26.out; omega)
              have HSOS31 := Lib.hid (show ∀ j, (Value.slice (some ⟨W26.heap.size, 0, none⟩) 1 1).ownBlock = some j → (Value.slice (some ⟨W0.heap.size, 0, none⟩) 0 0).ownBlock ≠ some j from fun j h1 h2 => by have h3 := (HN31.out.lt _ h1).1; have h4 := (HE26.out.lt _ h2).2; omega)
              refine plan_one rfl ?_
              refine wpList_append_rules rfl (.tmp 42) (.tmp 44) rfl (Value.slice (some ⟨W0.heap.size, 0, none⟩) 0 0) ([]) (0) (by rfl) rfl (HE31.out) _ (rs) (m) HM.out.symm rfl (HRR4.out W31 HV31.out) (by omega) HZE31.out ?_
              intro p32 c32 W32 hown32 hg32 hlie32
              simp only [Nat.zero_add] at hown32 hg32 hlie32 ⊢
              have HN32 := Lib.hid hown32
              have HF32 := Lib.hid (show Fr (fun j => (Value.slice (some ⟨W0.heap.size, 0, none⟩) 0 0).ownBlock = some j) W31 W32 from Fr.grown (F := fun j => (Value.slice (some ⟨W0.heap.size, 0, none⟩) 0 0).ownBlock = some j) hg32 (fun k h => h))
              have HV32 := Lib.hid (show Below w4.heap.size w4 W32 from HV31.out.trans (HF32.out.below HV31.out.size (fun j hj => by have h1 := (HE31.out.lt j hj).1; have h2 := HV0.out.size; omega)))
              have HS32 := Lib.hid (HN31.out.fr HF32.out (fun j hj h => HSOS31.out j hj h))
              have HZS32 := Lib.hid (Nat.le_trans HZS31.out HF32.out.size)
              have HX32 := Lib.hid ((HF32.out.block _ (at_lt HX31.out) (HSBE26.out)).trans HX31.out)
              have HSBL32 := Lib.hid (show (Value.slice p32 (m) c32).ownBlock ≠ some (W1.heap.size) from fun h => by
                rcases hlie32 with h5 | h5
                · exact HSBE26.out (h5 ▸ h)
                · rw [h] at h5; injection h5 with h5; have h6 := at_lt HX31.out; omega)
              clear hown32 hg32 hlie32
              have HZL32 := Lib.hid (Nat.le_trans HZE31.out HF32.out.size)
              refine Then.mk HV32.out ?_
              refine plan_one rfl ?_
              refine wpList_append_rules rfl (.tmp 45) (.tmp 47) rfl (Value.slice p32 (m) c32) (([]) ++ (rs)) (m) (by rw [List.length_append, ← HM.out]; exact Nat.zero_add m) rfl (HN32.out) _ ([rl0 true]) (1) (by rfl) rfl (HS32.out.read) (by omega) HZL32.out ?_
              intro p33 c33 W33 hown33 hg33 hlie33
              have HN33 := Lib.hid hown33
              have HF33 := Lib.hid (show Fr (fun j => (Value.slice p32 (m) c32).ownBlock = some j) W32 W33 from Fr.grown (F := fun j => (Value.slice p32 (m) c32).ownBlock = some j) hg33 (fun k h => h))
              have HV33 := Lib.hid (show Below w4.heap.size w4 W33 from HV32.out.trans (HF33.out.below HV32.out.size (fun j hj => by have h1 := (HN32.out.lt j hj).1; have h2 := HV0.out.size; omega)))
              have HX33 := Lib.hid ((HF33.out.block _ (at_lt HX32.out) (HSBL32.out)).trans HX32.out)
              have HSBM33 := Lib.hid (show (Value.slice p33 (m + 1) c33).ownBlock ≠ some (W1.heap.size) from fun h => by
                rcases hlie33 with h5 | h5
                · exact HSBL32.out (h5 ▸ h)
                · rw [h] at h5; injection h5 with h5; have h6 := at_lt HX32.out; omega)
              clear hown33 hg33 hlie33
              have HZM33 := Lib.hid (Nat.le_trans HZL32.out HF33.out.size)
              refine Then.mk HV33.out ?_
              apply plan_readsW
              · intro W hW
                clear hW
                iterate 1 (refine WR_step (fun K hK => ?_); go_simp; refine hK.out _ ?_; clear hK K)
                exact WR_nil rfl
              refine plan_one rfl ?_
              refine wpList_store_obj rfl (.tmp 9) (.tmp 49) 25 rfl (W1.heap.size) rfl [.slice pc2 nn cc2, Value.slice p33 (m + 1) c33] rfl _ _ HX33.out (by kernel_rfl) rfl (by simp [Value.oneCell']) ?_
              intro W34 hb34 hf34
              have HV34 := Lib.hid (show Below w4.heap.size w4 W34 from HV33.out.trans (hf34.below HV33.out.size (fun j hj => by have hj : j = W1.heap.size := hj; have h1 := HV1.out.size; omega)))
              have HRS34 := Lib.hid (show RS (RuleIs w4) w4.heap.size (W1.heap.size) (.slice pc2 nn cc2) W34 (Value.slice p33 (m + 1) c33) ((([]) ++ (rs)) ++ ([rl0 true])) from ⟨hb34, (HN33.out.fr hf34 (fun j hj h => by have h : j = W1.heap.size := h; exact HSBM33.out (h ▸ hj))).base HV0.out.size, HSBM33.out⟩)
              clear hb34 hf34
              refine Then.mk HV34.out ?_
              refine plan_done ?_
              go_wp2_with fail
              go_meet
              case rel => exact ⟨_, _, _, rfl, HRS34.out, HV34.out⟩
        · skip
          go_wp2_with fail
          have HAL35 := Lib.hid (below_alloc1 W0 (.cells #[.int .i64 0, .slice none 0 0, .slice none 0 0, .int .i64 0, .slice none 0 0, .slice none 0 0, .bool true, .bool false] 54))
          refine Then.mk (HV0.out.trans (HAL35.out.mono HV0.out.size)) ?_
          have HN35 := Lib.hid (OwnL.one (E := RuleIs w4) (sz := 8) (base := W0.heap.size) W0 54 (rl0 true) [.int .i64 0, .slice none 0 0, .slice none 0 0, .int .i64 0, .slice none 0 0, .slice none 0 0, .bool true, .bool false] (Nat.le_refl _) ⟨rfl, by simp [Value.oneCell']⟩ (rl0_is w4 true))
          obtain ⟨W35, hW35⟩ : ∃ V, V = W0.alloc (.cells #[.int .i64 0, .slice none 0 0, .slice none 0 0, .int .i64 0, .slice none 0 0, .slice none 0 0, .bool true, .bool false] 54) := ⟨_, rfl⟩
          have HV35 := Lib.hid (show Below w4.heap.size w4 W35 by rw [hW35]; exact HV0.out.trans (HAL35.out.mono HV0.out.size))
          have HB35 := Lib.hid (show Below W0.heap.size W0 W35 by rw [hW35]; exact HAL35.out)
          rw [← hW35] at HN35 ⊢
          clear hW35
          have HZS35 := Lib.hid HB35.out.size
          refine plan_two rfl rfl ?_ ?_
          · skip
            go_wp2_with fail
            have HAL36 := Lib.hid (below_alloc1 W35 (.cells #[] 54))
            refine Then.mk (HV35.out.trans (HAL36.out.mono HV35.out.size)) ?_
            have HN36 := Lib.hid (OwnL.none8 (RuleIs w4) W35)
            obtain ⟨W36, hW36⟩ : ∃ V, V = W35.alloc (.cells #[] 54) := ⟨_, rfl⟩
            have HV36 := Lib.hid (show Below w4.heap.size w4 W36 by rw [hW36]; exact HV35.out.trans (HAL36.out.mono HV35.out.size))
            have HB36 := Lib.hid (show Below W35.heap.size W35 W36 by rw [hW36]; exact HAL36.out)
            rw [← hW36] at HN36 ⊢
            clear hW36
            have HS36 := Lib.hid (HN35.out.below HB36.out (Nat.le_refl _))
            have HZS36 := Lib.hid (Nat.le_trans HZS35.out HB36.out.size)
            have HZE36 := Lib.hid HB36.out.size
            have HSOE36 := Lib.hid (show ∀ j, (Value.slice (some ⟨W35.heap.size, 0, none⟩) 0 0).ownBlock = some j → (Value.slice (some ⟨W0.heap.size, 0, none⟩) 1 1).ownBlock ≠ some j from fun j h1 h2 => by have h3 := (HN36.out.lt _ h1).1; have h4 := (HN35.out.lt _ h2).2; omega)
            refine plan_two rfl rfl ?_ ?_
            · skip
              refine wpList_append_rules rfl (.tmp 42) (.tmp 44) rfl (Value.slice (some ⟨W35.heap.size, 0, none⟩) 0 0) ([]) (0) (by rfl) rfl (HN36.out) _ (rs) (m) HM.out.symm rfl (HRR4.out W36 HV36.out) (by omega) HZE36.out ?_
              intro p37 c37 W37 hown37 hg37 hlie37
              simp only [Nat.zero_add] at hown37 hg37 hlie37 ⊢
              have HN37 := Lib.hid hown37
              have HF37 := Lib.hid (show Fr (fun j => (Value.slice (some ⟨W35.heap.size, 0, none⟩) 0 0).ownBlock = some j) W36 W37 from Fr.grown (F := fun j => (Value.slice (some ⟨W35.heap.size, 0, none⟩) 0 0).ownBlock = some j) hg37 (fun k h => h))
              have HV37 := Lib.hid (show Below w4.heap.size w4 W37 from HV36.out.trans (HF37.out.below HV36.out.size (fun j hj => by have h1 := (HN36.out.lt j hj).1; have h2 := HV35.out.size; omega)))
              have HS37 := Lib.hid (HS36.out.fr HF37.out (fun j hj h => HSOE36.out j h hj))
              have HZS37 := Lib.hid (Nat.le_trans HZS36.out HF37.out.size)
              clear hown37 hg37 hlie37
              have HZL37 := Lib.hid (Nat.le_trans HZE36.out HF37.out.size)
              refine Then.mk HV37.out ?_
              refine plan_two rfl rfl ?_ ?_
              · skip
                refine wpList_append_rules rfl (.tmp 45) (.tmp 47) rfl (Value.slice p37 (m) c37) (([]) ++ (rs)) (m) (by rw [List.length_append, ← HM.out]; exact Nat.zero_add m) rfl (HN37.out) _ ([rl0 true]) (1) (by rfl) rfl (HS37.out.read) (by omega) HZL37.out ?_
                intro p38 c38 W38 hown38 hg38 hlie38
                have HN38 := Lib.hid hown38
                have HF38 := Lib.hid (show Fr (fun j => (Value.slice p37 (m) c37).ownBlock = some j) W37 W38 from Fr.grown (F := fun j => (Value.slice p37 (m) c37).ownBlock = some j) hg38 (fun k h => h))
                have HV38 := Lib.hid (show Below w4.heap.size w4 W38 from HV37.out.trans (HF38.out.below HV37.out.size (fun j hj => by have h1 := (HN37.out.lt j hj).1; have h2 := HV35.out.size; omega)))
                clear hown38 hg38 hlie38
                have HZM38 := Lib.hid (Nat.le_trans HZL37.out HF38.out.size)
                refine Then.mk HV38.out ?_
                apply plan_readsW
                · intro W hW
                  clear hW
                  iterate 1 (refine WR_step (fun K hK => ?_); go_simp; refine hK.out _ ?_; clear hK K)
                  exact WR_nil rfl
                refine plan_one rfl ?_
                go_wp2_with fail
                have HAL39 := Lib.hid (below_alloc1 W38 (.cells #[.slice none 0 0, .slice none 0 0] 25))
                refine Then.mk (HV38.out.trans (HAL39.out.mono HV38.out.size)) ?_
                have HN39 := Lib.hid (heap_alloc_new W38 (.cells #[.slice none 0 0, .slice none 0 0] 25))
                obtain ⟨W39, hW39⟩ : ∃ V, V = W38.alloc (.cells #[.slice none 0 0, .slice none 0 0] 25) := ⟨_, rfl⟩
                have HV39 := Lib.hid (show Below w4.heap.size w4 W39 by rw [hW39]; exact HV38.out.trans (HAL39.out.mono HV38.out.size))
                have HB39 := Lib.hid (show Below W38.heap.size W38 W39 by rw [hW39]; exact HAL39.out)
                rw [← hW39] at HN39 ⊢
                clear hW39
                have HM39 := Lib.hid (HN38.out.below HB39.out (Nat.le_refl _))
                have HZM39 := Lib.hid (Nat.le_trans HZM38.out HB39.out.size)
                have HSBM39 := Lib.hid (show (Value.slice p38 (m + 1) c38).ownBlock ≠ some W38.heap.size from fun h => by have := (HN38.out.lt _ h).2; omega)
                refine plan_one rfl ?_
                refine wpList_store_obj rfl (.tmp 9) (.tmp 49) 25 rfl (W38.heap.size) rfl [.slice pc2 nn cc2, Value.slice p38 (m + 1) c38] rfl _ _ HN39.out (by kernel_rfl) rfl (by simp [Value.oneCell']) ?_
                intro W40 hb40 hf40
                have HV40 := Lib.hid (show Below w4.heap.size w4 W40 from HV39.out.trans (hf40.below HV39.out.size (fun j hj => by have hj : j = W38.heap.size := hj; have h1 := HV38.out.size; omega)))
                have HRS40 := Lib.hid (show RS (RuleIs w4) w4.heap.size (W38.heap.size) (.slice pc2 nn cc2) W40 (Value.slice p38 (m + 1) c38) ((([]) ++ (rs)) ++ ([rl0 true])) from ⟨hb40, (HM39.out.fr hf40 (fun j hj h => by have h : j = W38.heap.size := h; exact HSBM39.out (h ▸ hj))).base HV35.out.size, HSBM39.out⟩)
                clear hb40 hf40
                refine Then.mk HV40.out ?_
                refine plan_done ?_
                go_wp2_with fail
                go_meet
                case rel => exact ⟨_, _, _, rfl, HRS40.out, HV40.out⟩
              · skip
                go_wp2_with fail
                have HAL41 := Lib.hid (below_alloc1 W37 (.cells #[.slice none 0 0, .slice none 0 0] 25))
                refine Then.mk (HV37.out.trans (HAL41.out.mono HV37.out.size)) ?_
                have HN41 := Lib.hid (heap_alloc_new W37 (.cells #[.slice none 0 0, .slice none 0 0] 25))
                obtain ⟨W41, hW41⟩ : ∃ V, V = W37.alloc (.cells #[.slice none 0 0, .slice none 0 0] 25) := ⟨_, rfl⟩
                have HV41 := Lib.hid (show Below w4.heap.size w4 W41 by rw [hW41]; exact HV37.out.trans (HAL41.out.mono HV37.out.size))
                have HB41 := Lib.hid (show Below W37.heap.size W37 W41 by rw [hW41]; exact HAL41.out)
                rw [← hW41] at HN41 ⊢
                clear hW41
                have HS41 := Lib.hid (HS37.out.below HB41.out (Nat.le_refl _))
                have HZS41 := Lib.hid (Nat.le_trans HZS37.out HB41.out.size)
                have HL41 := Lib.hid (HN37.out.below HB41.out (Nat.le_refl _))
                have HZL41 := Lib.hid (Nat.le_trans HZL37.out HB41.out.size)
                have HSBS41 := Lib.hid (show (Value.slice (some ⟨W0.heap.size, 0, none⟩) 1 1).ownBlock ≠ some W37.heap.size from fun h => by have := (HS37.out.lt _ h).2; omega)
                have HSBL41 := Lib.hid (show (Value.slice p37 (m) c37).ownBlock ≠ some W37.heap.size from fun h => by have := (HN37.out.lt _ h).2; omega)
                refine plan_one rfl ?_
                refine wpList_append_rules rfl (.tmp 45) (.tmp 47) rfl (Value.slice p37 (m) c37) (([]) ++ (rs)) (m) (by rw [List.length_append, ← HM.out]; exact Nat.zero_add m) rfl (HL41.out) _ ([rl0 true]) (1) (by rfl) rfl (HS41.out.read) (by omega) HZL41.out ?_
                intro p42 c42 W42 hown42 hg42 hlie42
                have HN42 := Lib.hid hown42
                have HF42 := Lib.hid (show Fr (fun j => (Value.slice p37 (m) c37).ownBlock = some j) W41 W42 from Fr.grown (F := fun j => (Value.slice p37 (m) c37).ownBlock = some j) hg42 (fun k h => h))
                have HV42 := Lib.hid (show Below w4.heap.size w4 W42 from HV41.out.trans (HF42.out.below HV41.out.size (fun j hj => by have h1 := (HL41.out.lt j hj).1; have h2 := HV35.out.size; omega)))
                have HX42 := Lib.hid ((HF42.out.block _ (at_lt HN41.out) (HSBL41.out)).trans HN41.out)
                have HSBM42 := Lib.hid (show (Value.slice p42 (m + 1) c42).ownBlock ≠ some (W37.heap.size) from fun h => by
                  rcases hlie42 with h5 | h5
                  · exact HSBL41.out (h5 ▸ h)
                  · rw [h] at h5; injection h5 with h5; have h6 := at_lt HN41.out; omega)
                clear hown42 hg42 hlie42
                have HZM42 := Lib.hid (Nat.le_trans HZL41.out HF42.out.size)
                refine Then.mk HV42.out ?_
                apply plan_readsW
                · intro W hW
                  clear hW
                  iterate 1 (refine WR_step (fun K hK => ?_); go_simp; refine hK.out _ ?_; clear hK K)
                  exact WR_nil rfl
                refine plan_one rfl ?_
                refine wpList_store_obj rfl (.tmp 9) (.tmp 49) 25 rfl (W37.heap.size) rfl [.slice pc2 nn cc2, Value.slice p42 (m + 1) c42] rfl _ _ HX42.out (by kernel_rfl) rfl (by simp [Value.oneCell']) ?_
                intro W43 hb43 hf43
                have HV43 := Lib.hid (show Below w4.heap.size w4 W43 from HV42.out.trans (hf43.below HV42.out.size (fun j hj => by have hj : j = W37.heap.size := hj; have h1 := HV37.out.size; omega)))
                have HRS43 := Lib.hid (show RS (RuleIs w4) w4.heap.size (W37.heap.size) (.slice pc2 nn cc2) W43 (Value.slice p42 (m + 1) c42) ((([]) ++ (rs)) ++ ([rl0 true])) from ⟨hb43, (HN42.out.fr hf43 (fun j hj h => by have h : j = W37.heap.size := h; exact HSBM42.out (h ▸ hj))).base HV35.out.size, HSBM42.out⟩)
                clear hb43 hf43
                refine Then.mk HV43.out ?_
                refine plan_done ?_
                go_wp2_with fail
                go_meet
                case rel => exact ⟨_, _, _, rfl, HRS43.out, HV43.out⟩
            · skip
              go_wp2_with fail
              have HAL44 := Lib.hid (below_alloc1 W36 (.cells #[.slice none 0 0, .slice none 0 0] 25))
              refine Then.mk (HV36.out.trans (HAL44.out.mono HV36.out.size)) ?_
              have HN44 := Lib.hid (heap_alloc_new W36 (.cells #[.slice none 0 0, .slice none 0 0] 25))
              obtain ⟨W44, hW44⟩ : ∃ V, V = W36.alloc (.cells #[.slice none 0 0, .slice none 0 0] 25) := ⟨_, rfl⟩
              have HV44 := Lib.hid (show Below w4.heap.size w4 W44 by rw [hW44]; exact HV36.out.trans (HAL44.out.mono HV36.out.size))
              have HB44 := Lib.hid (show Below W36.heap.size W36 W44 by rw [hW44]; exact HAL44.out)
              rw [← hW44] at HN44 ⊢
              clear hW44
              have HS44 := Lib.hid (HS36.out.below HB44.out (Nat.le_refl _))
              have HZS44 := Lib.hid (Nat.le_trans HZS36.out HB44.out.size)
              have HE44 := Lib.hid (HN36.out.below HB44.out (Nat.le_refl _))
              have HZE44 := Lib.hid (Nat.le_trans HZE36.out HB44.out.size)
              have HSBS44 := Lib.hid (show (Value.slice (some ⟨W0.heap.size, 0, none⟩) 1 1).ownBlock ≠ some W36.heap.size from fun h => by have := (HS36.out.lt _ h).2; omega)
              have HSBE44 := Lib.hid (show (Value.slice (some ⟨W35.heap.size, 0, none⟩) 0 0).ownBlock ≠ some W36.heap.size from fun h => by have := (HN36.out.lt _ h).2; omega)
              refine plan_one rfl ?_
              refine wpList_append_rules rfl (.tmp 42) (.tmp 44) rfl (Value.slice (some ⟨W35.heap.size, 0, none⟩) 0 0) ([]) (0) (by rfl) rfl (HE44.out) _ (rs) (m) HM.out.symm rfl (HRR4.out W44 HV44.out) (by omega) HZE44.out ?_
              intro p45 c45 W45 hown45 hg45 hlie45
              simp only [Nat.zero_add] at hown45 hg45 hlie45 ⊢
              have HN45 := Lib.hid hown45
              have HF45 := Lib.hid (show Fr (fun j => (Value.slice (some ⟨W35.heap.size, 0, none⟩) 0 0).ownBlock = some j) W44 W45 from Fr.grown (F := fun j => (Value.slice (some ⟨W35.heap.size, 0, none⟩) 0 0).ownBlock = some j) hg45 (fun k h => h))
              have HV45 := Lib.hid (show Below w4.heap.size w4 W45 from HV44.out.trans (HF45.out.below HV44.out.size (fun j hj => by have h1 := (HE44.out.lt j hj).1; have h2 := HV35.out.size; omega)))
              have HS45 := Lib.hid (HS44.out.fr HF45.out (fun j hj h => HSOE36.out j h hj))
              have HZS45 := Lib.hid (Nat.le_trans HZS44.out HF45.out.size)
              have HX45 := Lib.hid ((HF45.out.block _ (at_lt HN44.out) (HSBE44.out)).trans HN44.out)
              have HSBL45 := Lib.hid (show (Value.slice p45 (m) c45).ownBlock ≠ some (W36.heap.size) from fun h => by
                rcases hlie45 with h5 | h5
                · exact HSBE44.out (h5 ▸ h)
                · rw [h] at h5; injection h5 with h5; have h6 := at_lt HN44.out; omega)
              clear hown45 hg45 hlie45
              have HZL45 := Lib.hid (Nat.le_trans HZE44.out HF45.out.size)
              refine Then.mk HV45.out ?_
              refine plan_one rfl ?_
              refine wpList_append_rules rfl (.tmp 45) (.tmp 47) rfl (Value.slice p45 (m) c45) (([]) ++ (rs)) (m) (by rw [List.length_append, ← HM.out]; exact Nat.zero_add m) rfl (HN45.out) _ ([rl0 true]) (1) (by rfl) rfl (HS45.out.read) (by omega) HZL45.out ?_
              intro p46 c46 W46 hown46 hg46 hlie46
              have HN46 := Lib.hid hown46
              have HF46 := Lib.hid (show Fr (fun j => (Value.slice p45 (m) c45).ownBlock = some j) W45 W46 from Fr.grown (F := fun j => (Value.slice p45 (m) c45).ownBlock = some j) hg46 (fun k h => h))
              have HV46 := Lib.hid (show Below w4.heap.size w4 W46 from HV45.out.trans (HF46.out.below HV45.out.size (fun j hj => by have h1 := (HN45.out.lt j hj).1; have h2 := HV35.out.size; omega)))
              have HX46 := Lib.hid ((HF46.out.block _ (at_lt HX45.out) (HSBL45.out)).trans HX45.out)
              have HSBM46 := Lib.hid (show (Value.slice p46 (m + 1) c46).ownBlock ≠ some (W36.heap.size) from fun h => by
                rcases hlie46 with h5 | h5
                · exact HSBL45.out (h5 ▸ h)
                · rw [h] at h5; injection h5 with h5; have h6 := at_lt HX45.out; omega)
              clear hown46 hg46 hlie46
              have HZM46 := Lib.hid (Nat.le_trans HZL45.out HF46.out.size)
              refine Then.mk HV46.out ?_
              apply plan_readsW
              · intro W hW
                clear hW
                iterate 1 (refine WR_step (fun K hK => ?_); go_simp; refine hK.out _ ?_; clear hK K)
                exact WR_nil rfl
              refine plan_one rfl ?_
              refine wpList_store_obj rfl (.tmp 9) (.tmp 49) 25 rfl (W36.heap.size) rfl [.slice pc2 nn cc2, Value.slice p46 (m + 1) c46] rfl _ _ HX46.out (by kernel_rfl) rfl (by simp [Value.oneCell']) ?_
              intro W47 hb47 hf47
              have HV47 := Lib.hid (show Below w4.heap.size w4 W47 from HV46.out.trans (hf47.below HV46.out.size (fun j hj => by have hj : j = W36.heap.size := hj; have h1 := HV36.out.size; omega)))
              have HRS47 := Lib.hid (show RS (RuleIs w4) w4.heap.size (W36.heap.size) (.slice pc2 nn cc2) W47 (Value.slice p46 (m + 1) c46) ((([]) ++ (rs)) ++ ([rl0 true])) from ⟨hb47, (HN46.out.fr hf47 (fun j hj h => by have h : j = W36.heap.size := h; exact HSBM46.out (h ▸ hj))).base HV35.out.size, HSBM46.out⟩)
              clear hb47 hf47
              refine Then.mk HV47.out ?_
              refine plan_done ?_
              go_wp2_with fail
              go_meet
              case rel => exact ⟨_, _, _, rfl, HRS47.out, HV47.out⟩
          · skip
            go_wp2_with fail
            have HAL48 := Lib.hid (below_alloc1 W35 (.cells #[.slice none 0 0, .slice none 0 0] 25))
            refine Then.mk (HV35.out.trans (HAL48.out.mono HV35.out.size)) ?_
            have HN48 := Lib.hid (heap_alloc_new W35 (.cells #[.slice none 0 0, .slice none 0 0] 25))
            obtain ⟨W48, hW48⟩ : ∃ V, V = W35.alloc (.cells #[.slice none 0 0, .slice none 0 0] 25) := ⟨_, rfl⟩
            have HV48 := Lib.hid (show Below w4.heap.size w4 W48 by rw [hW48]; exact HV35.out.trans (HAL48.out.mono HV35.out.size))
            have HB48 := Lib.hid (show Below W35.heap.size W35 W48 by rw [hW48]; exact HAL48.out)
            rw [← hW48] at HN48 ⊢
            clear hW48
            have HS48 := Lib.hid (HN35.out.below HB48.out (Nat.le_refl _))
            have HZS48 := Lib.hid (Nat.le_trans HZS35.out HB48.out.size)
            have HSBS48 := Lib.hid (show (Value.slice (some ⟨W0.heap.size, 0, none⟩) 1 1).ownBlock ≠ some W35.heap.size from fun h => by have := (HN35.out.lt _ h).2; omega)
            refine plan_one rfl ?_
            go_wp2_with fail
            have HAL49 := Lib.hid (below_alloc1 W48 (.cells #[] 54))
            refine Then.mk (HV48.out.trans (HAL49.out.mono HV48.out.size)) ?_
            have HN49 := Lib.hid (OwnL.none8 (RuleIs w4) W48)
            obtain ⟨W49, hW49⟩ : ∃ V, V = W48.alloc (.cells #[] 54) := ⟨_, rfl⟩
            have HV49 := Lib.hid (show Below w4.heap.size w4 W49 by rw [hW49]; exact HV48.out.trans (HAL49.out.mono HV48.out.size))
            have HB49 := Lib.hid (show Below W48.heap.size W48 W49 by rw [hW49]; exact HAL49.out)
            rw [← hW49] at HN49 ⊢
            clear hW49
            have HS49 := Lib.hid (HS48.out.below HB49.out (Nat.le_refl _))
            have HZS49 := Lib.hid (Nat.le_trans HZS48.out HB49.out.size)
            have HX49 := Lib.hid ((HB49.out.block _ (at_lt HN48.out)).trans HN48.out)
            have HZE49 := Lib.hid HB49.out.size
            have HSBE49 := Lib.hid (show (Value.slice (some ⟨W48.heap.size, 0, none⟩) 0 0).ownBlock ≠ some (W35.heap.size) from fun h => by have h1 := (HN49.out.lt _ h).1; have h2 := at_lt HN48.out; omega)
            have HSOE49 := Lib.hid (show ∀ j, (Value.slice (some ⟨W48.heap.size, 0, none⟩) 0 0).ownBlock = some j → (Value.slice (some ⟨W0.heap.size, 0, none⟩) 1 1).ownBlock ≠ some j from fun j h1 h2 => by have h3 := (HN49.out.lt _ h1).1; have h4 := (HS48.out.lt _ h2).2; omega)
            refine plan_one rfl ?_
            refine wpList_append_rules rfl (.tmp 42) (.tmp 44) rfl (Value.slice (some ⟨W48.heap.size, 0, none⟩) 0 0) ([]) (0) (by rfl) rfl (HN49.out) _ (rs) (m) HM.out.symm rfl (HRR4.out W49 HV49.out) (by omega) HZE49.out ?_
            intro p50 c50 W50 hown50 hg50 hlie50
            simp only [Nat.zero_add] at hown50 hg50 hlie50 ⊢
            have HN50 := Lib.hid hown50
            have HF50 := Lib.hid (show Fr (fun j => (Value.slice (some ⟨W48.heap.size, 0, none⟩) 0 0).ownBlock = some j) W49 W50 from Fr.grown (F := fun j => (Value.slice (some ⟨W48.heap.size, 0, none⟩) 0 0).ownBlock = some j) hg50 (fun k h => h))
            have HV50 := Lib.hid (show Below w4.heap.size w4 W50 from HV49.out.trans (HF50.out.below HV49.out.size (fun j hj => by have h1 := (HN49.out.lt j hj).1; have h2 := HV48.out.size; omega)))
            have HS50 := Lib.hid (HS49.out.fr HF50.out (fun j hj h => HSOE49.out j h hj))
            have HZS50 := Lib.hid (Nat.le_trans HZS49.out HF50.out.size)
            have HX50 := Lib.hid ((HF50.out.block _ (at_lt HX49.out) (HSBE49.out)).trans HX49.out)
            have HSBL50 := Lib.hid (show (Value.slice p50 (m) c50).ownBlock ≠ some (W35.heap.size) from fun h => by
              rcases hlie50 with h5 | h5
              · exact HSBE49.out (h5 ▸ h)
              · rw [h] at h5; injection h5 with h5; have h6 := at_lt HX49.out; omega)
            clear hown50 hg50 hlie50
            have HZL50 := Lib.hid (Nat.le_trans HZE49.out HF50.out.size)
            refine Then.mk HV50.out ?_
            refine plan_one rfl ?_
            refine wpList_append_rules rfl (.tmp 45) (.tmp 47) rfl (Value.slice p50 (m) c50) (([]) ++ (rs)) (m) (by rw [List.length_append, ← HM.out]; exact Nat.zero_add m) rfl (HN50.out) _ ([rl0 true]) (1) (by rfl) rfl (HS50.out.read) (by omega) HZL50.out ?_
            intro p51 c51 W51 hown51 hg51 hlie51
            have HN51 := Lib.hid hown51
            have HF51 := Lib.hid (show Fr (fun j => (Value.slice p50 (m) c50).ownBlock = some j) W50 W51 from Fr.grown (F := fun j => (Value.slice p50 (m) c50).ownBlock = some j) hg51 (fun k h => h))
            have HV51 := Lib.hid (show Below w4.heap.size w4 W51 from HV50.out.trans (HF51.out.below HV50.out.size (fun j hj => by have h1 := (HN50.out.lt j hj).1; have h2 := HV48.out.size; omega)))
            have HX51 := Lib.hid ((HF51.out.block _ (at_lt HX50.out) (HSBL50.out)).trans HX50.out)
            have HSBM51 := Lib.hid (show (Value.slice p51 (m + 1) c51).ownBlock ≠ some (W35.heap.size) from fun h => by
              rcases hlie51 with h5 | h5
              · exact HSBL50.out (h5 ▸ h)
              · rw [h] at h5; injection h5 with h5; have h6 := at_lt HX50.out; omega)
            clear hown51 hg51 hlie51
            have HZM51 := Lib.hid (Nat.le_trans HZL50.out HF51.out.size)
            refine Then.mk HV51.out ?_
            apply plan_readsW
            · intro W hW
              clear hW
              iterate 1 (refine WR_step (fun K hK => ?_); go_simp; refine hK.out _ ?_; clear hK K)
              exact WR_nil rfl
            refine plan_one rfl ?_
            refine wpList_store_obj rfl (.tmp 9) (.tmp 49) 25 rfl (W35.heap.size) rfl [.slice pc2 nn cc2, Value.slice p51 (m + 1) c51] rfl _ _ HX51.out (by kernel_rfl) rfl (by simp [Value.oneCell']) ?_
            intro W52 hb52 hf52
            have HV52 := Lib.hid (show Below w4.heap.size w4 W52 from HV51.out.trans (hf52.below HV51.out.size (fun j hj => by have hj : j = W35.heap.size := hj; have h1 := HV35.out.size; omega)))
            have HRS52 := Lib.hid (show RS (RuleIs w4) w4.heap.size (W35.heap.size) (.slice pc2 nn cc2) W52 (Value.slice p51 (m + 1) c51) ((([]) ++ (rs)) ++ ([rl0 true])) from ⟨hb52, (HN51.out.fr hf52 (fun j hj h => by have h : j = W35.heap.size := h; exact HSBM51.out (h ▸ hj))).base HV48.out.size, HSBM51.out⟩)
            clear hb52 hf52
            refine Then.mk HV52.out ?_
            refine plan_done ?_
            go_wp2_with fail
            go_meet
            case rel => exact ⟨_, _, _, rfl, HRS52.out, HV52.out⟩
        · skip
          go_wp2_with fail
          have HAL53 := Lib.hid (below_alloc1 W0 (.cells #[.slice none 0 0, .slice none 0 0] 25))
          refine Then.mk (HV0.out.trans (HAL53.out.mono HV0.out.size)) ?_
          have HN53 := Lib.hid (heap_alloc_new W0 (.cells #[.slice none 0 0, .slice none 0 0] 25))
          obtain ⟨W53, hW53⟩ : ∃ V, V = W0.alloc (.cells #[.slice none 0 0, .slice none 0 0] 25) := ⟨_, rfl⟩
          have HV53 := Lib.hid (show Below w4.heap.size w4 W53 by rw [hW53]; exact HV0.out.trans (HAL53.out.mono HV0.out.size))
          have HB53 := Lib.hid (show Below W0.heap.size W0 W53 by rw [hW53]; exact HAL53.out)
          rw [← hW53] at HN53 ⊢
          clear hW53
          refine plan_two rfl rfl ?_ ?_
          · skip
            go_wp2_with fail
            have HAL54 := Lib.hid (below_alloc1 W53 (.cells #[] 54))
            refine Then.mk (HV53.out.trans (HAL54.out.mono HV53.out.size)) ?_
            have HN54 := Lib.hid (OwnL.none8 (RuleIs w4) W53)
            obtain ⟨W54, hW54⟩ : ∃ V, V = W53.alloc (.cells #[] 54) := ⟨_, rfl⟩
            have HV54 := Lib.hid (show Below w4.heap.size w4 W54 by rw [hW54]; exact HV53.out.trans (HAL54.out.mono HV53.out.size))
            have HB54 := Lib.hid (show Below W53.heap.size W53 W54 by rw [hW54]; exact HAL54.out)
            rw [← hW54] at HN54 ⊢
            clear hW54
            have HX54 := Lib.hid ((HB54.out.block _ (at_lt HN53.out)).trans HN53.out)
            have HZE54 := Lib.hid HB54.out.size
            have HSBE54 := Lib.hid (show (Value.slice (some ⟨W53.heap.size, 0, none⟩) 0 0).ownBlock ≠ some (W0.heap.size) from fun h => by have h1 := (HN54.out.lt _ h).1; have h2 := at_lt HN53.out; omega)
            refine plan_two rfl rfl ?_ ?_
            · skip
              refine wpList_append_rules rfl (.tmp 42) (.tmp 44) rfl (Value.slice (some ⟨W53.heap.size, 0, none⟩) 0 0) ([]) (0) (by rfl) rfl (HN54.out) _ (rs) (m) HM.out.symm rfl (HRR4.out W54 HV54.out) (by omega) HZE54.out ?_
              intro p55 c55 W55 hown55 hg55 hlie55
              simp only [Nat.zero_add] at hown55 hg55 hlie55 ⊢
              have HN55 := Lib.hid hown55
              have HF55 := Lib.hid (show Fr (fun j => (Value.slice (some ⟨W53.heap.size, 0, none⟩) 0 0).ownBlock = some j) W54 W55 from Fr.grown (F := fun j => (Value.slice (some ⟨W53.heap.size, 0, none⟩) 0 0).ownBlock = some j) hg55 (fun k h => h))
              have HV55 := Lib.hid (show Below w4.heap.size w4 W55 from HV54.out.trans (HF55.out.below HV54.out.size (fun j hj => by have h1 := (HN54.out.lt j hj).1; have h2 := HV53.out.size; omega)))
              have HX55 := Lib.hid ((HF55.out.block _ (at_lt HX54.out) (HSBE54.out)).trans HX54.out)
              have HSBL55 := Lib.hid (show (Value.slice p55 (m) c55).ownBlock ≠ some (W0.heap.size) from fun h => by
                rcases hlie55 with h5 | h5
                · exact HSBE54.out (h5 ▸ h)
                · rw [h] at h5; injection h5 with h5; have h6 := at_lt HX54.out; omega)
              clear hown55 hg55 hlie55
              have HZL55 := Lib.hid (Nat.le_trans HZE54.out HF55.out.size)
              refine Then.mk HV55.out ?_
              refine plan_one rfl ?_
              go_wp2_with fail
              have HAL56 := Lib.hid (below_alloc1 W55 (.cells #[.int .i64 0, .slice none 0 0, .slice none 0 0, .int .i64 0, .slice none 0 0, .slice none 0 0, .bool true, .bool false] 54))
              refine Then.mk (HV55.out.trans (HAL56.out.mono HV55.out.size)) ?_
              have HN56 := Lib.hid (OwnL.one (E := RuleIs w4) (sz := 8) (base := W55.heap.size) W55 54 (rl0 true) [.int .i64 0, .slice none 0 0, .slice none 0 0, .int .i64 0, .slice none 0 0, .slice none 0 0, .bool true, .bool false] (Nat.le_refl _) ⟨rfl, by simp [Value.oneCell']⟩ (rl0_is w4 true))
              obtain ⟨W56, hW56⟩ : ∃ V, V = W55.alloc (.cells #[.int .i64 0, .slice none 0 0, .slice none 0 0, .int .i64 0, .slice none 0 0, .slice none 0 0, .bool true, .bool false] 54) := ⟨_, rfl⟩
              have HV56 := Lib.hid (show Below w4.heap.size w4 W56 by rw [hW56]; exact HV55.out.trans (HAL56.out.mono HV55.out.size))
              have HB56 := Lib.hid (show Below W55.heap.size W55 W56 by rw [hW56]; exact HAL56.out)
              rw [← hW56] at HN56 ⊢
              clear hW56
              have HL56 := Lib.hid (HN55.out.below HB56.out (Nat.le_refl _))
              have HZL56 := Lib.hid (Nat.le_trans HZL55.out HB56.out.size)
              have HX56 := Lib.hid ((HB56.out.block _ (at_lt HX55.out)).trans HX55.out)
              have HZS56 := Lib.hid HB56.out.size
              have HSBS56 := Lib.hid (show (Value.slice (some ⟨W55.heap.size, 0, none⟩) 1 1).ownBlock ≠ some (W0.heap.size) from fun h => by have h1 := (HN56.out.lt _ h).1; have h2 := at_lt HX55.out; omega)
              have HSOS56 := Lib.hid (show ∀ j, (Value.slice (some ⟨W55.heap.size, 0, none⟩) 1 1).ownBlock = some j → (Value.slice p55 (m) c55).ownBlock ≠ some j from fun j h1 h2 => by have h3 := (HN56.out.lt _ h1).1; have h4 := (HN55.out.lt _ h2).2; omega)
              refine plan_one rfl ?_
              refine wpList_append_rules rfl (.tmp 45) (.tmp 47) rfl (Value.slice p55 (m) c55) (([]) ++ (rs)) (m) (by rw [List.length_append, ← HM.out]; exact Nat.zero_add m) rfl (HL56.out) _ ([rl0 true]) (1) (by rfl) rfl (HN56.out.read) (by omega) HZL56.out ?_
              intro p57 c57 W57 hown57 hg57 hlie57
              have HN57 := Lib.hid hown57
              have HF57 := Lib.hid (show Fr (fun j => (Value.slice p55 (m) c55).ownBlock = some j) W56 W57 from Fr.grown (F := fun j => (Value.slice p55 (m) c55).ownBlock = some j) hg57 (fun k h => h))
              have HV57 := Lib.hid (show Below w4.heap.size w4 W57 from HV56.out.trans (HF57.out.below HV56.out.size (fun j hj => by have h1 := (HL56.out.lt j hj).1; have h2 := HV53.out.size; omega)))
              have HX57 := Lib.hid ((HF57.out.block _ (at_lt HX56.out) (HSBL55.out)).trans HX56.out)
              have HSBM57 := Lib.hid (show (Value.slice p57 (m + 1) c57).ownBlock ≠ some (W0.heap.size) from fun h => by
                rcases hlie57 with h5 | h5
                · exact HSBL55.out (h5 ▸ h)
                · rw [h] at h5; injection h5 with h5; have h6 := at_lt HX56.out; omega)
              clear hown57 hg57 hlie57
              have HZM57 := Lib.hid (Nat.le_trans HZL56.out HF57.out.size)
              refine Then.mk HV57.out ?_
              apply plan_readsW
              · intro W hW
                clear hW
                iterate 1 (refine WR_step (fun K hK => ?_); go_simp; refine hK.out _ ?_; clear hK K)
                exact WR_nil rfl
              refine plan_one rfl ?_
              refine wpList_store_obj rfl (.tmp 9) (.tmp 49) 25 rfl (W0.heap.size) rfl [.slice pc2 nn cc2, Value.slice p57 (m + 1) c57] rfl _ _ HX57.out (by kernel_rfl) rfl (by simp [Value.oneCell']) ?_
              intro W58 hb58 hf58
              have HV58 := Lib.hid (show Below w4.heap.size w4 W58 from HV57.out.trans (hf58.below HV57.out.size (fun j hj => by have hj : j = W0.heap.size := hj; have h1 := HV0.out.size; omega)))
              have HRS58 := Lib.hid (show RS (RuleIs w4) w4.heap.size (W0.heap.size) (.slice pc2 nn cc2) W58 (Value.slice p57 (m + 1) c57) ((([]) ++ (rs)) ++ ([rl0 true])) from ⟨hb58, (HN57.out.fr hf58 (fun j hj h => by have h : j = W0.heap.size := h; exact HSBM57.out (h ▸ hj))).base HV53.out.size, HSBM57.out⟩)
              clear hb58 hf58
              refine Then.mk HV58.out ?_
              refine plan_done ?_
              go_wp2_with fail
              go_meet
              case rel => exact ⟨_, _, _, rfl, HRS58.out, HV58.out⟩
            · skip
              go_wp2_with fail
              have HAL59 := Lib.hid (below_alloc1 W54 (.cells #[.int .i64 0, .slice none 0 0, .slice none 0 0, .int .i64 0, .slice none 0 0, .slice none 0 0, .bool true, .bool false] 54))
              refine Then.mk (HV54.out.trans (HAL59.out.mono HV54.out.size)) ?_
              have HN59 := Lib.hid (OwnL.one (E := RuleIs w4) (sz := 8) (base := W54.heap.size) W54 54 (rl0 true) [.int .i64 0, .slice none 0 0, .slice none 0 0, .int .i64 0, .slice none 0 0, .slice none 0 0, .bool true, .bool false] (Nat.le_refl _) ⟨rfl, by simp [Value.oneCell']⟩ (rl0_is w4 true))
              obtain ⟨W59, hW59⟩ : ∃ V, V = W54.alloc (.cells #[.int .i64 0, .slice none 0 0, .slice none 0 0, .int .i64 0, .slice none 0 0, .slice none 0 0, .bool true, .bool false] 54) := ⟨_, rfl⟩
              have HV59 := Lib.hid (show Below w4.heap.size w4 W59 by rw [hW59]; exact HV54.out.trans (HAL59.out.mono HV54.out.size))
              have HB59 := Lib.hid (show Below W54.heap.size W54 W59 by rw [hW59]; exact HAL59.out)
              rw [← hW59] at HN59 ⊢
              clear hW59
              have HE59 := Lib.hid (HN54.out.below HB59.out (Nat.le_refl _))
              have HZE59 := Lib.hid (Nat.le_trans HZE54.out HB59.out.size)
              have HX59 := Lib.hid ((HB59.out.block _ (at_lt HX54.out)).trans HX54.out)
              have HZS59 := Lib.hid HB59.out.size
              have HSBS59 := Lib.hid (show (Value.slice (some ⟨W54.heap.size, 0, none⟩) 1 1).ownBlock ≠ some (W0.heap.size) from fun h => by have h1 := (HN59.out.lt _ h).1; have h2 := at_lt HX54.out; omega)
              have HSOS59 := Lib.hid (show ∀ j, (Value.slice (some ⟨W54.heap.size, 0, none⟩) 1 1).ownBlock = some j → (Value.slice (some ⟨W53.heap.size, 0, none⟩) 0 0).ownBlock ≠ some j from fun j h1 h2 => by have h3 := (HN59.out.lt _ h1).1; have h4 := (HN54.out.lt _ h2).2; omega)
              refine plan_one rfl ?_
              refine wpList_append_rules rfl (.tmp 42) (.tmp 44) rfl (Value.slice (some ⟨W53.heap.size, 0, none⟩) 0 0) ([]) (0) (by rfl) rfl (HE59.out) _ (rs) (m) HM.out.symm rfl (HRR4.out W59 HV59.out) (by omega) HZE59.out ?_
              intro p60 c60 W60 hown60 hg60 hlie60
              simp only [Nat.zero_add] at hown60 hg60 hlie60 ⊢
              have HN60 := Lib.hid hown60
              have HF60 := Lib.hid (show Fr (fun j => (Value.slice (some ⟨W53.heap.size, 0, none⟩) 0 0).ownBlock = some j) W59 W60 from Fr.grown (F := fun j => (Value.slice (some ⟨W53.heap.size, 0, none⟩) 0 0).ownBlock = some j) hg60 (fun k h => h))
              have HV60 := Lib.hid (show Below w4.heap.size w4 W60 from HV59.out.trans (HF60.out.below HV59.out.size (fun j hj => by have h1 := (HE59.out.lt j hj).1; have h2 := HV53.out.size; omega)))
              have HS60 := Lib.hid (HN59.out.fr HF60.out (fun j hj h => HSOS59.out j hj h))
              have HZS60 := Lib.hid (Nat.le_trans HZS59.out HF60.out.size)
              have HX60 := Lib.hid ((HF60.out.block _ (at_lt HX59.out) (HSBE54.out)).trans HX59.out)
              have HSBL60 := Lib.hid (show (Value.slice p60 (m) c60).ownBlock ≠ some (W0.heap.size) from fun h => by
                rcases hlie60 with h5 | h5
                · exact HSBE54.out (h5 ▸ h)
                · rw [h] at h5; injection h5 with h5; have h6 := at_lt HX59.out; omega)
              clear hown60 hg60 hlie60
              have HZL60 := Lib.hid (Nat.le_trans HZE59.out HF60.out.size)
              refine Then.mk HV60.out ?_
              refine plan_one rfl ?_
              refine wpList_append_rules rfl (.tmp 45) (.tmp 47) rfl (Value.slice p60 (m) c60) (([]) ++ (rs)) (m) (by rw [List.length_append, ← HM.out]; exact Nat.zero_add m) rfl (HN60.out) _ ([rl0 true]) (1) (by rfl) rfl (HS60.out.read) (by omega) HZL60.out ?_
              intro p61 c61 W61 hown61 hg61 hlie61
              have HN61 := Lib.hid hown61
              have HF61 := Lib.hid (show Fr (fun j => (Value.slice p60 (m) c60).ownBlock = some j) W60 W61 from Fr.grown (F := fun j => (Value.slice p60 (m) c60).ownBlock = some j) hg61 (fun k h => h))
              have HV61 := Lib.hid (show Below w4.heap.size w4 W61 from HV60.out.trans (HF61.out.below HV60.out.size (fun j hj => by have h1 := (HN60.out.lt j hj).1; have h2 := HV53.out.size; omega)))
              have HX61 := Lib.hid ((HF61.out.block _ (at_lt HX60.out) (HSBL60.out)).trans HX60.out)
              have HSBM61 := Lib.hid (show (Value.slice p61 (m + 1) c61).ownBlock ≠ some (W0.heap.size) from fun h => by
                rcases hlie61 with h5 | h5
                · exact HSBL60.out (h5 ▸ h)
                · rw [h] at h5; injection h5 with h5; have h6 := at_lt HX60.out; omega)
              clear hown61 hg61 hlie61
              have HZM61 := Lib.hid (Nat.le_trans HZL60.out HF61.out.size)
              refine Then.mk HV61.out ?_
              apply plan_readsW
              · intro W hW
                clear hW
                iterate 1 (refine WR_step (fun K hK => ?_); go_simp; refine hK.out _ ?_; clear hK K)
                exact WR_nil rfl
              refine plan_one rfl ?_
              refine wpList_store_obj rfl (.tmp 9) (.tmp 49) 25 rfl (W0.heap.size) rfl [.slice pc2 nn cc2, Value.slice p61 (m + 1) c61] rfl _ _ HX61.out (by kernel_rfl) rfl (by simp [Value.oneCell']) ?_
              intro W62 hb62 hf62
              have HV62 := Lib.hid (show Below w4.heap.size w4 W62 from HV61.out.trans (hf62.below HV61.out.size (fun j hj => by have hj : j = W0.heap.size := hj; have h1 := HV0.out.size; omega)))
              have HRS62 := Lib.hid (show RS (RuleIs w4) w4.heap.size (W0.heap.size) (.slice pc2 nn cc2) W62 (Value.slice p61 (m + 1) c61) ((([]) ++ (rs)) ++ ([rl0 true])) from ⟨hb62, (HN61.out.fr hf62 (fun j hj h => by have h : j = W0.heap.size := h; exact HSBM61.out (h ▸ hj))).base HV53.out.size, HSBM61.out⟩)
              clear hb62 hf62
              refine Then.mk HV62.out ?_
              refine plan_done ?_
              go_wp2_with fail
              go_meet
              case rel => exact ⟨_, _, _, rfl, HRS62.out, HV62.out⟩
          · skip
            go_wp2_with fail
            have HAL63 := Lib.hid (below_alloc1 W53 (.cells #[.int .i64 0, .slice none 0 0, .slice none 0 0, .int .i64 0, .slice none 0 0, .slice none 0 0, .bool true, .bool false] 54))
            refine Then.mk (HV53.out.trans (HAL63.out.mono HV53.out.size)) ?_
            have HN63 := Lib.hid (OwnL.one (E := RuleIs w4) (sz := 8) (base := W53.heap.size) W53 54 (rl0 true) [.int .i64 0, .slice none 0 0, .slice none 0 0, .int .i64 0, .slice none 0 0, .slice none 0 0, .bool true, .bool false] (Nat.le_refl _) ⟨rfl, by simp [Value.oneCell']⟩ (rl0_is w4 true))
            obtain ⟨W63, hW63⟩ : ∃ V, V = W53.alloc (.cells #[.int .i64 0, .slice none 0 0, .slice none 0 0, .int .i64 0, .slice none 0 0, .slice none 0 0, .bool true, .bool false] 54) := ⟨_, rfl⟩
            have HV63 := Lib.hid (show Below w4.heap.size w4 W63 by rw [hW63]; exact HV53.out.trans (HAL63.out.mono HV53.out.size))
            have HB63 := Lib.hid (show Below W53.heap.size W53 W63 by rw [hW63]; exact HAL63.out)
            rw [← hW63] at HN63 ⊢
            clear hW63
            have HX63 := Lib.hid ((HB63.out.block _ (at_lt HN53.out)).trans HN53.out)
            have HZS63 := Lib.hid HB63.out.size
            have HSBS63 := Lib.hid (show (Value.slice (some ⟨W53.heap.size, 0, none⟩) 1 1).ownBlock ≠ some (W0.heap.size) from fun h => by have h1 := (HN63.out.lt _ h).1; have h2 := at_lt HN53.out; omega)
            refine plan_one rfl ?_
            go_wp2_with fail
            have HAL64 := Lib.hid (below_alloc1 W63 (.cells #[] 54))
            refine Then.mk (HV63.out.trans (HAL64.out.mono HV63.out.size)) ?_
            have HN64 := Lib.hid (OwnL.none8 (RuleIs w4) W63)
            obtain ⟨W64, hW64⟩ : ∃ V, V = W63.alloc (.cells #[] 54) := ⟨_, rfl⟩
            have HV64 := Lib.hid (show Below w4.heap.size w4 W64 by rw [hW64]; exact HV63.out.trans (HAL64.out.mono HV63.out.size))
            have HB64 := Lib.hid (show Below W63.heap.size W63 W64 by rw [hW64]; exact HAL64.out)
            rw [← hW64] at HN64 ⊢
            clear hW64
            have HS64 := Lib.hid (HN63.out.below HB64.out (Nat.le_refl _))
            have HZS64 := Lib.hid (Nat.le_trans HZS63.out HB64.out.size)
            have HX64 := Lib.hid ((HB64.out.block _ (at_lt HX63.out)).trans HX63.out)
            have HZE64 := Lib.hid HB64.out.size
            have HSBE64 := Lib.hid (show (Value.slice (some ⟨W63.heap.size, 0, none⟩) 0 0).ownBlock ≠ some (W0.heap.size) from fun h => by have h1 := (HN64.out.lt _ h).1; have h2 := at_lt HX63.out; omega)
            have HSOE64 := Lib.hid (show ∀ j, (Value.slice (some ⟨W63.heap.size, 0, none⟩) 0 0).ownBlock = some j → (Value.slice (some ⟨W53.heap.size, 0, none⟩) 1 1).ownBlock ≠ some j from fun j h1 h2 => by have h3 := (HN64.out.lt _ h1).1; have h4 := (HN63.out.lt _ h2).2; omega)
            refine plan_one rfl ?_
            refine wpList_append_rules rfl (.tmp 42) (.tmp 44) rfl (Value.slice (some ⟨W63.heap.size, 0, none⟩) 0 0) ([]) (0) (by rfl) rfl (HN64.out) _ (rs) (m) HM.out.symm rfl (HRR4.out W64 HV64.out) (by omega) HZE64.out ?_
            intro p65 c65 W65 hown65 hg65 hlie65
            simp only [Nat.zero_add] at hown65 hg65 hlie65 ⊢
            have HN65 := Lib.hid hown65
            have HF65 := Lib.hid (show Fr (fun j => (Value.slice (some ⟨W63.heap.size, 0, none⟩) 0 0).ownBlock = some j) W64 W65 from Fr.grown (F := fun j => (Value.slice (some ⟨W63.heap.size, 0, none⟩) 0 0).ownBlock = some j) hg65 (fun k h => h))
            have HV65 := Lib.hid (show Below w4.heap.size w4 W65 from HV64.out.trans (HF65.out.below HV64.out.size (fun j hj => by have h1 := (HN64.out.lt j hj).1; have h2 := HV63.out.size; omega)))
            have HS65 := Lib.hid (HS64.out.fr HF65.out (fun j hj h => HSOE64.out j h hj))
            have HZS65 := Lib.hid (Nat.le_trans HZS64.out HF65.out.size)
            have HX65 := Lib.hid ((HF65.out.block _ (at_lt HX64.out) (HSBE64.out)).trans HX64.out)
            have HSBL65 := Lib.hid (show (Value.slice p65 (m) c65).ownBlock ≠ some (W0.heap.size) from fun h => by
              rcases hlie65 with h5 | h5
              · exact HSBE64.out (h5 ▸ h)
              · rw [h] at h5; injection h5 with h5; have h6 := at_lt HX64.out; omega)
            clear hown65 hg65 hlie65
            have HZL65 := Lib.hid (Nat.le_trans HZE64.out HF65.out.size)
            refine Then.mk HV65.out ?_
            refine plan_one rfl ?_
            refine wpList_append_rules rfl (.tmp 45) (.tmp 47) rfl (Value.slice p65 (m) c65) (([]) ++ (rs)) (m) (by rw [List.length_append, ← HM.out]; exact Nat.zero_add m) rfl (HN65.out) _ ([rl0 true]) (1) (by rfl) rfl (HS65.out.read) (by omega) HZL65.out ?_
            intro p66 c66 W66 hown66 hg66 hlie66
            have HN66 := Lib.hid hown66
            have HF66 := Lib.hid (show Fr (fun j => (Value.slice p65 (m) c65).ownBlock = some j) W65 W66 from Fr.grown (F := fun j => (Value.slice p65 (m) c65).ownBlock = some j) hg66 (fun k h => h))
            have HV66 := Lib.hid (show Below w4.heap.size w4 W66 from HV65.out.trans (HF66.out.below HV65.out.size (fun j hj => by have h1 := (HN65.out.lt j hj).1; have h2 := HV63.out.size; omega)))
            have HX66 := Lib.hid ((HF66.out.block _ (at_lt HX65.out) (HSBL65.out)).trans HX65.out)
            have HSBM66 := Lib.hid (show (Value.slice p66 (m + 1) c66).ownBlock ≠ some (W0.heap.size) from fun h => by
              rcases hlie66 with h5 | h5
              · exact HSBL65.out (h5 ▸ h)
              · rw [h] at h5; injection h5 with h5; have h6 := at_lt HX65.out; omega)
            clear hown66 hg66 hlie66
            have HZM66 := Lib.hid (Nat.le_trans HZL65.out HF66.out.size)
            refine Then.mk HV66.out ?_
            apply plan_readsW
            · intro W hW
              clear hW
              iterate 1 (refine WR_step (fun K hK => ?_); go_simp; refine hK.out _ ?_; clear hK K)
              exact WR_nil rfl
            refine plan_one rfl ?_
            refine wpList_store_obj rfl (.tmp 9) (.tmp 49) 25 rfl (W0.heap.size) rfl [.slice pc2 nn cc2, Value.slice p66 (m + 1) c66] rfl _ _ HX66.out (by kernel_rfl) rfl (by simp [Value.oneCell']) ?_
            intro W67 hb67 hf67
            have HV67 := Lib.hid (show Below w4.heap.size w4 W67 from HV66.out.trans (hf67.below HV66.out.size (fun j hj => by have hj : j = W0.heap.size := hj; have h1 := HV0.out.size; omega)))
            have HRS67 := Lib.hid (show RS (RuleIs w4) w4.heap.size (W0.heap.size) (.slice pc2 nn cc2) W67 (Value.slice p66 (m + 1) c66) ((([]) ++ (rs)) ++ ([rl0 true])) from ⟨hb67, (HN66.out.fr hf67 (fun j hj h => by have h : j = W0.heap.size := h; exact HSBM66.out (h ▸ hj))).base HV63.out.size, HSBM66.out⟩)
            clear hb67 hf67
            refine Then.mk HV67.out ?_
            refine plan_done ?_
            go_wp2_with fail
            go_meet
            case rel => exact ⟨_, _, _, rfl, HRS67.out, HV67.out⟩
      case rest =>
        go_upto_region 6 with fail
        refine abs_wp fun w5 hw5 => ?_
        rw [← hw5] at hcut
        obtain ⟨G2, p2, c2, rfl, hrs2, hb2⟩ := hcut
        have HRS2 := Lib.hid hrs2
        have HB45 := Lib.hid hb2
        clear hw5 hrs2 hb2
        obtain ⟨m1, hm1⟩ : ∃ x, x = 1 + m := ⟨_, rfl⟩
        obtain ⟨m2, hm2⟩ : ∃ x, x = m + 1 := ⟨_, rfl⟩
        rw [← hm1] at HRS1
        rw [← hm2] at HRS2
        have HB15 := Lib.hid (HB41.out.trans (HB45.out.mono HB41.out.size))
        have HW5 := Lib.hid (HB3.out.trans (HB15.out.mono HB3.out.size))
        have HG15 := Lib.hid ((HB45.out.block _ (at_lt HRS1.out.out)).trans HRS1.out.out)
        have HG25 := Lib.hid HRS2.out.out
        have HBX5 := Lib.hid ((HB45.out.block _ (at_lt HBX4.out)).trans HBX4.out)
        have HRA := Lib.hid (show Rules w5 (.slice pq m cq) rs from HRU4.out.to HB45.out (Nat.le_refl _))
        have HRB := Lib.hid (show Rules w5 (.slice p1 m1 c1) ([rl0 is_] ++ rs) from rules_of_read ((HRS1.out.own.read.below HB45.out (Nat.le_refl _)).monoE (fun x r hr => hr.to HB15.out (Nat.le_refl _))))
        have HRC := Lib.hid (show Rules w5 (.slice p2 m2 c2) (([] ++ rs) ++ [rl0 true]) from rules_of_read (HRS2.out.own.read.monoE (fun x r hr => hr.to HB45.out (Nat.le_refl _))))
        have hl2 : ([rl0 is_] ++ rs).length ≤ 1000000 := by
          rw [List.length_append, ← HM.out]
          have : [rl0 is_].length = 1 := rfl
          omega
        have hl3 : (([] ++ rs) ++ [rl0 true]).length ≤ 1000000 := by
          rw [List.length_append, List.length_append, ← HM.out]
          have : [rl0 true].length = 1 := rfl
          have : ([] : List Rl).length = 0 := rfl
          omega
        have HC1 := Lib.hid ((compile_any w5 pc2 nn cc2 (.slice pq m cq) _ HRA.out (by have := HM.out; omega)).mono fun e w' h => CompPost.two h)
        have HL2 := Lib.hid hl2
        have HL3 := Lib.hid hl3
        clear hm1 hm2 hl2 hl3
        obtain ⟨x0, x1⟩ := cells2 HBX5.out
        go_wp2_with fail
        refine HC1.out.mono ?_
        rintro e v1 ⟨hb1, q1, rfl, hcase1⟩
        obtain ⟨co1, hco1⟩ : ∃ c, c = compC nn rs := ⟨_, rfl⟩
        rw [← hco1] at hcase1 ⊢
        have HCA1 := Lib.hid hcase1
        have HV1 := Lib.hid hb1
        clear hb1 hcase1 x0 x1 HC1 hco1
        obtain ⟨x0, x1⟩ := cells2 ((HV1.out.block _ (at_lt HG15.out)).trans HG15.out)
        have HC2 := Lib.hid ((compile_any v1 pc2 nn cc2 (.slice p1 m1 c1) _ (HRB.out.to HV1.out (Nat.le_refl _)) HL2.out).mono fun e w' h => CompPost.two h)
        go_wp2_with fail
        refine HC2.out.mono ?_
        rintro e v2 ⟨hb2, q2, rfl, hcase2⟩
        obtain ⟨co2, hco2⟩ : ∃ c, c = compC nn ([rl0 is_] ++ rs) := ⟨_, rfl⟩
        rw [← hco2] at hcase2 ⊢
        have HCA2 := Lib.hid hcase2
        have HV2 := Lib.hid (HV1.out.trans (hb2.mono HV1.out.size))
        have HD2 := Lib.hid hb2
        clear hb2 hcase2 x0 x1 HC2 hco2
        obtain ⟨x0, x1⟩ := cells2 ((HV2.out.block _ (at_lt HG25.out)).trans HG25.out)
        have HC3 := Lib.hid ((compile_any v2 pc2 nn cc2 (.slice p2 m2 c2) _ (HRC.out.to HV2.out (Nat.le_refl _)) HL3.out).mono fun e w' h => CompPost.two h)
        go_wp2_with fail
        refine HC3.out.mono ?_
        rintro e v3 ⟨hb3, q3, rfl, hcase3⟩
        obtain ⟨co3, hco3⟩ : ∃ c, c = compC nn (([] ++ rs) ++ [rl0 true]) := ⟨_, rfl⟩
        rw [← hco3] at hcase3 ⊢
        have HCA3 := Lib.hid hcase3
        have HV3 := Lib.hid (HV2.out.trans (hb3.mono HV2.out.size))
        have HD3 := Lib.hid hb3
        have HWF := Lib.hid (HW5.out.trans (HV3.out.mono HW5.out.size))
        clear hb3 hcase3 x0 x1 HC3 hco3
        obtain ⟨hc1, T1, rfl, ht1⟩ | ⟨-, rfl⟩ := HCA1.out
        · have HT1' := Lib.hid ht1
          clear ht1
          subst hc1
          obtain ⟨hc2, T2, rfl, ht2⟩ | ⟨-, rfl⟩ := HCA2.out
          · have HT2' := Lib.hid ht2
            clear ht2
            subst hc2
            obtain ⟨hc3, T3, rfl, ht3⟩ | ⟨-, rfl⟩ := HCA3.out
            · have HT3 := Lib.hid ht3
              clear ht3
              subst hc3
              have HT1 := Lib.hid (HT1'.out.to (HD2.out.trans (HD3.out.mono HD2.out.size)))
              have HT2 := Lib.hid (HT2'.out.to HD3.out)
              have HI3 := Lib.hid (HI.out.to HWF.out (Nat.le_refl _))
              have HB1' := Lib.hid (boundaries_any v3 T1 nn _ HT1.out (.slice ptr nr ctr) row HI3.out (by have := HNR.out; omega))
              go_wp2_with fail
              refine HB1'.out.mono ?_
              rintro e u1 ⟨hu1, hr1⟩
              have HU1 := Lib.hid hu1
              have HB2' := Lib.hid (boundaries_any u1 T2 nn _ (HT2.out.to hu1) (.slice ptr nr ctr) row (HI3.out.to hu1 (Nat.le_refl _)) (by have := HNR.out; omega))
              by_cases hro : RowOk nn row
              · obtain ⟨va, rfl, hva⟩ : ∃ v, e = .returned (.tuple #[v, .int .i64 0]) ∧ Bools u1 v (segL rs row) := by
                  rcases hr1 with ⟨-, h⟩ | ⟨h, -⟩
                  · exact h
                  · exact (h hro).elim
                have HRO := Lib.hid hro
                have HVA := Lib.hid hva
                clear hr1 hu1 hva hro
                go_wp2_with fail
                refine HB2'.out.mono ?_
                rintro e u2 ⟨hu2, hr2⟩
                have HU2 := Lib.hid (HU1.out.trans (hu2.mono HU1.out.size))
                obtain ⟨vb, rfl, hvb⟩ : ∃ v, e = .returned (.tuple #[v, .int .i64 0]) ∧ Bools u2 v (segL ([rl0 is_] ++ rs) row) := by
                  rcases hr2 with ⟨-, h⟩ | ⟨h, -⟩
                  · exact h
                  · exact (h HRO.out).elim
                obtain ⟨pb, cb, rfl, hcb, -⟩ := hvb.get
                have HVB := Lib.hid hvb
                have HVA2 := Lib.hid (Bools.to hu2 (Nat.le_refl _) HVA.out)
                have HB3' := Lib.hid (boundaries_any u2 T3 nn _ (HT3.out.to HU2.out) (.slice ptr nr ctr) row (HI3.out.to HU2.out (Nat.le_refl _)) (by have := HNR.out; omega))
                rw [segL_length, ← HNR.out] at hcb HVB ⊢
                clear hr2 hu2 hvb
                go_wp2_with fail
                refine HB3'.out.mono ?_
                rintro e u3 ⟨hu3, hr3⟩
                have HU3 := Lib.hid (HU2.out.trans (hu3.mono HU2.out.size))
                obtain ⟨vc, rfl, hvc⟩ : ∃ v, e = .returned (.tuple #[v, .int .i64 0]) ∧ Bools u3 v (segL (([] ++ rs) ++ [rl0 true]) row) := by
                  rcases hr3 with ⟨-, h⟩ | ⟨h, -⟩
                  · exact h
                  · exact (h HRO.out).elim
                have hva3 := Bools.to hu3 (Nat.le_refl _) HVA2.out
                have hvb3 := Bools.to hu3 (Nat.le_refl _) HVB.out
                rw [segL_last rfl, List.nil_append] at hvc
                have HSM := Lib.hid (same_dec u3 va vc (segL rs row) (segL rs row) rfl (by rw [segL_length, ← HNR.out]; omega) hva3 hvc)
                rw [decide_eq_true rfl] at HSM
                obtain ⟨pb', cb', eb, -, hgb⟩ := hvb3.get
                injection eb with eb1 eb2 eb3
                subst eb1
                have HCEL := Lib.hid (show ∀ k : Nat, 0 < k → k < nr → (∃ b o, pb = some ⟨b, o, none⟩ ∧ u3.cell? ⟨b, o + k, none⟩ = some (.bool is_)) from fun k h0 hk => by
                  obtain ⟨b2, o2, e2, h2, g2⟩ := hgb (by rw [segL_length]; omega)
                  have l2 : k < (segL ([rl0 is_] ++ rs) row).length := by rw [segL_length, ← HNR.out]; omega
                  have j2 := g2 k l2
                  rw [segL_get, segAt_first is_ rs row h0 (by rw [← HNR.out]; exact hk)] at j2
                  exact ⟨b2, o2, e2, j2⟩)
                have hn2 : ((nr : Int) + 1 == (nr : Int) + 1) = true := by simp
                have hn3 : ((nr : Int) + 1 != (nr : Int) + 1) = false := by simp
                have hii : (is_ != is_) = false := by simp
                clear hr3 hu3 hvc hva3 hvb3 hgb eb2 eb3
                go_upto_region 18 with fail
                go_wp2_with fail
                go_loopw [22] (fun i wz => ∃ k : Nat, i = .int .i64 k ∧ 1 ≤ k ∧ (k ≤ nr ∨ k = 1) ∧ wz = u3) (fun i _ => nr + 1 - (intOf i).toNat)
                case atStart => exact ⟨1, rfl, by omega, .inr rfl, rfl⟩
                case round =>
                  obtain ⟨k, rfl, hk1, hk, rfl⟩ := hrel
                  by_cases hkn : k < nr
                  · have hki : (k : Int) < (nr : Int) := by omega
                    have hki1 : (k : Int) < (nr : Int) + 1 := by omega
                    have hk0 : (0 : Int) ≤ k := by omega
                    obtain ⟨b2, o2, rfl, d2⟩ := HCEL.out k (by omega) hkn
                    go_wp2_with fail
                    go_roundw
                    case rel => exact ⟨k + 1, by go_num, by omega, .inl (by omega), trivial⟩
                    case measure => simp [intOf]; omega
                  · have hki : ¬ (k : Int) < (nr : Int) := by omega
                    go_wp2_with fail
                    refine HSM.out.mono ?_
                    rintro e u4 ⟨rfl, hu4⟩
                    have HU4 := Lib.hid (HU3.out.trans (hu4.mono HU3.out.size))
                    clear hu4 HSM
                    go_wp2_with fail
                    go_ret
                    exact ⟨rfl, HWF.out.trans (HU4.out.mono HWF.out.size)⟩
              · obtain rfl : e = .returned (.tuple #[.slice none 0 0, .int .i64 1]) := by
                  rcases hr1 with ⟨h, -⟩ | ⟨-, h⟩
                  · exact (hro h).elim
                  · exact h
                have HRO := Lib.hid hro
                clear hr1 hu1 hro
                go_wp2_with fail
                refine HB2'.out.mono ?_
                rintro e u2 ⟨hu2, hr2⟩
                have HU2 := Lib.hid (HU1.out.trans (hu2.mono HU1.out.size))
                obtain rfl : e = .returned (.tuple #[.slice none 0 0, .int .i64 1]) := by
                  rcases hr2 with ⟨h, -⟩ | ⟨-, h⟩
                  · exact (HRO.out h).elim
                  · exact h
                have HB3' := Lib.hid (boundaries_any u2 T3 nn _ (HT3.out.to HU2.out) (.slice ptr nr ctr) row (HI3.out.to HU2.out (Nat.le_refl _)) (by have := HNR.out; omega))
                clear hr2 hu2
                go_wp2_with fail
                refine HB3'.out.mono ?_
                rintro e u3 ⟨hu3, hr3⟩
                have HU3 := Lib.hid (HU2.out.trans (hu3.mono HU2.out.size))
                obtain rfl : e = .returned (.tuple #[.slice none 0 0, .int .i64 1]) := by
                  rcases hr3 with ⟨h, -⟩ | ⟨-, h⟩
                  · exact (HRO.out h).elim
                  · exact h
                clear hr3 hu3
                go_wp2_with fail
                go_ret
                exact ⟨rfl, HWF.out.trans (HU3.out.mono HWF.out.size)⟩
            · go_wp2_with fail
              go_ret
              exact ⟨rfl, HWF.out⟩
          · go_wp2_with fail
            go_ret
            exact ⟨rfl, HWF.out⟩
        · go_wp2_with fail
          go_ret
          exact ⟨rfl, HWF.out⟩
end Go.Proofs.Ythmaokjhncokdaa

