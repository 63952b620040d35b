/-
  turn: an expression read from the end. No condition beyond what each theorem names.
-/
import Derived.Test.YtphgjppeindbaaaR
set_option linter.unusedVariables false
set_option linter.unusedSimpArgs false
namespace Go.Proofs.Ytphgjppeindbaaa
open Go.RowKit

theorem Lies.and {F G : Nat → Prop} {v : Value} {n : Nat} (h : Lies F v n) (g : Lies G v n) : Lies (fun k => F k ∧ G k) v n := fun h0 k hk => ⟨h h0 k hk, g h0 k hk⟩

theorem NodeF.lt {F : Nat → Prop} {w : World} : ∀ (x : Nd) {a b c : Value}, NodeF F w x a b c → NodeF (fun k => F k ∧ k < w.heap.size) w x a b c
  | .mk op cls parts, a, b, c, h => by
    rw [nodeF_iff] at *
    obtain ⟨h1, h2, h2', h3, h4, rows, ⟨h5, h5'⟩, h6, h7, h8⟩ := h
    refine ⟨h1, h2, h2'.and (Raw.lies h2 (by simp)), h3, h4, rows, ⟨h5, h5'⟩, h6.and (Raw.lies h5' (fun h => by rw [flatten_length h5, h7]; omega)), h7, fun i hi => ?_⟩
    obtain ⟨x, y, z, h9, h10⟩ := h8 i hi
    exact ⟨x, y, z, h9, NodeF.lt parts[i] h10⟩
  termination_by x => SizeOf.sizeOf x
  decreasing_by exact Nd.part_lt hi

/-- where the parts of the turned expression lie -/
def FF (F : Nat → Prop) (B : Nat) (w : World) (pv : Value) (k : Nat) : Prop := F k ∨ (B ≤ k ∧ k < w.heap.size ∧ pv.ownBlock ≠ some k)

def TurnAt (x : Nd) : Prop := ∀ (F : Nat → Prop) (w : World) (a b c : Value), NodeF F w x a b c → (∀ k, F k → k < w.heap.size) →
    Calls Try.prog 21 #[.agg #[a, b, c]] w fun e w' => ∃ a' b' c', e = .returned (.agg #[a', b', c']) ∧ NodeF (fun k => F k ∨ w.heap.size ≤ k) w' (turnR x) a' b' c' ∧ Below w.heap.size w w'

def trnTo (ps : List Nd) (k : Nat) : List Nd := ((ps.drop k).map turnR).reverse
theorem trnTo_step {ps : List Nd} {k : Nat} (hk : k < ps.length) : trnTo ps k = trnTo ps (k + 1) ++ [turnR ps[k]] := by
  unfold trnTo
  rw [List.drop_eq_getElem_cons hk, List.map_cons, List.reverse_cons]
theorem trnTo_length (ps : List Nd) (k : Nat) : (trnTo ps k).length = ps.length - k := by simp [trnTo]

set_option maxRecDepth 100000 in
set_option maxHeartbeats 8000000 in
theorem turn_step (op : Int) (cls : List Int) (ps : List Nd) (ih : ∀ x ∈ ps, TurnAt x) : TurnAt (.mk op cls ps) := by
    intro F w a b c hx hF
    have IH := Lib.hid ih
    have HF := Lib.hid hF
    rw [nodeF_iff] at hx
    obtain ⟨rfl, hcl, hclF, hcb, hpb, hps⟩ := hx
    obtain ⟨pc, capc, rfl, hcc, -⟩ := hcl.get
    obtain ⟨pp, capp, rfl, hcp, hxp⟩ := hps.get
    have HCL := Lib.hid hcl
    have HCF := Lib.hid hclF
    have HPB := Lib.hid hpb
    have HCB := Lib.hid hcb
    unfold R at hcb hpb
    have HXP := Lib.hid hxp
    clear hcl hclF hps hxp ih hF
    go_enter Try.func21, Try.ntmps21
    go_upto_region 2 with fail
    refine abs_wp fun W hW => ?_
    obtain ⟨B, hB⟩ : ∃ B, B = w.heap.size := ⟨_, rfl⟩
    have hs0 : W.heap.size = B + 3 := by rw [hW, hB]; simp
    have hbx : W.heap[B]? = some (.cells #[.int .i64 op, .slice pc cls.length capc, .slice pp ps.length capp] 33) := by
      rw [hW, hB, heap_alloc_old _ _ (by simp; omega), heap_alloc_old _ _ (by simp)]; exact heap_alloc_new _ _
    have hbr : W.heap[B + 1]? = some (.cells #[.int .i64 0, .slice none 0 0, .slice none 0 0] 33) := by
      rw [hW, hB, heap_alloc_old _ _ (by simp)]; exact heap_alloc2_new _ _ _
    have hbo : W.heap[B + 2]? = some (.cells #[.int .i64 op, .slice pc cls.length capc, .slice none 0 0] 33) := by
      rw [hW, hB]
      have := heap_alloc_new ((w.alloc (.cells #[.int .i64 op, .slice pc cls.length capc, .slice pp ps.length capp] 33)).alloc (.cells #[.int .i64 0, .slice none 0 0, .slice none 0 0] 33)) (.cells #[.int .i64 op, .slice pc cls.length capc, .slice none 0 0] 33)
      simpa using this
    have hbW : Below w.heap.size w W := by rw [hW]; exact ((below_alloc1 w _).alloc (by simp) _).alloc (by simp; omega) _
    rw [← hB]
    have HB := Lib.hid hB
    have HBX := Lib.hid hbx
    have HBR := Lib.hid hbr
    have HBO := Lib.hid hbo
    have HBW := Lib.hid hbW
    have HS0 := Lib.hid hs0
    have x2 := (cells3 hbx).2.2
    clear hW hbx hbr hbo hbW hB hs0
    go_wp2_with fail
    clear x2
    go_loopw [4] (fun i wr => ∃ (k : Nat) (pv : Value), i = .int .i64 ((k : Int) - 1) ∧ k ≤ ps.length ∧ wr.heap[B]? = some (.cells #[.int .i64 op, .slice pc cls.length capc, .slice pp ps.length capp] 33) ∧ wr.heap[B + 1]? = some (.cells #[.int .i64 0, .slice none 0 0, .slice none 0 0] 33) ∧
      wr.heap[B + 2]? = some (.cells #[.int .i64 op, .slice pc cls.length capc, pv] 33) ∧ OwnL (nodeE (FF F (B + 3) wr pv) wr) 33 3 (B + 3) wr pv (trnTo ps k) ∧ Below w.heap.size w wr) (fun i _ => (intOf i + 1).toNat)
    case atStart => exact ⟨ps.length, .slice none 0 0, rfl, Nat.le_refl _, HBX.out, HBR.out, HBO.out, by unfold trnTo; rw [List.drop_length]; exact OwnL.nil _, HBW.out⟩
    case round =>
      obtain ⟨k, pv, rfl, h1, hbx, hbr, hbo, hown, hb⟩ := hrel
      have HBXR := Lib.hid hbx
      have HBRR := Lib.hid hbr
      have HBOR := Lib.hid hbo
      have HOWN := Lib.hid hown
      have HBWR := Lib.hid hb
      have hsz3 : B + 3 ≤ wr.heap.size := by have := at_lt hbo; omega
      obtain ⟨pq, cq, rfl⟩ := hown.form
      have HTL := Lib.hid (trnTo_length ps k)
      rw [HTL.out] at HBOR HOWN
      obtain ⟨nq, hnq⟩ : ∃ q, q = ps.length - k := ⟨_, rfl⟩
      rw [← hnq] at HBOR HOWN
      have HNQ := Lib.hid hnq
      have HSZ3 := Lib.hid hsz3
      clear hown hbo hnq hbx hbr
      by_cases hk : 1 ≤ k
      · obtain ⟨m, hm⟩ : ∃ m, k = m + 1 := ⟨k - 1, by omega⟩
        subst hm
        have hmk : m < ps.length := by omega
        obtain ⟨bb, off, rfl, hbl, hFb, hxx⟩ := HXP.out (by omega)
        obtain ⟨x, y, z, c0, c1, c2, hnode⟩ := hxx m hmk
        have hbB : bb < B := by rw [HB.out]; exact hbl
        have r0 := cell_below hb hbl c0
        have r1 := cell_below hb hbl c1
        have r2 := cell_below hb hbl c2
        have HNODE := Lib.hid (hnode.below hb (Nat.le_refl _))
        have HIH := Lib.hid (IH.out ps[m] (List.getElem_mem hmk))
        have HSTEP := Lib.hid (trnTo_step hmk)
        have hm0 : ¬ ((m + 1 : Nat) : Int) - 1 < 0 := by omega
        have hmm : ((m + 1 : Nat) : Int) - 1 = m := by omega
        rw [hmm]
        have j0 : (0 : Int) ≤ m := by omega
        have j1 : (m : Int) < ps.length := by omega
        clear hxx c0 c1 c2 hnode hb hmm hm0
        go_upto_region 5 with fail
        have HSS := Lib.hid (show ∀ W, Below wr.heap.size wr W → (W.heap[B]? = some (.cells #[.int .i64 op, .slice pc cls.length capc, .slice (some ⟨bb, off, none⟩) ps.length capp] 33) ∧ W.cell? ⟨bb, off + m * 3, none⟩ = some x ∧ W.cell? ⟨bb, off + m * 3 + 1, none⟩ = some y ∧ W.cell? ⟨bb, off + m * 3 + 2, none⟩ = some z) from
          fun W hW => ⟨(hW.block B (by omega)).trans HBXR.out, cell_below hW (by omega) r0, cell_below hW (by omega) r1, cell_below hW (by omega) r2⟩)
        refine wp_region_plan (fun W => W.heap[B]? = some (.cells #[.int .i64 op, .slice pc cls.length capc, .slice (some ⟨bb, off, none⟩) ps.length capp] 33) ∧ W.cell? ⟨bb, off + m * 3, none⟩ = some x ∧ W.cell? ⟨bb, off + m * 3 + 1, none⟩ = some y ∧ W.cell? ⟨bb, off + m * 3 + 2, none⟩ = some z)
          (.reads [0, 2, 3, 4, 5, 6] (.two 1 (.one 7 (.one 8 (.one 9 (.reads [10] (.one 11 .done))))) 7 (.two 1 (.one 8 (.one 9 (.reads [10] (.one 11 .done)))) 8 (.one 1 (.one 9 (.reads [10] (.one 11 .done))))))) 30 (by kernel_rfl) (by kernel_rfl) rfl (fun _ _ _ _ _ h => h) (HSS.out _ (Below.refl _ _).drew) ?_
        clear r0 r1 r2
        apply plan_reads
        · intro W hW
          obtain ⟨s0, s1, s2, s3⟩ := hW
          have s4 := (cells3 s0).2.2
          repeat (refine wpRead_step (fun K hK => ?_); go_simp; refine hK _ ?_; clear hK K)
          exact wpRead_nil rfl
        refine abs_plan fun W0 hW0 => ?_
        have HB0 := Lib.hid (show Below wr.heap.size wr W0 by rw [hW0]; exact (Below.refl _ _).drew)
        clear hW0
        refine plan_two rfl rfl ?_ ?_
        · have x2 := (cells3 ((HB0.out.block (B + 2) (by have := HSZ3.out; omega)).trans HBOR.out)).2.2
          go_wp2_with fail
          refine Then.mk (HSS.out _ HB0.out) ?_
          clear x2
          refine plan_one rfl ?_
          have HC := Lib.hid (HIH.out F W0 x y z (HNODE.out.below HB0.out (Nat.le_refl _)) (fun k hk => by have h1 := HF.out k hk; have h2 := HB.out; have h3 := HSZ3.out; have h4 := HB0.out.size; omega))
          go_wp2_with fail
          refine HC.out.mono ?_
          rintro e W1 ⟨a', b', c', rfl, hnt, hb1⟩
          have HW1 := Lib.hid hb1.size
          have HB1 := Lib.hid (HB0.out.trans (hb1.mono HB0.out.size))
          have HNT := Lib.hid (NodeF.mono (G := fun k => F k ∨ (wr.heap.size ≤ k ∧ k < W1.heap.size)) (fun k hk => by
            have h4 := HB0.out.size
            rcases hk with ⟨h | h, h2⟩
            · exact .inl h
            · exact .inr ⟨by omega, h2⟩) _ hnt.lt)
          have HND := Lib.hid (nodeE.cells (F := fun k => F k ∨ (wr.heap.size ≤ k ∧ k < W1.heap.size)) ⟨a', b', c', rfl, HNT.out⟩)
          have HBLT := Lib.hid (show wr.heap.size ≤ W1.heap.size from HB1.out.size)
          clear hnt hb1 HC
          go_wp2_with fail
          refine Then.mk (HSS.out _ HB1.out) ?_
          refine plan_one rfl ?_
          have ha := below_alloc1 W1 (.cells #[a', b', c'] 33)
          go_wp2_with fail
          refine Then.mk (HSS.out _ (HB1.out.trans (ha.mono HB1.out.size))) ?_
          have HB2' := Lib.hid (HB1.out.trans (ha.mono HB1.out.size))
          have HAL := Lib.hid ha
          refine abs_plan fun W2 hW2 => ?_
          have HB2 := Lib.hid (show Below wr.heap.size wr W2 by rw [hW2]; exact HB2'.out)
          have HSZ2 := Lib.hid (show W1.heap.size < W2.heap.size by rw [hW2]; simp)
          have HBN := Lib.hid (show Below W1.heap.size W1 W2 by rw [hW2]; exact HAL.out)
          have HE2 := Lib.hid (show nodeE (fun k => F k ∨ (B + 3 ≤ k ∧ k < W1.heap.size ∧ (Value.slice pq nq cq).ownBlock ≠ some k)) W2 (turnR ps[m]) [a', b', c'] from ⟨a', b', c', rfl, (NodeF.mono (fun k hk => by
            have h0 := HSZ3.out
            rcases hk with h | ⟨h, h2⟩
            · exact .inl h
            · exact .inr ⟨by omega, h2, fun he => by have h3 := (HOWN.out.lt k he).2; omega⟩) _ HNT.out).below HBN.out (Nat.le_refl _)⟩)
          have HNEW := Lib.hid (show ReadL (nodeE (fun k => F k ∨ (B + 3 ≤ k ∧ k < W1.heap.size ∧ (Value.slice pq nq cq).ownBlock ≠ some k)) W2) 3 W2 (.slice (some ⟨W1.heap.size, 0, none⟩) 1 1) [turnR ps[m]] by
            have h := HE2.out
            rw [hW2] at h ⊢
            exact ReadL.one W1 _ _ _ HND.out h)
          have HOLD := Lib.hid (show OwnL (nodeE (fun k => F k ∨ (B + 3 ≤ k ∧ k < W1.heap.size ∧ (Value.slice pq nq cq).ownBlock ≠ some k)) W2) 33 3 (B + 3) W2 (.slice pq nq cq) (trnTo ps (m + 1)) from (HOWN.out.below HB2.out (Nat.le_refl _)).mono (fun x r hx => by
            obtain ⟨u0, u1, u2, rfl, hu⟩ := hx
            exact ⟨u0, u1, u2, rfl, NodeF.mono (fun k hk => by
              have h0 := HBLT.out
              rcases hk with h | ⟨h, h2, h3⟩
              · exact .inl h
              · exact .inr ⟨h, by omega, h3⟩) _ (hu.below HB2.out (Nat.le_refl _))⟩))
          clear hW2 ha
          refine plan_one rfl ?_
          refine wpList_append_nodes rfl (.tmp 19) (.tmp 26) rfl (.slice pq nq cq) (trnTo ps (m + 1)) rfl HOLD.out (.slice (some ⟨W1.heap.size, 0, none⟩) 1 1) [turnR ps[m]] rfl HNEW.out (by have h1 := trnTo_length ps (m + 1); have h2 := HPB.out; rw [h1]; simp; omega) (by have h1 := HSZ3.out; have h2 := HB2.out.size; omega) ?_
          intro p4 c4 w4 hown4 hg4 hlie4
          have hl4 : (trnTo ps (m + 1)).length + [turnR ps[m]].length = nq + 1 := by rw [trnTo_length, HNQ.out]; rfl
          rw [hl4] at hown4 hlie4 ⊢
          have HB4 := Lib.hid (show Below (B + 3) wr w4 from (HB2.out.mono HSZ3.out).grown hg4 (by have := HB2.out.size; have := HSZ3.out; omega) (fun k hk => (HOWN.out.lt k hk).1))
          have HS4 := Lib.hid (show W2.heap.size ≤ w4.heap.size from hg4.size)
          have HOW4 := Lib.hid (show OwnL (nodeE (FF F (B + 3) w4 (.slice p4 (nq + 1) c4)) w4) 33 3 (B + 3) w4 (.slice p4 (nq + 1) c4) (trnTo ps m) by
            rw [HSTEP.out]
            refine hown4.mono fun x r hx => ?_
            obtain ⟨u0, u1, u2, rfl, hu⟩ := hx
            refine ⟨u0, u1, u2, rfl, NodeF.mono (fun k hk => ?_) _ (hu.fr (Fr.grown (F := fun k => (Value.slice pq nq cq).ownBlock = some k) hg4 (fun k h => h)) (fun k hk he => ?_))⟩
            · have h5 := HSZ2.out
              have h6 := HS4.out
              rcases hk with h | ⟨h, h2, h3⟩
              · exact .inl h
              · refine .inr ⟨h, by omega, fun he => ?_⟩
                rcases hlie4 with h7 | h7
                · exact h3 (h7 ▸ he)
                · rw [he] at h7; injection h7 with h7; omega
            · rcases hk with h | ⟨h, h2, h3⟩
              · have h8 := HF.out k h
                have h9 := (HOWN.out.lt k he).1
                have h10 := HB.out
                omega
              · exact h3 he)
          have hbo4 := (HB4.out.block (B + 2) (by omega)).trans HBOR.out
          have HBO4 := Lib.hid hbo4
          have HSS4 := Lib.hid (show ∀ W, Below (B + 2) w4 W → (W.heap[B]? = some (.cells #[.int .i64 op, .slice pc cls.length capc, .slice (some ⟨bb, off, none⟩) ps.length capp] 33) ∧ W.cell? ⟨bb, off + m * 3, none⟩ = some x ∧ W.cell? ⟨bb, off + m * 3 + 1, none⟩ = some y ∧ W.cell? ⟨bb, off + m * 3 + 2, none⟩ = some z) from
            fun W hW => by
              have hall : Below (B + 2) wr W := (HB4.out.mono (by omega)).trans hW
              obtain ⟨q0, q1, q2, q3⟩ := HSS.out wr (Below.refl _ _)
              exact ⟨(hall.block B (by omega)).trans q0, cell_below hall (by omega) q1, cell_below hall (by omega) q2, cell_below hall (by omega) q3⟩)
          have x2 := (cells3 hbo4).2.2
          have f2 := fz_at hbo4 2
          clear hown4 hg4 hlie4 hl4 hbo4
          go_wp2_with fail
          refine Then.mk (HSS4.out _ (Below.refl _ _)) ?_
          apply plan_reads
          · intro W hW
            repeat (refine wpRead_step (fun K hK => ?_); go_simp; refine hK _ ?_; clear hK K)
            exact wpRead_nil rfl
          refine plan_one rfl ?_
          go_wp2_with fail
          have HFR := Lib.hid (Fr.setCell (F := fun k => k = B + 2) w4 (p := ⟨B + 2, 2, none⟩) rfl (.slice p4 (nq + 1) c4))
          have HBE := Lib.hid (HFR.out.below (B := B + 2) (by have := at_lt HBO4.out; omega) (fun k hk => Nat.le_of_eq hk.symm))
          have HBO5 := Lib.hid (blk_set HBO4.out 2 (.slice p4 (nq + 1) c4))
          refine Then.mk (HSS4.out _ HBE.out) ?_
          refine plan_done ?_
          clear x2 f2
          go_wp2_with fail
          go_roundw
          case rel =>
            refine ⟨m, .slice p4 (nq + 1) c4, congrArg (Value.int .i64) (by omega), by omega, ?_, ?_, HBO5.out, ?_, ?_⟩
            · exact (HSS4.out _ HBE.out).1
            · exact (HBE.out.block (B + 1) (by omega)).trans ((HB4.out.block (B + 1) (by omega)).trans HBRR.out)
            · refine (HOW4.out.fr HFR.out (fun k hk he => by have := (HOW4.out.lt k hk).1; omega)).mono fun x r hx => ?_
              obtain ⟨u0, u1, u2, rfl, hu⟩ := hx
              refine ⟨u0, u1, u2, rfl, NodeF.mono (fun k hk => ?_) _ (hu.fr HFR.out (fun k hk he => ?_))⟩
              · rcases hk with h | ⟨h, h2, h3⟩
                · exact .inl h
                · exact .inr ⟨h, Nat.lt_of_lt_of_le h2 HFR.out.size, h3⟩
              · rcases hk with h | ⟨h, h2, h3⟩
                · have h8 := HF.out k h
                  have h10 := HB.out
                  omega
                · omega
            · exact HBWR.out.trans (((HB4.out.mono (by have := HB.out; omega)).trans (HBE.out.mono (by have := HB.out; omega))))
          case measure => simp [intOf]
        · have HC := Lib.hid (HIH.out F W0 x y z (HNODE.out.below HB0.out (Nat.le_refl _)) (fun k hk => by have h1 := HF.out k hk; have h2 := HB.out; have h3 := HSZ3.out; have h4 := HB0.out.size; omega))
          go_wp2_with fail
          refine HC.out.mono ?_
          rintro e W1 ⟨a', b', c', rfl, hnt, hb1⟩
          have HW1 := Lib.hid hb1.size
          have HB1 := Lib.hid (HB0.out.trans (hb1.mono HB0.out.size))
          have HNT := Lib.hid (NodeF.mono (G := fun k => F k ∨ (wr.heap.size ≤ k ∧ k < W1.heap.size)) (fun k hk => by
            have h4 := HB0.out.size
            rcases hk with ⟨h | h, h2⟩
            · exact .inl h
            · exact .inr ⟨by omega, h2⟩) _ hnt.lt)
          have HND := Lib.hid (nodeE.cells (F := fun k => F k ∨ (wr.heap.size ≤ k ∧ k < W1.heap.size)) ⟨a', b', c', rfl, HNT.out⟩)
          have HBLT := Lib.hid (show wr.heap.size ≤ W1.heap.size from HB1.out.size)
          clear hnt hb1 HC
          go_wp2_with fail
          refine Then.mk (HSS.out _ HB1.out) ?_
          refine plan_two rfl rfl ?_ ?_
          · have x2 := (cells3 ((HB1.out.block (B + 2) (by have := HSZ3.out; omega)).trans HBOR.out)).2.2
            go_wp2_with fail
            refine Then.mk (HSS.out _ HB1.out) ?_
            clear x2
            refine plan_one rfl ?_
            have ha := below_alloc1 W1 (.cells #[a', b', c'] 33)
            go_wp2_with fail
            refine Then.mk (HSS.out _ (HB1.out.trans (ha.mono HB1.out.size))) ?_
            have HB2' := Lib.hid (HB1.out.trans (ha.mono HB1.out.size))
            have HAL := Lib.hid ha
            refine abs_plan fun W2 hW2 => ?_
            have HB2 := Lib.hid (show Below wr.heap.size wr W2 by rw [hW2]; exact HB2'.out)
            have HSZ2 := Lib.hid (show W1.heap.size < W2.heap.size by rw [hW2]; simp)
            have HBN := Lib.hid (show Below W1.heap.size W1 W2 by rw [hW2]; exact HAL.out)
            have HE2 := Lib.hid (show nodeE (fun k => F k ∨ (B + 3 ≤ k ∧ k < W1.heap.size ∧ (Value.slice pq nq cq).ownBlock ≠ some k)) W2 (turnR ps[m]) [a', b', c'] from ⟨a', b', c', rfl, (NodeF.mono (fun k hk => by
              have h0 := HSZ3.out
              rcases hk with h | ⟨h, h2⟩
              · exact .inl h
              · exact .inr ⟨by omega, h2, fun he => by have h3 := (HOWN.out.lt k he).2; omega⟩) _ HNT.out).below HBN.out (Nat.le_refl _)⟩)
            have HNEW := Lib.hid (show ReadL (nodeE (fun k => F k ∨ (B + 3 ≤ k ∧ k < W1.heap.size ∧ (Value.slice pq nq cq).ownBlock ≠ some k)) W2) 3 W2 (.slice (some ⟨W1.heap.size, 0, none⟩) 1 1) [turnR ps[m]] by
              have h := HE2.out
              rw [hW2] at h ⊢
              exact ReadL.one W1 _ _ _ HND.out h)
            have HOLD := Lib.hid (show OwnL (nodeE (fun k => F k ∨ (B + 3 ≤ k ∧ k < W1.heap.size ∧ (Value.slice pq nq cq).ownBlock ≠ some k)) W2) 33 3 (B + 3) W2 (.slice pq nq cq) (trnTo ps (m + 1)) from (HOWN.out.below HB2.out (Nat.le_refl _)).mono (fun x r hx => by
              obtain ⟨u0, u1, u2, rfl, hu⟩ := hx
              exact ⟨u0, u1, u2, rfl, NodeF.mono (fun k hk => by
                have h0 := HBLT.out
                rcases hk with h | ⟨h, h2, h3⟩
                · exact .inl h
                · exact .inr ⟨h, by omega, h3⟩) _ (hu.below HB2.out (Nat.le_refl _))⟩))
            clear hW2 ha
            refine plan_one rfl ?_
            refine wpList_append_nodes rfl (.tmp 19) (.tmp 26) rfl (.slice pq nq cq) (trnTo ps (m + 1)) rfl HOLD.out (.slice (some ⟨W1.heap.size, 0, none⟩) 1 1) [turnR ps[m]] rfl HNEW.out (by have h1 := trnTo_length ps (m + 1); have h2 := HPB.out; rw [h1]; simp; omega) (by have h1 := HSZ3.out; have h2 := HB2.out.size; omega) ?_
            intro p4 c4 w4 hown4 hg4 hlie4
            have hl4 : (trnTo ps (m + 1)).length + [turnR ps[m]].length = nq + 1 := by rw [trnTo_length, HNQ.out]; rfl
            rw [hl4] at hown4 hlie4 ⊢
            have HB4 := Lib.hid (show Below (B + 3) wr w4 from (HB2.out.mono HSZ3.out).grown hg4 (by have := HB2.out.size; have := HSZ3.out; omega) (fun k hk => (HOWN.out.lt k hk).1))
            have HS4 := Lib.hid (show W2.heap.size ≤ w4.heap.size from hg4.size)
            have HOW4 := Lib.hid (show OwnL (nodeE (FF F (B + 3) w4 (.slice p4 (nq + 1) c4)) w4) 33 3 (B + 3) w4 (.slice p4 (nq + 1) c4) (trnTo ps m) by
              rw [HSTEP.out]
              refine hown4.mono fun x r hx => ?_
              obtain ⟨u0, u1, u2, rfl, hu⟩ := hx
              refine ⟨u0, u1, u2, rfl, NodeF.mono (fun k hk => ?_) _ (hu.fr (Fr.grown (F := fun k => (Value.slice pq nq cq).ownBlock = some k) hg4 (fun k h => h)) (fun k hk he => ?_))⟩
              · have h5 := HSZ2.out
                have h6 := HS4.out
                rcases hk with h | ⟨h, h2, h3⟩
                · exact .inl h
                · refine .inr ⟨h, by omega, fun he => ?_⟩
                  rcases hlie4 with h7 | h7
                  · exact h3 (h7 ▸ he)
                  · rw [he] at h7; injection h7 with h7; omega
              · rcases hk with h | ⟨h, h2, h3⟩
                · have h8 := HF.out k h
                  have h9 := (HOWN.out.lt k he).1
                  have h10 := HB.out
                  omega
                · exact h3 he)
            have hbo4 := (HB4.out.block (B + 2) (by omega)).trans HBOR.out
            have HBO4 := Lib.hid hbo4
            have HSS4 := Lib.hid (show ∀ W, Below (B + 2) w4 W → (W.heap[B]? = some (.cells #[.int .i64 op, .slice pc cls.length capc, .slice (some ⟨bb, off, none⟩) ps.length capp] 33) ∧ W.cell? ⟨bb, off + m * 3, none⟩ = some x ∧ W.cell? ⟨bb, off + m * 3 + 1, none⟩ = some y ∧ W.cell? ⟨bb, off + m * 3 + 2, none⟩ = some z) from
              fun W hW => by
                have hall : Below (B + 2) wr W := (HB4.out.mono (by omega)).trans hW
                obtain ⟨q0, q1, q2, q3⟩ := HSS.out wr (Below.refl _ _)
                exact ⟨(hall.block B (by omega)).trans q0, cell_below hall (by omega) q1, cell_below hall (by omega) q2, cell_below hall (by omega) q3⟩)
            have x2 := (cells3 hbo4).2.2
            have f2 := fz_at hbo4 2
            clear hown4 hg4 hlie4 hl4 hbo4
            go_wp2_with fail
            refine Then.mk (HSS4.out _ (Below.refl _ _)) ?_
            apply plan_reads
            · intro W hW
              repeat (refine wpRead_step (fun K hK => ?_); go_simp; refine hK _ ?_; clear hK K)
              exact wpRead_nil rfl
            refine plan_one rfl ?_
            go_wp2_with fail
            have HFR := Lib.hid (Fr.setCell (F := fun k => k = B + 2) w4 (p := ⟨B + 2, 2, none⟩) rfl (.slice p4 (nq + 1) c4))
            have HBE := Lib.hid (HFR.out.below (B := B + 2) (by have := at_lt HBO4.out; omega) (fun k hk => Nat.le_of_eq hk.symm))
            have HBO5 := Lib.hid (blk_set HBO4.out 2 (.slice p4 (nq + 1) c4))
            refine Then.mk (HSS4.out _ HBE.out) ?_
            refine plan_done ?_
            clear x2 f2
            go_wp2_with fail
            go_roundw
            case rel =>
              refine ⟨m, .slice p4 (nq + 1) c4, congrArg (Value.int .i64) (by omega), by omega, ?_, ?_, HBO5.out, ?_, ?_⟩
              · exact (HSS4.out _ HBE.out).1
              · exact (HBE.out.block (B + 1) (by omega)).trans ((HB4.out.block (B + 1) (by omega)).trans HBRR.out)
              · refine (HOW4.out.fr HFR.out (fun k hk he => by have := (HOW4.out.lt k hk).1; omega)).mono fun x r hx => ?_
                obtain ⟨u0, u1, u2, rfl, hu⟩ := hx
                refine ⟨u0, u1, u2, rfl, NodeF.mono (fun k hk => ?_) _ (hu.fr HFR.out (fun k hk he => ?_))⟩
                · rcases hk with h | ⟨h, h2, h3⟩
                  · exact .inl h
                  · exact .inr ⟨h, Nat.lt_of_lt_of_le h2 HFR.out.size, h3⟩
                · rcases hk with h | ⟨h, h2, h3⟩
                  · have h8 := HF.out k h
                    have h10 := HB.out
                    omega
                  · omega
              · exact HBWR.out.trans (((HB4.out.mono (by have := HB.out; omega)).trans (HBE.out.mono (by have := HB.out; omega))))
            case measure => simp [intOf]
          · have ha := below_alloc1 W1 (.cells #[a', b', c'] 33)
            go_wp2_with fail
            refine Then.mk (HSS.out _ (HB1.out.trans (ha.mono HB1.out.size))) ?_
            have HB2' := Lib.hid (HB1.out.trans (ha.mono HB1.out.size))
            have HAL := Lib.hid ha
            refine abs_plan fun W2 hW2 => ?_
            have HB2 := Lib.hid (show Below wr.heap.size wr W2 by rw [hW2]; exact HB2'.out)
            have HSZ2 := Lib.hid (show W1.heap.size < W2.heap.size by rw [hW2]; simp)
            have HBN := Lib.hid (show Below W1.heap.size W1 W2 by rw [hW2]; exact HAL.out)
            have HE2 := Lib.hid (show nodeE (fun k => F k ∨ (B + 3 ≤ k ∧ k < W1.heap.size ∧ (Value.slice pq nq cq).ownBlock ≠ some k)) W2 (turnR ps[m]) [a', b', c'] from ⟨a', b', c', rfl, (NodeF.mono (fun k hk => by
              have h0 := HSZ3.out
              rcases hk with h | ⟨h, h2⟩
              · exact .inl h
              · exact .inr ⟨by omega, h2, fun he => by have h3 := (HOWN.out.lt k he).2; omega⟩) _ HNT.out).below HBN.out (Nat.le_refl _)⟩)
            have HNEW := Lib.hid (show ReadL (nodeE (fun k => F k ∨ (B + 3 ≤ k ∧ k < W1.heap.size ∧ (Value.slice pq nq cq).ownBlock ≠ some k)) W2) 3 W2 (.slice (some ⟨W1.heap.size, 0, none⟩) 1 1) [turnR ps[m]] by
              have h := HE2.out
              rw [hW2] at h ⊢
              exact ReadL.one W1 _ _ _ HND.out h)
            have HOLD := Lib.hid (show OwnL (nodeE (fun k => F k ∨ (B + 3 ≤ k ∧ k < W1.heap.size ∧ (Value.slice pq nq cq).ownBlock ≠ some k)) W2) 33 3 (B + 3) W2 (.slice pq nq cq) (trnTo ps (m + 1)) from (HOWN.out.below HB2.out (Nat.le_refl _)).mono (fun x r hx => by
              obtain ⟨u0, u1, u2, rfl, hu⟩ := hx
              exact ⟨u0, u1, u2, rfl, NodeF.mono (fun k hk => by
                have h0 := HBLT.out
                rcases hk with h | ⟨h, h2, h3⟩
                · exact .inl h
                · exact .inr ⟨h, by omega, h3⟩) _ (hu.below HB2.out (Nat.le_refl _))⟩))
            clear hW2 ha
            refine plan_one rfl ?_
            have x2 := (cells3 ((HB2.out.block (B + 2) (by have := HSZ3.out; omega)).trans HBOR.out)).2.2
            go_wp2_with fail
            refine Then.mk (HSS.out _ HB2.out) ?_
            clear x2
            refine plan_one rfl ?_
            refine wpList_append_nodes rfl (.tmp 19) (.tmp 26) rfl (.slice pq nq cq) (trnTo ps (m + 1)) rfl HOLD.out (.slice (some ⟨W1.heap.size, 0, none⟩) 1 1) [turnR ps[m]] rfl HNEW.out (by have h1 := trnTo_length ps (m + 1); have h2 := HPB.out; rw [h1]; simp; omega) (by have h1 := HSZ3.out; have h2 := HB2.out.size; omega) ?_
            intro p4 c4 w4 hown4 hg4 hlie4
            have hl4 : (trnTo ps (m + 1)).length + [turnR ps[m]].length = nq + 1 := by rw [trnTo_length, HNQ.out]; rfl
            rw [hl4] at hown4 hlie4 ⊢
            have HB4 := Lib.hid (show Below (B + 3) wr w4 from (HB2.out.mono HSZ3.out).grown hg4 (by have := HB2.out.size; have := HSZ3.out; omega) (fun k hk => (HOWN.out.lt k hk).1))
            have HS4 := Lib.hid (show W2.heap.size ≤ w4.heap.size from hg4.size)
            have HOW4 := Lib.hid (show OwnL (nodeE (FF F (B + 3) w4 (.slice p4 (nq + 1) c4)) w4) 33 3 (B + 3) w4 (.slice p4 (nq + 1) c4) (trnTo ps m) by
              rw [HSTEP.out]
              refine hown4.mono fun x r hx => ?_
              obtain ⟨u0, u1, u2, rfl, hu⟩ := hx
              refine ⟨u0, u1, u2, rfl, NodeF.mono (fun k hk => ?_) _ (hu.fr (Fr.grown (F := fun k => (Value.slice pq nq cq).ownBlock = some k) hg4 (fun k h => h)) (fun k hk he => ?_))⟩
              · have h5 := HSZ2.out
                have h6 := HS4.out
                rcases hk with h | ⟨h, h2, h3⟩
                · exact .inl h
                · refine .inr ⟨h, by omega, fun he => ?_⟩
                  rcases hlie4 with h7 | h7
                  · exact h3 (h7 ▸ he)
                  · rw [he] at h7; injection h7 with h7; omega
              · rcases hk with h | ⟨h, h2, h3⟩
                · have h8 := HF.out k h
                  have h9 := (HOWN.out.lt k he).1
                  have h10 := HB.out
                  omega
                · exact h3 he)
            have hbo4 := (HB4.out.block (B + 2) (by omega)).trans HBOR.out
            have HBO4 := Lib.hid hbo4
            have HSS4 := Lib.hid (show ∀ W, Below (B + 2) w4 W → (W.heap[B]? = some (.cells #[.int .i64 op, .slice pc cls.length capc, .slice (some ⟨bb, off, none⟩) ps.length capp] 33) ∧ W.cell? ⟨bb, off + m * 3, none⟩ = some x ∧ W.cell? ⟨bb, off + m * 3 + 1, none⟩ = some y ∧ W.cell? ⟨bb, off + m * 3 + 2, none⟩ = some z) from
              fun W hW => by
                have hall : Below (B + 2) wr W := (HB4.out.mono (by omega)).trans hW
                obtain ⟨q0, q1, q2, q3⟩ := HSS.out wr (Below.refl _ _)
                exact ⟨(hall.block B (by omega)).trans q0, cell_below hall (by omega) q1, cell_below hall (by omega) q2, cell_below hall (by omega) q3⟩)
            have x2 := (cells3 hbo4).2.2
            have f2 := fz_at hbo4 2
            clear hown4 hg4 hlie4 hl4 hbo4
            go_wp2_with fail
            refine Then.mk (HSS4.out _ (Below.refl _ _)) ?_
            apply plan_reads
            · intro W hW
              repeat (refine wpRead_step (fun K hK => ?_); go_simp; refine hK _ ?_; clear hK K)
              exact wpRead_nil rfl
            refine plan_one rfl ?_
            go_wp2_with fail
            have HFR := Lib.hid (Fr.setCell (F := fun k => k = B + 2) w4 (p := ⟨B + 2, 2, none⟩) rfl (.slice p4 (nq + 1) c4))
            have HBE := Lib.hid (HFR.out.below (B := B + 2) (by have := at_lt HBO4.out; omega) (fun k hk => Nat.le_of_eq hk.symm))
            have HBO5 := Lib.hid (blk_set HBO4.out 2 (.slice p4 (nq + 1) c4))
            refine Then.mk (HSS4.out _ HBE.out) ?_
            refine plan_done ?_
            clear x2 f2
            go_wp2_with fail
            go_roundw
            case rel =>
              refine ⟨m, .slice p4 (nq + 1) c4, congrArg (Value.int .i64) (by omega), by omega, ?_, ?_, HBO5.out, ?_, ?_⟩
              · exact (HSS4.out _ HBE.out).1
              · exact (HBE.out.block (B + 1) (by omega)).trans ((HB4.out.block (B + 1) (by omega)).trans HBRR.out)
              · refine (HOW4.out.fr HFR.out (fun k hk he => by have := (HOW4.out.lt k hk).1; omega)).mono fun x r hx => ?_
                obtain ⟨u0, u1, u2, rfl, hu⟩ := hx
                refine ⟨u0, u1, u2, rfl, NodeF.mono (fun k hk => ?_) _ (hu.fr HFR.out (fun k hk he => ?_))⟩
                · rcases hk with h | ⟨h, h2, h3⟩
                  · exact .inl h
                  · exact .inr ⟨h, Nat.lt_of_lt_of_le h2 HFR.out.size, h3⟩
                · rcases hk with h | ⟨h, h2, h3⟩
                  · have h8 := HF.out k h
                    have h10 := HB.out
                    omega
                  · omega
              · exact HBWR.out.trans (((HB4.out.mono (by have := HB.out; omega)).trans (HBE.out.mono (by have := HB.out; omega))))
            case measure => simp [intOf]
      · have hk0 : k = 0 := by omega
        have hneg : ¬ (0 : Int) ≤ (k : Int) - 1 := by omega
        have hneg2 : (k : Int) - 1 < 0 := by omega
        obtain ⟨y0, y1, y2⟩ := cells3 HBOR.out
        have HK0 := Lib.hid hk0
        clear hk0 hb
        go_wp2_with (refine wpList_store_obj rfl (.tmp 2) (.tmp 29) 33 rfl (B + 1) rfl [.int .i64 op, .slice pc cls.length capc, .slice pq nq cq] rfl _ _ HBRR.out (by kernel_rfl) rfl (by simp [Value.oneCell']) ?_; intro w5 hb5 hf5)
        obtain ⟨s0, s1, s2⟩ := cells3 hb5
        have hbe : Below w.heap.size w w5 := HBWR.out.trans (hf5.below (B := w.heap.size) HBWR.out.size (fun k hk => by have := HB.out; have h : k = B + 1 := hk; omega))
        refine bodyPost_ret (v := .agg #[.int .i64 op, .slice pc cls.length capc, .slice pq nq cq]) (by simp [results, Try.results21, go_sem, s0, s1, s2]) rfl ⟨_, _, _, rfl, ?_, hbe⟩
        rw [turnR_mk, nodeF_iff]
        have hown := HOWN.out
        rw [HK0.out] at hown
        have hlen : (trnTo ps 0).length = ps.length := by rw [trnTo_length]; rfl
        have hE : OwnL (nodeE (fun k => F k ∨ w.heap.size ≤ k) w5) 33 3 (B + 3) w5 (.slice pq nq cq) (trnTo ps 0) := (hown.fr hf5 (fun k hk he => by have h1 := (hown.lt k hk).1; have h : k = B + 1 := he; omega)).mono fun x r hx => by
          obtain ⟨u0, u1, u2, rfl, hu⟩ := hx
          refine ⟨u0, u1, u2, rfl, NodeF.mono (fun k hk => ?_) _ (hu.fr hf5 (fun k hk he => ?_))⟩
          · rcases hk with h | ⟨h, h2, h3⟩
            · exact .inl h
            · exact .inr (by have := HB.out; omega)
          · have he' : k = B + 1 := he
            rcases hk with h | ⟨h, h2, h3⟩
            · have h8 := HF.out k h
              have h10 := HB.out
              omega
            · omega
        refine ⟨rfl, HCL.out.to hbe (Nat.le_refl _), HCF.out.mono (fun k h => .inl h), HCB.out, by have := HPB.out; simp; omega, ?_⟩
        have hlies : Lies (fun k => F k ∨ w.heap.size ≤ k) (.slice pq nq cq) (trnTo ps 0).length := fun _ k hk => .inr (by have h1 := (hE.lt k hk).1; have := HB.out; omega)
        exact hE.read.nodesF hlies

theorem turn_any : ∀ (x : Nd), TurnAt x
  | .mk op cls ps => turn_step op cls ps (fun x hx => turn_any x)
  termination_by x => SizeOf.sizeOf x
  decreasing_by
    have := List.sizeOf_lt_of_mem hx
    simp; omega
end Go.Proofs.Ytphgjppeindbaaa
