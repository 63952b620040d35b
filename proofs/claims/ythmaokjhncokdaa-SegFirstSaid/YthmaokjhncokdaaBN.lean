import Derived.Test.YthmaokjhncokdaaB2
import Derived.Test.YthmaokjhncokdaaB5
/-
  Reverse of the reference. No condition beyond what each theorem names.
-/
set_option linter.unusedVariables false
set_option linter.unusedSimpArgs false
namespace Go.Proofs.Ythmaokjhncokdaa
open Go.RowKit

/-- the parts so far, as they stand in the answer -/
def outL (op : Int) (l : List Nd) : List Nd := if op = 2 then l.reverse else l
theorem outL_length (op : Int) (l : List Nd) : (outL op l).length = l.length := by unfold outL; split <;> simp
theorem outL_nil (op : Int) : outL op [] = [] := by unfold outL; split <;> rfl
theorem outL_2 (l : List Nd) (x : Nd) : outL 2 (l ++ [x]) = [x] ++ outL 2 l := by simp [outL]
theorem outL_no {op : Int} (h : op ≠ 2) (l : List Nd) : outL op l = l := by simp [outL, h]
theorem revX_out (op : Int) (cls : List Int) (ps : List Nd) : revX (.mk op cls ps) = .mk op cls (outL op (revL ps)) := by rw [revX, outL]

/-- one element of one's own, in a new block -/
theorem OwnL.one {α : Type} {E : α → List Value → Prop} {sz base : Nat} (w : World) (T : TypeId) (x : α) (row : List Value) (hb : base ≤ w.heap.size) (h1 : row.length = sz ∧ ∀ u ∈ row, u.oneCell' = true) (h2 : E x row) : OwnL E T sz base (w.alloc (.cells row.toArray T)) (.slice (some ⟨w.heap.size, 0, none⟩) 1 1) [x] :=
  ⟨[row], ⟨by simp [h1.1], .inr ⟨w.heap.size, 1, row.toArray, rfl, hb, heap_alloc_new w _, Nat.le_refl _, by unfold maxLen; omega, by simp [h1.1], by simp [← h1.1]⟩⟩, rfl, fun r hr => by rw [List.mem_singleton.1 hr]; exact h1, fun i hi => by
    obtain rfl : i = 0 := by simpa using hi
    exact ⟨row, rfl, h2⟩⟩

section
variable {ops : Array Oper} {rest : List Oper} {o : Oper} {a : Act} {w : World} {Q : Exit → Act → World → Prop} {base : Nat}
theorem wpList_append_none (hgd : o.guard = none) (s x : Operand) (ho : o.op = .call { callee := .builtin .append, args := #[s, x], argTypes := #[46, 46] })
    (v : Value) (hs : a.eval s = v) (hown : OwnL intE 3 1 base w v []) (xv : Value) (ns : List Int) (hx : a.eval x = xv) (hr : ReadL intE 1 w xv ns) (hlen : ns.length * 8 ≤ 140737488355328) (hbase : base ≤ w.heap.size)
    (h : ∀ p c w', OwnL intE 3 1 base w' (.slice p ns.length c) ns → w.grownBy w' v.ownBlock → ((Value.slice p ns.length c).ownBlock = v.ownBlock ∨ (Value.slice p ns.length c).ownBlock = some w.heap.size) → wpList Try.prog ops Q rest (a.put o.dst (.slice p ns.length c)) w') : wpList Try.prog ops Q (o :: rest) a w := by
  obtain ⟨i0, hi, hz0, hz1, hz2⟩ := info_parts infoInt
  have e : ([] : List Int).length + ns.length = ns.length := by simp
  refine wpList_append_L hgd s x 46 ho i0 _ 8 Try.underlying46 hi hz0 hz1 hz2 rfl (by decide) v [] hs hown xv ns hx hr (by unfold maxLen; omega) (by omega) hbase ?_
  rw [e]
  exact h
end

def RRevAt (x : Nd) : Prop := ∀ (w : World) (a b c : Value), NodeIs w x a b c →
    Calls Try.prog 35 #[.agg #[a, b, c]] w fun e w' => ∃ a' b' c', e = .returned (.agg #[a', b', c']) ∧ NodeF (fun k => w.heap.size ≤ k) w' (revX x) a' b' c' ∧ Below w.heap.size w w'

set_option maxRecDepth 100000 in
set_option maxHeartbeats 8000000 in
theorem rrev_step (op : Int) (cls : List Int) (ps : List Nd) (ih : ∀ x ∈ ps, RRevAt x) : RRevAt (.mk op cls ps) := by
  intro w a b c hx
  have IH := Lib.hid ih
  rw [nodeIs_iff] at hx
  obtain ⟨rfl, hcl, hcb, hpb, hps⟩ := hx
  obtain ⟨pc, capc, rfl, hcc, -⟩ := hcl.get
  obtain ⟨pp, capp, rfl, hcp, hxp⟩ := hps.get
  have HCL := Lib.hid hcl
  have HPB := Lib.hid hpb
  have HCB := Lib.hid hcb
  unfold R at hcb hpb
  have HXP := Lib.hid hxp
  clear hcl hps hxp ih
  go_enter Try.func35, Try.ntmps35
  go_upto_region 1 with fail
  refine abs_wp fun W hW => ?_
  obtain ⟨B, hB⟩ : ∃ B, B = w.heap.size := ⟨_, rfl⟩
  have hbx : W.heap[B]? = some (.cells #[.int .i64 op, .slice pc cls.length capc, .slice pp ps.length capp] 52) := by rw [hW, hB, heap_alloc_old _ _ (by simp)]; exact heap_alloc_new _ _
  have hbr : W.heap[B + 1]? = some (.cells #[.int .i64 0, .slice none 0 0, .slice none 0 0] 52) := by rw [hW, hB]; exact heap_alloc2_new _ _ _
  have hbW : Below w.heap.size w W := by rw [hW]; exact (below_alloc1 w _).alloc (by simp) _
  rw [← hB]
  have HB := Lib.hid hB
  have HBX := Lib.hid hbx
  have HBR := Lib.hid hbr
  have HBW := Lib.hid hbW
  clear hW hbx hbr hbW hB
  have HOUT := Lib.hid (show ∀ (O : Nat) (cv : Value) (W' w2 : World), Below W.heap.size W W' → W.heap.size ≤ O → W'.heap[O]? = some (.cells #[.int .i64 0, .slice none 0 0, .slice none 0 0] 52) → OwnL intE 3 1 w.heap.size W' cv cls →
      w2.heap[O]? = some (.cells #[.int .i64 op, cv, .slice none 0 0] 52) → Fr (fun k => k = O) W' w2 → OutAt w B (B + 1) #[.int .i64 op, .slice pc cls.length capc, .slice pp ps.length capp] op cls (.pointer (some ⟨O, 0, none⟩)) w2 from fun O cv W' w2 k1 k2 k3 k4 k5 k6 => by
    have h1 : Below W.heap.size W w2 := k1.trans (k6.below k1.size (fun k hk => by have hk : k = O := hk; omega))
    exact ⟨O, cv, rfl, by have := at_lt HBR.out; omega, (h1.block _ (at_lt HBX.out)).trans HBX.out, (h1.block _ (at_lt HBR.out)).trans HBR.out, k5, k4.fr k6 (fun q hq he => k4.notAt k3 (by decide) (by have he : q = O := he; rw [hq, he])), HBW.out.trans (h1.mono HBW.out.size)⟩)
  go_cut [3] (fun o W1 => OutAt w B (B + 1) #[.int .i64 op, .slice pc cls.length capc, .slice pp ps.length capp] op cls o W1)
  case first =>
    have HSS := Lib.hid (show ∀ W', Below W.heap.size W W' → W'.heap[B]? = some (.cells #[.int .i64 op, .slice pc cls.length capc, .slice pp ps.length capp] 52) from fun W' h => (h.block B (at_lt HBX.out)).trans HBX.out)
    refine wp_region_fin 8 (fun W' => W'.heap[B]? = some (.cells #[.int .i64 op, .slice pc cls.length capc, .slice pp ps.length capp] 52)) (.reads [0, 1, 3, 4] (.two 2 (.two 5 (.reads [6] (.one 7 (.last 8))) 7 (.one 5 (.reads [6] (.last 8)))) 7 (.one 2 (.one 5 (.reads [6] (.last 8)))))) 42 (by kernel_rfl) (by kernel_rfl) rfl (fun _ _ _ _ _ h => h) (HSS.out _ (Below.refl _ _).drew) ?_
    apply plan_reads
    · intro W' hW'
      obtain ⟨s0, s1, s2⟩ := cells3 hW'
      repeat (refine wpRead_step (fun K hK => ?_); go_simp; refine hK _ ?_; clear hK K)
      exact wpRead_nil rfl
    refine abs_plan fun W0 hW0 => ?_
    have HB0 := Lib.hid (show Below W.heap.size W W0 by rw [hW0]; exact (Below.refl _ _).drew)
    clear hW0
    refine plan_two rfl rfl ?_ ?_
    · have ha := below_alloc1 W0 (.cells #[] 3)
      go_wp2_with fail
      refine Then.mk (HSS.out _ (HB0.out.trans (ha.mono HB0.out.size))) ?_
      refine abs_plan fun W1 hW1 => ?_
      have HE1 := Lib.hid (show OwnL intE 3 1 w.heap.size W1 (.slice (some ⟨W0.heap.size, 0, none⟩) 0 0) [] by rw [hW1]; exact OwnL.made W0 (Nat.le_trans HBW.out.size HB0.out.size))
      have HB1 := Lib.hid (show Below W.heap.size W W1 by rw [hW1]; exact HB0.out.trans (ha.mono HB0.out.size))
      have HS1 := Lib.hid (show W0.heap.size < W1.heap.size by rw [hW1]; simp)
      clear hW1 ha
      refine plan_two rfl rfl ?_ ?_
      · -- 5
        refine wpList_append_none rfl (.tmp 8) (.tmp 10) rfl (.slice (some ⟨W0.heap.size, 0, none⟩) 0 0) rfl HE1.out (.slice pc cls.length capc) cls rfl ((HCL.out.to HBW.out (Nat.le_refl _)).to HB1.out (Nat.le_refl _)).readL (by have := HCB.out; unfold R at this; omega) (Nat.le_trans HBW.out.size HB1.out.size) ?_
        intro p1 c1 W2 hown hg hlie
        have HOW2 := Lib.hid hown
        have HF2 := Lib.hid (Fr.grown (F := fun q => q = W0.heap.size) hg (fun q h => by injection h with h; exact h.symm))
        clear hown hg hlie
        have HB2 := Lib.hid (show Below W.heap.size W W2 from HB1.out.trans (HF2.out.below HB1.out.size (fun q hq => by have hq : q = W0.heap.size := hq; have := HB0.out.size; omega)))
        go_wp2_with fail
        refine Then.mk (HSS.out _ HB2.out) ?_
        apply plan_reads
        · intro W' hW'
          repeat (refine wpRead_step (fun K hK => ?_); go_simp; refine hK _ ?_; clear hK K)
          exact wpRead_nil rfl
        refine plan_one rfl ?_
        have ha := below_alloc1 W2 (.cells #[.int .i64 0, .slice none 0 0, .slice none 0 0] 52)
        go_wp2_with fail
        refine Then.mk (HSS.out _ (HB2.out.trans (ha.mono HB2.out.size))) ?_
        refine plan_last rfl ?_
        refine wpList_store_obj rfl (.tmp 3) (.tmp 12) 52 rfl W2.heap.size rfl [.int .i64 op, .slice p1 cls.length c1, .slice none 0 0] rfl _ _ (heap_alloc_new _ _) (by kernel_rfl) rfl (by simp [Value.oneCell']) ?_
        intro w2 hb2 hf2
        have HREL := Lib.hid (HOUT.out W2.heap.size (.slice p1 cls.length c1) _ w2 (HB2.out.trans (ha.mono HB2.out.size)) HB2.out.size (heap_alloc_new _ _) (HOW2.out.below ha (Nat.le_refl _)) hb2 hf2)
        clear hb2 hf2
        go_wp2_with fail
        go_meet
        case rel => exact HREL.out
      · have ha := below_alloc1 W1 (.cells #[.int .i64 0, .slice none 0 0, .slice none 0 0] 52)
        go_wp2_with fail
        refine Then.mk (HSS.out _ (HB1.out.trans (ha.mono HB1.out.size))) ?_
        refine abs_plan fun W2 hW2 => ?_
        have HO2 := Lib.hid (show W2.heap[W1.heap.size]? = some (.cells #[.int .i64 0, .slice none 0 0, .slice none 0 0] 52) by rw [hW2]; exact heap_alloc_new _ _)
        have HE2 := Lib.hid (show OwnL intE 3 1 w.heap.size W2 (.slice (some ⟨W0.heap.size, 0, none⟩) 0 0) [] by rw [hW2]; exact HE1.out.below ha (Nat.le_refl _))
        have HB2 := Lib.hid (show Below W.heap.size W W2 by rw [hW2]; exact HB1.out.trans (ha.mono HB1.out.size))
        clear hW2 ha
        refine plan_one rfl ?_
        refine wpList_append_none rfl (.tmp 8) (.tmp 10) rfl (.slice (some ⟨W0.heap.size, 0, none⟩) 0 0) rfl HE2.out (.slice pc cls.length capc) cls rfl ((HCL.out.to HBW.out (Nat.le_refl _)).to HB2.out (Nat.le_refl _)).readL (by have := HCB.out; unfold R at this; omega) (Nat.le_trans HBW.out.size HB2.out.size) ?_
        intro p1 c1 W3 hown hg hlie
        have HOW3 := Lib.hid hown
        have HF3 := Lib.hid (Fr.grown (F := fun q => q = W0.heap.size) hg (fun q h => by injection h with h; exact h.symm))
        clear hown hg hlie
        have HB3 := Lib.hid (show Below W.heap.size W W3 from HB2.out.trans (HF3.out.below HB2.out.size (fun q hq => by have hq : q = W0.heap.size := hq; have := HB0.out.size; omega)))
        have HO3 := Lib.hid ((HF3.out.block _ (at_lt HO2.out) (fun hq => by have hq : W1.heap.size = W0.heap.size := hq; have := HS1.out; omega)).trans HO2.out)
        go_wp2_with fail
        refine Then.mk (HSS.out _ HB3.out) ?_
        apply plan_reads
        · intro W' hW'
          repeat (refine wpRead_step (fun K hK => ?_); go_simp; refine hK _ ?_; clear hK K)
          exact wpRead_nil rfl
        refine plan_last rfl ?_
        refine wpList_store_obj rfl (.tmp 3) (.tmp 12) 52 rfl W1.heap.size rfl [.int .i64 op, .slice p1 cls.length c1, .slice none 0 0] rfl _ _ HO3.out (by kernel_rfl) rfl (by simp [Value.oneCell']) ?_
        intro w2 hb2 hf2
        have HREL := Lib.hid (HOUT.out W1.heap.size (.slice p1 cls.length c1) _ w2 HB3.out HB1.out.size HO3.out HOW3.out hb2 hf2)
        clear hb2 hf2
        go_wp2_with fail
        go_meet
        case rel => exact HREL.out
    · have ha := below_alloc1 W0 (.cells #[.int .i64 0, .slice none 0 0, .slice none 0 0] 52)
      go_wp2_with fail
      refine Then.mk (HSS.out _ (HB0.out.trans (ha.mono HB0.out.size))) ?_
      refine abs_plan fun W1 hW1 => ?_
      have HO1 := Lib.hid (show W1.heap[W0.heap.size]? = some (.cells #[.int .i64 0, .slice none 0 0, .slice none 0 0] 52) by rw [hW1]; exact heap_alloc_new _ _)
      have HB1 := Lib.hid (show Below W.heap.size W W1 by rw [hW1]; exact HB0.out.trans (ha.mono HB0.out.size))
      have HS1 := Lib.hid (show W0.heap.size < W1.heap.size by rw [hW1]; simp)
      clear hW1 ha
      refine plan_one rfl ?_
      have ha := below_alloc1 W1 (.cells #[] 3)
      go_wp2_with fail
      refine Then.mk (HSS.out _ (HB1.out.trans (ha.mono HB1.out.size))) ?_
      refine abs_plan fun W2 hW2 => ?_
      have HE2 := Lib.hid (show OwnL intE 3 1 w.heap.size W2 (.slice (some ⟨W1.heap.size, 0, none⟩) 0 0) [] by rw [hW2]; exact OwnL.made W1 (Nat.le_trans HBW.out.size HB1.out.size))
      have HX2 := Lib.hid (show Below W1.heap.size W1 W2 by rw [hW2]; exact ha)
      have HB2 := Lib.hid (show Below W.heap.size W W2 by rw [hW2]; exact HB1.out.trans (ha.mono HB1.out.size))
      have HS2 := Lib.hid (show W1.heap.size < W2.heap.size by rw [hW2]; simp)
      clear hW2 ha
      have HO2 := Lib.hid (show W2.heap[W0.heap.size]? = some (.cells #[.int .i64 0, .slice none 0 0, .slice none 0 0] 52) from (HX2.out.block _ (at_lt HO1.out)).trans HO1.out)
      refine plan_one rfl ?_
      refine wpList_append_none rfl (.tmp 8) (.tmp 10) rfl (.slice (some ⟨W1.heap.size, 0, none⟩) 0 0) rfl HE2.out (.slice pc cls.length capc) cls rfl ((HCL.out.to HBW.out (Nat.le_refl _)).to HB2.out (Nat.le_refl _)).readL (by have := HCB.out; unfold R at this; omega) (Nat.le_trans HBW.out.size HB2.out.size) ?_
      intro p1 c1 W3 hown hg hlie
      have HOW3 := Lib.hid hown
      have HF3 := Lib.hid (Fr.grown (F := fun q => q = W1.heap.size) hg (fun q h => by injection h with h; exact h.symm))
      clear hown hg hlie
      have HB3 := Lib.hid (show Below W.heap.size W W3 from HB2.out.trans (HF3.out.below HB2.out.size (fun q hq => by have hq : q = W1.heap.size := hq; have := HB1.out.size; omega)))
      have HO3 := Lib.hid ((HF3.out.block _ (at_lt HO2.out) (fun hq => by have hq : W0.heap.size = W1.heap.size := hq; have := HS1.out; omega)).trans HO2.out)
      go_wp2_with fail
      refine Then.mk (HSS.out _ HB3.out) ?_
      apply plan_reads
      · intro W' hW'
        repeat (refine wpRead_step (fun K hK => ?_); go_simp; refine hK _ ?_; clear hK K)
        exact wpRead_nil rfl
      refine plan_last rfl ?_
      refine wpList_store_obj rfl (.tmp 3) (.tmp 12) 52 rfl W0.heap.size rfl [.int .i64 op, .slice p1 cls.length c1, .slice none 0 0] rfl _ _ HO3.out (by kernel_rfl) rfl (by simp [Value.oneCell']) ?_
      intro w2 hb2 hf2
      have HREL := Lib.hid (HOUT.out W0.heap.size (.slice p1 cls.length c1) _ w2 HB3.out HB0.out.size HO3.out HOW3.out hb2 hf2)
      clear hb2 hf2
      go_wp2_with fail
      go_meet
      case rel => exact HREL.out
  case rest =>
    obtain ⟨O, cv, rfl, hRO, hbx, hbr, hbo, hcv, hb⟩ := hcut
    have HBXW := Lib.hid hbx
    have HBRW := Lib.hid hbr
    have HBOW := Lib.hid hbo
    have HCVW := Lib.hid hcv
    have HBWW := Lib.hid hb
    obtain ⟨pq0, cq0, hcv0⟩ := hcv.form
    subst hcv0
    obtain ⟨x0, x1, x2⟩ := cells3 hbx
    clear hbx hbr hbo hcv hb
    go_wp2_with fail
    go_loopw [4] (fun i wr => ∃ (k : Nat) (pv : Value), i = .int .i64 k ∧ k ≤ ps.length ∧ wr.heap[B]? = some (.cells #[.int .i64 op, .slice pc cls.length capc, .slice pp ps.length capp] 52) ∧ wr.heap[B + 1]? = some (.cells #[.int .i64 0, .slice none 0 0, .slice none 0 0] 52) ∧ wr.heap[O]? = some (.cells #[.int .i64 op, .slice pq0 cls.length cq0, pv] 52) ∧
      OwnL (nodeE (FE w.heap.size O (B + 1) wr pv) wr) 52 3 w.heap.size wr pv (outL op (revL (ps.take k))) ∧ (∀ q, pv.ownBlock = some q → q ≠ O ∧ q ≠ B + 1 ∧ q ≠ B) ∧ OwnL intE 3 1 w.heap.size wr (.slice pq0 cls.length cq0) cls ∧ Below w.heap.size w wr) (fun i _ => ps.length - (intOf i).toNat)
    case atStart => exact ⟨0, .slice none 0 0, rfl, by omega, HBXW.out, HBRW.out, HBOW.out, by rw [List.take_zero, revL, outL_nil]; exact OwnL.nil _, (fun q hq => by cases hq), HCVW.out, HBWW.out⟩
    case round =>
      obtain ⟨k, pv, rfl, h1, hbx, hbr, hbo, hown, hpne, hcv, hb⟩ := hrel
      have HBXR := Lib.hid hbx
      have HBRR := Lib.hid hbr
      have HBOR := Lib.hid hbo
      have HOWN := Lib.hid hown
      have HPNE := Lib.hid hpne
      have HCVR := Lib.hid hcv
      have HBR' := Lib.hid hb
      obtain ⟨pq, cq, rfl⟩ := hown.form
      have hll : (outL op (revL (ps.take k))).length = k := by rw [outL_length, revL_length, List.length_take]; omega
      rw [hll] at HBOR HOWN HPNE
      have HLL := Lib.hid hll
      have hbsz := hb.size
      obtain ⟨x0, x1, x2⟩ := cells3 HBXR.out
      clear hbx hbr hbo hown hpne hcv hll
      by_cases hk : k < ps.length
      · obtain ⟨bb, off, rfl, hbl, hxx⟩ := HXP.out (by omega)
        obtain ⟨x, y, z, c0, c1, c2, hnode⟩ := hxx k hk
        have r0 := cell_below hb hbl c0
        have r1 := cell_below hb hbl c1
        have r2 := cell_below hb hbl c2
        have HIH := Lib.hid (IH.out ps[k] (List.getElem_mem hk) wr x y z (hnode.to hb (Nat.le_refl _)))
        have HSTEP := Lib.hid (revL_snoc hk)
        have hkk : (k : Int) < ps.length := by omega
        have hk0 : (0 : Int) ≤ k := by omega
        clear hxx c0 c1 c2 hnode hb
        go_wp2_with fail
        refine HIH.out.mono ?_
        rintro e W1 ⟨a', b', c', rfl, hnt, hb1⟩
        obtain ⟨o1, p1, l1, d1, q1, m1, e1, rfl, rfl, rfl⟩ := hnt.is.form
        have HNT := Lib.hid hnt.lt
        have HB1 := Lib.hid hb1
        have HND := Lib.hid (nodeE.cells (F := fun k => wr.heap.size ≤ k) ⟨_, _, _, rfl, hnt⟩)
        clear hnt hb1 r0 r1 r2
        go_upto_region 6 with fail
        refine abs_wp fun W2 hW2 => ?_
        have HB2 := Lib.hid (show Below W1.heap.size W1 W2 by rw [hW2]; exact below_alloc1 _ _)
        have hb2 : W2.heap[W1.heap.size]? = some (.cells #[.int .i64 o1, .slice p1 l1 d1, .slice q1 m1 e1] 52) := by rw [hW2]; exact heap_alloc_new _ _
        clear hW2
        have HBR2 := Lib.hid (show Below wr.heap.size wr W2 from HB1.out.trans (HB2.out.mono HB1.out.size))
        have HG := Lib.hid (show ∀ q, (wr.heap.size ≤ q ∧ q < W1.heap.size) → (w.heap.size ≤ q ∧ q < W1.heap.size ∧ (Value.slice pq k cq).ownBlock ≠ some q ∧ q ≠ O ∧ q ≠ B + 1) from fun q hq => by
          have h3 := at_lt HBOR.out
          have h4 := at_lt HBRR.out
          exact ⟨by omega, hq.2, (fun he => by have h3 := (HOWN.out.lt q he).2; omega), by omega, by omega⟩)
        clear x0 x1 x2
        obtain ⟨x0, x1, x2⟩ := cells3 ((HBR2.out.block B (at_lt HBXR.out)).trans HBXR.out)
        obtain ⟨y0, y1, y2⟩ := cells3 ((HBR2.out.block O (at_lt HBOR.out)).trans HBOR.out)
        obtain ⟨t0, t1, t2⟩ := cells3 hb2
        clear hb2
        by_cases h2 : op = 2
        · subst h2
          have y3 : ∀ o, (W2.alloc o).cell? ⟨O, 2, none⟩ = some (.slice pq k cq) := fun o => by rw [World.cell?_alloc_lt _ _ _ (World.block_lt_of_cell? W2 _ y2)]; exact y2
          go_wp2_with (refine stop_at (.call { callee := .builtin .append, args := #[.tmp 30, .tmp 32], argTypes := #[50, 50] }) rfl ?_)
          refine ⟨?_⟩
          clear y3
          clear x0 x1 x2 y0 y1 y2 t0 t1 t2
          refine abs_list fun W3 hW3 => ?_
          have ha3 := below_alloc1 W2 (.cells #[.int .i64 o1, .slice p1 l1 d1, .slice q1 m1 e1] 52)
          have HB3 := Lib.hid (show Below W2.heap.size W2 W3 by rw [hW3]; exact ha3)
          have HSZ3 := Lib.hid (show W2.heap.size < W3.heap.size by rw [hW3]; simp)
          have HBR3 := Lib.hid (show Below wr.heap.size wr W3 from HBR2.out.trans (HB3.out.mono HBR2.out.size))
          have HE2 := Lib.hid (show nodeE (fun q => w.heap.size ≤ q ∧ q < W1.heap.size ∧ (Value.slice pq k cq).ownBlock ≠ some q ∧ q ≠ O ∧ q ≠ B + 1) W2 (revX ps[k]) [.int .i64 o1, .slice p1 l1 d1, .slice q1 m1 e1] from ⟨_, _, _, rfl, (NodeF.mono HG.out _ HNT.out).below HB2.out (Nat.le_refl _)⟩)
          have HE3 := Lib.hid (show nodeE (fun q => w.heap.size ≤ q ∧ q < W1.heap.size ∧ (Value.slice pq k cq).ownBlock ≠ some q ∧ q ≠ O ∧ q ≠ B + 1) W3 (revX ps[k]) [.int .i64 o1, .slice p1 l1 d1, .slice q1 m1 e1] from ⟨_, _, _, rfl, (NodeF.mono HG.out _ HNT.out).below (HB2.out.trans (HB3.out.mono HB2.out.size)) (Nat.le_refl _)⟩)
          have HOLD := Lib.hid (show OwnL (nodeE (fun q => w.heap.size ≤ q ∧ q < W1.heap.size ∧ (Value.slice pq k cq).ownBlock ≠ some q ∧ q ≠ O ∧ q ≠ B + 1) W3) 52 3 w.heap.size W3 (.slice pq k cq) (outL 2 (revL (ps.take k))) from (HOWN.out.below HBR3.out (Nat.le_refl _)).mono (fun x r hx => by
            obtain ⟨u0, u1, u2, rfl, hu⟩ := hx
            exact ⟨u0, u1, u2, rfl, NodeF.mono (fun q hq => by
              have h0 := HB1.out.size
              obtain ⟨g1, g2, g3, g4, g5⟩ := hq
              exact ⟨g1, by omega, g3, g4, g5⟩) _ (hu.below HBR3.out (Nat.le_refl _))⟩))
          have HNEW := Lib.hid (show OwnL (nodeE (fun q => w.heap.size ≤ q ∧ q < W1.heap.size ∧ (Value.slice pq k cq).ownBlock ≠ some q ∧ q ≠ O ∧ q ≠ B + 1) W3) 52 3 w.heap.size W3 (.slice (some ⟨W2.heap.size, 0, none⟩) 1 1) [revX ps[k]] by
            have h := HE3.out
            rw [hW3] at h ⊢
            exact OwnL.one W2 _ _ _ (Nat.le_trans hbsz HBR2.out.size) HND.out h)
          have HBO3 := Lib.hid ((HBR3.out.block O (at_lt HBOR.out)).trans HBOR.out)
          clear hW3 ha3
          refine wpList_append_nodes rfl (.tmp 30) (.tmp 32) rfl (.slice (some ⟨W2.heap.size, 0, none⟩) 1 1) [revX ps[k]] rfl HNEW.out (.slice pq k cq) (outL 2 (revL (ps.take k))) rfl HOLD.out.read (by have h2 := HPB.out; have h3 := HLL.out; rw [h3]; simp; omega) (Nat.le_trans hbsz HBR3.out.size) ?_
          intro p4 c4 w4 hown4 hg4 hlie4
          have hl4 : [revX ps[k]].length + (outL 2 (revL (ps.take k))).length = k + 1 := by rw [HLL.out]; simp; omega
          rw [hl4] at hown4 hlie4 ⊢
          have HF4 := Lib.hid (Fr.grown (F := fun q => q = W2.heap.size) hg4 (fun q h => by injection h with h; exact h.symm))
          have HS4 := Lib.hid (show W3.heap.size ≤ w4.heap.size from hg4.size)
          have HLI := Lib.hid (show ∀ q, (Value.slice p4 (k + 1) c4).ownBlock = some q → W2.heap.size ≤ q from fun q hq => by
            rcases hlie4 with h7 | h7
            · have h8 : some q = some W2.heap.size := hq.symm.trans h7
              have h9 : q = W2.heap.size := Option.some.inj h8
              omega
            · have h8 : some q = some W3.heap.size := hq.symm.trans h7
              have h9 : q = W3.heap.size := Option.some.inj h8
              have := HSZ3.out
              omega)
          have HPN4 := Lib.hid (show ∀ q, (Value.slice p4 (k + 1) c4).ownBlock = some q → q ≠ O ∧ q ≠ B + 1 ∧ q ≠ B from fun q hq => by
            have h1 := HLI.out q hq
            have h2 := at_lt HBOR.out
            have h3 := at_lt HBXR.out
            have h4 := at_lt HBRR.out
            have h5 := HBR2.out.size
            omega)
          have HOW4 := Lib.hid (show OwnL (nodeE (FE w.heap.size O (B + 1) w4 (.slice p4 (k + 1) c4)) w4) 52 3 w.heap.size w4 (.slice p4 (k + 1) c4) (outL 2 (revL (ps.take (k + 1)))) by
            rw [HSTEP.out, outL_2]
            refine hown4.mono fun x r hx => ?_
            obtain ⟨u0, u1, u2, rfl, hu⟩ := hx
            refine ⟨u0, u1, u2, rfl, NodeF.mono (fun q hq => ?_) _ (hu.fr HF4.out (fun q hq he => by have he : q = W2.heap.size := he; have := HB2.out.size; have := hq.2.1; omega))⟩
            obtain ⟨g1, g2, g3, g4, g5⟩ := hq
            have h5 := HSZ3.out
            have h6 := HS4.out
            have h7' := HB2.out.size
            refine ⟨g1, by omega, fun he => ?_, g4, g5⟩
            have := HLI.out q he
            omega)
          have HBO4 := Lib.hid ((HF4.out.block O (Nat.lt_of_lt_of_le (at_lt HBOR.out) HBR3.out.size) (fun he => by have he : O = W2.heap.size := he; have := at_lt HBOR.out; have := HBR2.out.size; omega)).trans ((HBR3.out.block O (at_lt HBOR.out)).trans HBOR.out))
          have HBX4 := Lib.hid ((HF4.out.block B (Nat.lt_of_lt_of_le (at_lt HBXR.out) HBR3.out.size) (fun he => by have he : B = W2.heap.size := he; have := at_lt HBXR.out; have := HBR2.out.size; omega)).trans ((HBR3.out.block B (at_lt HBXR.out)).trans HBXR.out))
          have HBR4 := Lib.hid ((HF4.out.block (B + 1) (Nat.lt_of_lt_of_le (at_lt HBRR.out) HBR3.out.size) (fun he => by have he : B + 1 = W2.heap.size := he; have := at_lt HBRR.out; have := HBR2.out.size; omega)).trans ((HBR3.out.block (B + 1) (at_lt HBRR.out)).trans HBRR.out))
          have HCV4 := Lib.hid ((HCVR.out.below HBR3.out (Nat.le_refl _)).fr HF4.out (fun q hq he => by have he : q = W2.heap.size := he; have := (HCVR.out.lt q hq).2; have := HBR2.out.size; omega))
          have HBB4 := Lib.hid (show Below w.heap.size wr w4 from (HBR3.out.mono hbsz).trans (HF4.out.below (Nat.le_trans hbsz HBR3.out.size) (fun q hq => by have hq : q = W2.heap.size := hq; have := HBR2.out.size; omega)))
          have f2 := fz_at HBO4.out 2
          have y2 := (cells3 HBO4.out).2.2
          clear hown4 hg4 hlie4 hl4
          go_wp2_with fail
          have HFR := Lib.hid (Fr.setCell (F := fun q => q = O) w4 (p := ⟨O, 2, none⟩) rfl (.slice p4 (k + 1) c4))
          have HBO5 := Lib.hid (blk_set HBO4.out 2 (.slice p4 (k + 1) c4))
          have HNB := Lib.hid (show B ≠ O ∧ B + 1 ≠ O by omega)
          clear y2 f2
          go_roundw
          case rel =>
            refine ⟨k + 1, .slice p4 (k + 1) c4, by go_num, by omega, (HFR.out.block B (at_lt HBX4.out) HNB.out.1).trans HBX4.out, (HFR.out.block (B + 1) (at_lt HBR4.out) HNB.out.2).trans HBR4.out, HBO5.out, ?_, HPN4.out, HCV4.out.fr HFR.out (fun q hq he => HCV4.out.notAt HBO4.out (by decide) (by have he : q = O := he; rw [hq, he])), ?_⟩
            · refine (HOW4.out.fr HFR.out (fun q hq he => (HPN4.out q hq).1 he)).mono fun x r hx => ?_
              obtain ⟨u0, u1, u2, rfl, hu⟩ := hx
              refine ⟨u0, u1, u2, rfl, NodeF.mono (fun q hq => ?_) _ (hu.fr HFR.out (fun q hq he => hq.2.2.2.1 he))⟩
              obtain ⟨g1, g2, g3, g4, g5⟩ := hq
              exact ⟨g1, Nat.lt_of_lt_of_le g2 HFR.out.size, g3, g4, g5⟩
            · exact (HBR'.out.trans HBB4.out).trans (HFR.out.below (Nat.le_trans HBR'.out.size HBB4.out.size) (fun q hq => by have hq : q = O := hq; have := HB.out; omega))
          case measure => simp [intOf]; omega
        · have h2' : (op == 2) = false := by simp [h2]
          have H2 := Lib.hid h2
          clear h2
          go_wp2_with (refine stop_at (.call { callee := .builtin .append, args := #[.tmp 36, .tmp 38], argTypes := #[50, 50] }) rfl ?_)
          refine ⟨?_⟩
          clear x0 x1 x2 y0 y1 y2 t0 t1 t2
          refine abs_list fun W3 hW3 => ?_
          have ha3 := below_alloc1 W2 (.cells #[.int .i64 o1, .slice p1 l1 d1, .slice q1 m1 e1] 52)
          have HB3 := Lib.hid (show Below W2.heap.size W2 W3 by rw [hW3]; exact ha3)
          have HSZ3 := Lib.hid (show W2.heap.size < W3.heap.size by rw [hW3]; simp)
          have HBR3 := Lib.hid (show Below wr.heap.size wr W3 from HBR2.out.trans (HB3.out.mono HBR2.out.size))
          have HE2 := Lib.hid (show nodeE (fun q => w.heap.size ≤ q ∧ q < W1.heap.size ∧ (Value.slice pq k cq).ownBlock ≠ some q ∧ q ≠ O ∧ q ≠ B + 1) W2 (revX ps[k]) [.int .i64 o1, .slice p1 l1 d1, .slice q1 m1 e1] from ⟨_, _, _, rfl, (NodeF.mono HG.out _ HNT.out).below HB2.out (Nat.le_refl _)⟩)
          have HE3 := Lib.hid (show nodeE (fun q => w.heap.size ≤ q ∧ q < W1.heap.size ∧ (Value.slice pq k cq).ownBlock ≠ some q ∧ q ≠ O ∧ q ≠ B + 1) W3 (revX ps[k]) [.int .i64 o1, .slice p1 l1 d1, .slice q1 m1 e1] from ⟨_, _, _, rfl, (NodeF.mono HG.out _ HNT.out).below (HB2.out.trans (HB3.out.mono HB2.out.size)) (Nat.le_refl _)⟩)
          have HOLD := Lib.hid (show OwnL (nodeE (fun q => w.heap.size ≤ q ∧ q < W1.heap.size ∧ (Value.slice pq k cq).ownBlock ≠ some q ∧ q ≠ O ∧ q ≠ B + 1) W3) 52 3 w.heap.size W3 (.slice pq k cq) (outL op (revL (ps.take k))) from (HOWN.out.below HBR3.out (Nat.le_refl _)).mono (fun x r hx => by
            obtain ⟨u0, u1, u2, rfl, hu⟩ := hx
            exact ⟨u0, u1, u2, rfl, NodeF.mono (fun q hq => by
              have h0 := HB1.out.size
              obtain ⟨g1, g2, g3, g4, g5⟩ := hq
              exact ⟨g1, by omega, g3, g4, g5⟩) _ (hu.below HBR3.out (Nat.le_refl _))⟩))
          have HNEW := Lib.hid (show ReadL (nodeE (fun q => w.heap.size ≤ q ∧ q < W1.heap.size ∧ (Value.slice pq k cq).ownBlock ≠ some q ∧ q ≠ O ∧ q ≠ B + 1) W3) 3 W3 (.slice (some ⟨W2.heap.size, 0, none⟩) 1 1) [revX ps[k]] by
            have h := HE3.out
            rw [hW3] at h ⊢
            exact ReadL.one W2 _ _ _ HND.out h)
          clear hW3 ha3
          refine wpList_append_nodes rfl (.tmp 36) (.tmp 38) rfl (.slice pq k cq) (outL op (revL (ps.take k))) rfl HOLD.out (.slice (some ⟨W2.heap.size, 0, none⟩) 1 1) [revX ps[k]] rfl HNEW.out (by have h2 := HPB.out; have h3 := HLL.out; rw [h3]; simp; omega) (Nat.le_trans hbsz HBR3.out.size) ?_
          intro p4 c4 w4 hown4 hg4 hlie4
          have hl4 : (outL op (revL (ps.take k))).length + [revX ps[k]].length = k + 1 := by rw [HLL.out]; rfl
          rw [hl4] at hown4 hlie4 ⊢
          have HF4 := Lib.hid (Fr.grown (F := fun q => (Value.slice pq k cq).ownBlock = some q) hg4 (fun q h => h))
          have HS4 := Lib.hid (show W3.heap.size ≤ w4.heap.size from hg4.size)
          have HPN4 := Lib.hid (show ∀ q, (Value.slice p4 (k + 1) c4).ownBlock = some q → q ≠ O ∧ q ≠ B + 1 ∧ q ≠ B from fun q hq => by
            rcases hlie4 with h7 | h7
            · exact HPNE.out q (h7 ▸ hq)
            · rw [hq] at h7
              injection h7 with h7
              have h2 := at_lt HBOR.out
              have h3 := at_lt HBXR.out
              have h4 := at_lt HBRR.out
              have h5 := HBR3.out.size
              omega)
          have HOW4 := Lib.hid (show OwnL (nodeE (FE w.heap.size O (B + 1) w4 (.slice p4 (k + 1) c4)) w4) 52 3 w.heap.size w4 (.slice p4 (k + 1) c4) (outL op (revL (ps.take (k + 1)))) by
            rw [HSTEP.out, outL_no H2.out, ← outL_no H2.out (revL (ps.take k))]
            refine hown4.mono fun x r hx => ?_
            obtain ⟨u0, u1, u2, rfl, hu⟩ := hx
            refine ⟨u0, u1, u2, rfl, NodeF.mono (fun q hq => ?_) _ (hu.fr HF4.out (fun q hq he => hq.2.2.1 he))⟩
            obtain ⟨g1, g2, g3, g4, g5⟩ := hq
            have h5 := HSZ3.out
            have h6 := HS4.out
            have h7' := HB2.out.size
            refine ⟨g1, by omega, fun he => ?_, g4, g5⟩
            rcases hlie4 with h7 | h7
            · exact g3 (h7 ▸ he)
            · rw [he] at h7; injection h7 with h7; omega)
          have HBO4 := Lib.hid ((HF4.out.block O (Nat.lt_of_lt_of_le (at_lt HBOR.out) HBR3.out.size) (fun he => (HPNE.out O he).1 rfl)).trans ((HBR3.out.block O (at_lt HBOR.out)).trans HBOR.out))
          have HBX4 := Lib.hid ((HF4.out.block B (Nat.lt_of_lt_of_le (at_lt HBXR.out) HBR3.out.size) (fun he => (HPNE.out B he).2.2 rfl)).trans ((HBR3.out.block B (at_lt HBXR.out)).trans HBXR.out))
          have HBR4 := Lib.hid ((HF4.out.block (B + 1) (Nat.lt_of_lt_of_le (at_lt HBRR.out) HBR3.out.size) (fun he => (HPNE.out _ he).2.1 rfl)).trans ((HBR3.out.block (B + 1) (at_lt HBRR.out)).trans HBRR.out))
          have HCV4 := Lib.hid ((HCVR.out.below HBR3.out (Nat.le_refl _)).fr HF4.out (fun q hq he => (HCVR.out.apart HOWN.out (by decide)) q hq he))
          have HBB4 := Lib.hid (show Below w.heap.size wr w4 from (HBR3.out.mono hbsz).trans (HF4.out.below (Nat.le_trans hbsz HBR3.out.size) (fun q hq => (HOWN.out.lt q hq).1)))
          have f2 := fz_at HBO4.out 2
          have y2 := (cells3 HBO4.out).2.2
          clear hown4 hg4 hlie4 hl4
          go_wp2_with fail
          have HFR := Lib.hid (Fr.setCell (F := fun q => q = O) w4 (p := ⟨O, 2, none⟩) rfl (.slice p4 (k + 1) c4))
          have HBO5 := Lib.hid (blk_set HBO4.out 2 (.slice p4 (k + 1) c4))
          have HNB := Lib.hid (show B ≠ O ∧ B + 1 ≠ O by omega)
          clear y2 f2
          go_roundw
          case rel =>
            refine ⟨k + 1, .slice p4 (k + 1) c4, by go_num, by omega, (HFR.out.block B (at_lt HBX4.out) HNB.out.1).trans HBX4.out, (HFR.out.block (B + 1) (at_lt HBR4.out) HNB.out.2).trans HBR4.out, HBO5.out, ?_, HPN4.out, HCV4.out.fr HFR.out (fun q hq he => HCV4.out.notAt HBO4.out (by decide) (by have he : q = O := he; rw [hq, he])), ?_⟩
            · refine (HOW4.out.fr HFR.out (fun q hq he => (HPN4.out q hq).1 he)).mono fun x r hx => ?_
              obtain ⟨u0, u1, u2, rfl, hu⟩ := hx
              refine ⟨u0, u1, u2, rfl, NodeF.mono (fun q hq => ?_) _ (hu.fr HFR.out (fun q hq he => hq.2.2.2.1 he))⟩
              obtain ⟨g1, g2, g3, g4, g5⟩ := hq
              exact ⟨g1, Nat.lt_of_lt_of_le g2 HFR.out.size, g3, g4, g5⟩
            · exact (HBR'.out.trans HBB4.out).trans (HFR.out.below (Nat.le_trans HBR'.out.size HBB4.out.size) (fun q hq => by have hq : q = O := hq; have := HB.out; omega))
          case measure => simp [intOf]; omega
      · have hkk : ¬ (k : Int) < ps.length := by omega
        obtain rfl : k = ps.length := by omega
        have HTK := Lib.hid (show ps.take ps.length = ps from List.take_length)
        rw [HTK.out] at HOWN
        obtain ⟨z0, z1, z2⟩ := cells3 HBOR.out
        have HRL := Lib.hid (show (outL op (revL ps)).length = ps.length by rw [outL_length, revL_length])
        have HLI := Lib.hid (show ∀ n, Lies (fun q => w.heap.size ≤ q) (.slice pq ps.length cq) n from fun n _ q hq => (HOWN.out.lt q hq).1)
        have HFIN := Lib.hid (show ∀ (W5 : World) (ns : List Nd), ns.length = ps.length → NodesF (fun q => w.heap.size ≤ q) W5 (.slice pq ps.length cq) ns → Ints W5 (.slice pq0 cls.length cq0) cls → NodeF (fun q => w.heap.size ≤ q) W5 (.mk op cls ns) (.int .i64 op) (.slice pq0 cls.length cq0) (.slice pq ps.length cq) from fun W5 ns hl h1 h2 => by
          rw [nodeF_iff]
          exact ⟨rfl, h2, fun _ q hq => (HCVR.out.lt q hq).1, HCB.out, by have := HPB.out; omega, h1⟩)
        clear hb
        go_wp2_with (refine wpList_store_obj rfl (.tmp 2) (.tmp 41) 52 rfl (B + 1) rfl [.int .i64 op, .slice pq0 cls.length cq0, .slice pq ps.length cq] rfl _ _ HBRR.out (by kernel_rfl) rfl (by simp [Value.oneCell']) ?_; intro w5 hb5 hf5)
        obtain ⟨s0, s1, s2⟩ := cells3 hb5
        have hbe : Below w.heap.size w w5 := HBR'.out.trans (hf5.below hbsz (fun q hq => by have hq : q = B + 1 := hq; have := HB.out; omega))
        refine bodyPost_ret (v := .agg #[.int .i64 op, .slice pq0 cls.length cq0, .slice pq ps.length cq]) (by simp [results, Try.results35, go_sem, s0, s1, s2]) rfl ⟨_, _, _, rfl, ?_, hbe⟩
        rw [revX_out]
        refine HFIN.out w5 _ HRL.out ?_ ((HCVR.out.fr hf5 (fun q hq he => HCVR.out.notAt HBRR.out (by decide) (by rw [hq]; exact congrArg some he))).read.ints)
        have hown := HOWN.out
        have h3 : OwnL (nodeE (fun q => w.heap.size ≤ q) w5) 52 3 w.heap.size w5 (.slice pq ps.length cq) (outL op (revL ps)) := (hown.fr hf5 (fun q hq he => (HPNE.out q hq).2.1 he)).mono fun x r hx => by
          obtain ⟨u0, u1, u2, rfl, hu⟩ := hx
          exact ⟨u0, u1, u2, rfl, NodeF.mono (fun q hq => hq.1) _ (hu.fr hf5 (fun q hq he => hq.2.2.2.2 he))⟩
        exact h3.read.nodesF (HLI.out _)

theorem rrev_any : ∀ (x : Nd), RRevAt x
  | .mk op cls ps => rrev_step op cls ps (fun x hx => rrev_any x)
  termination_by x => SizeOf.sizeOf x
  decreasing_by
    have := List.sizeOf_lt_of_mem hx
    simp; omega

end Go.Proofs.Ythmaokjhncokdaa

