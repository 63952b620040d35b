/-
  Reverse: an expression that fits the turned rows. No condition beyond what each theorem names.
-/
import Derived.Test.YtodkeiadaodehaaNT
set_option linter.unusedVariables false
set_option linter.unusedSimpArgs false
namespace Go.Proofs.Ytodkeiadaodehaa
open Go.RowKit

mutual
/-- an expression that fits the turned rows -/
def revX : Nd → Nd
  | .mk op cls ps => .mk op cls (if op = 2 then (revL ps).reverse else revL ps)
def revL : List Nd → List Nd
  | [] => []
  | x :: r => revX x :: revL r
end

theorem revL_map : ∀ (l : List Nd), revL l = l.map revX
  | [] => by simp [revL]
  | x :: r => by simp [revL, revL_map r]

theorem revL_length (l : List Nd) : (revL l).length = l.length := by rw [revL_map]; simp

theorem revL_snoc {ps : List Nd} {k : Nat} (hk : k < ps.length) : revL (ps.take (k + 1)) = revL (ps.take k) ++ [revX ps[k]] := by
  rw [List.take_succ_eq_append_getElem hk, revL_map, revL_map, List.map_append]; rfl

theorem Lies.and {F G : Nat → Prop} {v : Value} {n : Nat} (h : Lies F v n) (g : Lies G v n) : Lies (fun k => F k ∧ G k) v n := fun h0 k hk => ⟨h h0 k hk, g h0 k hk⟩

theorem NodeF.lt {F : Nat → Prop} {w : World} : ∀ (x : Nd) {a b c : Value}, NodeF F w x a b c → NodeF (fun k => F k ∧ k < w.heap.size) w x a b c
  | .mk op cls parts, a, b, c, h => by
    rw [nodeF_iff] at *
    obtain ⟨h1, h2, h2', h3, h4, rows, ⟨h5, h5'⟩, h6, h7, h8⟩ := h
    refine ⟨h1, h2, h2'.and (Raw.lies h2 (by simp)), h3, h4, rows, ⟨h5, h5'⟩, h6.and (Raw.lies h5' (fun h => by rw [flatten_length h5, h7]; omega)), h7, fun i hi => ?_⟩
    obtain ⟨x, y, z, h9, h10⟩ := h8 i hi
    exact ⟨x, y, z, h9, NodeF.lt parts[i] h10⟩
  termination_by x => SizeOf.sizeOf x
  decreasing_by exact Nd.part_lt hi

/-- where the parts lie: from a block on, but not in these -/
def FE (b0 O R : Nat) (w : World) (pv : Value) (k : Nat) : Prop := b0 ≤ k ∧ k < w.heap.size ∧ pv.ownBlock ≠ some k ∧ k ≠ O ∧ k ≠ R

/-- slices.Reverse of a list of one's own: only its own row is turned -/
theorem rev_own2 (w : World) (base n : Nat) (v : Value) (rows : List (List Value)) (hn : n ≤ 9000000000000000000) (hl : rows.length = n) (hr : ∀ r ∈ rows, ndRow r) (h : w.ownsRow base 25 3 v n rows.flatten) :
    Calls Try.prog 35 #[v] w fun e w' => Raw w' v n rows.reverse.flatten ∧ Fr (fun k => v.ownBlock = some k) w w' ∧ ∃ u, e = .returned u := by
  have h' := h
  obtain ⟨h1, h2⟩ := h'
  rcases h2 with ⟨rfl, rfl⟩ | ⟨g, cap, cur, rfl, hb, hg, hnc, -⟩
  · have : rows = [] := by simpa using hl
    subst this
    clear h h1 hl hr
    go_enter Try.func35, Try.ntmps35
    go_wp2_with fail
    go_loopw [2, 3] (fun u v wr => u = .int .i64 0 ∧ v = .int .i64 (-1) ∧ wr = w) (fun _ v _ => 0)
    case atStart => exact ⟨rfl, rfl, rfl⟩
    case round =>
      obtain ⟨rfl, rfl, rfl⟩ := hrel
      go_wp2
      go_end0
      exact ⟨⟨none, 0, rfl, Nat.le_refl _, fun h => by simp at h⟩, Fr.refl _ _, _, rfl⟩
  · refine (rev_any w g n cap rows hl hn (Array.getElem?_eq_some_iff.1 hg).1 (NRow.of_own h hr)).mono fun e w' ⟨k1, k2, k3⟩ => ⟨k1.raw (by simpa using hl) hnc, k2.mono (fun k _ hk => by rw [hk]; rfl), k3⟩

theorem OwnL.rev {F : Nat → Prop} {w : World} {base : Nat} {v : Value} {ns : List Nd} (h : OwnL (nodeE F w) 25 3 base w v ns) : ∃ rows : List (List Value), w.ownsRow base 25 3 v ns.length rows.flatten ∧ rows.length = ns.length ∧ (∀ r ∈ rows, ndRow r) ∧ ∀ i (h : i < ns.length), ∃ x y z, rows[i]? = some [x, y, z] ∧ NodeF F w ns[i] x y z := by
  obtain ⟨rows, h1, h2, h3, h4⟩ := h
  refine ⟨rows, h1, h2, fun r hr => ?_, fun i hi => ?_⟩
  · obtain ⟨i, hi, rfl⟩ := List.getElem_of_mem hr
    obtain ⟨row, g1, a, b, c, rfl, g2⟩ := h4 i (by omega)
    obtain ⟨op, p, l, c1, q, m, d, rfl, rfl, rfl⟩ := (g2.is).form
    rw [List.getElem?_eq_getElem hi] at g1
    exact ⟨_, _, _, _, _, _, _, Option.some.inj g1⟩
  · obtain ⟨row, g1, a, b, c, rfl, g2⟩ := h4 i hi
    exact ⟨a, b, c, g1, g2⟩

def RevAt (x : Nd) : Prop := ∀ (w : World) (a b c : Value), NodeIs w x a b c →
    Calls Try.prog 25 #[.agg #[a, b, c]] w fun e w' => ∃ a' b' c', e = .returned (.agg #[a', b', c']) ∧ NodeF (fun k => w.heap.size ≤ k) w' (revX x) a' b' c' ∧ Below w.heap.size w w'

/-- what stands behind the first part: the expression, the place of the answer, and the answer so far -/
def OutAt (w : World) (B R : Nat) (xr : Array Value) (op : Int) (cls : List Int) (o : Value) (W : World) : Prop :=
  ∃ (O : Nat) (cv : Value), o = .pointer (some ⟨O, 0, none⟩) ∧ R < O ∧ W.heap[B]? = some (.cells xr 25) ∧ W.heap[R]? = some (.cells #[.int .i64 0, .slice none 0 0, .slice none 0 0] 25) ∧ W.heap[O]? = some (.cells #[.int .i64 op, cv, .slice none 0 0] 25) ∧
    OwnL intE 3 1 w.heap.size W cv cls ∧ Below w.heap.size w W
set_option maxRecDepth 100000 in
set_option maxHeartbeats 8000000 in
theorem rev_step (op : Int) (cls : List Int) (ps : List Nd) (ih : ∀ x ∈ ps, RevAt x) : RevAt (.mk op cls ps) := by
  intro w a b c hx
  have IH := Lib.hid ih
  rw [nodeIs_iff] at hx
  obtain ⟨rfl, hcl, hcb, hpb, hps⟩ := hx
  obtain ⟨pc, capc, rfl, hcc, -⟩ := hcl.get
  obtain ⟨pp, capp, rfl, hcp, hxp⟩ := hps.get
  have HCL := Lib.hid hcl
  have HPB := Lib.hid hpb
  have HCB := Lib.hid hcb
  unfold R at hcb hpb
  have HXP := Lib.hid hxp
  clear hcl hps hxp ih
  go_enter Try.func25, Try.ntmps25
  go_upto_region 1 with fail
  refine abs_wp fun W hW => ?_
  obtain ⟨B, hB⟩ : ∃ B, B = w.heap.size := ⟨_, rfl⟩
  have hbx : W.heap[B]? = some (.cells #[.int .i64 op, .slice pc cls.length capc, .slice pp ps.length capp] 25) := by rw [hW, hB, heap_alloc_old _ _ (by simp)]; exact heap_alloc_new _ _
  have hbr : W.heap[B + 1]? = some (.cells #[.int .i64 0, .slice none 0 0, .slice none 0 0] 25) := by rw [hW, hB]; exact heap_alloc2_new _ _ _
  have hbW : Below w.heap.size w W := by rw [hW]; exact (below_alloc1 w _).alloc (by simp) _
  rw [← hB]
  have HB := Lib.hid hB
  have HBX := Lib.hid hbx
  have HBR := Lib.hid hbr
  have HBW := Lib.hid hbW
  clear hW hbx hbr hbW hB
  go_cut [3] (fun o W1 => OutAt w B (B + 1) #[.int .i64 op, .slice pc cls.length capc, .slice pp ps.length capp] op cls o W1)
  case first =>
    have HSS := Lib.hid (show ∀ W', Below W.heap.size W W' → W'.heap[B]? = some (.cells #[.int .i64 op, .slice pc cls.length capc, .slice pp ps.length capp] 25) from fun W' h => (h.block B (at_lt HBX.out)).trans HBX.out)
    refine wp_region_fin 7 (fun W' => W'.heap[B]? = some (.cells #[.int .i64 op, .slice pc cls.length capc, .slice pp ps.length capp] 25)) (.reads [0, 1, 2, 3] (.two 4 (.reads [5] (.one 6 (.last 7))) 6 (.one 4 (.reads [5] (.last 7))))) 34 (by kernel_rfl) (by kernel_rfl) rfl (fun _ _ _ _ _ h => h) (HSS.out _ (Below.refl _ _).drew) ?_
    apply plan_reads
    · intro W' hW'
      obtain ⟨s0, s1, s2⟩ := cells3 hW'
      repeat (refine wpRead_step (fun K hK => ?_); go_simp; refine hK _ ?_; clear hK K)
      exact wpRead_nil rfl
    refine abs_plan fun W0 hW0 => ?_
    have HB0 := Lib.hid (show Below W.heap.size W W0 by rw [hW0]; exact (Below.refl _ _).drew)
    clear hW0
    have hcle := HCB.out
    unfold R at hcle
    refine plan_two rfl rfl ?_ ?_
    · have HC := Lib.hid (clone_ints W0 (.slice pc cls.length capc) cls.length (cls.map (Value.int .i64)) (by omega) (by simp) (fun u hu => by obtain ⟨x, -, rfl⟩ := List.mem_map.1 hu; rfl) ((HCL.out.to HBW.out (Nat.le_refl _)).to HB0.out (Nat.le_refl _)))
      go_wp2_with fail
      refine HC.out.mono ?_
      rintro e W1 ⟨v1, rfl, hown, hb1⟩
      have hown' := ownL_ints hown
      obtain ⟨p1, c1, rfl⟩ := hown'.form
      have HOW := Lib.hid hown'
      have HB1 := Lib.hid (HB0.out.trans (hb1.mono HB0.out.size))
      have HSZ := Lib.hid hb1.size
      clear hown hown' hb1 HC
      go_wp2_with fail
      refine Then.mk (HSS.out _ HB1.out) ?_
      apply plan_reads
      · intro W' hW'
        repeat (refine wpRead_step (fun K hK => ?_); go_simp; refine hK _ ?_; clear hK K)
        exact wpRead_nil rfl
      refine plan_one rfl ?_
      go_wp2_with fail
      have ha := below_alloc1 W1 (.cells #[.int .i64 0, .slice none 0 0, .slice none 0 0] 25)
      refine Then.mk (HSS.out _ (HB1.out.trans (ha.mono HB1.out.size))) ?_
      refine plan_last rfl ?_
      refine wpList_store_obj rfl (.tmp 3) (.tmp 11) 25 rfl W1.heap.size rfl [.int .i64 op, .slice p1 cls.length c1, .slice none 0 0] rfl _ _ (heap_alloc_new _ _) (by kernel_rfl) rfl (by simp [Value.oneCell']) ?_
      intro w2 hb2 hf2
      have HREL := Lib.hid (show OutAt w B (B + 1) #[.int .i64 op, .slice pc cls.length capc, .slice pp ps.length capp] op cls (.pointer (some ⟨W1.heap.size, 0, none⟩)) w2 from by
        have h1 : Below W.heap.size W w2 := (HB1.out.trans (ha.mono HB1.out.size)).trans (hf2.below (by simp; have := HB1.out.size; omega) (fun k hk => by have hk : k = W1.heap.size := hk; have := HB1.out.size; omega))
        refine ⟨_, .slice p1 cls.length c1, rfl, by have := at_lt HBR.out; have := HB1.out.size; omega, (h1.block _ (at_lt HBX.out)).trans HBX.out, (h1.block _ (at_lt HBR.out)).trans HBR.out, hb2, ?_, HBW.out.trans (h1.mono HBW.out.size)⟩
        have h2 := HOW.out.based (show w.heap.size ≤ W0.heap.size from Nat.le_trans HBW.out.size HB0.out.size)
        exact (h2.below ha (Nat.le_refl _)).fr hf2 (fun k hk he => by have he : k = W1.heap.size := he; have := (h2.lt k hk).2; omega))
      clear hb2 hf2 ha
      go_wp2_with fail
      go_meet
      case rel => exact HREL.out
    · have ha := below_alloc1 W0 (.cells #[.int .i64 0, .slice none 0 0, .slice none 0 0] 25)
      go_wp2_with fail
      refine Then.mk (HSS.out _ (HB0.out.trans (ha.mono HB0.out.size))) ?_
      refine abs_plan fun W1 hW1 => ?_
      have HO := Lib.hid (show W1.heap[W0.heap.size]? = some (.cells #[.int .i64 0, .slice none 0 0, .slice none 0 0] 25) by rw [hW1]; exact heap_alloc_new _ _)
      have HB1 := Lib.hid (show Below W.heap.size W W1 by rw [hW1]; exact HB0.out.trans (ha.mono HB0.out.size))
      have HSZ1 := Lib.hid (show W0.heap.size < W1.heap.size by rw [hW1]; simp)
      clear hW1 ha
      refine plan_one rfl ?_
      have HC := Lib.hid (clone_ints W1 (.slice pc cls.length capc) cls.length (cls.map (Value.int .i64)) (by omega) (by simp) (fun u hu => by obtain ⟨x, -, rfl⟩ := List.mem_map.1 hu; rfl) ((HCL.out.to HBW.out (Nat.le_refl _)).to HB1.out (Nat.le_refl _)))
      go_wp2_with fail
      refine HC.out.mono ?_
      rintro e W2 ⟨v1, rfl, hown, hb1⟩
      have hown' := ownL_ints hown
      obtain ⟨p1, c1, rfl⟩ := hown'.form
      have HOW := Lib.hid hown'
      have HB2 := Lib.hid (HB1.out.trans (hb1.mono HB1.out.size))
      have HO2 := Lib.hid ((hb1.block _ (at_lt HO.out)).trans HO.out)
      clear hown hown' hb1 HC
      go_wp2_with fail
      refine Then.mk (HSS.out _ HB2.out) ?_
      apply plan_reads
      · intro W' hW'
        repeat (refine wpRead_step (fun K hK => ?_); go_simp; refine hK _ ?_; clear hK K)
        exact wpRead_nil rfl
      refine plan_last rfl ?_
      refine wpList_store_obj rfl (.tmp 3) (.tmp 11) 25 rfl W0.heap.size rfl [.int .i64 op, .slice p1 cls.length c1, .slice none 0 0] rfl _ _ HO2.out (by kernel_rfl) rfl (by simp [Value.oneCell']) ?_
      intro w2 hb2 hf2
      have HREL := Lib.hid (show OutAt w B (B + 1) #[.int .i64 op, .slice pc cls.length capc, .slice pp ps.length capp] op cls (.pointer (some ⟨W0.heap.size, 0, none⟩)) w2 from by
        have h1 : Below W.heap.size W w2 := HB2.out.trans (hf2.below HB2.out.size (fun k hk => by have hk : k = W0.heap.size := hk; have := HB0.out.size; omega))
        refine ⟨_, .slice p1 cls.length c1, rfl, by have := at_lt HBR.out; have := HB0.out.size; omega, (h1.block _ (at_lt HBX.out)).trans HBX.out, (h1.block _ (at_lt HBR.out)).trans HBR.out, hb2, ?_, HBW.out.trans (h1.mono HBW.out.size)⟩
        have h2 := HOW.out.based (show w.heap.size ≤ W1.heap.size from Nat.le_trans HBW.out.size HB1.out.size)
        exact h2.fr hf2 (fun k hk he => by have he : k = W0.heap.size := he; have := (HOW.out.lt k hk).1; have := HSZ1.out; omega))
      clear hb2 hf2
      go_wp2_with fail
      go_meet
      case rel => exact HREL.out
  case rest =>
    obtain ⟨O, cv, rfl, hRO, hbx, hbr, hbo, hcv, hb⟩ := hcut
    have HBXW := Lib.hid hbx
    have HBRW := Lib.hid hbr
    have HBOW := Lib.hid hbo
    have HCVW := Lib.hid hcv
    have HBWW := Lib.hid hb
    obtain ⟨pq0, cq0, hcv0⟩ := hcv.form
    subst hcv0
    obtain ⟨x0, x1, x2⟩ := cells3 hbx
    clear hbx hbr hbo hcv hb
    go_wp2_with fail
    go_loopw [15] (fun i wr => ∃ (k : Nat) (pv : Value), i = .int .i64 k ∧ k ≤ ps.length ∧ wr.heap[B]? = some (.cells #[.int .i64 op, .slice pc cls.length capc, .slice pp ps.length capp] 25) ∧ wr.heap[B + 1]? = some (.cells #[.int .i64 0, .slice none 0 0, .slice none 0 0] 25) ∧ wr.heap[O]? = some (.cells #[.int .i64 op, .slice pq0 cls.length cq0, pv] 25) ∧
      OwnL (nodeE (FE w.heap.size O (B + 1) wr pv) wr) 25 3 w.heap.size wr pv (revL (ps.take k)) ∧ (∀ q, pv.ownBlock = some q → q ≠ O ∧ q ≠ B + 1 ∧ q ≠ B) ∧ OwnL intE 3 1 w.heap.size wr (.slice pq0 cls.length cq0) cls ∧ Below w.heap.size w wr) (fun i _ => ps.length - (intOf i).toNat)
    case atStart => exact ⟨0, .slice none 0 0, rfl, by omega, HBXW.out, HBRW.out, HBOW.out, OwnL.nil _, (fun q hq => by cases hq), HCVW.out, HBWW.out⟩
    case round =>
      obtain ⟨k, pv, rfl, h1, hbx, hbr, hbo, hown, hpne, hcv, hb⟩ := hrel
      have HBXR := Lib.hid hbx
      have HBRR := Lib.hid hbr
      have HBOR := Lib.hid hbo
      have HOWN := Lib.hid hown
      have HPNE := Lib.hid hpne
      have HCVR := Lib.hid hcv
      have HBR' := Lib.hid hb
      obtain ⟨pq, cq, rfl⟩ := hown.form
      have hll : (revL (ps.take k)).length = k := by rw [revL_length, List.length_take]; omega
      rw [hll] at HBOR HOWN HPNE
      have HLL := Lib.hid hll
      have hbsz := hb.size
      clear hbx hbr hbo hown hpne hcv hll
      by_cases hk : k < ps.length
      · obtain ⟨bb, off, rfl, hbl, hxx⟩ := HXP.out (by omega)
        obtain ⟨x, y, z, c0, c1, c2, hnode⟩ := hxx k hk
        have r0 := cell_below hb hbl c0
        have r1 := cell_below hb hbl c1
        have r2 := cell_below hb hbl c2
        obtain ⟨o1, p1, l1, d1, q1, m1, e1, rfl, rfl, rfl⟩ := hnode.form
        have HNODE := Lib.hid (hnode.to hb (Nat.le_refl _))
        have HIH := Lib.hid (IH.out ps[k] (List.getElem_mem hk))
        have HSTEP := Lib.hid (revL_snoc hk)
        have hkk : (k : Int) < ps.length := by omega
        have hk0 : (0 : Int) ≤ k := by omega
        clear hxx c0 c1 c2 hnode hb
        go_upto_region 5 with fail
        refine abs_wp fun Wp hWp => ?_
        obtain ⟨P, hP⟩ : ∃ P, P = wr.heap.size := ⟨_, rfl⟩
        have HPP := Lib.hid (show Wp.heap[P]? = some (.cells #[.int .i64 o1, .slice p1 l1 d1, .slice q1 m1 e1] 25) by rw [hWp, hP]; exact heap_alloc_new _ _)
        have HBP := Lib.hid (show Below wr.heap.size wr Wp by rw [hWp]; exact below_alloc1 _ _)
        have HPZ := Lib.hid hP
        rw [← hP]
        clear hWp hP r0 r1 r2
        have HSS := Lib.hid (show ∀ W', Below Wp.heap.size Wp W' → (W'.heap[O]? = some (.cells #[.int .i64 op, .slice pq0 cls.length cq0, .slice pq k cq] 25) ∧ W'.heap[P]? = some (.cells #[.int .i64 o1, .slice p1 l1 d1, .slice q1 m1 e1] 25)) from fun W' h =>
          ⟨(h.block O (Nat.lt_of_lt_of_le (at_lt HBOR.out) HBP.out.size)).trans ((HBP.out.block O (at_lt HBOR.out)).trans HBOR.out), (h.block P (at_lt HPP.out)).trans HPP.out⟩)
        refine wp_region_fin 7 (fun W' => W'.heap[O]? = some (.cells #[.int .i64 op, .slice pq0 cls.length cq0, .slice pq k cq] 25) ∧ W'.heap[P]? = some (.cells #[.int .i64 o1, .slice p1 l1 d1, .slice q1 m1 e1] 25)) (.reads [0, 1, 2] (.one 3 (.one 4 (.one 5 (.one 6 (.last 7)))))) 34 (by kernel_rfl) (by kernel_rfl) rfl (fun _ _ _ _ _ h => h) (HSS.out _ (Below.refl _ _).drew) ?_
        apply plan_reads
        · intro W' hW'
          obtain ⟨s0, s1, s2⟩ := cells3 hW'.1
          obtain ⟨t0, t1, t2⟩ := cells3 hW'.2
          repeat (refine wpRead_step (fun K hK => ?_); go_simp; refine hK _ ?_; clear hK K)
          exact wpRead_nil rfl
        refine abs_plan fun W0 hW0 => ?_
        have HB0 := Lib.hid (show Below Wp.heap.size Wp W0 by rw [hW0]; exact (Below.refl _ _).drew)
        clear hW0
        refine plan_one rfl ?_
        have HC := Lib.hid (HIH.out W0 _ _ _ ((HNODE.out.to HBP.out (Nat.le_refl _)).to HB0.out (Nat.le_refl _)))
        go_wp2_with fail
        refine HC.out.mono ?_
        rintro e W1 ⟨a', b', c', rfl, hnt, hb1⟩
        have HSW := Lib.hid (show wr.heap.size < W0.heap.size by have := at_lt HPP.out; have := HPZ.out; have := HB0.out.size; omega)
        have HB1 := Lib.hid (HB0.out.trans (hb1.mono HB0.out.size))
        have HNT := Lib.hid hnt.lt
        have HND := Lib.hid (nodeE.cells (F := fun k => W0.heap.size ≤ k) ⟨a', b', c', rfl, hnt⟩)
        have HB01 := Lib.hid hb1.size
        clear hnt hb1 HC
        go_wp2_with fail
        refine Then.mk (HSS.out _ HB1.out) ?_
        refine plan_one rfl ?_
        have ha := below_alloc1 W1 (.cells #[a', b', c'] 25)
        go_wp2_with fail
        refine Then.mk (HSS.out _ (HB1.out.trans (ha.mono HB1.out.size))) ?_
        refine abs_plan fun W2 hW2 => ?_
        have HBN := Lib.hid (show Below W1.heap.size W1 W2 by rw [hW2]; exact ha)
        have HSZ2 := Lib.hid (show W1.heap.size < W2.heap.size by rw [hW2]; simp)
        have HB2 := Lib.hid (HB1.out.trans (HBN.out.mono HB1.out.size))
        have HBR2 := Lib.hid (show Below wr.heap.size wr W2 from HBP.out.trans (HB2.out.mono HBP.out.size))
        have HG := Lib.hid (show ∀ q, (W0.heap.size ≤ q ∧ q < W1.heap.size) → (w.heap.size ≤ q ∧ q < W1.heap.size ∧ (Value.slice pq k cq).ownBlock ≠ some q ∧ q ≠ O ∧ q ≠ B + 1) from fun q hq => by
          have h2 := HSW.out
          have h3 := at_lt HBOR.out
          have h4 := at_lt HBRR.out
          exact ⟨by omega, hq.2, (fun he => by have h3 := (HOWN.out.lt q he).2; omega), by omega, by omega⟩)
        have HE2 := Lib.hid (show nodeE (fun q => w.heap.size ≤ q ∧ q < W1.heap.size ∧ (Value.slice pq k cq).ownBlock ≠ some q ∧ q ≠ O ∧ q ≠ B + 1) W2 (revX ps[k]) [a', b', c'] from ⟨a', b', c', rfl, (NodeF.mono HG.out _ HNT.out).below HBN.out (Nat.le_refl _)⟩)
        have HNEW := Lib.hid (show ReadL (nodeE (fun q => w.heap.size ≤ q ∧ q < W1.heap.size ∧ (Value.slice pq k cq).ownBlock ≠ some q ∧ q ≠ O ∧ q ≠ B + 1) W2) 3 W2 (.slice (some ⟨W1.heap.size, 0, none⟩) 1 1) [revX ps[k]] by
          have h := HE2.out
          rw [hW2] at h ⊢
          exact ReadL.one W1 _ _ _ HND.out h)
        have HOLD := Lib.hid (show OwnL (nodeE (fun q => w.heap.size ≤ q ∧ q < W1.heap.size ∧ (Value.slice pq k cq).ownBlock ≠ some q ∧ q ≠ O ∧ q ≠ B + 1) W2) 25 3 w.heap.size W2 (.slice pq k cq) (revL (ps.take k)) from (HOWN.out.below HBR2.out (Nat.le_refl _)).mono (fun x r hx => by
          obtain ⟨u0, u1, u2, rfl, hu⟩ := hx
          exact ⟨u0, u1, u2, rfl, NodeF.mono (fun q hq => by
            have h0 := HB01.out
            have h2 := HSW.out
            obtain ⟨g1, g2, g3, g4, g5⟩ := hq
            exact ⟨g1, by omega, g3, g4, g5⟩) _ (hu.below HBR2.out (Nat.le_refl _))⟩))
        have HS2 := Lib.hid (HSS.out _ HB2.out)
        clear hW2 ha
        refine plan_one rfl ?_
        refine wpList_append_nodes rfl (.tmp 20) (.tmp 23) rfl (.slice pq k cq) (revL (ps.take k)) rfl HOLD.out (.slice (some ⟨W1.heap.size, 0, none⟩) 1 1) [revX ps[k]] rfl HNEW.out (by have h2 := HPB.out; have h3 := HLL.out; rw [h3]; simp; omega) (Nat.le_trans hbsz HBR2.out.size) ?_
        intro p4 c4 w4 hown4 hg4 hlie4
        have hl4 : (revL (ps.take k)).length + [revX ps[k]].length = k + 1 := by rw [HLL.out]; rfl
        rw [hl4] at hown4 hlie4 ⊢
        have HF4 := Lib.hid (Fr.grown (F := fun q => (Value.slice pq k cq).ownBlock = some q) hg4 (fun q h => h))
        have HS4 := Lib.hid (show W2.heap.size ≤ w4.heap.size from hg4.size)
        have HPN4 := Lib.hid (show ∀ q, (Value.slice p4 (k + 1) c4).ownBlock = some q → q ≠ O ∧ q ≠ B + 1 ∧ q ≠ B from fun q hq => by
          rcases hlie4 with h7 | h7
          · exact HPNE.out q (h7 ▸ hq)
          · rw [hq] at h7
            injection h7 with h7
            have h2 := at_lt HS2.out.1
            have h3 := at_lt HBXR.out
            have h4 := at_lt HBRR.out
            have h5 := HBR2.out.size
            omega)
        have HOW4 := Lib.hid (show OwnL (nodeE (FE w.heap.size O (B + 1) w4 (.slice p4 (k + 1) c4)) w4) 25 3 w.heap.size w4 (.slice p4 (k + 1) c4) (revL (ps.take (k + 1))) by
          rw [HSTEP.out]
          refine hown4.mono fun x r hx => ?_
          obtain ⟨u0, u1, u2, rfl, hu⟩ := hx
          refine ⟨u0, u1, u2, rfl, NodeF.mono (fun q hq => ?_) _ (hu.fr HF4.out (fun q hq he => hq.2.2.1 he))⟩
          obtain ⟨g1, g2, g3, g4, g5⟩ := hq
          have h5 := HSZ2.out
          have h6 := HS4.out
          refine ⟨g1, by omega, fun he => ?_, g4, g5⟩
          rcases hlie4 with h7 | h7
          · exact g3 (h7 ▸ he)
          · rw [he] at h7; injection h7 with h7; omega)
        have keep4 : ∀ {q : Nat} {o : Obj}, q ≠ O → wr.heap[q]? = some o → (Value.slice pq k cq).ownBlock ≠ some q → w4.heap[q]? = some o := fun {q o} _ hq hn =>
          (HF4.out.block q (Nat.lt_of_lt_of_le (at_lt hq) HBR2.out.size) hn).trans ((HBR2.out.block q (at_lt hq)).trans hq)
        have HBO4 := Lib.hid ((HF4.out.block O (at_lt HS2.out.1) (fun he => (HPNE.out O he).1 rfl)).trans HS2.out.1)
        have HP4 := Lib.hid ((HF4.out.block P (at_lt HS2.out.2) (fun he => by have h1 := (HOWN.out.lt P he).2; have := HPZ.out; omega)).trans HS2.out.2)
        have HBX4 := Lib.hid ((HF4.out.block B (Nat.lt_of_lt_of_le (at_lt HBXR.out) HBR2.out.size) (fun he => (HPNE.out B he).2.2 rfl)).trans ((HBR2.out.block B (at_lt HBXR.out)).trans HBXR.out))
        have HBR4 := Lib.hid ((HF4.out.block (B + 1) (Nat.lt_of_lt_of_le (at_lt HBRR.out) HBR2.out.size) (fun he => (HPNE.out _ he).2.1 rfl)).trans ((HBR2.out.block (B + 1) (at_lt HBRR.out)).trans HBRR.out))
        have HCV4 := Lib.hid ((HCVR.out.below HBR2.out (Nat.le_refl _)).fr HF4.out (fun q hq he => (HCVR.out.apart HOWN.out (by decide)) q hq he))
        have HBB4 := Lib.hid (show Below w.heap.size wr w4 from (HBR2.out.mono hbsz).trans (HF4.out.below (Nat.le_trans hbsz HBR2.out.size) (fun q hq => (HOWN.out.lt q hq).1)))
        have f2 := fz_at HBO4.out 2
        have y2 := (cells3 HBO4.out).2.2
        clear hown4 hg4 hlie4 hl4 keep4
        go_wp2_with fail
        refine Then.mk ⟨HBO4.out, HP4.out⟩ ?_
        refine plan_one rfl ?_
        go_wp2_with fail
        refine Then.mk ⟨HBO4.out, HP4.out⟩ ?_
        refine plan_last rfl ?_
        go_wp2_with fail
        have HFR := Lib.hid (Fr.setCell (F := fun q => q = O) w4 (p := ⟨O, 2, none⟩) rfl (.slice p4 (k + 1) c4))
        have HBO5 := Lib.hid (blk_set HBO4.out 2 (.slice p4 (k + 1) c4))
        have HNB := Lib.hid (show B ≠ O ∧ B + 1 ≠ O by omega)
        clear y2 f2
        go_roundw
        case rel =>
          refine ⟨k + 1, .slice p4 (k + 1) c4, by go_num, by omega, (HFR.out.block B (at_lt HBX4.out) HNB.out.1).trans HBX4.out, (HFR.out.block (B + 1) (at_lt HBR4.out) HNB.out.2).trans HBR4.out, HBO5.out, ?_, HPN4.out, HCV4.out.fr HFR.out (fun q hq he => HCV4.out.notAt HBO4.out (by decide) (by rw [hq]; exact congrArg some he)), ?_⟩
          · refine (HOW4.out.fr HFR.out (fun q hq he => (HPN4.out q hq).1 he)).mono fun x r hx => ?_
            obtain ⟨u0, u1, u2, rfl, hu⟩ := hx
            refine ⟨u0, u1, u2, rfl, NodeF.mono (fun q hq => ?_) _ (hu.fr HFR.out (fun q hq he => hq.2.2.2.1 he))⟩
            obtain ⟨g1, g2, g3, g4, g5⟩ := hq
            exact ⟨g1, Nat.lt_of_lt_of_le g2 HFR.out.size, g3, g4, g5⟩
          · exact (HBR'.out.trans HBB4.out).trans (HFR.out.below (Nat.le_trans HBR'.out.size HBB4.out.size) (fun q hq => by have hq : q = O := hq; have := HB.out; omega))
        case measure => simp [intOf]; omega
      · have hkk : ¬ (k : Int) < ps.length := by omega
        obtain rfl : k = ps.length := by omega
        have HTK := Lib.hid (show ps.take ps.length = ps from List.take_length)
        rw [HTK.out] at HOWN
        have HSTAY := Lib.hid (show ∀ W', Fr (fun q => (Value.slice pq ps.length cq).ownBlock = some q) wr W' → (W'.heap[O]? = some (.cells #[.int .i64 op, .slice pq0 cls.length cq0, .slice pq ps.length cq] 25) ∧ W'.heap[B + 1]? = some (.cells #[.int .i64 0, .slice none 0 0, .slice none 0 0] 25) ∧ OwnL intE 3 1 w.heap.size W' (.slice pq0 cls.length cq0) cls ∧ Below w.heap.size w W') from fun W' hf =>
          ⟨(hf.block O (at_lt HBOR.out) (fun he => (HPNE.out O he).1 rfl)).trans HBOR.out, (hf.block _ (at_lt HBRR.out) (fun he => (HPNE.out _ he).2.1 rfl)).trans HBRR.out, HCVR.out.fr hf (fun q hq he => (HCVR.out.apart HOWN.out (by decide)) q hq he),
            HBR'.out.trans (hf.below hbsz (fun q hq => (HOWN.out.lt q hq).1))⟩)
        obtain ⟨x0, x1, x2⟩ := cells3 HBXR.out
        obtain ⟨z0, z1, z2⟩ := cells3 HBOR.out
        have HFIN := Lib.hid (show ∀ (W5 : World) (ns : List Nd), ns.length = ps.length → NodesF (fun q => w.heap.size ≤ q) W5 (.slice pq ps.length cq) ns → Ints W5 (.slice pq0 cls.length cq0) cls → NodeF (fun q => w.heap.size ≤ q) W5 (.mk op cls ns) (.int .i64 op) (.slice pq0 cls.length cq0) (.slice pq ps.length cq) from fun W5 ns hl h1 h2 => by
          rw [nodeF_iff]
          exact ⟨rfl, h2, fun _ q hq => (HCVR.out.lt q hq).1, HCB.out, by have := HPB.out; omega, h1⟩)
        obtain ⟨rows, g1, g2, g3, g4⟩ := OwnL.rev HOWN.out
        have hrl : (revL ps).length = ps.length := revL_length ps
        have HLI := Lib.hid (show ∀ n, Lies (fun q => w.heap.size ≤ q) (.slice pq ps.length cq) n from fun n _ q hq => (HOWN.out.lt q hq).1)
        by_cases h2 : op = 2
        · subst h2
          have HG4 := Lib.hid g4
          have HG2 := Lib.hid g2
          have HG3 := Lib.hid g3
          have HRV := Lib.hid (rev_own2 wr w.heap.size ps.length _ rows (by omega) (by omega) g3 (by rw [hrl] at g1; exact g1))
          have HRL := Lib.hid hrl
          clear g1 g2 g3 g4 hrl hb
          go_wp2_with fail
          refine HRV.out.mono ?_
          rintro e w4 ⟨hraw, hf4, u, rfl⟩
          have HRAW := Lib.hid hraw
          have HF4 := Lib.hid hf4
          have HST := Lib.hid (HSTAY.out w4 hf4)
          clear hraw hf4 z0 z1 z2 x0 x1 x2
          obtain ⟨z0, z1, z2⟩ := cells3 HST.out.1
          go_wp2_with (refine wpList_store_obj rfl (.tmp 2) (.tmp 33) 25 rfl (B + 1) rfl [.int .i64 2, .slice pq0 cls.length cq0, .slice pq ps.length cq] rfl _ _ HST.out.2.1 (by kernel_rfl) rfl (by simp [Value.oneCell']) ?_; intro w5 hb5 hf5)
          obtain ⟨s0, s1, s2⟩ := cells3 hb5
          have hbe : Below w.heap.size w w5 := HST.out.2.2.2.trans (hf5.below HST.out.2.2.2.size (fun q hq => by have hq : q = B + 1 := hq; have := HB.out; omega))
          refine bodyPost_ret (v := .agg #[.int .i64 2, .slice pq0 cls.length cq0, .slice pq ps.length cq]) (by simp [results, Try.results25, go_sem, s0, s1, s2]) rfl ⟨_, _, _, rfl, ?_, hbe⟩
          have hne : ∀ q, FE w.heap.size O (B + 1) wr (Value.slice pq ps.length cq) q → w.heap.size ≤ q := fun q hq => hq.1
          have e : revX (.mk 2 cls ps) = .mk 2 cls (revL ps).reverse := by rw [revX, if_pos rfl]
          rw [e]
          refine HFIN.out w5 _ (by rw [List.length_reverse, HRL.out]) ?_ ((HST.out.2.2.1.fr hf5 (fun q hq he => HST.out.2.2.1.notAt HST.out.2.1 (by decide) (by rw [hq]; exact congrArg some he))).read.ints)
          have hlen : (revL ps).reverse.length = ps.length := by rw [List.length_reverse, HRL.out]
          refine ⟨rows.reverse, ⟨fun r hr => ?_, ?_⟩, HLI.out _, by rw [List.length_reverse, List.length_reverse, HG2.out], fun i hi => ?_⟩
          · obtain ⟨a0, a1, a2, a3, a4, a5, a6, rfl⟩ := HG3.out r (List.mem_reverse.1 hr)
            rfl
          · have h := HRAW.out
            rw [List.length_reverse, HG2.out, HRL.out]
            exact Raw.fr hf5 h (fun _ q hq he => (HPNE.out q hq).2.1 he)
          · rw [List.length_reverse] at hi
            have hi2 : (revL ps).length - 1 - i < (revL ps).length := by omega
            obtain ⟨a, b, c, k1, k2⟩ := HG4.out _ hi2
            refine ⟨a, b, c, ?_, ?_⟩
            · rw [List.getElem?_reverse (by rw [HG2.out]; exact hi), HG2.out]; exact k1
            · rw [List.getElem_reverse]
              exact NodeF.mono hne _ ((k2.fr HF4.out (fun q hq he => hq.2.2.1 he)).fr hf5 (fun q hq he => hq.2.2.2.2 he))
        · have h2' : (op == 2) = false := by simp [h2]
          have HRL := Lib.hid hrl
          have H2 := Lib.hid h2
          clear g1 g2 g3 g4 hrl h2 hb
          go_wp2_with (refine wpList_store_obj rfl (.tmp 2) (.tmp 33) 25 rfl (B + 1) rfl [.int .i64 op, .slice pq0 cls.length cq0, .slice pq ps.length cq] rfl _ _ HBRR.out (by kernel_rfl) rfl (by simp [Value.oneCell']) ?_; intro w5 hb5 hf5)
          obtain ⟨s0, s1, s2⟩ := cells3 hb5
          have hbe : Below w.heap.size w w5 := HBR'.out.trans (hf5.below hbsz (fun q hq => by have hq : q = B + 1 := hq; have := HB.out; omega))
          refine bodyPost_ret (v := .agg #[.int .i64 op, .slice pq0 cls.length cq0, .slice pq ps.length cq]) (by simp [results, Try.results25, go_sem, s0, s1, s2]) rfl ⟨_, _, _, rfl, ?_, hbe⟩
          have e : revX (.mk op cls ps) = .mk op cls (revL ps) := by rw [revX, if_neg H2.out]
          rw [e]
          refine HFIN.out w5 _ HRL.out ?_ ((HCVR.out.fr hf5 (fun q hq he => HCVR.out.notAt HBRR.out (by decide) (by rw [hq]; exact congrArg some he))).read.ints)
          have hown := HOWN.out
          have h3 : OwnL (nodeE (fun q => w.heap.size ≤ q) w5) 25 3 w.heap.size w5 (.slice pq ps.length cq) (revL ps) := (hown.fr hf5 (fun q hq he => (HPNE.out q hq).2.1 he)).mono fun x r hx => by
            obtain ⟨u0, u1, u2, rfl, hu⟩ := hx
            exact ⟨u0, u1, u2, rfl, NodeF.mono (fun q hq => hq.1) _ (hu.fr hf5 (fun q hq he => hq.2.2.2.2 he))⟩
          exact h3.read.nodesF (HLI.out _)

theorem rev_x : ∀ (x : Nd), RevAt x
  | .mk op cls ps => rev_step op cls ps (fun x hx => rev_x x)
  termination_by x => SizeOf.sizeOf x
  decreasing_by
    have := List.sizeOf_lt_of_mem hx
    simp; omega
end Go.Proofs.Ytodkeiadaodehaa
