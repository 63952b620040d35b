/-
  reader.run, case by case. No condition beyond what each theorem names.
-/
import Derived.Test.YtphgjppeindbaaaE
set_option linter.unusedVariables false
set_option linter.unusedSimpArgs false
namespace Go.Proofs.Ytphgjppeindbaaa
open Go.RowKit

/-- what a call of run answers -/
def RunAt (t : List Int) (back : Bool) (x : Nd) : Prop := ∀ (w : World) (tv a b c fv : Value) (bs : List Bool), bs.length = t.length + 1 → Ints w tv t → Bools w fv bs → NodeIs w x a b c →
  Calls Try.prog 33 #[.agg #[tv, .bool back], .agg #[a, b, c], fv] w (Came w (Rel back (M t x)) bs fv)

theorem Came.mono {w w' : World} {r s : Nat → Nat → Prop} {bs : List Bool} {fv : Value} {e : Ending} (h : Came w r bs fv e w') (hrs : ∀ p q, r p q ↔ s p q) : Came w s bs fv e w' := by
  obtain ⟨v, out, h1, h2, h3, h4⟩ := h
  exact ⟨v, out, h1, h2, img_same h3 hrs, h4⟩

theorem NodeIs.form {w : World} {x : Nd} {a b c : Value} (h : NodeIs w x a b c) : ∃ op p l c1 q m d, a = .int .i64 op ∧ b = .slice p l c1 ∧ c = .slice q m d := by
  obtain ⟨op, cls, ps⟩ := x
  rw [nodeIs_iff] at h
  obtain ⟨rfl, h1, -, -, h2⟩ := h
  obtain ⟨p, c1, rfl, -⟩ := h1.get
  obtain ⟨q, d, rfl, -⟩ := h2.get
  exact ⟨_, _, _, _, _, _, _, rfl, rfl, rfl⟩

theorem Nodes.rows {w : World} {v : Value} {ns : List Nd} (h : Nodes w v ns) : ∃ rows : List (List Value), Raw w v ns.length rows.flatten ∧ rows.length = ns.length ∧ rows.flatten.length = ns.length * 3 ∧
    (∀ u ∈ rows.flatten, u.oneCell' = true) ∧ (∀ r ∈ rows, ndRow r) ∧ ∀ i (h : i < ns.length), ∃ x y z, rows[i]? = some [x, y, z] ∧ NodeIs w ns[i] x y z := by
  obtain ⟨rows, ⟨h1, h2⟩, h3, h4⟩ := h
  have hnd : ∀ r ∈ rows, ndRow r := by
    intro r hr
    obtain ⟨i, hi, rfl⟩ := List.getElem_of_mem hr
    obtain ⟨x, y, z, h5, h6⟩ := h4 i (by omega)
    obtain ⟨op, p, l, c1, q, m, d, rfl, rfl, rfl⟩ := h6.form
    rw [List.getElem?_eq_getElem hi] at h5
    exact ⟨op, p, l, c1, q, m, d, Option.some.inj h5⟩
  refine ⟨rows, by rwa [h3] at h2, h3, by rw [flatten_length h1, h3], fun u hu => ?_, hnd, h4⟩
  obtain ⟨r, hr, hu⟩ := List.mem_flatten.1 hu
  obtain ⟨op, p, l, c1, q, m, d, rfl⟩ := hnd r hr
  simp at hu
  rcases hu with rfl | rfl | rfl <;> rfl

theorem Nodes.mk {w : World} {v : Value} {ns : List Nd} {rows : List (List Value)} (h1 : Raw w v ns.length rows.flatten) (h2 : rows.length = ns.length) (h3 : ∀ r ∈ rows, ndRow r) (h4 : ∀ i (h : i < ns.length), ∃ x y z, rows[i]? = some [x, y, z] ∧ NodeIs w ns[i] x y z) : Nodes w v ns :=
  ⟨rows, ⟨fun r hr => by obtain ⟨op, p, l, c1, q, m, d, rfl⟩ := h3 r hr; rfl, by rwa [h2]⟩, h2, h4⟩

theorem NRow.of_own {w : World} {base g n cap : Nat} {rows : List (List Value)} (h : w.ownsRow base 33 3 (.slice (some ⟨g, 0, none⟩) n cap) n rows.flatten) (hr : ∀ r ∈ rows, ndRow r) : NRow w g rows := by
  have hraw := Raw.of_own h
  obtain ⟨h1, h2⟩ := h
  rcases h2 with ⟨h3, -⟩ | ⟨g', cap', cur, h3, -, h4, -⟩
  · cases h3
  · cases h3
    refine ⟨fun o => by simp [World.frozen?, h4], fun i r hi => ⟨hr r (List.mem_of_getElem? hi), ?_⟩⟩
    have hrows : Rows w 3 (.slice (some ⟨g, 0, none⟩) n cap) rows := ⟨fun r hr' => by obtain ⟨op, p, l, c1, q, m, d, rfl⟩ := hr r hr'; rfl, by
      have e : rows.length = n := by
        have := flatten_length (sz := 3) (rows := rows) (fun r hr' => by obtain ⟨op, p, l, c1, q, m, d, rfl⟩ := hr r hr'; rfl)
        omega
      rw [e]; exact hraw⟩
    obtain ⟨p, c, h5, -, h6⟩ := hrows.get (by omega)
    obtain ⟨b, off, h7, -, h8⟩ := h6 (by have := (List.getElem?_eq_some_iff.1 hi).1; omega)
    injection h5 with h5
    subst h5
    cases h7
    obtain ⟨op, p, l, c1, q, m, d, rfl⟩ := hr r (List.mem_of_getElem? hi)
    have h9 := h8 i _ hi
    exact ⟨_, _, _, rfl, by simpa using h9 0 _ rfl, by simpa using h9 1 _ rfl, by simpa using h9 2 _ rfl⟩

theorem NRow.raw {w : World} {g n cap : Nat} {rows : List (List Value)} (h : NRow w g rows) (hl : rows.length = n) (hn : n ≤ cap) : Raw w (.slice (some ⟨g, 0, none⟩) n cap) n rows.flatten := by
  refine ⟨_, cap, rfl, hn, fun h0 => ⟨g, 0, rfl, fun j u hu => ?_⟩⟩
  have h3 : ∀ r ∈ rows, r.length = 3 := fun r hr => by
    obtain ⟨i, hi, rfl⟩ := List.getElem_of_mem hr
    obtain ⟨⟨op, p, l, c1, q, m, d, e⟩, -⟩ := h.2 i _ (List.getElem?_eq_getElem hi)
    rw [e]; rfl
  have hj := (List.getElem?_eq_some_iff.1 hu).1
  rw [flatten_length h3] at hj
  have hi : j / 3 < rows.length := by omega
  have := flatten_get h3 (List.getElem?_eq_getElem hi) (j % 3) (Nat.mod_lt _ (by omega))
  rw [show j / 3 * 3 + j % 3 = j by omega, hu] at this
  obtain ⟨-, x, y, z, e, c0, c1, c2⟩ := h.2 (j / 3) _ (List.getElem?_eq_getElem hi)
  rw [e] at this
  have hm : j % 3 = 0 ∨ j % 3 = 1 ∨ j % 3 = 2 := by omega
  rcases hm with hm | hm | hm <;> rw [hm] at this <;> simp at this <;> subst this
  · rw [show 0 + j = j / 3 * 3 by omega]; exact c0
  · rw [show 0 + j = j / 3 * 3 + 1 by omega]; exact c1
  · rw [show 0 + j = j / 3 * 3 + 2 by omega]; exact c2

/-- slices.Reverse of whatever the call owns -/
theorem rev_own (w : World) (base n : Nat) (v : Value) (rows : List (List Value)) (hn : n ≤ 9000000000000000000) (hl : rows.length = n) (hr : ∀ r ∈ rows, ndRow r) (h : w.ownsRow base 33 3 v n rows.flatten) :
    Calls Try.prog 39 #[v] w fun e w' => Raw w' v n rows.reverse.flatten ∧ Fr (fun k => base ≤ k) w w' ∧ ∃ u, e = .returned u := by
  have h' := h
  obtain ⟨h1, h2⟩ := h'
  rcases h2 with ⟨rfl, rfl⟩ | ⟨g, cap, cur, rfl, hb, hg, hnc, -⟩
  · have : rows = [] := by simpa using hl
    subst this
    clear h h1 hl hr
    go_enter Try.func39, Try.ntmps39
    go_wp2_with fail
    go_loopw [2, 3] (fun u v wr => u = .int .i64 0 ∧ v = .int .i64 (-1) ∧ wr = w) (fun _ v _ => 0)
    case atStart => exact ⟨rfl, rfl, rfl⟩
    case round =>
      obtain ⟨rfl, rfl, rfl⟩ := hrel
      go_wp2
      go_end0
      exact ⟨⟨none, 0, rfl, Nat.le_refl _, fun h => by simp at h⟩, Fr.refl _ _, _, rfl⟩
  · refine (rev_any w g n cap rows hl hn (Array.getElem?_eq_some_iff.1 hg).1 (NRow.of_own h hr)).mono fun e w' ⟨k1, k2, k3⟩ => ⟨k1.raw (by simpa using hl) hnc, k2.mono (fun k _ hk => by subst hk; exact hb), k3⟩

set_option maxHeartbeats 1000000 in
theorem run_0 (t : List Int) (back : Bool) (cls : List Int) (ps : List Nd) (hn : t.length ≤ 1000000) : RunAt t back (.mk 0 cls ps) := by
  intro w tv a b c fv bs hl ht hf hx
  rw [nodeIs_iff] at hx
  obtain ⟨rfl, hcl, hcb, hpb, hps⟩ := hx
  obtain ⟨pt, capt, rfl, hct, hxt⟩ := ht.get
  obtain ⟨pf, capf, rfl, hcf, hxf⟩ := hf.get
  obtain ⟨pc, capc, rfl, hcc, hxc⟩ := hcl.get
  obtain ⟨pp, capp, rfl, hcp, hxp⟩ := hps.get
  unfold R at hcb hpb
  have HTI := Lib.hid ht
  have HF := Lib.hid hf
  have HCL := Lib.hid hcl
  have HPS := Lib.hid hps
  have HXP := Lib.hid hxp
  have hmk := fun w => make_bools 51 Try.underlying51 w ((t.length : Int) + 1) (t.length + 1) (by omega) (by omega)
  rw [hl] at hcf ⊢
  have HLB := Lib.hid hl
  obtain ⟨n, hn'⟩ : ∃ n, n = t.length := ⟨_, rfl⟩
  rw [← hn'] at hmk hcf hct hn ⊢
  have HN := Lib.hid hn'
  clear ht hf hcl hps hxt hxf hxc hxp hl hn'
  go_enter Try.func33, Try.ntmps33
  go_upto_block 0 with fail
  refine abs_wp fun W hW0 => ?_
  have hW : W = ((w.alloc (.cells #[.slice pt n capt, .bool back] 53)).alloc (.cells #[.int .i64 0, .slice pc cls.length capc, .slice pp ps.length capp] 33)).alloc (.cells (List.replicate (n + 1) (Value.bool false)).toArray 4) := hW0
  clear hW0
  have hBW : Below w.heap.size w W := by rw [hW]; exact (((Below.refl _ _).alloc (Nat.le_refl _) _).alloc (by simp) _).alloc (by simp; omega) _
  have hbox : W.heap[w.heap.size]? = some (.cells #[.slice pt n capt, .bool back] 53) := by
    rw [hW, Below.heap_alloc _ _ _ (by simp; omega), Below.heap_alloc _ _ _ (by simp)]; exact heap_alloc_new _ _
  have hbox2 : W.heap[w.heap.size + 1]? = some (.cells #[.int .i64 0, .slice pc cls.length capc, .slice pp ps.length capp] 33) := by
    rw [hW, Below.heap_alloc _ _ _ (by simp)]
    have := heap_alloc_new (w.alloc (.cells #[.slice pt n capt, .bool back] 53)) (.cells #[.int .i64 0, .slice pc cls.length capc, .slice pp ps.length capp] 33)
    simpa using this
  have hrow : BRow W (w.heap.size + 2) (List.replicate (n + 1) false) := by
    unfold BRow
    rw [hW, List.map_replicate]
    have := heap_alloc_new ((w.alloc (.cells #[.slice pt n capt, .bool back] 53)).alloc (.cells #[.int .i64 0, .slice pc cls.length capc, .slice pp ps.length capp] 33)) (.cells (List.replicate (n + 1) (Value.bool false)).toArray 4)
    simpa using this
  obtain ⟨B, hB⟩ : ∃ B, B = w.heap.size := ⟨_, rfl⟩
  rw [← hB] at hbox hbox2 hrow ⊢
  have HB := Lib.hid hB
  have HBW := Lib.hid hBW
  have HROW := Lib.hid hrow
  have hszW : B + 2 < W.heap.size := hrow.lt
  have x0 : W.cell? ⟨B, 0, none⟩ = some (.slice pt n capt) := by simp [World.cell?, hbox]
  have x1 : W.cell? ⟨B, 1, none⟩ = some (.bool back) := by simp [World.cell?, hbox]
  have x2 : W.cell? ⟨B + 1, 0, none⟩ = some (.int .i64 0) := by simp [World.cell?, hbox2]
  have x3 : W.cell? ⟨B + 1, 1, none⟩ = some (.slice pc cls.length capc) := by simp [World.cell?, hbox2]
  have x4 : W.cell? ⟨B + 1, 2, none⟩ = some (.slice pp ps.length capp) := by simp [World.cell?, hbox2]
  have HX1 := Lib.hid hbox
  have HX2 := Lib.hid hbox2
  clear hW hB hBW hrow hbox hbox2 hmk

  go_wp2
  go_ret
  refine ⟨_, bs, rfl, ?_, img_same (img_refl bs) (fun p q => (Rel_eq (back := back) p q).symm.trans (Rel_iff M_0 p q).symm), HBW.out, fun k hk => .inl hk⟩
  have := HF.out.to HBW.out (Nat.le_refl _)
  rwa [HLB.out, ← HN.out] at this

set_option maxHeartbeats 1000000 in
theorem run_1 (t : List Int) (back : Bool) (cls : List Int) (ps : List Nd) (hn : t.length ≤ 1000000) : RunAt t back (.mk 1 cls ps) := by
  intro w tv a b c fv bs hl ht hf hx
  rw [nodeIs_iff] at hx
  obtain ⟨rfl, hcl, hcb, hpb, hps⟩ := hx
  obtain ⟨pt, capt, rfl, hct, hxt⟩ := ht.get
  obtain ⟨pf, capf, rfl, hcf, hxf⟩ := hf.get
  obtain ⟨pc, capc, rfl, hcc, hxc⟩ := hcl.get
  obtain ⟨pp, capp, rfl, hcp, hxp⟩ := hps.get
  unfold R at hcb hpb
  have HTI := Lib.hid ht
  have HF := Lib.hid hf
  have HCL := Lib.hid hcl
  have HPS := Lib.hid hps
  have HXP := Lib.hid hxp
  have hmk := fun w => make_bools 51 Try.underlying51 w ((t.length : Int) + 1) (t.length + 1) (by omega) (by omega)
  rw [hl] at hcf ⊢
  have HLB := Lib.hid hl
  obtain ⟨n, hn'⟩ : ∃ n, n = t.length := ⟨_, rfl⟩
  rw [← hn'] at hmk hcf hct hn ⊢
  have HN := Lib.hid hn'
  clear ht hf hcl hps hxt hxf hxc hxp hl hn'
  go_enter Try.func33, Try.ntmps33
  go_upto_block 0 with fail
  refine abs_wp fun W hW0 => ?_
  have hW : W = ((w.alloc (.cells #[.slice pt n capt, .bool back] 53)).alloc (.cells #[.int .i64 1, .slice pc cls.length capc, .slice pp ps.length capp] 33)).alloc (.cells (List.replicate (n + 1) (Value.bool false)).toArray 4) := hW0
  clear hW0
  have hBW : Below w.heap.size w W := by rw [hW]; exact (((Below.refl _ _).alloc (Nat.le_refl _) _).alloc (by simp) _).alloc (by simp; omega) _
  have hbox : W.heap[w.heap.size]? = some (.cells #[.slice pt n capt, .bool back] 53) := by
    rw [hW, Below.heap_alloc _ _ _ (by simp; omega), Below.heap_alloc _ _ _ (by simp)]; exact heap_alloc_new _ _
  have hbox2 : W.heap[w.heap.size + 1]? = some (.cells #[.int .i64 1, .slice pc cls.length capc, .slice pp ps.length capp] 33) := by
    rw [hW, Below.heap_alloc _ _ _ (by simp)]
    have := heap_alloc_new (w.alloc (.cells #[.slice pt n capt, .bool back] 53)) (.cells #[.int .i64 1, .slice pc cls.length capc, .slice pp ps.length capp] 33)
    simpa using this
  have hrow : BRow W (w.heap.size + 2) (List.replicate (n + 1) false) := by
    unfold BRow
    rw [hW, List.map_replicate]
    have := heap_alloc_new ((w.alloc (.cells #[.slice pt n capt, .bool back] 53)).alloc (.cells #[.int .i64 1, .slice pc cls.length capc, .slice pp ps.length capp] 33)) (.cells (List.replicate (n + 1) (Value.bool false)).toArray 4)
    simpa using this
  obtain ⟨B, hB⟩ : ∃ B, B = w.heap.size := ⟨_, rfl⟩
  rw [← hB] at hbox hbox2 hrow ⊢
  have HB := Lib.hid hB
  have HBW := Lib.hid hBW
  have HROW := Lib.hid hrow
  have hszW : B + 2 < W.heap.size := hrow.lt
  have x0 : W.cell? ⟨B, 0, none⟩ = some (.slice pt n capt) := by simp [World.cell?, hbox]
  have x1 : W.cell? ⟨B, 1, none⟩ = some (.bool back) := by simp [World.cell?, hbox]
  have x2 : W.cell? ⟨B + 1, 0, none⟩ = some (.int .i64 1) := by simp [World.cell?, hbox2]
  have x3 : W.cell? ⟨B + 1, 1, none⟩ = some (.slice pc cls.length capc) := by simp [World.cell?, hbox2]
  have x4 : W.cell? ⟨B + 1, 2, none⟩ = some (.slice pp ps.length capp) := by simp [World.cell?, hbox2]
  have HX1 := Lib.hid hbox
  have HX2 := Lib.hid hbox2
  clear hW hB hBW hrow hbox hbox2 hmk

  have HS := Lib.hid (step_any back W (.slice pt t.length capt) (.slice pf bs.length capf) (.slice pc cls.length capc) t cls bs (by rw [← HN.out]; omega) HLB.out (by omega) (HTI.out.to HBW.out (Nat.le_refl _)) (HF.out.to HBW.out (Nat.le_refl _)) (HCL.out.to HBW.out (Nat.le_refl _)))
  rw [HLB.out, ← HN.out] at HS
  go_wp2_with fail
  refine HS.out.mono ?_
  rintro e w1 ⟨g, out, rfl, hg, hrow, himg, hb⟩
  rw [HLB.out, ← HN.out]
  go_wp2
  go_ret
  refine ⟨_, out, rfl, ?_, img_same himg (fun p q => (Rel_iff M_1 p q).symm), HBW.out.trans (hb.mono HBW.out.size), fun k hk => .inr ?_⟩
  · have := hrow.bools
    rwa [himg.1, HLB.out, ← HN.out] at this
  · obtain rfl : g = k := by simpa [Value.ownBlock] using hk
    exact Nat.le_trans HBW.out.size hg

set_option maxHeartbeats 1000000 in
theorem run_else (t : List Int) (back : Bool) (op : Int) (cls : List Int) (ps : List Nd) (hn : t.length ≤ 1000000) (h0 : op ≠ 0) (h1 : op ≠ 1) (h2 : op ≠ 2) (h3 : op ≠ 3) (h4 : op ≠ 4) (h5 : op ≠ 5) : RunAt t back (.mk op cls ps) := by
  have HM := Lib.hid (fun p q => M_else (t := t) (cls := cls) (ps := ps) h0 h1 h2 h3 h4 h5 p q)
  have g0 : (op == 0) = false := by simpa using h0
  have g1 : (op == 1) = false := by simpa using h1
  have g2 : (op == 2) = false := by simpa using h2
  have g3 : (op == 3) = false := by simpa using h3
  have g4 : (op == 4) = false := by simpa using h4
  have g5 : (op == 5) = false := by simpa using h5
  clear h0 h1 h2 h3 h4 h5
  intro w tv a b c fv bs hl ht hf hx
  rw [nodeIs_iff] at hx
  obtain ⟨rfl, hcl, hcb, hpb, hps⟩ := hx
  obtain ⟨pt, capt, rfl, hct, hxt⟩ := ht.get
  obtain ⟨pf, capf, rfl, hcf, hxf⟩ := hf.get
  obtain ⟨pc, capc, rfl, hcc, hxc⟩ := hcl.get
  obtain ⟨pp, capp, rfl, hcp, hxp⟩ := hps.get
  unfold R at hcb hpb
  have HTI := Lib.hid ht
  have HF := Lib.hid hf
  have HCL := Lib.hid hcl
  have HPS := Lib.hid hps
  have HXP := Lib.hid hxp
  have hmk := fun w => make_bools 51 Try.underlying51 w ((t.length : Int) + 1) (t.length + 1) (by omega) (by omega)
  rw [hl] at hcf ⊢
  have HLB := Lib.hid hl
  obtain ⟨n, hn'⟩ : ∃ n, n = t.length := ⟨_, rfl⟩
  rw [← hn'] at hmk hcf hct hn ⊢
  have HN := Lib.hid hn'
  clear ht hf hcl hps hxt hxf hxc hxp hl hn'
  go_enter Try.func33, Try.ntmps33
  go_upto_block 0 with fail
  refine abs_wp fun W hW0 => ?_
  have hW : W = ((w.alloc (.cells #[.slice pt n capt, .bool back] 53)).alloc (.cells #[.int .i64 op, .slice pc cls.length capc, .slice pp ps.length capp] 33)).alloc (.cells (List.replicate (n + 1) (Value.bool false)).toArray 4) := hW0
  clear hW0
  have hBW : Below w.heap.size w W := by rw [hW]; exact (((Below.refl _ _).alloc (Nat.le_refl _) _).alloc (by simp) _).alloc (by simp; omega) _
  have hbox : W.heap[w.heap.size]? = some (.cells #[.slice pt n capt, .bool back] 53) := by
    rw [hW, Below.heap_alloc _ _ _ (by simp; omega), Below.heap_alloc _ _ _ (by simp)]; exact heap_alloc_new _ _
  have hbox2 : W.heap[w.heap.size + 1]? = some (.cells #[.int .i64 op, .slice pc cls.length capc, .slice pp ps.length capp] 33) := by
    rw [hW, Below.heap_alloc _ _ _ (by simp)]
    have := heap_alloc_new (w.alloc (.cells #[.slice pt n capt, .bool back] 53)) (.cells #[.int .i64 op, .slice pc cls.length capc, .slice pp ps.length capp] 33)
    simpa using this
  have hrow : BRow W (w.heap.size + 2) (List.replicate (n + 1) false) := by
    unfold BRow
    rw [hW, List.map_replicate]
    have := heap_alloc_new ((w.alloc (.cells #[.slice pt n capt, .bool back] 53)).alloc (.cells #[.int .i64 op, .slice pc cls.length capc, .slice pp ps.length capp] 33)) (.cells (List.replicate (n + 1) (Value.bool false)).toArray 4)
    simpa using this
  obtain ⟨B, hB⟩ : ∃ B, B = w.heap.size := ⟨_, rfl⟩
  rw [← hB] at hbox hbox2 hrow ⊢
  have HB := Lib.hid hB
  have HBW := Lib.hid hBW
  have HROW := Lib.hid hrow
  have hszW : B + 2 < W.heap.size := hrow.lt
  have x0 : W.cell? ⟨B, 0, none⟩ = some (.slice pt n capt) := by simp [World.cell?, hbox]
  have x1 : W.cell? ⟨B, 1, none⟩ = some (.bool back) := by simp [World.cell?, hbox]
  have x2 : W.cell? ⟨B + 1, 0, none⟩ = some (.int .i64 op) := by simp [World.cell?, hbox2]
  have x3 : W.cell? ⟨B + 1, 1, none⟩ = some (.slice pc cls.length capc) := by simp [World.cell?, hbox2]
  have x4 : W.cell? ⟨B + 1, 2, none⟩ = some (.slice pp ps.length capp) := by simp [World.cell?, hbox2]
  have HX1 := Lib.hid hbox
  have HX2 := Lib.hid hbox2
  clear hW hB hBW hrow hbox hbox2 hmk

  go_wp2
  go_ret
  refine ⟨_, _, rfl, ?_, ⟨by rw [HLB.out, ← HN.out]; exact List.length_replicate, fun q => ⟨fun h => absurd h (no_places _ _), fun ⟨p, _, h⟩ => ?_⟩⟩, HBW.out, fun k hk => .inr ?_⟩
  · have := HROW.out.bools
    rwa [List.length_replicate] at this
  · cases back
    · exact absurd h (HM.out p q)
    · exact absurd h (HM.out q p)
  · obtain rfl : B + 2 = k := by simpa [Value.ownBlock] using hk
    rw [← HB.out]; omega

set_option maxHeartbeats 2000000 in
theorem run_seq (t : List Int) (back : Bool) (cls : List Int) (ps : List Nd) (hn : t.length ≤ 1000000) (ih : ∀ x ∈ ps, RunAt t back x) : RunAt t back (.mk 2 cls ps) := by
  have IH := Lib.hid ih
  clear ih
  intro w tv a b c fv bs hl ht hf hx
  rw [nodeIs_iff] at hx
  obtain ⟨rfl, hcl, hcb, hpb, hps⟩ := hx
  obtain ⟨pt, capt, rfl, hct, hxt⟩ := ht.get
  obtain ⟨pf, capf, rfl, hcf, hxf⟩ := hf.get
  obtain ⟨pc, capc, rfl, hcc, hxc⟩ := hcl.get
  obtain ⟨pp, capp, rfl, hcp, hxp⟩ := hps.get
  unfold R at hcb hpb
  have HTI := Lib.hid ht
  have HF := Lib.hid hf
  have HCL := Lib.hid hcl
  have HPS := Lib.hid hps
  have HXP := Lib.hid hxp
  have hmk := fun w => make_bools 51 Try.underlying51 w ((t.length : Int) + 1) (t.length + 1) (by omega) (by omega)
  rw [hl] at hcf ⊢
  have HLB := Lib.hid hl
  obtain ⟨n, hn'⟩ : ∃ n, n = t.length := ⟨_, rfl⟩
  rw [← hn'] at hmk hcf hct hn ⊢
  have HN := Lib.hid hn'
  clear ht hf hcl hps hxt hxf hxc hxp hl hn'
  go_enter Try.func33, Try.ntmps33
  go_upto_block 0 with fail
  refine abs_wp fun W hW0 => ?_
  have hW : W = ((w.alloc (.cells #[.slice pt n capt, .bool back] 53)).alloc (.cells #[.int .i64 2, .slice pc cls.length capc, .slice pp ps.length capp] 33)).alloc (.cells (List.replicate (n + 1) (Value.bool false)).toArray 4) := hW0
  clear hW0
  have hBW : Below w.heap.size w W := by rw [hW]; exact (((Below.refl _ _).alloc (Nat.le_refl _) _).alloc (by simp) _).alloc (by simp; omega) _
  have hbox : W.heap[w.heap.size]? = some (.cells #[.slice pt n capt, .bool back] 53) := by
    rw [hW, Below.heap_alloc _ _ _ (by simp; omega), Below.heap_alloc _ _ _ (by simp)]; exact heap_alloc_new _ _
  have hbox2 : W.heap[w.heap.size + 1]? = some (.cells #[.int .i64 2, .slice pc cls.length capc, .slice pp ps.length capp] 33) := by
    rw [hW, Below.heap_alloc _ _ _ (by simp)]
    have := heap_alloc_new (w.alloc (.cells #[.slice pt n capt, .bool back] 53)) (.cells #[.int .i64 2, .slice pc cls.length capc, .slice pp ps.length capp] 33)
    simpa using this
  have hrow : BRow W (w.heap.size + 2) (List.replicate (n + 1) false) := by
    unfold BRow
    rw [hW, List.map_replicate]
    have := heap_alloc_new ((w.alloc (.cells #[.slice pt n capt, .bool back] 53)).alloc (.cells #[.int .i64 2, .slice pc cls.length capc, .slice pp ps.length capp] 33)) (.cells (List.replicate (n + 1) (Value.bool false)).toArray 4)
    simpa using this
  obtain ⟨B, hB⟩ : ∃ B, B = w.heap.size := ⟨_, rfl⟩
  rw [← hB] at hbox hbox2 hrow ⊢
  have HB := Lib.hid hB
  have HBW := Lib.hid hBW
  have HROW := Lib.hid hrow
  have hszW : B + 2 < W.heap.size := hrow.lt
  have x0 : W.cell? ⟨B, 0, none⟩ = some (.slice pt n capt) := by simp [World.cell?, hbox]
  have x1 : W.cell? ⟨B, 1, none⟩ = some (.bool back) := by simp [World.cell?, hbox]
  have x2 : W.cell? ⟨B + 1, 0, none⟩ = some (.int .i64 2) := by simp [World.cell?, hbox2]
  have x3 : W.cell? ⟨B + 1, 1, none⟩ = some (.slice pc cls.length capc) := by simp [World.cell?, hbox2]
  have x4 : W.cell? ⟨B + 1, 2, none⟩ = some (.slice pp ps.length capp) := by simp [World.cell?, hbox2]
  have HX1 := Lib.hid hbox
  have HX2 := Lib.hid hbox2
  clear hW hB hBW hrow hbox hbox2 hmk

  obtain ⟨rows, hraw, hrl, hfl, h1c, hnd, hel⟩ := (HPS.out.to HBW.out (Nat.le_refl _)).rows
  have HCLONE := Lib.hid (clone_nodes W _ ps.length rows.flatten (by omega) hfl h1c hraw)
  have HRL := Lib.hid hrl
  have HND := Lib.hid hnd
  have HEL := Lib.hid hel
  clear hraw hrl hfl h1c hnd hel
  go_wp2_with fail
  refine HCLONE.out.mono ?_
  clear x2 x3 x4 HCLONE
  cases back
  case' false =>
    rintro e W3 ⟨v1, rfl, hown, hb1⟩
    obtain ⟨pv, cv, hv, -⟩ := Raw.of_own hown
    subst hv
    have HB3 := Lib.hid hb1
    have HNS := Lib.hid (show Nodes W3 (.slice pv ps.length cv) (ordered false ps) from Nodes.mk (Raw.of_own hown) HRL.out HND.out (fun i hi => by
      obtain ⟨x, y, z, g1, g2⟩ := HEL.out i hi
      exact ⟨x, y, z, g1, g2.to hb1 (Nat.le_refl _)⟩))
    have y1 := cell_below hb1 (by omega) x1
    clear hown hb1
    go_upto_region 11 with fail
    clear y1
  case' true =>
    rintro e w1 ⟨v1, rfl, hown, hb1⟩
    obtain ⟨pv, cv, hv, -⟩ := Raw.of_own hown
    subst hv
    have HREV := Lib.hid (rev_own w1 W.heap.size ps.length _ rows (by omega) HRL.out HND.out hown)
    have HB1 := Lib.hid hb1
    have y1 := cell_below hb1 (by omega) x1
    clear hown hb1
    go_wp2_with fail
    refine HREV.out.mono ?_
    rintro e W3 ⟨hraw, hfr, u, rfl⟩
    have HB3 := Lib.hid (HB1.out.trans (hfr.below HB1.out.size (fun _ h => h)))
    have HNS := Lib.hid (show Nodes W3 (.slice pv ps.length cv) (ordered true ps) from Nodes.mk (ns := ps.reverse) (rows := rows.reverse) (by rw [List.length_reverse]; exact hraw) (by simp [HRL.out]) (fun r hr => HND.out r (List.mem_reverse.1 hr)) (fun i hi => by
      have hi' : i < ps.length := by simpa using hi
      obtain ⟨x, y, z, g1, g2⟩ := HEL.out (ps.length - 1 - i) (by omega)
      refine ⟨x, y, z, ?_, ?_⟩
      · rw [List.getElem?_reverse (by rw [HRL.out]; exact hi'), HRL.out]; exact g1
      · rw [List.getElem_reverse]; exact g2.to HB3.out (Nat.le_refl _)))
    clear hraw hfr HREV y1
    go_upto_region 11 with fail
  all_goals
    have z0 := cell_below HB3.out (by omega) x0
    have z1 := cell_below HB3.out (by omega) x1
    have hs3 := HB3.out.size
    have HBW3 := Lib.hid (HBW.out.trans (HB3.out.mono HBW.out.size))
    have HTI3 := Lib.hid (HTI.out.to HBW3.out (Nat.le_refl _))
    have HF3 := Lib.hid (HF.out.to HBW3.out (Nat.le_refl _))
    obtain ⟨p0, c0, he0, hc0, hx0⟩ := HNS.out.get
    have hol : ∀ b, (ordered b ps).length = ps.length := fun b => by cases b <;> simp [ordered]
    rw [hol] at he0 hc0
    injection he0 with he1 he2 he3
    subst he1 he3
    have HXN := Lib.hid hx0
    have HOL := Lib.hid hol
    have hmem : ∀ b x, x ∈ ordered b ps → x ∈ ps := fun b x hx => by cases b <;> simpa [ordered] using hx
    have HMEM := Lib.hid hmem
    have hpl : (ps.length : Int) ≤ 140737488351232 := by omega
    clear x0 x1 hx0 hol hmem HRL HND HEL
    go_wp2_with fail
  · skip
    go_loopw [2, 40] (fun v i wr => ∃ (k : Nat) (cur : List Bool), i = .int .i64 k ∧ k ≤ ps.length ∧ Bools wr v cur ∧ img (chain t true ((ordered true ps).take k)) bs cur ∧ Below W3.heap.size W3 wr ∧ (∀ j, v.ownBlock = some j → pf.map (·.block) = some j ∨ w.heap.size ≤ j)) (fun _ i _ => ps.length - (intOf i).toNat)
    case atStart => exact ⟨0, bs, rfl, by omega, by have := HF3.out; rwa [HLB.out, ← HN.out] at this, img_same (img_refl bs) (fun p q => (chain_nil t _ p q).symm), Below.refl _ _, fun j hj => by cases pf <;> simp_all [Value.ownBlock]⟩
    case round =>
      obtain ⟨k, cur, rfl, h1, hcur, himg, hb, hblk⟩ := hrel
      have HCUR := Lib.hid hcur
      have HIMG := Lib.hid himg
      have HBR := Lib.hid hb
      have HBLK := Lib.hid hblk
      have q0 := cell_below hb (by omega) z0
      have q1 := cell_below hb (by omega) z1
      have hsr := hb.size
      obtain ⟨pcur, ccur, hv, hcc', -⟩ := hcur.get
      have hcl : cur.length = n + 1 := by rw [himg.1, HLB.out, ← HN.out]
      rw [hcl] at hv hcc'
      subst hv
      have HCURL := Lib.hid hcl
      clear hcur himg hb hblk hcl
      by_cases hlt : k < ps.length
      · have hko : k < (ordered true ps).length := by rw [HOL.out]; exact hlt
        obtain ⟨b, off, rfl, hbl, hxx⟩ := HXN.out (by omega)
        obtain ⟨x, y, z, c0', c1', c2', hnode⟩ := hxx k hko
        obtain ⟨op, p1, l1, e1, q2, m2, d2, rfl, rfl, rfl⟩ := hnode.form
        have r0 := cell_below HBR.out hbl c0'
        have r1 := cell_below HBR.out hbl c1'
        have r2 := cell_below HBR.out hbl c2'
        have HNODE := Lib.hid (hnode.to HBR.out (Nat.le_refl _))
        have HRUN := Lib.hid (IH.out _ (HMEM.out true _ (List.getElem_mem hko)))
        have HTK := Lib.hid (List.take_succ_eq_append_getElem hko)
        have htr := HTI3.out.to HBR.out (Nat.le_refl _)
        rw [← HN.out] at htr
        have HTR := Lib.hid htr
        have hcr := HCUR.out
        generalize (ordered true ps)[k] = part at *
        have HCR := Lib.hid hcr
        clear hxx c0' c1' c2' hnode htr hcr
        go_upto_region 14 with fail
        refine abs_wp fun W5 hW5 => ?_
        have hb5 : Below wr.heap.size wr W5 := by rw [hW5]; exact (Below.refl _ _).alloc (Nat.le_refl _) _
        have hnew : W5.heap[wr.heap.size]? = some (.cells #[.int .i64 op, .slice p1 l1 e1, .slice q2 m2 d2] 33) := by rw [hW5]; exact heap_alloc_new _ _
        have s0 : W5.cell? ⟨wr.heap.size, 0, none⟩ = some (.int .i64 op) := by simp [World.cell?, hnew]
        have s1 : W5.cell? ⟨wr.heap.size, 1, none⟩ = some (.slice p1 l1 e1) := by simp [World.cell?, hnew]
        have s2 : W5.cell? ⟨wr.heap.size, 2, none⟩ = some (.slice q2 m2 d2) := by simp [World.cell?, hnew]
        have t0 := cell_below hb5 (by omega) q0
        have t1 := cell_below hb5 (by omega) q1
        have HB5 := Lib.hid hb5
        clear hW5 hnew q0 q1 r0 r1 r2
        go_wp2_with fail
        refine (HRUN.out W5 _ _ _ _ _ cur (by rw [HCURL.out, HN.out]) (HTR.out.to HB5.out (Nat.le_refl _)) (HCR.out.to HB5.out (Nat.le_refl _)) (HNODE.out.to HB5.out (Nat.le_refl _))).mono ?_
        rintro e w6 ⟨v6, out6, rfl, hbo, himg6, hbl6, hblk6⟩
        have H6 := Lib.hid hblk6
        clear s0 s1 s2 t0 t1 hblk6
        go_wp2_with fail
        go_roundw
        case rel =>
          have hs5 := hb5.size
          have hsw := HBW3.out.size
          refine ⟨k + 1, out6, by go_num, by omega, hbo, by rw [HTK.out]; exact img_chain HIMG.out himg6, HBR.out.trans ((HB5.out.trans (hbl6.mono HB5.out.size)).mono HBR.out.size), fun j hj => ?_⟩
          rcases H6.out j hj with h | h
          · exact HBLK.out j h
          · right; omega
        case measure => simp [intOf]; omega
      · have hke : (ordered true ps).take k = ordered true ps := List.take_of_length_le (by rw [HOL.out]; omega)
        have HKE := Lib.hid hke
        clear hke
        go_wp2
        go_ret
        refine ⟨_, cur, rfl, ?_, ?_, HBW3.out.trans (HBR.out.mono HBW3.out.size), fun j hj => ?_⟩
        · exact HCUR.out
        · have := HIMG.out
          rw [HKE.out] at this
          exact img_same this (fun p q => (chain_all t _ ps p q).trans (Rel_iff M_2 p q).symm)
        · rcases HBLK.out j hj with h | h
          · left; cases pf <;> simp_all [Value.ownBlock]
          · exact .inr h
  · skip
    go_loopw [2, 40] (fun v i wr => ∃ (k : Nat) (cur : List Bool), i = .int .i64 k ∧ k ≤ ps.length ∧ Bools wr v cur ∧ img (chain t false ((ordered false ps).take k)) bs cur ∧ Below W3.heap.size W3 wr ∧ (∀ j, v.ownBlock = some j → pf.map (·.block) = some j ∨ w.heap.size ≤ j)) (fun _ i _ => ps.length - (intOf i).toNat)
    case atStart => exact ⟨0, bs, rfl, by omega, by have := HF3.out; rwa [HLB.out, ← HN.out] at this, img_same (img_refl bs) (fun p q => (chain_nil t _ p q).symm), Below.refl _ _, fun j hj => by cases pf <;> simp_all [Value.ownBlock]⟩
    case round =>
      obtain ⟨k, cur, rfl, h1, hcur, himg, hb, hblk⟩ := hrel
      have HCUR := Lib.hid hcur
      have HIMG := Lib.hid himg
      have HBR := Lib.hid hb
      have HBLK := Lib.hid hblk
      have q0 := cell_below hb (by omega) z0
      have q1 := cell_below hb (by omega) z1
      have hsr := hb.size
      obtain ⟨pcur, ccur, hv, hcc', -⟩ := hcur.get
      have hcl : cur.length = n + 1 := by rw [himg.1, HLB.out, ← HN.out]
      rw [hcl] at hv hcc'
      subst hv
      have HCURL := Lib.hid hcl
      clear hcur himg hb hblk hcl
      by_cases hlt : k < ps.length
      · have hko : k < (ordered false ps).length := by rw [HOL.out]; exact hlt
        obtain ⟨b, off, rfl, hbl, hxx⟩ := HXN.out (by omega)
        obtain ⟨x, y, z, c0', c1', c2', hnode⟩ := hxx k hko
        obtain ⟨op, p1, l1, e1, q2, m2, d2, rfl, rfl, rfl⟩ := hnode.form
        have r0 := cell_below HBR.out hbl c0'
        have r1 := cell_below HBR.out hbl c1'
        have r2 := cell_below HBR.out hbl c2'
        have HNODE := Lib.hid (hnode.to HBR.out (Nat.le_refl _))
        have HRUN := Lib.hid (IH.out _ (HMEM.out false _ (List.getElem_mem hko)))
        have HTK := Lib.hid (List.take_succ_eq_append_getElem hko)
        have htr := HTI3.out.to HBR.out (Nat.le_refl _)
        rw [← HN.out] at htr
        have HTR := Lib.hid htr
        have hcr := HCUR.out
        generalize (ordered false ps)[k] = part at *
        have HCR := Lib.hid hcr
        clear hxx c0' c1' c2' hnode htr hcr
        go_upto_region 14 with fail
        refine abs_wp fun W5 hW5 => ?_
        have hb5 : Below wr.heap.size wr W5 := by rw [hW5]; exact (Below.refl _ _).alloc (Nat.le_refl _) _
        have hnew : W5.heap[wr.heap.size]? = some (.cells #[.int .i64 op, .slice p1 l1 e1, .slice q2 m2 d2] 33) := by rw [hW5]; exact heap_alloc_new _ _
        have s0 : W5.cell? ⟨wr.heap.size, 0, none⟩ = some (.int .i64 op) := by simp [World.cell?, hnew]
        have s1 : W5.cell? ⟨wr.heap.size, 1, none⟩ = some (.slice p1 l1 e1) := by simp [World.cell?, hnew]
        have s2 : W5.cell? ⟨wr.heap.size, 2, none⟩ = some (.slice q2 m2 d2) := by simp [World.cell?, hnew]
        have t0 := cell_below hb5 (by omega) q0
        have t1 := cell_below hb5 (by omega) q1
        have HB5 := Lib.hid hb5
        clear hW5 hnew q0 q1 r0 r1 r2
        go_wp2_with fail
        refine (HRUN.out W5 _ _ _ _ _ cur (by rw [HCURL.out, HN.out]) (HTR.out.to HB5.out (Nat.le_refl _)) (HCR.out.to HB5.out (Nat.le_refl _)) (HNODE.out.to HB5.out (Nat.le_refl _))).mono ?_
        rintro e w6 ⟨v6, out6, rfl, hbo, himg6, hbl6, hblk6⟩
        have H6 := Lib.hid hblk6
        clear s0 s1 s2 t0 t1 hblk6
        go_wp2_with fail
        go_roundw
        case rel =>
          have hs5 := hb5.size
          have hsw := HBW3.out.size
          refine ⟨k + 1, out6, by go_num, by omega, hbo, by rw [HTK.out]; exact img_chain HIMG.out himg6, HBR.out.trans ((HB5.out.trans (hbl6.mono HB5.out.size)).mono HBR.out.size), fun j hj => ?_⟩
          rcases H6.out j hj with h | h
          · exact HBLK.out j h
          · right; omega
        case measure => simp [intOf]; omega
      · have hke : (ordered false ps).take k = ordered false ps := List.take_of_length_le (by rw [HOL.out]; omega)
        have HKE := Lib.hid hke
        clear hke
        go_wp2
        go_ret
        refine ⟨_, cur, rfl, ?_, ?_, HBW3.out.trans (HBR.out.mono HBW3.out.size), fun j hj => ?_⟩
        · exact HCUR.out
        · have := HIMG.out
          rw [HKE.out] at this
          exact img_same this (fun p q => (chain_all t _ ps p q).trans (Rel_iff M_2 p q).symm)
        · rcases HBLK.out j hj with h | h
          · left; cases pf <;> simp_all [Value.ownBlock]
          · exact .inr h
end Go.Proofs.Ytphgjppeindbaaa
