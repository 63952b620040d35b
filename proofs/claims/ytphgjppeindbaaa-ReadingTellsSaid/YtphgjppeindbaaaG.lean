/-
  reader.run of alternatives, of parts that may be left out, of any number of parts. No condition beyond what each theorem names.
-/
import Derived.Test.YtphgjppeindbaaaF
set_option linter.unusedVariables false
set_option linter.unusedSimpArgs false
namespace Go.Proofs.Ytphgjppeindbaaa
open Go.RowKit

theorem Malt_take {t : List Int} {ps : List Nd} {k : Nat} (h : k < ps.length) (p q : Nat) : Malt t (ps.take (k + 1)) p q ↔ Malt t (ps.take k) p q ∨ M t ps[k] p q := by
  rw [Malt_mem, Malt_mem, List.take_succ_eq_append_getElem h]
  simp only [List.mem_append, List.mem_singleton]
  constructor
  · rintro ⟨x, h1 | rfl, h2⟩
    · exact .inl ⟨x, h1, h2⟩
    · exact .inr h2
  · rintro (⟨x, h1, h2⟩ | h2)
    · exact ⟨x, .inl h1, h2⟩
    · exact ⟨_, .inr rfl, h2⟩

theorem Rel_or {back : Bool} {r s u : Nat → Nat → Prop} (h : ∀ p q, u p q ↔ r p q ∨ s p q) (p q : Nat) : Rel back u p q ↔ Rel back r p q ∨ Rel back s p q := by cases back <;> exact h _ _

theorem alt_step {t : List Int} {back : Bool} {ps : List Nd} {k : Nat} (h : k < ps.length) {bs cur out : List Bool} (hl : out.length = cur.length) (h1 : ∀ q, tr cur q ↔ ∃ p, tr bs p ∧ Rel back (Malt t (ps.take k)) p q) (h2 : img (Rel back (M t ps[k])) bs out) :
    ∀ q, tr (orL cur out) q ↔ ∃ p, tr bs p ∧ Rel back (Malt t (ps.take (k + 1))) p q := by
  intro q
  rw [tr_or hl, h1 q, h2.2 q]
  constructor
  · rintro (⟨p, a, b⟩ | ⟨p, a, b⟩)
    · exact ⟨p, a, (Rel_or (Malt_take h) p q).2 (.inl b)⟩
    · exact ⟨p, a, (Rel_or (Malt_take h) p q).2 (.inr b)⟩
  · rintro ⟨p, a, b⟩
    rcases (Rel_or (Malt_take h) p q).1 b with b | b
    · exact .inl ⟨p, a, b⟩
    · exact .inr ⟨p, a, b⟩

theorem rel_star_step {back : Bool} {r : Nat → Nat → Prop} {p m q : Nat} (h : Rel back (Star r) p m) (k : Rel back r m q) : Rel back (Star r) p q := by
  cases back
  · exact .step h k
  · exact Star.head k h
theorem rel_star_refl {back : Bool} {r : Nat → Nat → Prop} (p : Nat) : Rel back (Star r) p p := by cases back <;> exact .refl _
theorem rel_star_ind {back : Bool} {r : Nat → Nat → Prop} {S : Nat → Prop} (hs : ∀ m q, S m → Rel back r m q → S q) {p q : Nat} (h : Rel back (Star r) p q) (hp : S p) : S q := by
  cases back
  · have h' : Star r p q := h
    induction h' with
    | refl => exact hp
    | step h1 h2 ih => exact hs _ _ (ih h1) h2
  · have h' : Star r q p := h
    have h2 := h'.swap
    clear h h'
    induction h2 with
    | refl => exact hp
    | step h1 h2 ih => exact hs _ _ ih h2

theorem star_fin {back : Bool} {r : Nat → Nat → Prop} {bs cur now out : List Bool} (hl : out.length = cur.length) (hN : ∀ q, tr now q ↔ tr cur q) (h6 : img (Rel back r) now out) (hm : moreL cur out = false)
    (h1 : ∀ q, tr bs q → tr cur q) (h2 : ∀ q, tr cur q → ∃ p, tr bs p ∧ Rel back (Star r) p q) (q : Nat) : tr (orL cur out) q ↔ ∃ p, tr bs p ∧ Rel back (Star r) p q := by
  have hsub := moreL_false hl hm
  rw [tr_or hl]
  constructor
  · rintro (h | h)
    · exact h2 q h
    · exact h2 q (hsub q h)
  · rintro ⟨p, h3, h4⟩
    exact .inl (rel_star_ind (S := fun m => tr cur m) (fun m q hm hr => hsub q ((h6.2 q).2 ⟨m, (hN m).2 hm, hr⟩)) h4 (h1 p h3))

theorem star_more {back : Bool} {r : Nat → Nat → Prop} {bs cur now out : List Bool} (hl : out.length = cur.length) (hN : ∀ q, tr now q ↔ tr cur q) (h6 : img (Rel back r) now out)
    (h1 : ∀ q, tr bs q → tr cur q) (h2 : ∀ q, tr cur q → ∃ p, tr bs p ∧ Rel back (Star r) p q) : (∀ q, tr bs q → tr (orL cur out) q) ∧ ∀ q, tr (orL cur out) q → ∃ p, tr bs p ∧ Rel back (Star r) p q := by
  refine ⟨fun q h => (tr_or hl q).2 (.inl (h1 q h)), fun q h => ?_⟩
  rcases (tr_or hl q).1 h with h | h
  · exact h2 q h
  · obtain ⟨m, h3, h4⟩ := (h6.2 q).1 h
    obtain ⟨p, h5, h7⟩ := h2 m ((hN m).1 h3)
    exact ⟨p, h5, rel_star_step h7 h4⟩

theorem opt_fin {back : Bool} {r : Nat → Nat → Prop} {bs cur now out : List Bool} (hl : out.length = cur.length) (hN : ∀ q, tr now q ↔ tr cur q) (h6 : img (Rel back r) now out)
    (h1 : ∀ q, tr bs q → tr cur q) (h2 : ∀ q, tr cur q → tr bs q) (q : Nat) : tr (orL cur out) q ↔ ∃ p, tr bs p ∧ (p = q ∨ Rel back r p q) := by
  rw [tr_or hl]
  constructor
  · rintro (h | h)
    · exact ⟨q, h2 q h, .inl rfl⟩
    · obtain ⟨m, h3, h4⟩ := (h6.2 q).1 h
      exact ⟨m, h2 m ((hN m).1 h3), .inr h4⟩
  · rintro ⟨p, h3, rfl | h4⟩
    · exact .inl (h1 _ h3)
    · exact .inr ((h6.2 q).2 ⟨p, (hN p).2 (h1 p h3), h4⟩)

theorem rel_4 {t : List Int} {back : Bool} {cls : List Int} {ps : List Nd} (h : ps.length = 1) (p q : Nat) : Rel back (M t (.mk 4 cls ps)) p q ↔ Rel back (Star (Malt t ps)) p q := by
  cases back <;> simp [Rel, M_4, h]
theorem rel_5 {t : List Int} {back : Bool} {cls : List Int} {ps : List Nd} (h : ps.length = 1) (p q : Nat) : Rel back (M t (.mk 5 cls ps)) p q ↔ p = q ∨ Rel back (Malt t ps) p q := by
  cases back <;> simp [Rel, M_5, h, eq_comm]
theorem rel_45 {t : List Int} {back : Bool} {op : Int} {cls : List Int} {ps : List Nd} (ho : op = 4 ∨ op = 5) (h : ps.length ≠ 1) (p q : Nat) : ¬ Rel back (M t (.mk op cls ps)) p q := by
  rcases ho with rfl | rfl <;> cases back <;> simp [Rel, M_4, M_5, h]
theorem malt_one {t : List Int} {ps : List Nd} (h : ps.length = 1) (p q : Nat) : M t (ps[0]'(by omega)) p q ↔ Malt t ps p q := by
  match ps, h with
  | [x], _ => simp [Malt]

theorem Bools.ne {w : World} {pf : Option Addr} {n cap : Nat} {bs : List Bool} (h : Bools w (.slice pf n cap) bs) (h0 : 0 < bs.length) : ∀ j, pf.map (·.block) = some j → j < w.heap.size := by
  obtain ⟨b, off, cap', he, -, hb, -⟩ := Raw.lt h (by simpa using h0)
  injection he with he
  subst he
  intro j hj
  obtain rfl : b = j := by simpa using hj
  exact hb

theorem Bools.fr {F : Nat → Prop} {w w' : World} {v : Value} {bs : List Bool} (h : Bools w v bs) (hf : Fr F w w') (hn : 0 < bs.length → ∀ k, v.ownBlock = some k → ¬ F k) : Bools w' v bs := Raw.fr hf h (by simpa using hn)

theorem ownBlock_map (pf : Option Addr) (n c : Nat) : (Value.slice pf n c).ownBlock = pf.map (·.block) := by cases pf <;> rfl


set_option maxHeartbeats 2000000 in
theorem run_alt (t : List Int) (back : Bool) (cls : List Int) (ps : List Nd) (hn : t.length ≤ 1000000) (ih : ∀ x ∈ ps, RunAt t back x) : RunAt t back (.mk 3 cls ps) := by
  have IH := Lib.hid ih
  clear ih
  intro w tv a b c fv bs hl ht hf hx
  rw [nodeIs_iff] at hx
  obtain ⟨rfl, hcl, hcb, hpb, hps⟩ := hx
  obtain ⟨pt, capt, rfl, hct, hxt⟩ := ht.get
  obtain ⟨pf, capf, rfl, hcf, hxf⟩ := hf.get
  obtain ⟨pc, capc, rfl, hcc, hxc⟩ := hcl.get
  obtain ⟨pp, capp, rfl, hcp, hxp⟩ := hps.get
  unfold R at hcb hpb
  have HTI := Lib.hid ht
  have HF := Lib.hid hf
  have HCL := Lib.hid hcl
  have HPS := Lib.hid hps
  have HXP := Lib.hid hxp
  have hmk := fun w => make_bools 51 Try.underlying51 w ((t.length : Int) + 1) (t.length + 1) (by omega) (by omega)
  rw [hl] at hcf ⊢
  have HLB := Lib.hid hl
  obtain ⟨n, hn'⟩ : ∃ n, n = t.length := ⟨_, rfl⟩
  rw [← hn'] at hmk hcf hct hn ⊢
  have HN := Lib.hid hn'
  clear ht hf hcl hps hxt hxf hxc hxp hl hn'
  go_enter Try.func33, Try.ntmps33
  go_upto_block 0 with fail
  refine abs_wp fun W hW0 => ?_
  have hW : W = ((w.alloc (.cells #[.slice pt n capt, .bool back] 53)).alloc (.cells #[.int .i64 3, .slice pc cls.length capc, .slice pp ps.length capp] 33)).alloc (.cells (List.replicate (n + 1) (Value.bool false)).toArray 4) := hW0
  clear hW0
  have hBW : Below w.heap.size w W := by rw [hW]; exact (((Below.refl _ _).alloc (Nat.le_refl _) _).alloc (by simp) _).alloc (by simp; omega) _
  have hbox : W.heap[w.heap.size]? = some (.cells #[.slice pt n capt, .bool back] 53) := by
    rw [hW, Below.heap_alloc _ _ _ (by simp; omega), Below.heap_alloc _ _ _ (by simp)]; exact heap_alloc_new _ _
  have hbox2 : W.heap[w.heap.size + 1]? = some (.cells #[.int .i64 3, .slice pc cls.length capc, .slice pp ps.length capp] 33) := by
    rw [hW, Below.heap_alloc _ _ _ (by simp)]
    have := heap_alloc_new (w.alloc (.cells #[.slice pt n capt, .bool back] 53)) (.cells #[.int .i64 3, .slice pc cls.length capc, .slice pp ps.length capp] 33)
    simpa using this
  have hrow : BRow W (w.heap.size + 2) (List.replicate (n + 1) false) := by
    unfold BRow
    rw [hW, List.map_replicate]
    have := heap_alloc_new ((w.alloc (.cells #[.slice pt n capt, .bool back] 53)).alloc (.cells #[.int .i64 3, .slice pc cls.length capc, .slice pp ps.length capp] 33)) (.cells (List.replicate (n + 1) (Value.bool false)).toArray 4)
    simpa using this
  obtain ⟨B, hB⟩ : ∃ B, B = w.heap.size := ⟨_, rfl⟩
  rw [← hB] at hbox hbox2 hrow ⊢
  have HB := Lib.hid hB
  have HBW := Lib.hid hBW
  have HROW := Lib.hid hrow
  have hszW : B + 2 < W.heap.size := hrow.lt
  have x0 : W.cell? ⟨B, 0, none⟩ = some (.slice pt n capt) := by simp [World.cell?, hbox]
  have x1 : W.cell? ⟨B, 1, none⟩ = some (.bool back) := by simp [World.cell?, hbox]
  have x2 : W.cell? ⟨B + 1, 0, none⟩ = some (.int .i64 3) := by simp [World.cell?, hbox2]
  have x3 : W.cell? ⟨B + 1, 1, none⟩ = some (.slice pc cls.length capc) := by simp [World.cell?, hbox2]
  have x4 : W.cell? ⟨B + 1, 2, none⟩ = some (.slice pp ps.length capp) := by simp [World.cell?, hbox2]
  have HX1 := Lib.hid hbox
  have HX2 := Lib.hid hbox2
  clear hW hB hBW hrow hbox hbox2 hmk

  have HNE := Lib.hid (HF.out.ne (by rw [HLB.out]; omega))
  have hpl : (ps.length : Int) ≤ 140737488351232 := by omega
  go_wp2_with fail
  go_loopw [55] (fun i wr => ∃ (k : Nat) (cur : List Bool), i = .int .i64 k ∧ k ≤ ps.length ∧ cur.length = n + 1 ∧ BRow wr (B + 2) cur ∧ (∀ q, tr cur q ↔ ∃ p, tr bs p ∧ Rel back (Malt t (ps.take k)) p q) ∧ Fr (fun j => j = B + 2) W wr) (fun i _ => ps.length - (intOf i).toNat)
  case atStart => exact ⟨0, _, rfl, by omega, List.length_replicate, HROW.out, fun q => ⟨fun h => absurd h (no_places _ _), fun ⟨p, _, h⟩ => by cases back <;> simp [Rel, Malt] at h⟩, Fr.refl _ _⟩
  case round =>
    obtain ⟨k, cur, rfl, h1, hcl', hrw, htr', hfr⟩ := hrel
    have HR := Lib.hid hrw
    have HTR := Lib.hid htr'
    have HFR := Lib.hid hfr
    have HCL2 := Lib.hid hcl'
    have hsr := hfr.size
    have hgr := hrw.lt
    have hbw : Below w.heap.size w wr := HBW.out.trans (hfr.below HBW.out.size (fun j hj => by rw [← HB.out]; omega))
    have HBR := Lib.hid hbw
    have q0 := hfr.cell (p := ⟨B, 0, none⟩) (by simp) x0
    have q1 := hfr.cell (p := ⟨B, 1, none⟩) (by simp) x1
    clear hcl' hrw htr' hfr hbw
    by_cases hlt : k < ps.length
    · obtain ⟨b, off, rfl, hbl, hxx⟩ := HXP.out (by omega)
      obtain ⟨x, y, z, c0', c1', c2', hnode⟩ := hxx k hlt
      obtain ⟨op, p1, l1, e1, q2, m2, d2, rfl, rfl, rfl⟩ := hnode.form
      have r0 := cell_below HBR.out hbl c0'
      have r1 := cell_below HBR.out hbl c1'
      have r2 := cell_below HBR.out hbl c2'
      have HNODE := Lib.hid (hnode.to HBR.out (Nat.le_refl _))
      have HRUN := Lib.hid (IH.out _ (List.getElem_mem hlt))
      have htt := HTI.out.to HBR.out (Nat.le_refl _)
      rw [← HN.out] at htt
      have HTT := Lib.hid htt
      have hff := HF.out.to HBR.out (Nat.le_refl _)
      rw [HLB.out, ← HN.out] at hff
      have HFF := Lib.hid hff
      have HSTEP := Lib.hid (fun out hl h2 => alt_step (t := t) (back := back) hlt (bs := bs) (cur := cur) (out := out) hl HTR.out h2)
      generalize ps[k] = part at *
      clear hxx c0' c1' c2' hnode htt hff
      go_upto_region 21 with fail
      refine abs_wp fun W5 hW5 => ?_
      have hb5 : Below wr.heap.size wr W5 := by rw [hW5]; exact (Below.refl _ _).alloc (Nat.le_refl _) _
      have hnew : W5.heap[wr.heap.size]? = some (.cells #[.int .i64 op, .slice p1 l1 e1, .slice q2 m2 d2] 33) := by rw [hW5]; exact heap_alloc_new _ _
      have s0 : W5.cell? ⟨wr.heap.size, 0, none⟩ = some (.int .i64 op) := by simp [World.cell?, hnew]
      have s1 : W5.cell? ⟨wr.heap.size, 1, none⟩ = some (.slice p1 l1 e1) := by simp [World.cell?, hnew]
      have s2 : W5.cell? ⟨wr.heap.size, 2, none⟩ = some (.slice q2 m2 d2) := by simp [World.cell?, hnew]
      have t0 := cell_below hb5 (by omega) q0
      have t1 := cell_below hb5 (by omega) q1
      have HB5 := Lib.hid hb5
      have hs5 := hb5.size
      clear hW5 hnew q0 q1 r0 r1 r2
      go_wp2_with fail
      refine (HRUN.out W5 _ _ _ _ _ bs HLB.out (HTT.out.to HB5.out (Nat.le_refl _)) (HFF.out.to HB5.out (Nat.le_refl _)) (HNODE.out.to HB5.out (Nat.le_refl _))).mono ?_
      rintro e w6 ⟨v6, out6, rfl, hbo, himg6, hbl6, hblk6⟩
      have hne6 : v6.ownBlock ≠ some (B + 2) := fun he => by
        rcases hblk6 _ he with h | h
        · rw [ownBlock_map] at h
          have := HNE.out _ h
          have := HB.out
          omega
        · omega
      have hl6 : out6.length = cur.length := by rw [himg6.1, HLB.out, HCL2.out, HN.out]
      have hr6 : BRow w6 (B + 2) cur := (HR.out.below HB5.out hgr).below hbl6 (by omega)
      have HADD := Lib.hid (add_any w6 (B + 2) (n + 1) cur out6 v6 HCL2.out.symm hl6 (by rw [HCL2.out]; omega) hr6 hbo hne6)
      have H6 := Lib.hid hbl6
      have HI6 := Lib.hid himg6
      have HL6 := Lib.hid hl6
      clear s0 s1 s2 t0 t1 hblk6 hne6 hl6 hr6 hbl6 hbo himg6
      go_wp2_with fail
      refine HADD.out.mono ?_
      rintro e w7 ⟨rfl, hrow7, hfr7⟩
      have HR7 := Lib.hid hrow7
      have HF7 := Lib.hid hfr7
      clear hrow7 hfr7
      go_wp2_with fail
      go_roundw
      case rel => exact ⟨k + 1, orL cur out6, by go_num, by omega, by rw [show (orL cur out6).length = cur.length from orTo_length _ _ _]; exact HCL2.out, HR7.out, HSTEP.out out6 HL6.out HI6.out, ((HFR.out.trans (Fr.of_below HB5.out _) (fun _ _ h => h)).trans (Fr.of_below H6.out _) (fun _ _ h => h)).trans HF7.out (fun _ _ h => h)⟩
      case measure => simp [intOf]; omega
    · have hke : ps.take k = ps := List.take_of_length_le (by omega)
      have HKE := Lib.hid hke
      clear hke
      go_wp2
      go_ret
      refine ⟨_, cur, rfl, ?_, ⟨by rw [HCL2.out, HLB.out, HN.out], fun q => ?_⟩, HBR.out, fun j hj => .inr ?_⟩
      · have := HR.out.bools
        rwa [HCL2.out] at this
      · rw [HTR.out q, HKE.out]
        exact ⟨fun ⟨p, a, b⟩ => ⟨p, a, (Rel_iff M_3 p q).2 b⟩, fun ⟨p, a, b⟩ => ⟨p, a, (Rel_iff M_3 p q).1 b⟩⟩
      · obtain rfl : B + 2 = j := by simpa [Value.ownBlock] using hj
        rw [← HB.out]; omega

set_option maxHeartbeats 4000000 in
theorem run_star (t : List Int) (back : Bool) (op : Int) (cls : List Int) (ps : List Nd) (ho : op = 4 ∨ op = 5) (hn : t.length ≤ 1000000) (ih : ∀ x ∈ ps, RunAt t back x) : RunAt t back (.mk op cls ps) := by
  have IH := Lib.hid ih
  have HO := Lib.hid ho
  have HNO := Lib.hid (fun h p q => rel_45 (t := t) (back := back) (cls := cls) (ps := ps) ho h p q)
  have g0 : (op == 0) = false := by rcases ho with rfl | rfl <;> rfl
  have g1 : (op == 1) = false := by rcases ho with rfl | rfl <;> rfl
  have g2 : (op == 2) = false := by rcases ho with rfl | rfl <;> rfl
  have g3 : (op == 3) = false := by rcases ho with rfl | rfl <;> rfl
  have g45 : ((op == 5) = true ∧ (op == 4) = false) ∨ ((op == 5) = false ∧ (op == 4) = true) := by rcases ho with rfl | rfl <;> simp
  have G45 := Lib.hid g45
  clear ih ho g45
  intro w tv a b c fv bs hl ht hf hx
  rw [nodeIs_iff] at hx
  obtain ⟨rfl, hcl, hcb, hpb, hps⟩ := hx
  obtain ⟨pt, capt, rfl, hct, hxt⟩ := ht.get
  obtain ⟨pf, capf, rfl, hcf, hxf⟩ := hf.get
  obtain ⟨pc, capc, rfl, hcc, hxc⟩ := hcl.get
  obtain ⟨pp, capp, rfl, hcp, hxp⟩ := hps.get
  unfold R at hcb hpb
  have HTI := Lib.hid ht
  have HF := Lib.hid hf
  have HCL := Lib.hid hcl
  have HPS := Lib.hid hps
  have HXP := Lib.hid hxp
  have hmk := fun w => make_bools 51 Try.underlying51 w ((t.length : Int) + 1) (t.length + 1) (by omega) (by omega)
  rw [hl] at hcf ⊢
  have HLB := Lib.hid hl
  obtain ⟨n, hn'⟩ : ∃ n, n = t.length := ⟨_, rfl⟩
  rw [← hn'] at hmk hcf hct hn ⊢
  have HN := Lib.hid hn'
  clear ht hf hcl hps hxt hxf hxc hxp hl hn'
  go_enter Try.func33, Try.ntmps33
  go_upto_block 0 with fail
  refine abs_wp fun W hW0 => ?_
  have hW : W = ((w.alloc (.cells #[.slice pt n capt, .bool back] 53)).alloc (.cells #[.int .i64 op, .slice pc cls.length capc, .slice pp ps.length capp] 33)).alloc (.cells (List.replicate (n + 1) (Value.bool false)).toArray 4) := hW0
  clear hW0
  have hBW : Below w.heap.size w W := by rw [hW]; exact (((Below.refl _ _).alloc (Nat.le_refl _) _).alloc (by simp) _).alloc (by simp; omega) _
  have hbox : W.heap[w.heap.size]? = some (.cells #[.slice pt n capt, .bool back] 53) := by
    rw [hW, Below.heap_alloc _ _ _ (by simp; omega), Below.heap_alloc _ _ _ (by simp)]; exact heap_alloc_new _ _
  have hbox2 : W.heap[w.heap.size + 1]? = some (.cells #[.int .i64 op, .slice pc cls.length capc, .slice pp ps.length capp] 33) := by
    rw [hW, Below.heap_alloc _ _ _ (by simp)]
    have := heap_alloc_new (w.alloc (.cells #[.slice pt n capt, .bool back] 53)) (.cells #[.int .i64 op, .slice pc cls.length capc, .slice pp ps.length capp] 33)
    simpa using this
  have hrow : BRow W (w.heap.size + 2) (List.replicate (n + 1) false) := by
    unfold BRow
    rw [hW, List.map_replicate]
    have := heap_alloc_new ((w.alloc (.cells #[.slice pt n capt, .bool back] 53)).alloc (.cells #[.int .i64 op, .slice pc cls.length capc, .slice pp ps.length capp] 33)) (.cells (List.replicate (n + 1) (Value.bool false)).toArray 4)
    simpa using this
  obtain ⟨B, hB⟩ : ∃ B, B = w.heap.size := ⟨_, rfl⟩
  rw [← hB] at hbox hbox2 hrow ⊢
  have HB := Lib.hid hB
  have HBW := Lib.hid hBW
  have HROW := Lib.hid hrow
  have hszW : B + 2 < W.heap.size := hrow.lt
  have x0 : W.cell? ⟨B, 0, none⟩ = some (.slice pt n capt) := by simp [World.cell?, hbox]
  have x1 : W.cell? ⟨B, 1, none⟩ = some (.bool back) := by simp [World.cell?, hbox]
  have x2 : W.cell? ⟨B + 1, 0, none⟩ = some (.int .i64 op) := by simp [World.cell?, hbox2]
  have x3 : W.cell? ⟨B + 1, 1, none⟩ = some (.slice pc cls.length capc) := by simp [World.cell?, hbox2]
  have x4 : W.cell? ⟨B + 1, 2, none⟩ = some (.slice pp ps.length capp) := by simp [World.cell?, hbox2]
  have HX1 := Lib.hid hbox
  have HX2 := Lib.hid hbox2
  clear hW hB hBW hrow hbox hbox2 hmk

  have HNE := Lib.hid (HF.out.ne (by rw [HLB.out]; omega))
  have hpl : (ps.length : Int) ≤ 140737488351232 := by omega
  rcases G45.out with ⟨g5, g4⟩ | ⟨g5, g4⟩
  · by_cases hp1 : ps.length = 1
    · have hpb : ((ps.length : Int) != 1) = false := by simp [hp1]
      have HP1 := Lib.hid hp1
      clear hp1
      go_upto_region 27 with fail
      have h0 : 0 < ps.length := by have := HP1.out; omega
      obtain ⟨b, off, rfl, hbl, hxx⟩ := HXP.out h0
      obtain ⟨x, y, z, c0', c1', c2', hnode⟩ := hxx 0 h0
      obtain ⟨pop, p1, l1, e1, q2, m2, d2, rfl, rfl, rfl⟩ := hnode.form
      simp only [Nat.zero_mul, Nat.add_zero] at c0' c1' c2'
      have C0 := Lib.hid c0'
      have C1 := Lib.hid c1'
      have C2 := Lib.hid c2'
      have HNODE := Lib.hid hnode
      have HRUN := Lib.hid (IH.out _ (List.getElem_mem h0))
      have HMO := Lib.hid (malt_one (t := t) HP1.out)
      generalize ps[0] = part at *
      have HADD := Lib.hid (add_any W (B + 2) (n + 1) (List.replicate (n + 1) false) bs (.slice pf (n + 1) capf) (by simp) (by rw [HLB.out, ← HN.out]; simp) (by simp; omega) HROW.out (by have := HF.out.to HBW.out (Nat.le_refl _); rwa [HLB.out, ← HN.out] at this) (fun he => by
        rw [ownBlock_map] at he
        have := HNE.out _ he
        have := HB.out
        omega))
      have G4 := Lib.hid g4
      have i0 : (0 : Int) < (ps.length : Int) := by omega
      clear hxx c0' c1' c2' hnode g0 g1 g2 g3 g5
      go_wp2_with fail
      refine HADD.out.mono ?_
      rintro e w1 ⟨rfl, hrow1, hfr1⟩
      have hbs1 : ∀ q, tr (orL (List.replicate (n + 1) false) bs) q ↔ tr bs q := fun q => by
        rw [tr_or (by rw [HLB.out, ← HN.out]; simp)]
        exact ⟨fun h => h.resolve_left (no_places _ _), .inr⟩
      have HBS1 := Lib.hid hbs1
      have HR1 := Lib.hid hrow1
      have HF1 := Lib.hid hfr1
      clear HADD hbs1 hrow1 hfr1
      go_wp2_with fail
      go_loopw [13] (fun v wr => ∃ (cur now : List Bool), cur.length = n + 1 ∧ now.length = n + 1 ∧ BRow wr (B + 2) cur ∧ Bools wr v now ∧ (∀ q, tr now q ↔ tr cur q) ∧ (∀ q, tr bs q → tr cur q) ∧
        (∀ q, tr cur q → ∃ p, tr bs p ∧ Rel back (Star (M t part)) p q) ∧ ((op == 4) = false → ∀ q, tr cur q → tr bs q) ∧ v.ownBlock ≠ some (B + 2) ∧ Fr (fun j => j = B + 2) W wr) (fun _ wr => falses wr (B + 2))
      case atStart =>
        refine ⟨_, bs, by rw [show (orL (List.replicate (n + 1) false) bs).length = _ from orTo_length _ _ _]; simp, by rw [HLB.out, HN.out], HR1.out, ?_, fun q => (HBS1.out q).symm, fun q h => (HBS1.out q).2 h, fun q h => ⟨q, (HBS1.out q).1 h, rel_star_refl q⟩, fun _ q h => (HBS1.out q).1 h, ?_, HF1.out⟩
        · have h0 := HF.out.to HBW.out (Nat.le_refl _)
          rw [HLB.out, ← HN.out] at h0
          exact h0.fr HF1.out (fun _ k hk hF => by
            rw [ownBlock_map] at hk
            have := HNE.out _ hk
            have := HB.out
            have : k = B + 2 := hF
            omega)
        · intro he
          rw [ownBlock_map] at he
          have := HNE.out _ he
          have := HB.out
          omega
      case round =>
        obtain ⟨cur, now, hcl', hnl, hrw, hnow, hnc, hbc, hcs, h5, hvb, hfr⟩ := hrel
        obtain ⟨pv, cv, rfl, hcv, -⟩ := hnow.get
        rw [hnl] at hnow hvb hcv ⊢
        have HCL2 := Lib.hid hcl'
        have HNL := Lib.hid hnl
        have HR := Lib.hid hrw
        have HNOW := Lib.hid hnow
        have HNC := Lib.hid hnc
        have HBC := Lib.hid hbc
        have HCS := Lib.hid hcs
        have H5 := Lib.hid h5
        have HVB := Lib.hid hvb
        have HFR := Lib.hid hfr
        have hsr := hfr.size
        have hgr := hrw.lt
        have hbw : Below w.heap.size w wr := HBW.out.trans (hfr.below HBW.out.size (fun j hj => by rw [← HB.out]; omega))
        have HBR := Lib.hid hbw
        have q0 := hfr.cell (p := ⟨B, 0, none⟩) (by simp) x0
        have q1 := hfr.cell (p := ⟨B, 1, none⟩) (by simp) x1
        have q2' := hfr.cell (p := ⟨B + 1, 0, none⟩) (by simp) x2
        have q4 := hfr.cell (p := ⟨B + 1, 2, none⟩) (by simp) x4
        have r0 := cell_below hbw hbl C0.out
        have r1 := cell_below hbw hbl C1.out
        have r2 := cell_below hbw hbl C2.out
        have htt := HTI.out.to hbw (Nat.le_refl _)
        rw [← HN.out] at htt
        have HTT := Lib.hid htt
        have HNR := Lib.hid (HNODE.out.to hbw (Nat.le_refl _))
        clear hcl' hnl hrw hnow hnc hbc hcs h5 hvb hfr hbw htt g4
        go_upto_region 29 with fail
        refine wp_region_plan (fun W' => W'.cell? ⟨B, 0, none⟩ = some (.slice pt n capt) ∧ W'.cell? ⟨B, 1, none⟩ = some (.bool back) ∧ W'.cell? ⟨B + 1, 0, none⟩ = some (.int .i64 op) ∧ W'.cell? ⟨B + 1, 2, none⟩ = some (.slice (some ⟨b, off, none⟩) ps.length capp) ∧
          W'.cell? ⟨b, off, none⟩ = some (.int .i64 pop) ∧ W'.cell? ⟨b, off + 1, none⟩ = some (.slice p1 l1 e1) ∧ W'.cell? ⟨b, off + 2, none⟩ = some (.slice q2 m2 d2)) (.reads [0, 1, 2, 3, 4, 5, 6] (.one 7 (.one 8 (.reads [9, 10, 11, 12, 13] .done)))) 95 (by kernel_rfl) (by kernel_rfl) rfl (fun _ _ _ _ _ h => h) ⟨q0, q1, q2', q4, r0, r1, r2⟩ ?_
        apply plan_reads
        · intro W' hW'
          obtain ⟨s0, s1, s2, s3, s4, s5, s6⟩ := hW'
          repeat (refine wpRead_step (fun K hK => ?_); go_simp; refine hK _ ?_; clear hK K)
          exact wpRead_nil rfl
        refine plan_one rfl ?_
        go_wp2_with fail
        refine (HRUN.out wr.drew _ _ _ _ _ now (by rw [HNL.out, HN.out]) (HTT.out.to (Below.refl _ _).drew (Nat.le_refl _)) (HNOW.out.to (Below.refl _ _).drew (Nat.le_refl _)) (HNR.out.to (Below.refl _ _).drew (Nat.le_refl _))).mono ?_
        rintro e w6 ⟨v6, out6, rfl, hbo, himg6, hbl6, hblk6⟩
        have hbl6' : Below wr.heap.size wr w6 := (Below.refl wr.heap.size wr).drew.trans hbl6
        have hne6 : v6.ownBlock ≠ some (B + 2) := fun he => by
          rcases hblk6 _ he with h | h
          · exact HVB.out h
          · have : wr.heap.size ≤ B + 2 := h
            omega
        have hl6 : out6.length = cur.length := by rw [himg6.1, HNL.out, HCL2.out]
        have hr6 : BRow w6 (B + 2) cur := HR.out.below hbl6' hgr
        have HADD := Lib.hid (add_any w6 (B + 2) (n + 1) cur out6 v6 HCL2.out.symm hl6 (by rw [HCL2.out]; omega) hr6 hbo hne6)
        have H6 := Lib.hid hbl6'
        have HI6 := Lib.hid himg6
        have HL6 := Lib.hid hl6
        have hs6 := hbl6'.size
        have hbo' : b < wr.heap.size := by have := HBR.out.size; omega
        have t0 := cell_below hbl6' (by omega) q0
        have t1 := cell_below hbl6' (by omega) q1
        have t2 := cell_below hbl6' (by omega) q2'
        have t4 := cell_below hbl6' (by omega) q4
        have u0 := cell_below hbl6' hbo' r0
        have u1 := cell_below hbl6' hbo' r1
        have u2 := cell_below hbl6' hbo' r2
        clear q0 q1 q2' q4 r0 r1 r2 hblk6 hne6 hl6 hr6 hbl6 hbl6' hbo himg6
        go_wp2_with fail
        refine Then.mk ⟨t0, t1, t2, t4, u0, u1, u2⟩ ?_
        refine plan_one rfl ?_
        go_wp2_with fail
        refine HADD.out.mono ?_
        have hbB : ¬ b = B + 2 := by have := HB.out; omega
        rintro e w7 ⟨rfl, hrow7, hfr7⟩
        have HR7 := Lib.hid hrow7
        have HF7 := Lib.hid hfr7
        have v0 := hfr7.cell (p := ⟨B, 0, none⟩) (by simp) t0
        have v1 := hfr7.cell (p := ⟨B, 1, none⟩) (by simp) t1
        have v2 := hfr7.cell (p := ⟨B + 1, 0, none⟩) (by simp) t2
        have v4 := hfr7.cell (p := ⟨B + 1, 2, none⟩) (by simp) t4
        have k0 := hfr7.cell (p := ⟨b, off, none⟩) hbB u0
        have k1 := hfr7.cell (p := ⟨b, off + 1, none⟩) hbB u1
        have k2 := hfr7.cell (p := ⟨b, off + 2, none⟩) hbB u2
        have HFW := Lib.hid ((HFR.out.trans (Fr.of_below H6.out _) (fun _ _ h => h)).trans hfr7 (fun _ _ h => h))
        have hgr7 := hrow7.lt
        have hl7 : (orL cur out6).length = n + 1 := (orTo_length _ _ _).trans HCL2.out
        have HL7 := Lib.hid hl7
        have hbools7 := hrow7.bools
        rw [hl7] at hbools7
        have HB7 := Lib.hid hbools7
        have HBW7 := Lib.hid (HBW.out.trans (HFW.out.below HBW.out.size (fun j hj => by rw [← HB.out]; omega)))
        clear t0 t1 t2 t4 u0 u1 u2 hrow7 hfr7 hl7 hbools7
        cases hmo : moreL cur out6
        all_goals
          have HMOR := Lib.hid hmo
          have g4 := G4.out
          clear hmo
          go_wp2_with fail
          refine Then.mk ⟨v0, v1, v2, v4, k0, k1, k2⟩ ?_
          clear v0 v1 v2 v4 k0 k1 k2
          apply plan_reads
          · intro W' hW'
            obtain ⟨s0, s1, s2, s3, s4, s5, s6⟩ := hW'
            repeat (refine wpRead_step (fun K hK => ?_); go_simp; refine hK _ ?_; clear hK K)
            exact wpRead_nil rfl
          refine plan_done ?_
        · go_wp2
          go_ret
          refine ⟨_, orL cur out6, rfl, HB7.out, ⟨HL7.out.trans (by rw [HLB.out, HN.out]), fun q => ?_⟩, HBW7.out, fun j hj => .inr ?_⟩
          · have hop : op = 5 := by
              rcases HO.out with h | h
              · subst h; have := G4.out; simp at this
              · exact h
            subst hop
            rw [opt_fin HL6.out HNC.out HI6.out HBC.out (H5.out G4.out) q]
            exact exists_congr fun p => and_congr_right fun _ => (or_congr_right (Rel_iff HMO.out p q)).trans (rel_5 HP1.out p q).symm
          · obtain rfl : B + 2 = j := by simpa [Value.ownBlock] using hj
            rw [← HB.out]; omega
        · go_wp2
          go_ret
          refine ⟨_, orL cur out6, rfl, HB7.out, ⟨HL7.out.trans (by rw [HLB.out, HN.out]), fun q => ?_⟩, HBW7.out, fun j hj => .inr ?_⟩
          · have hop : op = 5 := by
              rcases HO.out with h | h
              · subst h; have := G4.out; simp at this
              · exact h
            subst hop
            rw [opt_fin HL6.out HNC.out HI6.out HBC.out (H5.out G4.out) q]
            exact exists_congr fun p => and_congr_right fun _ => (or_congr_right (Rel_iff HMO.out p q)).trans (rel_5 HP1.out p q).symm
          · obtain rfl : B + 2 = j := by simpa [Value.ownBlock] using hj
            rw [← HB.out]; omega
    · have hpb : ((ps.length : Int) != 1) = true := by simpa using (by omega : ¬ (ps.length : Int) = 1)
      have HP1 := Lib.hid hp1
      clear hp1
      go_wp2
      go_ret
      refine ⟨_, _, rfl, ?_, ⟨by rw [HLB.out, ← HN.out]; exact List.length_replicate, fun q => ⟨fun h => absurd h (no_places _ _), fun ⟨p, _, h⟩ => absurd h (HNO.out HP1.out p q)⟩⟩, HBW.out, fun k hk => .inr ?_⟩
      · have := HROW.out.bools
        rwa [List.length_replicate] at this
      · obtain rfl : B + 2 = k := by simpa [Value.ownBlock] using hk
        rw [← HB.out]; omega
  · by_cases hp1 : ps.length = 1
    · have hpb : ((ps.length : Int) != 1) = false := by simp [hp1]
      have HP1 := Lib.hid hp1
      clear hp1
      go_upto_region 27 with fail
      have h0 : 0 < ps.length := by have := HP1.out; omega
      obtain ⟨b, off, rfl, hbl, hxx⟩ := HXP.out h0
      obtain ⟨x, y, z, c0', c1', c2', hnode⟩ := hxx 0 h0
      obtain ⟨pop, p1, l1, e1, q2, m2, d2, rfl, rfl, rfl⟩ := hnode.form
      simp only [Nat.zero_mul, Nat.add_zero] at c0' c1' c2'
      have C0 := Lib.hid c0'
      have C1 := Lib.hid c1'
      have C2 := Lib.hid c2'
      have HNODE := Lib.hid hnode
      have HRUN := Lib.hid (IH.out _ (List.getElem_mem h0))
      have HMO := Lib.hid (malt_one (t := t) HP1.out)
      generalize ps[0] = part at *
      have HADD := Lib.hid (add_any W (B + 2) (n + 1) (List.replicate (n + 1) false) bs (.slice pf (n + 1) capf) (by simp) (by rw [HLB.out, ← HN.out]; simp) (by simp; omega) HROW.out (by have := HF.out.to HBW.out (Nat.le_refl _); rwa [HLB.out, ← HN.out] at this) (fun he => by
        rw [ownBlock_map] at he
        have := HNE.out _ he
        have := HB.out
        omega))
      have G4 := Lib.hid g4
      have i0 : (0 : Int) < (ps.length : Int) := by omega
      clear hxx c0' c1' c2' hnode g0 g1 g2 g3 g5
      go_wp2_with fail
      refine HADD.out.mono ?_
      rintro e w1 ⟨rfl, hrow1, hfr1⟩
      have hbs1 : ∀ q, tr (orL (List.replicate (n + 1) false) bs) q ↔ tr bs q := fun q => by
        rw [tr_or (by rw [HLB.out, ← HN.out]; simp)]
        exact ⟨fun h => h.resolve_left (no_places _ _), .inr⟩
      have HBS1 := Lib.hid hbs1
      have HR1 := Lib.hid hrow1
      have HF1 := Lib.hid hfr1
      clear HADD hbs1 hrow1 hfr1
      go_wp2_with fail
      go_loopw [13] (fun v wr => ∃ (cur now : List Bool), cur.length = n + 1 ∧ now.length = n + 1 ∧ BRow wr (B + 2) cur ∧ Bools wr v now ∧ (∀ q, tr now q ↔ tr cur q) ∧ (∀ q, tr bs q → tr cur q) ∧
        (∀ q, tr cur q → ∃ p, tr bs p ∧ Rel back (Star (M t part)) p q) ∧ ((op == 4) = false → ∀ q, tr cur q → tr bs q) ∧ v.ownBlock ≠ some (B + 2) ∧ Fr (fun j => j = B + 2) W wr) (fun _ wr => falses wr (B + 2))
      case atStart =>
        refine ⟨_, bs, by rw [show (orL (List.replicate (n + 1) false) bs).length = _ from orTo_length _ _ _]; simp, by rw [HLB.out, HN.out], HR1.out, ?_, fun q => (HBS1.out q).symm, fun q h => (HBS1.out q).2 h, fun q h => ⟨q, (HBS1.out q).1 h, rel_star_refl q⟩, fun _ q h => (HBS1.out q).1 h, ?_, HF1.out⟩
        · have h0 := HF.out.to HBW.out (Nat.le_refl _)
          rw [HLB.out, ← HN.out] at h0
          exact h0.fr HF1.out (fun _ k hk hF => by
            rw [ownBlock_map] at hk
            have := HNE.out _ hk
            have := HB.out
            have : k = B + 2 := hF
            omega)
        · intro he
          rw [ownBlock_map] at he
          have := HNE.out _ he
          have := HB.out
          omega
      case round =>
        obtain ⟨cur, now, hcl', hnl, hrw, hnow, hnc, hbc, hcs, h5, hvb, hfr⟩ := hrel
        obtain ⟨pv, cv, rfl, hcv, -⟩ := hnow.get
        rw [hnl] at hnow hvb hcv ⊢
        have HCL2 := Lib.hid hcl'
        have HNL := Lib.hid hnl
        have HR := Lib.hid hrw
        have HNOW := Lib.hid hnow
        have HNC := Lib.hid hnc
        have HBC := Lib.hid hbc
        have HCS := Lib.hid hcs
        have H5 := Lib.hid h5
        have HVB := Lib.hid hvb
        have HFR := Lib.hid hfr
        have hsr := hfr.size
        have hgr := hrw.lt
        have hbw : Below w.heap.size w wr := HBW.out.trans (hfr.below HBW.out.size (fun j hj => by rw [← HB.out]; omega))
        have HBR := Lib.hid hbw
        have q0 := hfr.cell (p := ⟨B, 0, none⟩) (by simp) x0
        have q1 := hfr.cell (p := ⟨B, 1, none⟩) (by simp) x1
        have q2' := hfr.cell (p := ⟨B + 1, 0, none⟩) (by simp) x2
        have q4 := hfr.cell (p := ⟨B + 1, 2, none⟩) (by simp) x4
        have r0 := cell_below hbw hbl C0.out
        have r1 := cell_below hbw hbl C1.out
        have r2 := cell_below hbw hbl C2.out
        have htt := HTI.out.to hbw (Nat.le_refl _)
        rw [← HN.out] at htt
        have HTT := Lib.hid htt
        have HNR := Lib.hid (HNODE.out.to hbw (Nat.le_refl _))
        clear hcl' hnl hrw hnow hnc hbc hcs h5 hvb hfr hbw htt g4
        go_upto_region 29 with fail
        refine wp_region_plan (fun W' => W'.cell? ⟨B, 0, none⟩ = some (.slice pt n capt) ∧ W'.cell? ⟨B, 1, none⟩ = some (.bool back) ∧ W'.cell? ⟨B + 1, 0, none⟩ = some (.int .i64 op) ∧ W'.cell? ⟨B + 1, 2, none⟩ = some (.slice (some ⟨b, off, none⟩) ps.length capp) ∧
          W'.cell? ⟨b, off, none⟩ = some (.int .i64 pop) ∧ W'.cell? ⟨b, off + 1, none⟩ = some (.slice p1 l1 e1) ∧ W'.cell? ⟨b, off + 2, none⟩ = some (.slice q2 m2 d2)) (.reads [0, 1, 2, 3, 4, 5, 6] (.one 7 (.one 8 (.reads [9, 10, 11, 12, 13] .done)))) 95 (by kernel_rfl) (by kernel_rfl) rfl (fun _ _ _ _ _ h => h) ⟨q0, q1, q2', q4, r0, r1, r2⟩ ?_
        apply plan_reads
        · intro W' hW'
          obtain ⟨s0, s1, s2, s3, s4, s5, s6⟩ := hW'
          repeat (refine wpRead_step (fun K hK => ?_); go_simp; refine hK _ ?_; clear hK K)
          exact wpRead_nil rfl
        refine plan_one rfl ?_
        go_wp2_with fail
        refine (HRUN.out wr.drew _ _ _ _ _ now (by rw [HNL.out, HN.out]) (HTT.out.to (Below.refl _ _).drew (Nat.le_refl _)) (HNOW.out.to (Below.refl _ _).drew (Nat.le_refl _)) (HNR.out.to (Below.refl _ _).drew (Nat.le_refl _))).mono ?_
        rintro e w6 ⟨v6, out6, rfl, hbo, himg6, hbl6, hblk6⟩
        have hbl6' : Below wr.heap.size wr w6 := (Below.refl wr.heap.size wr).drew.trans hbl6
        have hne6 : v6.ownBlock ≠ some (B + 2) := fun he => by
          rcases hblk6 _ he with h | h
          · exact HVB.out h
          · have : wr.heap.size ≤ B + 2 := h
            omega
        have hl6 : out6.length = cur.length := by rw [himg6.1, HNL.out, HCL2.out]
        have hr6 : BRow w6 (B + 2) cur := HR.out.below hbl6' hgr
        have HADD := Lib.hid (add_any w6 (B + 2) (n + 1) cur out6 v6 HCL2.out.symm hl6 (by rw [HCL2.out]; omega) hr6 hbo hne6)
        have H6 := Lib.hid hbl6'
        have HI6 := Lib.hid himg6
        have HL6 := Lib.hid hl6
        have hs6 := hbl6'.size
        have hbo' : b < wr.heap.size := by have := HBR.out.size; omega
        have t0 := cell_below hbl6' (by omega) q0
        have t1 := cell_below hbl6' (by omega) q1
        have t2 := cell_below hbl6' (by omega) q2'
        have t4 := cell_below hbl6' (by omega) q4
        have u0 := cell_below hbl6' hbo' r0
        have u1 := cell_below hbl6' hbo' r1
        have u2 := cell_below hbl6' hbo' r2
        clear q0 q1 q2' q4 r0 r1 r2 hblk6 hne6 hl6 hr6 hbl6 hbl6' hbo himg6
        go_wp2_with fail
        refine Then.mk ⟨t0, t1, t2, t4, u0, u1, u2⟩ ?_
        refine plan_one rfl ?_
        go_wp2_with fail
        refine HADD.out.mono ?_
        have hbB : ¬ b = B + 2 := by have := HB.out; omega
        rintro e w7 ⟨rfl, hrow7, hfr7⟩
        have HR7 := Lib.hid hrow7
        have HF7 := Lib.hid hfr7
        have v0 := hfr7.cell (p := ⟨B, 0, none⟩) (by simp) t0
        have v1 := hfr7.cell (p := ⟨B, 1, none⟩) (by simp) t1
        have v2 := hfr7.cell (p := ⟨B + 1, 0, none⟩) (by simp) t2
        have v4 := hfr7.cell (p := ⟨B + 1, 2, none⟩) (by simp) t4
        have k0 := hfr7.cell (p := ⟨b, off, none⟩) hbB u0
        have k1 := hfr7.cell (p := ⟨b, off + 1, none⟩) hbB u1
        have k2 := hfr7.cell (p := ⟨b, off + 2, none⟩) hbB u2
        have HFW := Lib.hid ((HFR.out.trans (Fr.of_below H6.out _) (fun _ _ h => h)).trans hfr7 (fun _ _ h => h))
        have hgr7 := hrow7.lt
        have hl7 : (orL cur out6).length = n + 1 := (orTo_length _ _ _).trans HCL2.out
        have HL7 := Lib.hid hl7
        have hbools7 := hrow7.bools
        rw [hl7] at hbools7
        have HB7 := Lib.hid hbools7
        have HBW7 := Lib.hid (HBW.out.trans (HFW.out.below HBW.out.size (fun j hj => by rw [← HB.out]; omega)))
        clear t0 t1 t2 t4 u0 u1 u2 hrow7 hfr7 hl7 hbools7
        cases hmo : moreL cur out6
        all_goals
          have HMOR := Lib.hid hmo
          have g4 := G4.out
          clear hmo
          go_wp2_with fail
          refine Then.mk ⟨v0, v1, v2, v4, k0, k1, k2⟩ ?_
          clear v0 v1 v2 v4 k0 k1 k2
          apply plan_reads
          · intro W' hW'
            obtain ⟨s0, s1, s2, s3, s4, s5, s6⟩ := hW'
            repeat (refine wpRead_step (fun K hK => ?_); go_simp; refine hK _ ?_; clear hK K)
            exact wpRead_nil rfl
          refine plan_done ?_
        · go_wp2
          go_ret
          refine ⟨_, orL cur out6, rfl, HB7.out, ⟨HL7.out.trans (by rw [HLB.out, HN.out]), fun q => ?_⟩, HBW7.out, fun j hj => .inr ?_⟩
          · have hop : op = 4 := by simpa using G4.out
            subst hop
            rw [star_fin HL6.out HNC.out HI6.out HMOR.out HBC.out HCS.out q]
            exact exists_congr fun p => and_congr_right fun _ => (Rel_iff (fun p q => ⟨Star.mono (fun a b h => (HMO.out a b).1 h), Star.mono (fun a b h => (HMO.out a b).2 h)⟩) p q).trans (rel_4 HP1.out p q).symm
          · obtain rfl : B + 2 = j := by simpa [Value.ownBlock] using hj
            rw [← HB.out]; omega
        · have HCLONE := Lib.hid (clone_places w7 _ (n + 1) ((orL cur out6).map Value.bool) (by omega) (by simp [HL7.out]) (fun u hu => by
            obtain ⟨b, -, rfl⟩ := List.mem_map.1 hu; rfl) (by have := HB7.out; unfold Bools at this; rwa [HL7.out] at this))
          go_wp2_with fail
          refine HCLONE.out.mono ?_
          rintro e w8 ⟨v8, rfl, hown8, hb8⟩
          have hown8' := Raw.of_own hown8
          have HO8 := Lib.hid hown8
          have HB8 := Lib.hid hb8
          clear hown8 hb8 hown8'
          go_wp2_with fail
          go_roundw
          case rel =>
            refine ⟨orL cur out6, orL cur out6, HL7.out, HL7.out, HR7.out.below HB8.out hgr7, by have := Raw.of_own HO8.out; unfold Bools; rwa [HL7.out], fun q => Iff.rfl, (star_more HL6.out HNC.out HI6.out HBC.out HCS.out).1, (star_more HL6.out HNC.out HI6.out HBC.out HCS.out).2, fun h => (by rw [G4.out] at h; cases h), fun he => ?_, HFW.out.trans (Fr.of_below HB8.out _) (fun _ _ h => h)⟩
            have := (HO8.out.lt _ he).1
            omega
          case measure =>
            rw [falses_row (HR7.out.below HB8.out hgr7), falses_row HR.out]
            obtain ⟨q, h1, h2, h3⟩ := moreL_true HMOR.out
            exact filter_lt ((orTo_length _ _ _)) (fun q h => (tr_or HL6.out q).2 (.inl h)) ⟨q, (tr_or HL6.out q).2 (.inr h1), h2⟩
    · have hpb : ((ps.length : Int) != 1) = true := by simpa using (by omega : ¬ (ps.length : Int) = 1)
      have HP1 := Lib.hid hp1
      clear hp1
      go_wp2
      go_ret
      refine ⟨_, _, rfl, ?_, ⟨by rw [HLB.out, ← HN.out]; exact List.length_replicate, fun q => ⟨fun h => absurd h (no_places _ _), fun ⟨p, _, h⟩ => absurd h (HNO.out HP1.out p q)⟩⟩, HBW.out, fun k hk => .inr ?_⟩
      · have := HROW.out.bools
        rwa [List.length_replicate] at this
      · obtain rfl : B + 2 = k := by simpa [Value.ownBlock] using hk
        rw [← HB.out]; omega
end Go.Proofs.Ytphgjppeindbaaa
