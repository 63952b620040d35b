import Derived.Test.YthmaokjhncokdaaB5
/-
  has, or, many of the reference. No condition beyond what each theorem names.
-/
set_option linter.unusedVariables false
set_option linter.unusedSimpArgs false
namespace Go.Proofs.Ythmaokjhncokdaa
open Go.RowKit

theorem img_iff {r s : Nat → Nat → Prop} {bs out : List Bool} (h : img r bs out) (hr : ∀ p q, r p q ↔ s p q) : img s bs out :=
  ⟨h.1, fun q => (h.2 q).trans ⟨fun ⟨p, h1, h2⟩ => ⟨p, h1, (hr p q).1 h2⟩, fun ⟨p, h1, h2⟩ => ⟨p, h1, (hr p q).2 h2⟩⟩⟩

theorem img_comp {r s : Nat → Nat → Prop} {bs cur out : List Bool} (h : img r bs cur) (g : img s cur out) : img (fun p q => ∃ m, r p m ∧ s m q) bs out := by
  refine ⟨g.1.trans h.1, fun q => (g.2 q).trans ⟨fun ⟨m, h1, h2⟩ => ?_, fun ⟨p, h1, m, h2, h3⟩ => ⟨m, (h.2 m).2 ⟨p, h1, h2⟩, h3⟩⟩⟩
  obtain ⟨p, h3, h4⟩ := (h.2 m).1 h1
  exact ⟨p, h3, m, h4, h2⟩

theorem img_id (bs : List Bool) : img (fun p q => p = q) bs bs := ⟨rfl, fun q => ⟨fun h => ⟨q, h, rfl⟩, fun ⟨p, h1, h2⟩ => h2 ▸ h1⟩⟩

theorem img_no {r : Nat → Nat → Prop} {bs : List Bool} {n : Nat} (hl : bs.length = n) (h : ∀ p q, ¬ r p q) : img r bs (List.replicate n false) :=
  ⟨by simp [hl], fun q => ⟨fun h1 => absurd h1 (no_places n q), fun ⟨p, _, h2⟩ => absurd h2 (h p q)⟩⟩

theorem img_or {r s : Nat → Nat → Prop} {bs c1 c2 out : List Bool} (h : img r bs c1) (g : img s bs c2) (hl : out.length = c1.length) (ho : ∀ q, tr out q ↔ tr c1 q ∨ tr c2 q) : img (fun p q => r p q ∨ s p q) bs out := by
  refine ⟨hl.trans h.1, fun q => (ho q).trans ?_⟩
  rw [h.2, g.2]
  constructor
  · rintro (⟨p, h1, h2⟩ | ⟨p, h1, h2⟩)
    · exact ⟨p, h1, .inl h2⟩
    · exact ⟨p, h1, .inr h2⟩
  · rintro ⟨p, h1, h2 | h2⟩
    · exact .inl ⟨p, h1, h2⟩
    · exact .inr ⟨p, h1, h2⟩

theorem tr_setB {bs : List Bool} {n k : Nat} {b : Bool} (hn : n < bs.length) : tr (bs.set n b) k ↔ (k = n ∧ b = true) ∨ (k ≠ n ∧ tr bs k) := by
  unfold tr
  rw [List.getElem?_set]
  by_cases e : n = k
  · subst e; simp [hn]
  · rw [if_neg e]; simp [Ne.symm e]

theorem tr_get {bs : List Bool} {k : Nat} (hk : k < bs.length) : tr bs k ↔ bs[k] = true := by
  unfold tr; rw [List.getElem?_eq_getElem hk]; simp

theorem tr_ext {bs cs : List Bool} (hl : bs.length = cs.length) (h : ∀ q, tr bs q ↔ tr cs q) : bs = cs := by
  refine List.ext_getElem hl fun i h1 h2 => ?_
  have := h i
  rw [tr_get h1, tr_get h2] at this
  exact Bool.eq_iff_iff.2 this

theorem BRow.made {w W : World} {n : Nat} (hW : W = w.alloc (.cells (Array.replicate n (Value.bool false)) 4)) : BRow W w.heap.size (List.replicate n false) := by
  unfold BRow
  rw [hW, heap_alloc_new]
  simp

theorem has_any (w : World) (v : Value) (cls : List Int) (c : Int) (hn : cls.length ≤ 1000000000000000000) (hv : Ints w v cls) :
    Calls Try.prog 68 #[v, .int .i64 c] w fun e w' => e = .returned (.bool (decide (c ∈ cls))) ∧ w = w' := by
  obtain ⟨p, cap, rfl, hcap, hx⟩ := hv.get
  have HX := Lib.hid hx
  have HNO := Lib.hid (fun (k : Nat) (h : ∀ j (hj : j < cls.length), j < k → cls[j] ≠ c) (hk : cls.length ≤ k) => show c ∉ cls from fun hm => by
    obtain ⟨j, hj, rfl⟩ := List.getElem_of_mem hm
    exact h j hj (by omega) rfl)
  clear hv hx
  go_enter Try.func68, Try.ntmps68
  go_wp2_with fail
  go_loop [5] (fun i => ∃ k : Nat, i = .int .i64 k ∧ k ≤ cls.length ∧ (∀ j (hj : j < cls.length), j < k → cls[j] ≠ c)) (fun i => cls.length - (intOf i).toNat)
  case atStart => exact ⟨0, rfl, by omega, fun _ _ h => absurd h (Nat.not_lt_zero _)⟩
  case round =>
    obtain ⟨k, rfl, h1, hno⟩ := hrel
    have HN := Lib.hid hno
    by_cases hk : k < cls.length
    · obtain ⟨b, off, rfl, hbl, hy⟩ := HX.out (by omega)
      have y0 := hy k hk
      have HM := Lib.hid (List.getElem_mem hk)
      by_cases hc : cls[k] = c
      · have hc' : (cls[k] == c) = true := by simp [hc]
        have HC := Lib.hid (show c ∈ cls by rw [← hc]; exact HM.out)
        clear hc hno hy
        go_wp2_with fail
        go_ret
        exact ⟨ret_val (by rw [decide_eq_true HC.out]; rfl), rfl⟩
      · have hc' : (cls[k] == c) = false := by simp [hc]
        have HC := Lib.hid hc
        clear hc hno hy
        go_wp2_with fail
        go_round
        case rel => exact ⟨k + 1, by go_num, by omega, fun j hj hjk => by
          by_cases hjk2 : j = k
          · subst hjk2; exact HC.out
          · exact HN.out j hj (by omega)⟩
        case measure => simp [intOf]; omega
    · clear hno
      go_wp2_with fail
      go_ret
      exact ⟨ret_val (by rw [decide_eq_false (HNO.out k HN.out (by omega))]; rfl), rfl⟩

theorem many_any (w : World) (v : Value) (xs : List Bool) (hn : xs.length ≤ 1000000) (hv : Bools w v xs) :
    Calls Try.prog 70 #[v] w fun e w' => e = .returned (.int .i64 (xs.count true : Nat)) ∧ w = w' := by
  obtain ⟨p, cap, rfl, hcap, hx⟩ := hv.get
  have HX := Lib.hid hx
  clear hv hx
  go_enter Try.func70, Try.ntmps70
  go_wp2_with fail
  go_loop [3, 4] (fun n i => ∃ k m : Nat, i = .int .i64 k ∧ k ≤ xs.length ∧ n = .int .i64 m ∧ m = (xs.take k).count true ∧ m ≤ k) (fun _ i => xs.length - (intOf i).toNat)
  case atStart => exact ⟨0, 0, rfl, by omega, rfl, by simp, by omega⟩
  case round =>
    obtain ⟨k, m, rfl, h1, rfl, hm, hmk⟩ := hrel
    have HM := Lib.hid hm
    clear hm
    by_cases hk : k < xs.length
    · obtain ⟨b, off, rfl, hbl, hy⟩ := HX.out (by omega)
      have y0 := hy k hk
      have HSN := Lib.hid (show (xs.take (k + 1)).count true = (xs.take k).count true + (if xs[k] = true then 1 else 0) by
        rw [List.take_succ_eq_append_getElem hk, List.count_append]
        cases xs[k] <;> simp)
      clear hy
      cases hb : xs[k]
      · rw [hb] at y0 HSN
        clear hb
        go_wp2_with fail
        go_round
        case rel => exact ⟨k + 1, m, by go_num, by omega, rfl, by rw [HSN.out, HM.out]; simp, by omega⟩
        case measure => simp [intOf]; omega
      · rw [hb] at y0 HSN
        clear hb
        go_wp2_with fail
        go_round
        case rel => exact ⟨k + 1, m + 1, by go_num, by omega, by go_num, by rw [HSN.out, HM.out]; simp, by omega⟩
        case measure => simp [intOf]; omega
    · have HE := Lib.hid (show xs.take k = xs from List.take_of_length_le (by omega))
      go_wp2_with fail
      go_ret
      exact ⟨ret_int (by rw [HM.out, HE.out]), rfl⟩

def OrPost (w : World) (xs ys : List Bool) (e : Ending) (w' : World) : Prop :=
  ∃ g cs, e = .returned (.slice (some ⟨g, 0, none⟩) xs.length xs.length) ∧ BRow w' g cs ∧ w.heap.size ≤ g ∧ cs.length = xs.length ∧ (∀ q, tr cs q ↔ tr xs q ∨ tr ys q) ∧ Below w.heap.size w w'

set_option maxRecDepth 100000 in
set_option maxHeartbeats 8000000 in
theorem or_any (w : World) (u v : Value) (xs ys : List Bool) (hl : ys.length = xs.length) (hn : xs.length ≤ 1000000) (hu : Bools w u xs) (hv : Bools w v ys) :
    Calls Try.prog 69 #[u, v] w (OrPost w xs ys) := by
  obtain ⟨pu, cu, rfl, hcu, hxu⟩ := hu.get
  obtain ⟨pv, cv, rfl, hcv, hxv⟩ := hv.get
  rw [hl]
  have HXU := Lib.hid hxu
  have HXV := Lib.hid hxv
  have HL := Lib.hid hl
  have hmk := fun w => make_bools 55 Try.underlying55 w (xs.length : Int) xs.length rfl (by omega)
  clear hu hv hxu hxv hl hcv
  go_enter Try.func69, Try.ntmps69
  go_upto_region 2 with fail
  refine abs_wp fun W hW => ?_
  have HR0 := Lib.hid (BRow.made hW)
  have HBW := Lib.hid (show Below w.heap.size w W by rw [hW]; exact below_alloc1 _ _)
  obtain ⟨g, hg⟩ : ∃ g, g = w.heap.size := ⟨_, rfl⟩
  rw [← hg] at HR0 ⊢
  have HG := Lib.hid hg
  clear hW hmk hg
  go_wp2_with fail
  go_loopw [6] (fun i wr => ∃ (k : Nat) (cs : List Bool), i = .int .i64 k ∧ k ≤ xs.length ∧ BRow wr g cs ∧ cs.length = xs.length ∧ (∀ q, tr cs q ↔ q < k ∧ (tr xs q ∨ tr ys q)) ∧ Below w.heap.size w wr) (fun i _ => xs.length - (intOf i).toNat)
  case atStart => exact ⟨0, _, rfl, by omega, HR0.out, by simp, fun q => ⟨fun h => absurd h (no_places _ q), fun h => absurd h.1 (by omega)⟩, HBW.out⟩
  case round =>
    obtain ⟨k, cs, rfl, h1, hr, hcl, htr, hb⟩ := hrel
    have HR := Lib.hid hr
    have HCL := Lib.hid hcl
    have HTR := Lib.hid htr
    have HB := Lib.hid hb
    by_cases hk : k < xs.length
    · obtain ⟨bu, ou, rfl, hbu, hyu⟩ := HXU.out (by omega)
      obtain ⟨bv, ov, rfl, hbv, hyv⟩ := HXV.out (by have := HL.out; omega)
      have y0 := cell_below hb hbu (hyu k hk)
      have z0 := cell_below hb hbv (hyv k (by have := HL.out; omega))
      have c0 := hr.cell (show k < cs.length by omega)
      have f0 := hr.frozen k
      have hkk : (k : Int) < xs.length := by omega
      have hk0 : (0 : Int) ≤ k := by omega
      have HSET := Lib.hid (show ∀ b : Bool, b = (xs[k] || ys[k]'(by have := HL.out; omega)) → BRow (wr.setCell ⟨g, k, none⟩ (.bool b)) g (cs.set k b) ∧ (∀ q, tr (cs.set k b) q ↔ q < k + 1 ∧ (tr xs q ∨ tr ys q)) ∧ Below w.heap.size w (wr.setCell ⟨g, k, none⟩ (.bool b)) from fun b hbe => by
        refine ⟨HR.out.set k b, fun q => ?_, HB.out.trans ((Fr.setCell (F := fun q => q = g) wr rfl _).below HB.out.size (fun q hq => by have hq : q = g := hq; have := HG.out; omega))⟩
        rw [tr_setB (by omega), HTR.out]
        constructor
        · rintro (⟨rfl, h⟩ | ⟨h2, h3, h4⟩)
          · refine ⟨by omega, ?_⟩
            rw [tr_get hk, tr_get (by have := HL.out; omega)]
            rw [hbe, Bool.or_eq_true] at h
            exact h
          · exact ⟨by omega, h4⟩
        · rintro ⟨h2, h3⟩
          by_cases hq : q = k
          · subst hq
            rw [tr_get hk, tr_get (by have := HL.out; omega), ← Bool.or_eq_true, ← hbe] at h3
            exact .inl ⟨rfl, h3⟩
          · exact .inr ⟨hq, by omega, h3⟩)
      generalize xs[k] = bx at *
      generalize ys[k]'(by have := HL.out; omega) = by_ at *
      generalize cs[k]'(by have := HCL.out; omega) = ck at c0
      clear hr hcl htr hb hyu hyv
      cases bx
      · go_wp2_with fail
        go_roundw
        case rel => exact ⟨k + 1, cs.set k by_, by go_num, by omega, (HSET.out by_ (by simp)).1, by rw [List.length_set]; exact HCL.out, (HSET.out by_ (by simp)).2.1, (HSET.out by_ (by simp)).2.2⟩
        case measure => simp [intOf]; omega
      · go_wp2_with fail
        go_roundw
        case rel => exact ⟨k + 1, cs.set k true, by go_num, by omega, (HSET.out true (by simp)).1, by rw [List.length_set]; exact HCL.out, (HSET.out true (by simp)).2.1, (HSET.out true (by simp)).2.2⟩
        case measure => simp [intOf]; omega
    · clear hr hcl htr hb
      have hkk : ¬ (k : Int) < xs.length := by omega
      go_wp2_with fail
      go_ret
      refine ⟨g, cs, rfl, HR.out, by rw [HG.out]; exact Nat.le_refl _, HCL.out, fun q => (HTR.out q).trans ⟨fun h => h.2, fun h => ⟨?_, h⟩⟩, HB.out⟩
      have := HL.out
      rcases h with h | h
      · have := tr_lt h; omega
      · have := tr_lt h; omega
end Go.Proofs.Ythmaokjhncokdaa

/-
  Ends of the reference. No condition beyond what each theorem names.
-/
set_option linter.unusedVariables false
set_option linter.unusedSimpArgs false
namespace Go.Proofs.Ythmaokjhncokdaa
open Go.RowKit

theorem alloc2' (w : World) (o1 o2 : Obj) (W : World) (hW : W = (w.alloc o1).alloc o2) : Below w.heap.size w W ∧ W.heap[w.heap.size]? = some o1 ∧ W.heap[w.heap.size + 1]? = some o2 := by
  have s1 : (w.alloc o1).heap.size = w.heap.size + 1 := by simp
  have b1 := below_alloc1 w o1
  have b2 := below_alloc1 (w.alloc o1) o2
  subst hW
  refine ⟨b1.trans (b2.mono (by omega)), ?_, ?_⟩
  · rw [b2.block _ (by omega)]; exact heap_alloc_new _ _
  · rw [← s1]; exact heap_alloc_new _ _

def EndsPost (w : World) (t : List Int) (x : Nd) (bs : List Bool) (e : Ending) (w' : World) : Prop := ∃ v out, e = .returned v ∧ Bools w' v out ∧ img (M t x) bs out ∧ Below w.heap.size w w'

def EndsAt (t : List Int) (x : Nd) : Prop := ∀ (w : World) (tv fv a b c : Value) (bs : List Bool), bs.length = t.length + 1 → Ints w tv t → Bools w fv bs → NodeIs w x a b c →
    Calls Try.prog 45 #[.agg #[a, b, c], tv, fv] w (EndsPost w t x bs)

/-- bools copied over a row as long -/
theorem copy_bools (w : World) (g n : Nat) (cs bs : List Bool) (fv : Value) (hr : BRow w g cs) (hn : cs.length = n) (hb : Bools w fv bs) (hl : bs.length = n) (h0n : 0 < n) : ∃ p c, fv = .slice p n c ∧ (Builtin.copy_ #[55, 55] 3 #[.slice (some ⟨g, 0, none⟩) n n, .slice p n c]).run Try.prog w = .ok (goInt n) (w.setRow g (bs.map Value.bool).toArray) := by
  obtain ⟨p, c, rfl, hc, hx⟩ := hb.get
  have hc2 := hl
  rw [hl]
  refine ⟨p, c, rfl, ?_⟩
  have hr' : w.heap[g]? = some (.cells (cs.map Value.bool).toArray 4 (0, 0)) := hr
  have hsp : (splice (cs.map Value.bool).toArray.toList 0 (bs.map Value.bool)).toArray = (bs.map Value.bool).toArray := by
    congr 1
    simp only [splice, List.toList_toArray, List.take_zero, List.nil_append, List.length_map, Nat.zero_add]
    rw [List.drop_of_length_le (by simp; omega), List.append_nil]
  have h := run_copy_rows (P := Try.prog) w 55 55 3 4 1 (some ⟨g, 0, none⟩) p n n n c g 0 (cs.map Value.bool).toArray 4 (bs.map Value.bool) n Try.underlying55 (by kernel_rfl) hr' (by simp [Nat.min_def]) (by simp [hl])
    (fun h0 => by
      obtain ⟨b, off, hp, hlt, hy⟩ := hx (by simp at h0; omega)
      refine ⟨rfl, ⟨b, off, none⟩, hp, fun j v hj => ?_⟩
      have hj' : j < bs.length := by have := (List.getElem?_eq_some_iff.1 hj).1; simpa using this
      have := hy j hj'
      rw [show (⟨b, off, none⟩ : Addr).add j = ⟨b, off + j, none⟩ by unfold Addr.add; split <;> simp_all, this]
      simpa [hj'] using hj)
    (fun hp => by
      subst hp
      obtain ⟨b, off, hp, -⟩ := hx (by omega)
      cases hp) (by simp; omega) (fun v hv => by obtain ⟨b, -, rfl⟩ := List.mem_map.1 hv; rfl)
  rw [hsp] at h
  exact h

theorem BRow.copied {w : World} {g : Nat} {cs : List Bool} (h : BRow w g cs) (bs : List Bool) : BRow (w.setRow g (bs.map Value.bool).toArray) g bs := by
  have h' : w.heap[g]? = some (.cells (cs.map Value.bool).toArray 4 (0, 0)) := h
  exact setRow_heap w g _ _ _ (0, 0) h'

theorem BRow.read {w : World} {g n : Nat} {bs : List Bool} (h : BRow w g bs) (hl : bs.length = n) : Bools w (.slice (some ⟨g, 0, none⟩) n n) bs := by
  subst hl; exact h.bools

set_option maxRecDepth 100000 in
set_option maxHeartbeats 8000000 in
theorem ends_0 (t : List Int) (cls : List Int) (ps : List Nd) (hn : t.length ≤ 1000) : EndsAt t (.mk 0 cls ps) := by
  intro w tv fv a b c bs hl ht hf hx
  rw [nodeIs_iff] at hx
  obtain ⟨rfl, hcl, hcb, hpb, hps⟩ := hx
  obtain ⟨pt, capt, rfl, hct, hxt⟩ := ht.get
  obtain ⟨pf, capf, rfl, hcf, hxf⟩ := hf.get
  obtain ⟨pc, capc, rfl, hcc, -⟩ := hcl.get
  obtain ⟨pp, capp, rfl, hcp, hxp⟩ := hps.get
  rw [hl] at hf hcf ⊢
  have HT := Lib.hid ht
  have HF := Lib.hid hf
  have HXF := Lib.hid hxf
  have HXT := Lib.hid hxt
  have HCL := Lib.hid hcl
  have HCB := Lib.hid hcb
  have HXP := Lib.hid hxp
  have HL := Lib.hid hl
  unfold R at hcb hpb
  have hmk := fun w => make_bools 55 Try.underlying55 w ((t.length : Int) + 1) (t.length + 1) (by omega) (by omega)
  clear hl ht hf hcl hps hxt hxf hxp
  go_enter Try.func45, Try.ntmps45
  go_upto_region 2 with fail
  refine abs_wp fun W hW => ?_
  obtain ⟨a0, a1, a2⟩ := alloc2' w _ _ W hW
  obtain ⟨B, hB⟩ : ∃ B, B = w.heap.size := ⟨_, rfl⟩
  have HBX := Lib.hid (show W.heap[B]? = some (.cells #[.int .i64 0, .slice pc cls.length capc, .slice pp ps.length capp] 52) by rw [hB]; exact a1)
  have HROW := Lib.hid (show BRow W (B + 1) (List.replicate (t.length + 1) false) by unfold BRow; rw [hB, a2]; simp)
  have HBW := Lib.hid a0
  rw [← hB]
  have HBE := Lib.hid hB
  obtain ⟨x0, x1, x2⟩ := cells3 HBX.out
  clear hW hB a0 a1 a2 hmk
  obtain ⟨pf', cf', he, hcopy⟩ := copy_bools W (B + 1) (t.length + 1) _ bs (.slice pf (t.length + 1) capf) HROW.out (by simp) (HF.out.to HBW.out (Nat.le_refl _)) HL.out (by omega)
  injection he with e1 e2 e3
  subst e1 e3
  clear e2
  go_upto_region 30 with fail
  refine abs_wp fun W2 hW2 => ?_
  have HROW2 := Lib.hid (show BRow W2 (B + 1) bs by rw [hW2]; exact HROW.out.copied bs)
  have HFR2 := Lib.hid (show Fr (fun q => q = B + 1) W W2 by rw [hW2]; exact Fr.setRow (F := fun q => q = B + 1) _ rfl _)
  have HBW2 := Lib.hid (show Below w.heap.size w W2 from HBW.out.trans (HFR2.out.below HBW.out.size (fun q hq => by have hq : q = B + 1 := hq; have := HBE.out; omega)))
  have HBX2 := Lib.hid ((HFR2.out.block B (at_lt HBX.out) (by omega)).trans HBX.out)
  clear hW2 hcopy x0 x1 x2
  obtain ⟨x0, x1, x2⟩ := cells3 HBX2.out
  go_wp2_with fail
  go_ret
  exact ⟨_, bs, rfl, HROW2.out.read HL.out, img_iff (img_id bs) (fun p q => (M_0 p q).symm), HBW2.out⟩

set_option maxRecDepth 100000 in
set_option maxHeartbeats 8000000 in
theorem ends_2 (t : List Int) (cls : List Int) (ps : List Nd) (hn : t.length ≤ 1000) (ih : ∀ x ∈ ps, EndsAt t x) : EndsAt t (.mk 2 cls ps) := by
  intro w tv fv a b c bs hl ht hf hx
  have IH := Lib.hid ih
  rw [nodeIs_iff] at hx
  obtain ⟨rfl, hcl, hcb, hpb, hps⟩ := hx
  obtain ⟨pt, capt, rfl, hct, hxt⟩ := ht.get
  obtain ⟨pf, capf, rfl, hcf, hxf⟩ := hf.get
  obtain ⟨pc, capc, rfl, hcc, -⟩ := hcl.get
  obtain ⟨pp, capp, rfl, hcp, hxp⟩ := hps.get
  rw [hl] at hf hcf ⊢
  have HT := Lib.hid ht
  have HF := Lib.hid hf
  have HXF := Lib.hid hxf
  have HXT := Lib.hid hxt
  have HCL := Lib.hid hcl
  have HCB := Lib.hid hcb
  have HXP := Lib.hid hxp
  have HL := Lib.hid hl
  unfold R at hcb hpb
  have hmk := fun w => make_bools 55 Try.underlying55 w ((t.length : Int) + 1) (t.length + 1) (by omega) (by omega)
  clear hl ht hf hcl hps hxt hxf hxp ih
  go_enter Try.func45, Try.ntmps45
  go_upto_region 2 with fail
  refine abs_wp fun W hW => ?_
  obtain ⟨a0, a1, a2⟩ := alloc2' w _ _ W hW
  obtain ⟨B, hB⟩ : ∃ B, B = w.heap.size := ⟨_, rfl⟩
  have HBX := Lib.hid (show W.heap[B]? = some (.cells #[.int .i64 2, .slice pc cls.length capc, .slice pp ps.length capp] 52) by rw [hB]; exact a1)
  have HROW := Lib.hid (show BRow W (B + 1) (List.replicate (t.length + 1) false) by unfold BRow; rw [hB, a2]; simp)
  have HBW := Lib.hid a0
  rw [← hB]
  have HBE := Lib.hid hB
  obtain ⟨x0, x1, x2⟩ := cells3 HBX.out
  clear hW hB a0 a1 a2 hmk
  obtain ⟨pf', cf', he, hcopy⟩ := copy_bools W (B + 1) (t.length + 1) _ bs (.slice pf (t.length + 1) capf) HROW.out (by simp) (HF.out.to HBW.out (Nat.le_refl _)) HL.out (by omega)
  injection he with e1 e2 e3
  subst e1 e3
  clear e2
  go_upto_region 13 with fail
  refine abs_wp fun W2 hW2 => ?_
  have HROW2 := Lib.hid (show BRow W2 (B + 1) bs by rw [hW2]; exact HROW.out.copied bs)
  have HFR2 := Lib.hid (show Fr (fun q => q = B + 1) W W2 by rw [hW2]; exact Fr.setRow (F := fun q => q = B + 1) _ rfl _)
  have HBW2 := Lib.hid (show Below w.heap.size w W2 from HBW.out.trans (HFR2.out.below HBW.out.size (fun q hq => by have hq : q = B + 1 := hq; have := HBE.out; omega)))
  have HBX2 := Lib.hid ((HFR2.out.block B (at_lt HBX.out) (by omega)).trans HBX.out)
  clear hW2 hcopy x0 x1 x2
  obtain ⟨x0, x1, x2⟩ := cells3 HBX2.out
  go_wp2_with fail
  go_loopw [7, 10] (fun u i wr => ∃ (k : Nat) (cur : List Bool), i = .int .i64 k ∧ k ≤ ps.length ∧ Bools wr u cur ∧ img (Mseq t (ps.take k)) bs cur ∧ Below W2.heap.size W2 wr) (fun _ i _ => ps.length - (intOf i).toNat)
  case atStart => exact ⟨0, bs, rfl, by omega, HROW2.out.read HL.out, img_iff (img_id bs) (fun p q => by simp [Mseq]), Below.refl _ _⟩
  case round =>
    obtain ⟨k, cur, rfl, h1, hcur, himg, hb⟩ := hrel
    have HCUR := Lib.hid hcur
    have HIMG := Lib.hid himg
    have HB := Lib.hid hb
    have y2 := cell_below hb (at_lt HBX2.out) x2
    have hbw := HBW2.out.trans (hb.mono HBW2.out.size)
    have HBWR := Lib.hid hbw
    by_cases hk : k < ps.length
    · obtain ⟨bb, off, rfl, hbl, hxx⟩ := HXP.out (by omega)
      obtain ⟨x, y, z, c0, c1, c2, hnode⟩ := hxx k hk
      have r0 := cell_below hbw hbl c0
      have r1 := cell_below hbw hbl c1
      have r2 := cell_below hbw hbl c2
      have HCM := Lib.hid (IH.out ps[k] (List.getElem_mem hk) wr _ _ x y z cur (by rw [himg.1, HL.out]) (HT.out.to hbw (Nat.le_refl _)) hcur (hnode.to hbw (Nat.le_refl _)))
      have HTK := Lib.hid (show ps.take (k + 1) = ps.take k ++ [ps[k]] from List.take_succ_eq_append_getElem hk)
      have j0 : (0 : Int) ≤ k := by omega
      have j1 : (k : Int) < ps.length := by omega
      clear hcur himg hb hxx c0 c1 c2 hnode hbw
      go_wp2_with fail
      refine HCM.out.mono ?_
      rintro e w2 ⟨v2, out2, rfl, hbo, himg2, hb2⟩
      have HBO := Lib.hid hbo
      have HI2 := Lib.hid (show img (Mseq t (ps.take (k + 1))) bs out2 from img_iff (img_comp HIMG.out himg2) (fun p q => by rw [HTK.out, Mseq_append]; simp only [Mseq_one]))
      have HB2 := Lib.hid (HB.out.trans (hb2.mono HB.out.size))
      clear hbo himg2 hb2 y2 r0 r1 r2 HCM
      go_wp2_with fail
      go_roundw
      case rel => exact ⟨k + 1, out2, by go_num, by omega, HBO.out, HI2.out, HB2.out⟩
      case measure => simp [intOf]; omega
    · have HTA := Lib.hid (show ps.take k = ps from List.take_of_length_le (by omega))
      obtain ⟨q1, d1, hq⟩ := hcur.get.imp fun _ h => h.imp fun _ h => h.1
      subst hq
      clear hcur himg hb hbw
      go_wp2_with fail
      go_ret
      exact ⟨_, cur, rfl, HCUR.out, img_iff HIMG.out (fun p q => by rw [HTA.out, M_2]), HBWR.out⟩

set_option maxRecDepth 100000 in
set_option maxHeartbeats 8000000 in
theorem ends_3 (t : List Int) (cls : List Int) (ps : List Nd) (hn : t.length ≤ 1000) (ih : ∀ x ∈ ps, EndsAt t x) : EndsAt t (.mk 3 cls ps) := by
  intro w tv fv a b c bs hl ht hf hx
  have IH := Lib.hid ih
  rw [nodeIs_iff] at hx
  obtain ⟨rfl, hcl, hcb, hpb, hps⟩ := hx
  obtain ⟨pt, capt, rfl, hct, hxt⟩ := ht.get
  obtain ⟨pf, capf, rfl, hcf, hxf⟩ := hf.get
  obtain ⟨pc, capc, rfl, hcc, -⟩ := hcl.get
  obtain ⟨pp, capp, rfl, hcp, hxp⟩ := hps.get
  rw [hl] at hf hcf ⊢
  have HT := Lib.hid ht
  have HF := Lib.hid hf
  have HXF := Lib.hid hxf
  have HXT := Lib.hid hxt
  have HCL := Lib.hid hcl
  have HCB := Lib.hid hcb
  have HXP := Lib.hid hxp
  have HL := Lib.hid hl
  unfold R at hcb hpb
  have hmk := fun w => make_bools 55 Try.underlying55 w ((t.length : Int) + 1) (t.length + 1) (by omega) (by omega)
  clear hl ht hf hcl hps hxt hxf hxp ih
  go_enter Try.func45, Try.ntmps45
  go_upto_region 2 with fail
  refine abs_wp fun W hW => ?_
  obtain ⟨a0, a1, a2⟩ := alloc2' w _ _ W hW
  obtain ⟨B, hB⟩ : ∃ B, B = w.heap.size := ⟨_, rfl⟩
  have HBX := Lib.hid (show W.heap[B]? = some (.cells #[.int .i64 3, .slice pc cls.length capc, .slice pp ps.length capp] 52) by rw [hB]; exact a1)
  have HROW := Lib.hid (show BRow W (B + 1) (List.replicate (t.length + 1) false) by unfold BRow; rw [hB, a2]; simp)
  have HBW := Lib.hid a0
  rw [← hB]
  have HBE := Lib.hid hB
  obtain ⟨x0, x1, x2⟩ := cells3 HBX.out
  clear hW hB a0 a1 a2 hmk
  go_wp2_with fail
  go_loopw [7, 11] (fun u i wr => ∃ (k : Nat) (cur : List Bool), i = .int .i64 k ∧ k ≤ ps.length ∧ Bools wr u cur ∧ img (Malt t (ps.take k)) bs cur ∧ Below W.heap.size W wr) (fun _ i _ => ps.length - (intOf i).toNat)
  case atStart => exact ⟨0, _, rfl, by omega, HROW.out.read (by simp), img_no HL.out (fun p q h => by simp [Malt] at h), Below.refl _ _⟩
  case round =>
    obtain ⟨k, cur, rfl, h1, hcur, himg, hb⟩ := hrel
    have HCUR := Lib.hid hcur
    have HIMG := Lib.hid himg
    have HB := Lib.hid hb
    have y2 := cell_below hb (at_lt HBX.out) x2
    have hbw := HBW.out.trans (hb.mono HBW.out.size)
    have HBWR := Lib.hid hbw
    obtain ⟨q1, d1, hq⟩ := hcur.get.imp fun _ h => h.imp fun _ h => h.1
    subst hq
    by_cases hk : k < ps.length
    · obtain ⟨bb, off, rfl, hbl, hxx⟩ := HXP.out (by omega)
      obtain ⟨x, y, z, c0, c1, c2, hnode⟩ := hxx k hk
      have r0 := cell_below hbw hbl c0
      have r1 := cell_below hbw hbl c1
      have r2 := cell_below hbw hbl c2
      have HCM := Lib.hid (IH.out ps[k] (List.getElem_mem hk) wr _ _ x y z bs HL.out (HT.out.to hbw (Nat.le_refl _)) (HF.out.to hbw (Nat.le_refl _)) (hnode.to hbw (Nat.le_refl _)))
      have HTK := Lib.hid (show ∀ p q, Malt t (ps.take (k + 1)) p q ↔ Malt t (ps.take k) p q ∨ M t ps[k] p q from Malt_take hk)
      have j0 : (0 : Int) ≤ k := by omega
      have j1 : (k : Int) < ps.length := by omega
      clear hcur himg hb hxx c0 c1 c2 hnode hbw
      go_wp2_with fail
      refine HCM.out.mono ?_
      rintro e w2 ⟨v2, out2, rfl, hbo, himg2, hb2⟩
      have HIM2 := Lib.hid himg2
      have hcl : cur.length = t.length + 1 := HIMG.out.1.trans HL.out
      have HOR := Lib.hid (or_any w2 _ _ cur out2 (himg2.1.trans HIMG.out.1.symm) (by omega) (HCUR.out.to hb2 (Nat.le_refl _)) hbo)
      have HB2 := Lib.hid (HB.out.trans (hb2.mono HB.out.size))
      clear hbo himg2 hb2 y2 r0 r1 r2 HCM hcl
      go_wp2_with fail
      refine HOR.out.mono ?_
      rintro e w3 ⟨g3, cs3, rfl, hr3, -, hl3, ht3, hb3⟩
      have HREL := Lib.hid (show Bools w3 (.slice (some ⟨g3, 0, none⟩) cur.length cur.length) cs3 ∧ img (Malt t (ps.take (k + 1))) bs cs3 ∧ Below W.heap.size W w3 from
        ⟨hr3.read hl3, img_iff (img_or HIMG.out HIM2.out hl3 ht3) (fun p q => (HTK.out p q).symm), HB2.out.trans (hb3.mono HB2.out.size)⟩)
      clear hr3 hl3 ht3 hb3 HOR
      go_wp2_with fail
      go_roundw
      case rel => exact ⟨k + 1, cs3, by go_num, by omega, HREL.out.1, HREL.out.2.1, HREL.out.2.2⟩
      case measure => simp [intOf]; omega
    · have HTA := Lib.hid (show ps.take k = ps from List.take_of_length_le (by omega))
      clear hcur himg hb hbw
      go_wp2_with fail
      go_ret
      exact ⟨_, cur, rfl, HCUR.out, img_iff HIMG.out (fun p q => by rw [HTA.out, M_3]), HBWR.out⟩

end Go.Proofs.Ythmaokjhncokdaa

/-
  Ends of the reference, on: sets, one or none, any number; all. No condition beyond what each theorem names.
-/
set_option linter.unusedVariables false
set_option linter.unusedSimpArgs false
namespace Go.Proofs.Ythmaokjhncokdaa
open Go.RowKit

set_option maxRecDepth 100000 in
set_option maxHeartbeats 8000000 in
theorem ends_5 (t : List Int) (cls : List Int) (x : Nd) (hn : t.length ≤ 1000) (ih : EndsAt t x) : EndsAt t (.mk 5 cls [x]) := by
  intro w tv fv a b c bs hl ht hf hx
  have IH := Lib.hid ih
  rw [nodeIs_iff] at hx
  obtain ⟨rfl, hcl, hcb, hpb, hps⟩ := hx
  obtain ⟨pt, capt, rfl, hct, hxt⟩ := ht.get
  obtain ⟨pf, capf, rfl, hcf, hxf⟩ := hf.get
  obtain ⟨pc, capc, rfl, hcc, -⟩ := hcl.get
  obtain ⟨pp, capp, rfl, hcp, hxp⟩ := hps.get
  rw [hl] at hf hcf ⊢
  have HT := Lib.hid ht
  have HF := Lib.hid hf
  have HXF := Lib.hid hxf
  have HXT := Lib.hid hxt
  have HCL := Lib.hid hcl
  have HCB := Lib.hid hcb
  have HXP := Lib.hid hxp
  have HL := Lib.hid hl
  unfold R at hcb hpb
  have hmk := fun w => make_bools 55 Try.underlying55 w ((t.length : Int) + 1) (t.length + 1) (by omega) (by omega)
  clear hl ht hf hcl hps hxt hxf hxp ih
  go_enter Try.func45, Try.ntmps45
  go_upto_region 2 with fail
  refine abs_wp fun W hW => ?_
  obtain ⟨a0, a1, a2⟩ := alloc2' w _ _ W hW
  obtain ⟨B, hB⟩ : ∃ B, B = w.heap.size := ⟨_, rfl⟩
  have HBX := Lib.hid (show W.heap[B]? = some (.cells #[.int .i64 5, .slice pc cls.length capc, .slice pp [x].length capp] 52) by rw [hB]; exact a1)
  have HROW := Lib.hid (show BRow W (B + 1) (List.replicate (t.length + 1) false) by unfold BRow; rw [hB, a2]; simp)
  have HBW := Lib.hid a0
  rw [← hB]
  have HBE := Lib.hid hB
  obtain ⟨x0, x1, x2⟩ := cells3 HBX.out
  clear hW hB a0 a1 a2 hmk
  obtain ⟨bb, off, rfl, hbl, hxx⟩ := HXP.out (by simp)
  obtain ⟨x', y, z, c0, c1, c2, hnode⟩ := hxx 0 (by simp)
  simp only [Nat.zero_mul, Nat.add_zero] at c0 c1 c2
  have r0 := cell_below HBW.out hbl c0
  have r1 := cell_below HBW.out hbl c1
  have r2 := cell_below HBW.out hbl c2
  have HCM := Lib.hid (IH.out W _ _ x' y z bs HL.out (HT.out.to HBW.out (Nat.le_refl _)) (HF.out.to HBW.out (Nat.le_refl _)) (hnode.to HBW.out (Nat.le_refl _)))
  clear hxx c0 c1 c2 hnode
  go_wp2_with fail
  refine HCM.out.mono ?_
  rintro e w2 ⟨v2, out2, rfl, hbo, himg2, hb2⟩
  have HIM2 := Lib.hid himg2
  have HOR := Lib.hid (or_any w2 (.slice pf (t.length + 1) capf) v2 bs out2 himg2.1 (by rw [HL.out]; omega) ((HF.out.to HBW.out (Nat.le_refl _)).to hb2 (Nat.le_refl _)) hbo)
  have HB2 := Lib.hid (HBW.out.trans (hb2.mono HBW.out.size))
  clear hbo himg2 hb2 r0 r1 r2 HCM
  go_wp2_with fail
  refine HOR.out.mono ?_
  rintro e w3 ⟨g3, cs3, rfl, hr3, -, hl3, ht3, hb3⟩
  have HREL := Lib.hid (show Bools w3 (.slice (some ⟨g3, 0, none⟩) bs.length bs.length) cs3 ∧ img (M t (.mk 5 cls [x])) bs cs3 ∧ Below w.heap.size w w3 from
    ⟨hr3.read hl3, img_iff (img_or (img_id bs) HIM2.out hl3 ht3) (fun p q => by rw [M_5, Malt_one]; simp), HB2.out.trans (hb3.mono HB2.out.size)⟩)
  clear hr3 hl3 ht3 hb3 HOR
  go_wp2_with fail
  go_ret
  exact ⟨_, cs3, rfl, HREL.out.1, HREL.out.2.1, HREL.out.2.2⟩

theorem count_sub : ∀ {bs cs : List Bool}, cs.length = bs.length → (∀ q, tr bs q → tr cs q) → bs.count true ≤ cs.count true ∧ (cs.count true ≤ bs.count true → bs = cs)
  | [], cs, h, _ => by have := List.eq_nil_of_length_eq_zero (by simpa using h); subst this; simp
  | b :: r, [], h, _ => by simp at h
  | b :: r, c :: s, h, g => by
    obtain ⟨i1, i2⟩ := count_sub (bs := r) (cs := s) (by simpa using h) (fun k hk => by simpa [tr] using g (k + 1) (by simpa [tr] using hk))
    simp only [List.count_cons]
    have h0 := g 0
    cases b <;> cases c <;> simp [tr] at h0 ⊢
    · exact ⟨i1, fun h => i2 h⟩
    · exact ⟨by omega, by omega⟩
    · exact ⟨i1, fun h => i2 h⟩

/-- the set grows by what the part leads to, and all of it is reached -/
def StarTo (t : List Int) (x : Nd) (bs cur : List Bool) : Prop := cur.length = bs.length ∧ (∀ q, tr bs q → tr cur q) ∧ ∀ q, tr cur q → ∃ p, tr bs p ∧ Star (M t x) p q

/-- what came before: none, or a set out of which this one was made -/
def Before (t : List Int) (x : Nd) (bs cur : List Bool) (n : Int) : Prop := n = -1 ∨ ∃ prev out : List Bool, n = prev.count true ∧ cur.length = prev.length ∧ (∀ q, tr cur q ↔ tr prev q ∨ tr out q) ∧ img (M t x) prev out

theorem star_done {t : List Int} {x : Nd} {bs cur : List Bool} {n : Int} (h : StarTo t x bs cur) (hb : Before t x bs cur n) (hn : ¬ n < (cur.count true : Nat)) : img (Star (M t x)) bs cur := by
  rcases hb with rfl | ⟨prev, out, rfl, hl, ho, hi⟩
  · omega
  · have he : prev = cur := (count_sub hl (fun q hq => (ho q).2 (.inl hq))).2 (by omega)
    subst he
    have key : ∀ {p q : Nat}, Star (M t x) p q → tr bs p → tr prev q := by
      intro p q h2 h1
      induction h2 with
      | refl => exact h.2.1 _ h1
      | step _ h3 ih => exact (ho _).2 (.inr ((hi.2 _).2 ⟨_, ih, h3⟩))
    exact ⟨h.1, fun q => ⟨h.2.2 q, fun ⟨p, h1, h2⟩ => key h2 h1⟩⟩

theorem star_go {t : List Int} {x : Nd} {bs cur out cs : List Bool} (h : StarTo t x bs cur) (hi : img (M t x) cur out) (hl : cs.length = cur.length) (ho : ∀ q, tr cs q ↔ tr cur q ∨ tr out q) : StarTo t x bs cs ∧ Before t x bs cs (cur.count true : Nat) := by
  refine ⟨⟨hl.trans h.1, fun q hq => (ho q).2 (.inl (h.2.1 q hq)), fun q hq => ?_⟩, .inr ⟨cur, out, rfl, hl, ho, hi⟩⟩
  rcases (ho q).1 hq with hq | hq
  · exact h.2.2 q hq
  · obtain ⟨m, h1, h2⟩ := (hi.2 q).1 hq
    obtain ⟨p, h3, h4⟩ := h.2.2 m h1
    exact ⟨p, h3, .step h4 h2⟩

set_option maxRecDepth 100000 in
set_option maxHeartbeats 8000000 in
theorem ends_4 (t : List Int) (cls : List Int) (x : Nd) (hn : t.length ≤ 1000) (ih : EndsAt t x) : EndsAt t (.mk 4 cls [x]) := by
  intro w tv fv a b c bs hl ht hf hx
  have IH := Lib.hid ih
  rw [nodeIs_iff] at hx
  obtain ⟨rfl, hcl, hcb, hpb, hps⟩ := hx
  obtain ⟨pt, capt, rfl, hct, hxt⟩ := ht.get
  obtain ⟨pf, capf, rfl, hcf, hxf⟩ := hf.get
  obtain ⟨pc, capc, rfl, hcc, -⟩ := hcl.get
  obtain ⟨pp, capp, rfl, hcp, hxp⟩ := hps.get
  rw [hl] at hf hcf ⊢
  have HT := Lib.hid ht
  have HF := Lib.hid hf
  have HXF := Lib.hid hxf
  have HXT := Lib.hid hxt
  have HCL := Lib.hid hcl
  have HCB := Lib.hid hcb
  have HXP := Lib.hid hxp
  have HL := Lib.hid hl
  unfold R at hcb hpb
  have hmk := fun w => make_bools 55 Try.underlying55 w ((t.length : Int) + 1) (t.length + 1) (by omega) (by omega)
  clear hl ht hf hcl hps hxt hxf hxp ih
  go_enter Try.func45, Try.ntmps45
  go_upto_region 2 with fail
  refine abs_wp fun W hW => ?_
  obtain ⟨a0, a1, a2⟩ := alloc2' w _ _ W hW
  obtain ⟨B, hB⟩ : ∃ B, B = w.heap.size := ⟨_, rfl⟩
  have HBX := Lib.hid (show W.heap[B]? = some (.cells #[.int .i64 4, .slice pc cls.length capc, .slice pp [x].length capp] 52) by rw [hB]; exact a1)
  have HROW := Lib.hid (show BRow W (B + 1) (List.replicate (t.length + 1) false) by unfold BRow; rw [hB, a2]; simp)
  have HBW := Lib.hid a0
  rw [← hB]
  have HBE := Lib.hid hB
  obtain ⟨x0, x1, x2⟩ := cells3 HBX.out
  clear hW hB a0 a1 a2 hmk
  obtain ⟨pf', cf', he, hcopy⟩ := copy_bools W (B + 1) (t.length + 1) _ bs (.slice pf (t.length + 1) capf) HROW.out (by simp) (HF.out.to HBW.out (Nat.le_refl _)) HL.out (by omega)
  injection he with e1 e2 e3
  subst e1 e3
  clear e2
  obtain ⟨bb, off, rfl, hbl, hxx⟩ := HXP.out (by simp)
  obtain ⟨x', y, z, c0, c1, c2, hnode⟩ := hxx 0 (by simp)
  simp only [Nat.zero_mul, Nat.add_zero] at c0 c1 c2
  have HC0 := Lib.hid c0
  have HC1 := Lib.hid c1
  have HC2 := Lib.hid c2
  have HND := Lib.hid hnode
  clear hxx c0 c1 c2 hnode
  go_upto_region 24 with fail
  refine abs_wp fun W2 hW2 => ?_
  have HROW2 := Lib.hid (show BRow W2 (B + 1) bs by rw [hW2]; exact HROW.out.copied bs)
  have HFR2 := Lib.hid (show Fr (fun q => q = B + 1) W W2 by rw [hW2]; exact Fr.setRow (F := fun q => q = B + 1) _ rfl _)
  have HBW2 := Lib.hid (show Below w.heap.size w W2 from HBW.out.trans (HFR2.out.below HBW.out.size (fun q hq => by have hq : q = B + 1 := hq; have := HBE.out; omega)))
  have HBX2 := Lib.hid ((HFR2.out.block B (at_lt HBX.out) (by omega)).trans HBX.out)
  clear hW2 hcopy x0 x1 x2
  obtain ⟨x0, x1, x2⟩ := cells3 HBX2.out
  go_wp2_with fail
  go_loopw [7, 12] (fun u i wr => ∃ (n : Int) (cur : List Bool), i = .int .i64 n ∧ -1 ≤ n ∧ n ≤ t.length + 1 ∧ Bools wr u cur ∧ StarTo t x bs cur ∧ Before t x bs cur n ∧ Below W2.heap.size W2 wr) (fun _ i _ => ((t.length : Int) + 2 - intOf i).toNat)
  case atStart => exact ⟨-1, bs, rfl, by omega, by omega, HROW2.out.read HL.out, ⟨rfl, fun _ h => h, fun q h => ⟨q, h, .refl _⟩⟩, .inl rfl, Below.refl _ _⟩
  case round =>
    obtain ⟨n, cur, rfl, n1, n2, hcur, hst, hbf, hb⟩ := hrel
    have HCUR := Lib.hid hcur
    have HST := Lib.hid hst
    have HBF := Lib.hid hbf
    have HB := Lib.hid hb
    have y2 := cell_below hb (at_lt HBX2.out) x2
    have hbw := HBW2.out.trans (hb.mono HBW2.out.size)
    have HBWR := Lib.hid hbw
    obtain ⟨q1, d1, hq⟩ := hcur.get.imp fun _ h => h.imp fun _ h => h.1
    subst hq
    have hcl : cur.length ≤ 1001 := by have := hst.1; have := HL.out; omega
    have HMANY := Lib.hid (fun (W' : World) (h : Below wr.heap.size wr W') => many_any W' (.slice q1 cur.length d1) cur (by omega) (HCUR.out.to h (Nat.le_refl _)))
    have HCT := Lib.hid (show cur.count true ≤ t.length + 1 by have h1 := List.count_le_length (a := true) (l := cur); have := hst.1; have := HL.out; omega)
    obtain ⟨m, hm⟩ : ∃ m : Nat, m = cur.count true := ⟨_, rfl⟩
    rw [← hm] at HMANY HCT
    have HM := Lib.hid hm
    clear hcur hst hbf hb hm
    go_wp2_with fail
    refine (HMANY.out wr (Below.refl _ _)).mono ?_
    rintro e wz ⟨rfl, rfl⟩
    by_cases hlt : n < (m : Int)
    · have r0 := cell_below hbw hbl HC0.out
      have r1 := cell_below hbw hbl HC1.out
      have r2 := cell_below hbw hbl HC2.out
      have HCM := Lib.hid (IH.out wr _ _ x' y z cur (HST.out.1.trans HL.out) (HT.out.to hbw (Nat.le_refl _)) HCUR.out (HND.out.to hbw (Nat.le_refl _)))
      clear hbw
      go_wp2_with fail
      refine (HMANY.out wr (Below.refl _ _)).mono ?_
      rintro e wz ⟨rfl, rfl⟩
      go_wp2_with fail
      refine HCM.out.mono ?_
      rintro e w2 ⟨v2, out2, rfl, hbo, himg2, hb2⟩
      have HIM2 := Lib.hid himg2
      have HOR := Lib.hid (or_any w2 _ _ cur out2 himg2.1 (by omega) (HCUR.out.to hb2 (Nat.le_refl _)) hbo)
      have HB2 := Lib.hid (HB.out.trans (hb2.mono HB.out.size))
      clear hbo himg2 hb2 y2 r0 r1 r2 HCM
      go_wp2_with fail
      refine HOR.out.mono ?_
      rintro e w3 ⟨g3, cs3, rfl, hr3, -, hl3, ht3, hb3⟩
      have HREL := Lib.hid (show Bools w3 (.slice (some ⟨g3, 0, none⟩) cur.length cur.length) cs3 ∧ (StarTo t x bs cs3 ∧ Before t x bs cs3 (m : Int)) ∧ Below W2.heap.size W2 w3 from
        ⟨hr3.read hl3, by rw [HM.out]; exact star_go HST.out HIM2.out hl3 ht3, HB2.out.trans (hb3.mono HB2.out.size)⟩)
      have HCT2 := HCT.out
      clear hr3 hl3 ht3 hb3 HOR
      go_wp2_with fail
      go_roundw
      case rel => exact ⟨(m : Int), cs3, rfl, by omega, by omega, HREL.out.1, HREL.out.2.1.1, HREL.out.2.1.2, HREL.out.2.2⟩
      case measure => (simp [intOf]; try omega)
    · have HIMG := Lib.hid (star_done HST.out HBF.out (by rw [← HM.out]; exact hlt))
      clear hbw
      go_wp2_with fail
      go_ret
      exact ⟨_, cur, rfl, HCUR.out, img_iff HIMG.out (fun p q => by
        rw [M_4]
        exact ⟨fun h => ⟨rfl, h.mono fun a b h => Malt_one.2 h⟩, fun h => h.2.mono fun a b h => Malt_one.1 h⟩), HBWR.out⟩

set_option maxRecDepth 100000 in
set_option maxHeartbeats 8000000 in
theorem ends_1 (t : List Int) (cls : List Int) (ps : List Nd) (hn : t.length ≤ 1000) : EndsAt t (.mk 1 cls ps) := by
  intro w tv fv a b c bs hl ht hf hx
  rw [nodeIs_iff] at hx
  obtain ⟨rfl, hcl, hcb, hpb, hps⟩ := hx
  obtain ⟨pt, capt, rfl, hct, hxt⟩ := ht.get
  obtain ⟨pf, capf, rfl, hcf, hxf⟩ := hf.get
  obtain ⟨pc, capc, rfl, hcc, -⟩ := hcl.get
  obtain ⟨pp, capp, rfl, hcp, hxp⟩ := hps.get
  rw [hl] at hf hcf ⊢
  have HT := Lib.hid ht
  have HF := Lib.hid hf
  have HXF := Lib.hid hxf
  have HXT := Lib.hid hxt
  have HCL := Lib.hid hcl
  have HCB := Lib.hid hcb
  have HXP := Lib.hid hxp
  have HL := Lib.hid hl
  unfold R at hcb hpb
  have hmk := fun w => make_bools 55 Try.underlying55 w ((t.length : Int) + 1) (t.length + 1) (by omega) (by omega)
  clear hl ht hf hcl hps hxt hxf hxp
  go_enter Try.func45, Try.ntmps45
  go_upto_region 2 with fail
  refine abs_wp fun W hW => ?_
  obtain ⟨a0, a1, a2⟩ := alloc2' w _ _ W hW
  obtain ⟨B, hB⟩ : ∃ B, B = w.heap.size := ⟨_, rfl⟩
  have HBX := Lib.hid (show W.heap[B]? = some (.cells #[.int .i64 1, .slice pc cls.length capc, .slice pp ps.length capp] 52) by rw [hB]; exact a1)
  have HROW := Lib.hid (show BRow W (B + 1) (List.replicate (t.length + 1) false) by unfold BRow; rw [hB, a2]; simp)
  have HBW := Lib.hid a0
  rw [← hB]
  have HBE := Lib.hid hB
  obtain ⟨x0, x1, x2⟩ := cells3 HBX.out
  clear hW hB a0 a1 a2 hmk
  go_wp2_with fail
  go_loopw [8] (fun i wr => ∃ (k : Nat) (cs : List Bool), i = .int .i64 k ∧ k ≤ t.length ∧ BRow wr (B + 1) cs ∧ cs.length = t.length + 1 ∧ (∀ q, tr cs q ↔ ∃ p, p < k ∧ tr bs p ∧ one t cls p q) ∧ wr.heap[B]? = some (.cells #[.int .i64 1, .slice pc cls.length capc, .slice pp ps.length capp] 52) ∧ Below w.heap.size w wr) (fun i _ => t.length - (intOf i).toNat)
  case atStart => exact ⟨0, _, rfl, by omega, HROW.out, by simp, fun q => ⟨fun h => absurd h (no_places _ q), fun ⟨p, h, _⟩ => absurd h (by omega)⟩, HBX.out, HBW.out⟩
  case round =>
    obtain ⟨k, cs, rfl, h1, hr, hcl, htr, hbx, hb⟩ := hrel
    have HR := Lib.hid hr
    have HCLN := Lib.hid hcl
    have HTR := Lib.hid htr
    have HBXR := Lib.hid hbx
    have HB := Lib.hid hb
    by_cases hk : k < t.length
    · obtain ⟨bt, ot, rfl, hbt, hyt⟩ := HXT.out (by omega)
      obtain ⟨bf, of, rfl, hbf, hyf⟩ := HXF.out (by have := HL.out; omega)
      have Y0 := Lib.hid (cell_below hb hbt (hyt k hk))
      have F0 := Lib.hid (cell_below hb hbf (hyf k (by have := HL.out; omega)))
      have HHAS := Lib.hid (has_any wr.drew (.slice pc cls.length capc) cls t[k] (by omega) ((HCL.out.to hb (Nat.le_refl _)).to (Below.refl _ _).drew (Nat.le_refl _)))
      have HSET := Lib.hid (show ∀ b : Bool, b = (decide (t[k] ∈ cls) && bs[k]'(by have := HL.out; omega)) → BRow (wr.drew.setCell ⟨B + 1, k + 1, none⟩ (.bool b)) (B + 1) (cs.set (k + 1) b) ∧ (∀ q, tr (cs.set (k + 1) b) q ↔ ∃ p, p < k + 1 ∧ tr bs p ∧ one t cls p q) ∧ (wr.drew.setCell ⟨B + 1, k + 1, none⟩ (.bool b)).heap[B]? = some (.cells #[.int .i64 1, .slice pc cls.length capc, .slice pp ps.length capp] 52) ∧ Below w.heap.size w (wr.drew.setCell ⟨B + 1, k + 1, none⟩ (.bool b)) from fun b hbe => by
        have hfr : Fr (fun q => q = B + 1) wr.drew (wr.drew.setCell ⟨B + 1, k + 1, none⟩ (.bool b)) := Fr.setCell (F := fun q => q = B + 1) _ rfl _
        have hrd : BRow wr.drew (B + 1) cs := HR.out
        have hbd : Below w.heap.size w wr.drew := HB.out.drew
        refine ⟨hrd.set (k + 1) b, fun q => ?_, (hfr.block B (at_lt HBXR.out) (by omega)).trans HBXR.out, hbd.trans (hfr.below hbd.size (fun q hq => by have hq : q = B + 1 := hq; have := HBE.out; omega))⟩
        rw [tr_setB (by have := HCLN.out; omega), HTR.out]
        constructor
        · rintro (⟨rfl, h⟩ | ⟨h2, p, h3, h4, h5⟩)
          · rw [h] at hbe
            have hbe := hbe.symm
            rw [Bool.and_eq_true, decide_eq_true_iff] at hbe
            exact ⟨k, by omega, (tr_get _).2 hbe.2, rfl, t[k], by simp [hk], hbe.1⟩
          · exact ⟨p, by omega, h4, h5⟩
        · rintro ⟨p, h3, h4, h5⟩
          by_cases hp : p = k
          · subst hp
            obtain ⟨rfl, c, h6, h7⟩ := h5
            rw [List.getElem?_eq_getElem hk] at h6
            have h6 := Option.some.inj h6
            refine .inl ⟨rfl, ?_⟩
            rw [hbe, Bool.and_eq_true, decide_eq_true_iff]
            exact ⟨by rw [h6]; exact h7, (tr_get _).1 h4⟩
          · have h8 := h5.1
            exact .inr ⟨by omega, p, by omega, h4, h5⟩)
      have hbtl : bt < wr.heap.size := Nat.lt_of_lt_of_le hbt hb.size
      have hbfl : bf < wr.heap.size := Nat.lt_of_lt_of_le hbf hb.size
      have hc0 := hr.cell (show k + 1 < cs.length by omega)
      have hf0 := hr.frozen (k + 1)
      have hki : (k : Int) < (t.length : Int) := by omega
      have hki2 : k < t.length + 1 := by omega
      have hki3 : k + 1 < t.length + 1 := by omega
      have hki4 : (k : Int) + 1 < (t.length : Int) + 1 := by omega
      have hki5 : k ≤ t.length := by omega
      have hki6 : (k : Int) < (t.length : Int) + 1 := by omega
      have hk0 : (0 : Int) ≤ k := by omega
      generalize cs[k + 1]'(by have := HCLN.out; omega) = ck at hc0
      generalize t[k] = tk at *
      generalize bs[k]'(by have := HL.out; omega) = fk at *
      clear hr hcl htr hbx hb hyt hyf
      go_upto_region 9 with fail
      refine wp_region_plan (fun W' => W'.heap[B]? = some (.cells #[.int .i64 1, .slice pc cls.length capc, .slice pp ps.length capp] 52) ∧ W'.cell? ⟨bt, ot + k, none⟩ = some (.int .i64 tk)) (.reads [0, 1, 2, 3, 4, 5] (.one 6 (.reads [7] .done))) 121 (by kernel_rfl) (by kernel_rfl) rfl (fun _ _ _ _ _ h => h) ⟨HBXR.out, Y0.out⟩ ?_
      apply plan_reads
      · intro W' hW'
        obtain ⟨s0, s1⟩ := hW'
        have s2 := (cells3 s0).2.1
        repeat (refine wpRead_step (fun K hK => ?_); go_simp; refine hK _ ?_; clear hK K)
        exact wpRead_nil rfl
      refine plan_one rfl ?_
      go_wp2_with fail
      refine HHAS.out.mono ?_
      rintro e w2 ⟨rfl, rfl⟩
      go_wp2_with fail
      refine Then.mk ⟨HBXR.out, Y0.out⟩ ?_
      apply plan_reads
      · intro W' hW'
        repeat (refine wpRead_step (fun K hK => ?_); go_simp; refine hK _ ?_; clear hK K)
        exact wpRead_nil rfl
      refine plan_done ?_
      have f0 : wr.drew.cell? ⟨bf, of + k, none⟩ = some (.bool fk) := F0.out
      have hc1 : wr.drew.cell? ⟨B + 1, k + 1, none⟩ = some (.bool ck) := hc0
      have hf1 : wr.drew.frozen? ⟨B + 1, k + 1, none⟩ = false := hf0
      clear hc0 hf0
      generalize decide (tk ∈ cls) = dk at *
      cases fk
      · go_wp2_with fail
        go_roundw
        case rel => exact ⟨k + 1, cs.set (k + 1) false, by go_num, by omega, (HSET.out false (by simp)).1, by rw [List.length_set]; exact HCLN.out, (HSET.out false (by simp)).2.1, (HSET.out false (by simp)).2.2.1, (HSET.out false (by simp)).2.2.2⟩
        case measure => simp [intOf]; omega
      · go_wp2_with fail
        go_roundw
        case rel => exact ⟨k + 1, cs.set (k + 1) dk, by go_num, by omega, (HSET.out dk (by simp)).1, by rw [List.length_set]; exact HCLN.out, (HSET.out dk (by simp)).2.1, (HSET.out dk (by simp)).2.2.1, (HSET.out dk (by simp)).2.2.2⟩
        case measure => simp [intOf]; omega
    · have HIMG := Lib.hid (show img (M t (.mk 1 cls ps)) bs cs from ⟨HCLN.out.trans HL.out.symm, fun q => by
        rw [HTR.out]
        constructor
        · rintro ⟨p, -, h2, h3⟩; exact ⟨p, h2, (M_1 _ _).2 h3⟩
        · rintro ⟨p, h2, h3⟩
          have h4 := (M_1 _ _).1 h3
          obtain ⟨h5, c, h6, h7⟩ := h4
          have := (List.getElem?_eq_some_iff.1 h6).1
          exact ⟨p, by omega, h2, h5, c, h6, h7⟩⟩)
      clear hr hcl htr hbx hb
      go_wp2_with fail
      go_ret
      exact ⟨_, cs, rfl, HR.out.read HCLN.out, HIMG.out, HB.out⟩

theorem ends_any (t : List Int) (hn : t.length ≤ 1000) : ∀ (x : Nd), Good x → EndsAt t x
  | .mk op cls ps, hg => by
    unfold Good at hg
    obtain ⟨hop, -, hone, hps⟩ := hg
    have ih : ∀ x ∈ ps, EndsAt t x := fun x hx => ends_any t hn x (GoodL_mem hps x hx)
    rcases hop with rfl | rfl | rfl | rfl | rfl | rfl
    · exact ends_0 t cls ps hn
    · exact ends_1 t cls ps hn
    · exact ends_2 t cls ps hn ih
    · exact ends_3 t cls ps hn ih
    · match ps, hone (.inl rfl), hps, ih with
      | [p], _, hps, ih => exact ends_4 t cls p hn (ih p (by simp))
    · match ps, hone (.inr rfl), hps, ih with
      | [p], _, hps, ih => exact ends_5 t cls p hn (ih p (by simp))
  termination_by x => SizeOf.sizeOf x
  decreasing_by
    have := List.sizeOf_lt_of_mem hx
    simp; omega
end Go.Proofs.Ythmaokjhncokdaa

