/-
  Count, depth, Stars of an expression. No condition beyond what each theorem names.
-/
import Derived.Test.YtodkeiadaodehaaNV
import Derived.IntWalk
set_option linter.unusedVariables false
set_option linter.unusedSimpArgs false
namespace Go.Proofs.Ytodkeiadaodehaa
open Go.RowKit

mutual
/-- how many nodes Count tells of: it stops behind four hundred -/
def countT : Nd → Int
  | .mk _ _ ps => countTL 1 ps
def countTL : Int → List Nd → Int
  | a, [] => a
  | a, x :: r => if a ≤ 400 then countTL (wrap64 (a + countT x)) r else a
end

mutual
def depthI : Nd → Int
  | .mk _ _ ps => wrap64 (depthIL 0 ps + 1)
def depthIL : Int → List Nd → Int
  | a, [] => a
  | a, x :: r => depthIL (max a (depthI x)) r
end

mutual
def starsI : Nd → Int
  | .mk op _ ps => if op = 4 then wrap64 (starsIL 0 ps + 1) else starsIL 0 ps
def starsIL : Int → List Nd → Int
  | a, [] => a
  | a, x :: r => starsIL (max a (starsI x)) r
end

theorem depthIL_snoc (a : Int) : ∀ (l : List Nd) (x : Nd), depthIL a (l ++ [x]) = max (depthIL a l) (depthI x)
  | [], x => by simp [depthIL]
  | y :: r, x => by
    simp only [List.cons_append, depthIL]
    exact depthIL_snoc _ r x

theorem starsIL_snoc (a : Int) : ∀ (l : List Nd) (x : Nd), starsIL a (l ++ [x]) = max (starsIL a l) (starsI x)
  | [], x => by simp [starsIL]
  | y :: r, x => by
    simp only [List.cons_append, starsIL]
    exact starsIL_snoc _ r x

/-- Count so far, as long as it goes on -/
def countTo (ps : List Nd) (k : Nat) (a : Int) : Prop := countTL a (ps.drop k) = countTL 1 ps

theorem countTo_step {ps : List Nd} {k : Nat} {a : Int} (hk : k < ps.length) (h : countTo ps k a) (ha : a ≤ 400) : countTo ps (k + 1) (wrap64 (a + countT ps[k])) := by
  unfold countTo at *
  rw [← h, List.drop_eq_getElem_cons hk, countTL, if_pos ha]

theorem countTo_stop {ps : List Nd} {k : Nat} {a : Int} (hk : k < ps.length) (h : countTo ps k a) (ha : ¬ a ≤ 400) : a = countTL 1 ps := by
  unfold countTo at *
  rw [← h, List.drop_eq_getElem_cons hk, countTL, if_neg ha]

theorem countTo_end {ps : List Nd} {k : Nat} {a : Int} (hk : ¬ k < ps.length) (h : countTo ps k a) : a = countTL 1 ps := by
  unfold countTo at *
  rw [← h, List.drop_of_length_le (by omega), countTL]

theorem countTL_eq : ∀ (l : List Nd) (a : Int), 1 ≤ a → (a : Int) + (cntL l : Int) ≤ 400 → (∀ x ∈ l, cnt x ≤ 400 → countT x = cnt x) → countTL a l = a + cntL l
  | [], a, _, _, _ => by simp [countTL, cntL]
  | x :: r, a, h2, h3, h4 => by
    simp only [cntL] at h3 ⊢
    have hx := cnt_pos x
    rw [countTL, if_pos (by omega), h4 x (by simp) (by omega)]
    have e : wrap64 (a + cnt x) = a + cnt x := by
      exact IntWalk.wrap64_in _ (by omega)
    rw [e, countTL_eq r _ (by omega) (by omega) (fun y hy => h4 y (by simp [hy]))]
    omega

theorem countT_eq : ∀ (x : Nd), cnt x ≤ 400 → countT x = cnt x
  | .mk op cls ps, h => by
    simp only [cnt] at h ⊢
    rw [countT, countTL_eq ps 1 (by omega) (by omega) (fun y hy => by
      have := List.sizeOf_lt_of_mem hy
      exact countT_eq y)]
    omega
  termination_by x => SizeOf.sizeOf x
  decreasing_by (simp; omega)

mutual
/-- how deep an expression is -/
def depthN : Nd → Nat
  | .mk _ _ ps => 1 + depthNL ps
def depthNL : List Nd → Nat
  | [] => 0
  | x :: r => max (depthN x) (depthNL r)
end

theorem depthNL_le : ∀ {l : List Nd} {x : Nd}, x ∈ l → depthN x ≤ depthNL l
  | [], x, h => by simp at h
  | y :: r, x, h => by
    simp only [depthNL]
    rcases List.mem_cons.1 h with rfl | h
    · omega
    · have := depthNL_le h; omega

theorem depthNL_bound : ∀ {l : List Nd} {n : Nat}, (∀ x ∈ l, depthN x ≤ n) → depthNL l ≤ n
  | [], n, _ => by simp [depthNL]
  | y :: r, n, h => by
    simp only [depthNL]
    have h1 := h y (by simp)
    have h2 := depthNL_bound (l := r) (n := n) (fun x hx => h x (by simp [hx]))
    omega

theorem depthIL_eq : ∀ (l : List Nd) (a : Nat), (∀ x ∈ l, depthI x = depthN x) → depthIL a l = max a (depthNL l)
  | [], a, _ => by simp [depthIL, depthNL]
  | x :: r, a, h => by
    rw [depthIL, h x (by simp), show max (a : Int) (depthN x : Int) = ((max a (depthN x) : Nat) : Int) by omega, depthIL_eq r _ (fun y hy => h y (by simp [hy]))]
    simp only [depthNL]
    omega

theorem depthI_eq : ∀ (x : Nd), depthN x ≤ 1000 → depthI x = depthN x
  | .mk op cls ps, h => by
    simp only [depthN] at h ⊢
    have e : depthIL 0 ps = depthNL ps := by
      have := depthIL_eq ps 0 (fun y hy => by
        have := List.sizeOf_lt_of_mem hy
        have := depthNL_le hy
        exact depthI_eq y (by omega))
      simpa using this
    rw [depthI, e]
    rw [IntWalk.wrap64_in _ (by omega)]
    omega
  termination_by x => SizeOf.sizeOf x
  decreasing_by (simp; omega)

theorem Wf_depth : ∀ (x : Nd) (d : Nat), Wf d x → d + depthN x ≤ 33
  | .mk op cls ps, d, h => by
    unfold Wf at h
    obtain ⟨h1, -, -, -, -, -, h7⟩ := h
    rw [WfL_iff] at h7
    simp only [depthN]
    have := depthNL_bound (l := ps) (n := 32 - d) (fun y hy => by
      have := List.sizeOf_lt_of_mem hy
      have := Wf_depth y (d + 1) (h7 y hy)
      omega)
    omega
  termination_by x => SizeOf.sizeOf x
  decreasing_by (simp; omega)

theorem Wf_move : ∀ (x : Nd) (d e : Nat), Wf d x → e + depthN x ≤ 33 → Wf e x
  | .mk op cls ps, d, e, h, he => by
    unfold Wf at h ⊢
    obtain ⟨h1, h2, h3, h4, h5, h6, h7⟩ := h
    rw [WfL_iff] at h7 ⊢
    simp only [depthN] at he
    refine ⟨by omega, h2, h3, h4, h5, h6, fun y hy => ?_⟩
    have := List.sizeOf_lt_of_mem hy
    have := depthNL_le hy
    exact Wf_move y (d + 1) (e + 1) (h7 y hy) (by omega)
  termination_by x => SizeOf.sizeOf x
  decreasing_by (simp; omega)

/-- right, of at most a hundred nodes, and not deeper than twenty -/
structure Small (x : Nd) : Prop where
  right : RightX x
  cnt : cnt x ≤ 100
  depth : depthN x ≤ 20

theorem small_of {x : Nd} (h : RightX x) (h1 : countT x ≤ 100) (h2 : depthI x ≤ 20) : Small x := by
  have h3 := Wf_depth x 1 h.1
  rw [countT_eq x h.2] at h1
  rw [depthI_eq x (by omega)] at h2
  exact ⟨h, by omega, by omega⟩


def CountAt (x : Nd) : Prop := ∀ (w : World) (a b c : Value), NodeIs w x a b c →
    Calls Try.prog 31 #[.agg #[a, b, c]] w fun e w' => e = .returned (.int .i64 (countT x)) ∧ Below w.heap.size w w'

set_option maxRecDepth 100000 in
set_option maxHeartbeats 4000000 in
theorem count_step (op : Int) (cls : List Int) (ps : List Nd) (ih : ∀ x ∈ ps, CountAt x) : CountAt (.mk op cls ps) := by
  intro w a b c hx
  have IH := Lib.hid ih
  rw [nodeIs_iff] at hx
  obtain ⟨rfl, hcl, hcb, hpb, hps⟩ := hx
  obtain ⟨pc, capc, rfl, hcc, hxc⟩ := hcl.get
  obtain ⟨pp, capp, rfl, hcp, hxp⟩ := hps.get
  unfold R at hcb hpb
  have HXP := Lib.hid hxp
  clear hcl hps hxc hxp ih
  go_enter Try.func31, Try.ntmps31
  go_upto_region 1 with fail
  refine abs_wp fun W hW => ?_
  obtain ⟨B, hB⟩ : ∃ B, B = w.heap.size := ⟨_, rfl⟩
  have hbox : W.heap[B]? = some (.cells #[.int .i64 op, .slice pc cls.length capc, .slice pp ps.length capp] 25) := by rw [hW, hB]; exact heap_alloc_new _ _
  have hBW : Below w.heap.size w W := by rw [hW]; exact below_alloc1 _ _
  rw [← hB]
  have HBW := Lib.hid hBW
  have HBOX := Lib.hid hbox
  clear hW hbox hB hBW
  go_wp2_with fail
  go_loopw [3, 4] (fun d i wr => ∃ (k : Nat) (a : Int), i = .int .i64 k ∧ k ≤ ps.length ∧ d = .int .i64 a ∧ countTo ps k a ∧ Below W.heap.size W wr) (fun _ i _ => ps.length - (intOf i).toNat)
  case atStart => exact ⟨0, _, rfl, by omega, rfl, by unfold countTo; rw [List.drop_zero], Below.refl _ _⟩
  case round =>
    obtain ⟨k, a, rfl, h1, rfl, hrl, hb⟩ := hrel
    have HRL := Lib.hid hrl
    have HBR := Lib.hid hb
    have hbox := (hb.block _ (at_lt HBOX.out)).trans HBOX.out
    obtain ⟨y0, y1, y2⟩ := cells3 hbox
    have HBWR := Lib.hid (HBW.out.trans (hb.mono HBW.out.size))
    have hbw := HBWR.out
    clear hb hrl hbox
    by_cases hk : k < ps.length
    · obtain ⟨bb, off, rfl, hbl, hxx⟩ := HXP.out (by omega)
      obtain ⟨x, y, z, c0, c1, c2, hnode⟩ := hxx k hk
      have r0 := cell_below hbw hbl c0
      have r1 := cell_below hbw hbl c1
      have r2 := cell_below hbw hbl c2
      have HD := Lib.hid (IH.out ps[k] (List.getElem_mem hk) wr x y z (hnode.to hbw (Nat.le_refl _)))
      have hkk : (k : Int) < ps.length := by omega
      have hk0 : (0 : Int) ≤ k := by omega
      clear hxx c0 c1 c2 hnode hbw
      by_cases ha : a ≤ 400
      · have HST := Lib.hid (countTo_step hk HRL.out ha)
        generalize countT ps[k] = dk at *
        go_wp2_with fail
        refine HD.out.mono ?_
        rintro e w1 ⟨rfl, hb1⟩
        have HB1 := Lib.hid (HBR.out.trans (hb1.mono HBR.out.size))
        clear y0 y1 y2 r0 r1 r2 hb1
        go_wp2_with fail
        go_roundw
        case rel => exact ⟨k + 1, _, by go_num, by omega, rfl, HST.out, HB1.out⟩
        case measure => simp [intOf]; omega
      · have HST := Lib.hid (countTo_stop hk HRL.out ha)
        go_wp2_with fail
        go_ret
        exact ⟨ret_int (by rw [countT]; exact HST.out), HBWR.out⟩
    · have hkk : ¬ (k : Int) < ps.length := by omega
      have HST := Lib.hid (countTo_end hk HRL.out)
      go_wp2_with fail
      go_ret
      exact ⟨ret_int (by rw [countT]; exact HST.out), HBWR.out⟩

theorem count_any : ∀ (x : Nd), CountAt x
  | .mk op cls ps => count_step op cls ps (fun x hx => count_any x)
  termination_by x => SizeOf.sizeOf x
  decreasing_by
    have := List.sizeOf_lt_of_mem hx
    simp; omega

def DepthAt (x : Nd) : Prop := ∀ (w : World) (a b c : Value), NodeIs w x a b c →
    Calls Try.prog 32 #[.agg #[a, b, c]] w fun e w' => e = .returned (.int .i64 (depthI x)) ∧ Below w.heap.size w w'

set_option maxRecDepth 100000 in
set_option maxHeartbeats 4000000 in
theorem depth_step (op : Int) (cls : List Int) (ps : List Nd) (ih : ∀ x ∈ ps, DepthAt x) : DepthAt (.mk op cls ps) := by
  intro w a b c hx
  have IH := Lib.hid ih
  rw [nodeIs_iff] at hx
  obtain ⟨rfl, hcl, hcb, hpb, hps⟩ := hx
  obtain ⟨pc, capc, rfl, hcc, hxc⟩ := hcl.get
  obtain ⟨pp, capp, rfl, hcp, hxp⟩ := hps.get
  unfold R at hcb hpb
  have HXP := Lib.hid hxp
  clear hcl hps hxc hxp ih
  go_enter Try.func32, Try.ntmps32
  go_upto_region 1 with fail
  refine abs_wp fun W hW => ?_
  obtain ⟨B, hB⟩ : ∃ B, B = w.heap.size := ⟨_, rfl⟩
  have hbox : W.heap[B]? = some (.cells #[.int .i64 op, .slice pc cls.length capc, .slice pp ps.length capp] 25) := by rw [hW, hB]; exact heap_alloc_new _ _
  have hBW : Below w.heap.size w W := by rw [hW]; exact below_alloc1 _ _
  rw [← hB]
  have HBW := Lib.hid hBW
  have HBOX := Lib.hid hbox
  clear hW hbox hB hBW
  go_wp2_with fail
  go_loopw [3, 4] (fun d i wr => ∃ (k : Nat) (a : Int), i = .int .i64 k ∧ k ≤ ps.length ∧ d = .int .i64 a ∧ a = depthIL 0 (ps.take k) ∧ Below W.heap.size W wr) (fun _ i _ => ps.length - (intOf i).toNat)
  case atStart => exact ⟨0, _, rfl, by omega, rfl, rfl, Below.refl _ _⟩
  case round =>
    obtain ⟨k, a, rfl, h1, rfl, hrl, hb⟩ := hrel
    have HRL := Lib.hid hrl
    have HBR := Lib.hid hb
    have hbox := (hb.block _ (at_lt HBOX.out)).trans HBOX.out
    obtain ⟨y0, y1, y2⟩ := cells3 hbox
    have HBWR := Lib.hid (HBW.out.trans (hb.mono HBW.out.size))
    have hbw := HBWR.out
    clear hb hrl hbox
    by_cases hk : k < ps.length
    · obtain ⟨bb, off, rfl, hbl, hxx⟩ := HXP.out (by omega)
      obtain ⟨x, y, z, c0, c1, c2, hnode⟩ := hxx k hk
      have r0 := cell_below hbw hbl c0
      have r1 := cell_below hbw hbl c1
      have r2 := cell_below hbw hbl c2
      have HD := Lib.hid (IH.out ps[k] (List.getElem_mem hk) wr x y z (hnode.to hbw (Nat.le_refl _)))
      have hkk : (k : Int) < ps.length := by omega
      have hk0 : (0 : Int) ≤ k := by omega
      clear hxx c0 c1 c2 hnode hbw
      have HST := Lib.hid (show max a (depthI ps[k]) = depthIL 0 (ps.take (k + 1)) by rw [List.take_succ_eq_append_getElem hk, depthIL_snoc, HRL.out])
      generalize depthI ps[k] = dk at *
      go_wp2_with fail
      refine HD.out.mono ?_
      rintro e w1 ⟨rfl, hb1⟩
      have HB1 := Lib.hid (HBR.out.trans (hb1.mono HBR.out.size))
      clear y0 y1 y2 r0 r1 r2 hb1
      go_wp2_with fail
      all_goals
        go_roundw
        case rel => exact ⟨k + 1, _, by go_num, by omega, rfl, by first | exact HST.out | (rw [← HST.out]; omega), HB1.out⟩
        case measure => simp [intOf]; omega
    · have hkk : ¬ (k : Int) < ps.length := by omega
      have hke : ps.take k = ps := List.take_of_length_le (by omega)
      have HF := Lib.hid (show a = depthIL 0 ps by have h := HRL.out; rwa [hke] at h)
      clear hke
      go_wp2_with fail
      go_ret
      exact ⟨ret_int (by rw [depthI, ← HF.out]), HBWR.out⟩

theorem depth_any : ∀ (x : Nd), DepthAt x
  | .mk op cls ps => depth_step op cls ps (fun x hx => depth_any x)
  termination_by x => SizeOf.sizeOf x
  decreasing_by
    have := List.sizeOf_lt_of_mem hx
    simp; omega

def StarsAt (x : Nd) : Prop := ∀ (w : World) (a b c : Value), NodeIs w x a b c →
    Calls Try.prog 12 #[.agg #[a, b, c]] w fun e w' => e = .returned (.int .i64 (starsI x)) ∧ Below w.heap.size w w'

set_option maxRecDepth 100000 in
set_option maxHeartbeats 4000000 in
theorem stars_step (op : Int) (cls : List Int) (ps : List Nd) (ih : ∀ x ∈ ps, StarsAt x) : StarsAt (.mk op cls ps) := by
  intro w a b c hx
  have IH := Lib.hid ih
  rw [nodeIs_iff] at hx
  obtain ⟨rfl, hcl, hcb, hpb, hps⟩ := hx
  obtain ⟨pc, capc, rfl, hcc, hxc⟩ := hcl.get
  obtain ⟨pp, capp, rfl, hcp, hxp⟩ := hps.get
  unfold R at hcb hpb
  have HXP := Lib.hid hxp
  clear hcl hps hxc hxp ih
  go_enter Try.func12, Try.ntmps12
  go_upto_region 1 with fail
  refine abs_wp fun W hW => ?_
  obtain ⟨B, hB⟩ : ∃ B, B = w.heap.size := ⟨_, rfl⟩
  have hbox : W.heap[B]? = some (.cells #[.int .i64 op, .slice pc cls.length capc, .slice pp ps.length capp] 25) := by rw [hW, hB]; exact heap_alloc_new _ _
  have hBW : Below w.heap.size w W := by rw [hW]; exact below_alloc1 _ _
  rw [← hB]
  have HBW := Lib.hid hBW
  have HBOX := Lib.hid hbox
  clear hW hbox hB hBW
  go_wp2_with fail
  go_loopw [3, 4] (fun d i wr => ∃ (k : Nat) (a : Int), i = .int .i64 k ∧ k ≤ ps.length ∧ d = .int .i64 a ∧ a = starsIL 0 (ps.take k) ∧ Below W.heap.size W wr) (fun _ i _ => ps.length - (intOf i).toNat)
  case atStart => exact ⟨0, _, rfl, by omega, rfl, rfl, Below.refl _ _⟩
  case round =>
    obtain ⟨k, a, rfl, h1, rfl, hrl, hb⟩ := hrel
    have HRL := Lib.hid hrl
    have HBR := Lib.hid hb
    have hbox := (hb.block _ (at_lt HBOX.out)).trans HBOX.out
    obtain ⟨y0, y1, y2⟩ := cells3 hbox
    have HBWR := Lib.hid (HBW.out.trans (hb.mono HBW.out.size))
    have hbw := HBWR.out
    clear hb hrl hbox
    by_cases hk : k < ps.length
    · obtain ⟨bb, off, rfl, hbl, hxx⟩ := HXP.out (by omega)
      obtain ⟨x, y, z, c0, c1, c2, hnode⟩ := hxx k hk
      have r0 := cell_below hbw hbl c0
      have r1 := cell_below hbw hbl c1
      have r2 := cell_below hbw hbl c2
      have HD := Lib.hid (IH.out ps[k] (List.getElem_mem hk) wr x y z (hnode.to hbw (Nat.le_refl _)))
      have hkk : (k : Int) < ps.length := by omega
      have hk0 : (0 : Int) ≤ k := by omega
      clear hxx c0 c1 c2 hnode hbw
      have HST := Lib.hid (show max a (starsI ps[k]) = starsIL 0 (ps.take (k + 1)) by rw [List.take_succ_eq_append_getElem hk, starsIL_snoc, HRL.out])
      generalize starsI ps[k] = dk at *
      go_wp2_with fail
      refine HD.out.mono ?_
      rintro e w1 ⟨rfl, hb1⟩
      have HB1 := Lib.hid (HBR.out.trans (hb1.mono HBR.out.size))
      clear y0 y1 y2 r0 r1 r2 hb1
      go_wp2_with fail
      all_goals
        go_roundw
        case rel => exact ⟨k + 1, _, by go_num, by omega, rfl, by first | exact HST.out | (rw [← HST.out]; omega), HB1.out⟩
        case measure => simp [intOf]; omega
    · have hkk : ¬ (k : Int) < ps.length := by omega
      have hke : ps.take k = ps := List.take_of_length_le (by omega)
      have HF := Lib.hid (show a = starsIL 0 ps by have h := HRL.out; rwa [hke] at h)
      clear hke
      by_cases h4 : op = 4
      · subst h4
        go_wp2_with fail
        go_ret
        exact ⟨ret_int (by rw [starsI, if_pos rfl, ← HF.out]), HBWR.out⟩
      · have h4' : (op == 4) = false := by simp [h4]
        have H4 := Lib.hid h4
        clear h4
        go_wp2_with fail
        go_ret
        exact ⟨ret_int (by rw [starsI, if_neg H4.out, ← HF.out]), HBWR.out⟩

theorem stars_any : ∀ (x : Nd), StarsAt x
  | .mk op cls ps => stars_step op cls ps (fun x hx => stars_any x)
  termination_by x => SizeOf.sizeOf x
  decreasing_by
    have := List.sizeOf_lt_of_mem hx
    simp; omega
end Go.Proofs.Ytodkeiadaodehaa
