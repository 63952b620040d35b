/-
  Deep and count of an expression. No condition beyond what each theorem names.
-/
import Derived.Test.YtphgjppeindbaaaJ
set_option linter.unusedVariables false
set_option linter.unusedSimpArgs false
namespace Go.Proofs.Ytphgjppeindbaaa
open Go.RowKit

def deepI : Nat → Nd → Int
  | 0, _ => 99
  | l + 1, .mk _ _ ps => min 99 ((ps.map (deepI l)).foldl max 0 + 1)

mutual
def countI : Nd → Int
  | .mk _ _ ps => countL 1 ps
def countL : Int → List Nd → Int
  | a, [] => a
  | a, x :: r => countL (wrap64 (a + countI x)) r
end

theorem countL_snoc (a : Int) : ∀ (l : List Nd) (x : Nd), countL a (l ++ [x]) = wrap64 (countL a l + countI x)
  | [], x => by simp [countL]
  | y :: r, x => by
    simp only [List.cons_append, countL]
    exact countL_snoc _ r x

theorem fold_max (l : List Int) : 0 ≤ l.foldl max 0 := by
  have : ∀ (l : List Int) (a : Int), 0 ≤ a → 0 ≤ l.foldl max a := by
    intro l
    induction l with
    | nil => intro a h; exact h
    | cons x r ih => intro a h; exact ih _ (by omega)
  exact this l 0 (by omega)

theorem fold_max_le (l : List Int) (h : ∀ x ∈ l, x ≤ 99) : l.foldl max 0 ≤ 99 := by
  have : ∀ (l : List Int) (a : Int), a ≤ 99 → (∀ x ∈ l, x ≤ 99) → l.foldl max a ≤ 99 := by
    intro l
    induction l with
    | nil => intro a h _; exact h
    | cons x r ih => intro a h h2; exact ih _ (by have := h2 x (by simp); omega) (fun y hy => h2 y (by simp [hy]))
  exact this l 0 (by omega) h

def deepTo (l : Nat) (ps : List Nd) (k : Nat) : Int := ((ps.take k).map (deepI l)).foldl max 0

theorem deep_le : ∀ (l : Nat) (x : Nd), 0 ≤ deepI l x ∧ deepI l x ≤ 99
  | 0, x => by simp [deepI]
  | l + 1, .mk _ _ ps => by
    have := fold_max (ps.map (deepI l))
    simp only [deepI]
    omega

def DeepAt (l : Nat) : Prop := ∀ (x : Nd) (w : World) (a b c : Value), NodeIs w x a b c →
    Calls Try.prog 24 #[.agg #[a, b, c], .int .i64 l] w fun e w' => e = .returned (.int .i64 (deepI l x)) ∧ Below w.heap.size w w'

theorem deep_zero : DeepAt 0 := by
    intro x w a b c hx
    have hbx : Below w.heap.size w (w.alloc (.cells #[a, b, c] 33)) := (Below.refl _ _).alloc (Nat.le_refl _) _
    have HBX := Lib.hid hbx
    clear hbx hx
    go_enter Try.func24, Try.ntmps24
    go_wp2
    go_ret
    exact ⟨rfl, HBX.out⟩

set_option maxHeartbeats 1000000 in
theorem deep_succ (l : Nat) (hl : l + 1 ≤ 1000) (ih : DeepAt l) : DeepAt (l + 1) := by
    rintro ⟨op, cls, ps⟩ w a b c hx
    have IH := Lib.hid ih
    rw [nodeIs_iff] at hx
    obtain ⟨rfl, hcl, hcb, hpb, hps⟩ := hx
    obtain ⟨pc, capc, rfl, hcc, hxc⟩ := hcl.get
    obtain ⟨pp, capp, rfl, hcp, hxp⟩ := hps.get
    unfold R at hcb hpb
    have HXP := Lib.hid hxp
    have hd : ((l : Int) + 1 == 0) = false := by simp; omega
    have hll := deep_le l
    have HLL := Lib.hid hll
    clear hcl hps hxc hxp ih hll
    go_enter Try.func24, Try.ntmps24
    go_upto_region 4 with fail
    refine abs_wp fun W hW => ?_
    have hBW : Below w.heap.size w W := by rw [hW]; exact (Below.refl _ _).alloc (Nat.le_refl _) _
    have hbox : W.heap[w.heap.size]? = some (.cells #[.int .i64 op, .slice pc cls.length capc, .slice pp ps.length capp] 33) := by rw [hW]; exact heap_alloc_new _ _
    obtain ⟨B, hB⟩ : ∃ B, B = w.heap.size := ⟨_, rfl⟩
    rw [← hB] at hbox ⊢
    have hlt : B < W.heap.size := (Array.getElem?_eq_some_iff.1 hbox).1
    have x2 : W.cell? ⟨B, 2, none⟩ = some (.slice pp ps.length capp) := by simp [World.cell?, hbox]
    have HB := Lib.hid hB
    have HBW := Lib.hid hBW
    clear hW hbox hB hBW
    go_wp2_with fail
    go_loopw [5, 6] (fun d i wr => ∃ k : Nat, i = .int .i64 k ∧ k ≤ ps.length ∧ d = .int .i64 (deepTo l ps k) ∧ Below W.heap.size W wr) (fun _ i _ => ps.length - (intOf i).toNat)
    case atStart => exact ⟨0, rfl, by omega, rfl, Below.refl _ _⟩
    case round =>
      obtain ⟨k, rfl, h1, rfl, hb⟩ := hrel
      obtain ⟨m, hm⟩ : ∃ m, m = deepTo l ps k := ⟨_, rfl⟩
      have hm0 : 0 ≤ m := by rw [hm]; exact fold_max _
      have hm99 : m ≤ 99 := by rw [hm]; exact fold_max_le _ (fun x hx => by obtain ⟨y, -, rfl⟩ := List.mem_map.1 hx; exact (HLL.out y).2)
      rw [← hm]
      have HM := Lib.hid hm
      have HBR := Lib.hid hb
      have y2 := cell_below hb hlt x2
      have hsr := hb.size
      have hbw := HBW.out.trans (hb.mono HBW.out.size)
      have HBWR := Lib.hid hbw
      clear hm hb
      by_cases hk : k < ps.length
      · obtain ⟨bb, off, rfl, hbl, hxx⟩ := HXP.out (by omega)
        obtain ⟨x, y, z, c0, c1, c2, hnode⟩ := hxx k hk
        have r0 := cell_below hbw hbl c0
        have r1 := cell_below hbw hbl c1
        have r2 := cell_below hbw hbl c2
        have HD := Lib.hid (IH.out ps[k] wr x y z (hnode.to hbw (Nat.le_refl _)))
        have hlk := HLL.out ps[k]
        have HTK := Lib.hid (show max m (deepI l ps[k]) = deepTo l ps (k + 1) by
          rw [HM.out]; unfold deepTo; rw [List.take_succ_eq_append_getElem hk, List.map_append, List.foldl_append]; rfl)
        generalize deepI l ps[k] = dk at *
        clear hxx c0 c1 c2 hnode hbw
        go_wp2_with fail
        refine HD.out.mono ?_
        rintro e w1 ⟨rfl, hb1⟩
        have HB1 := Lib.hid (HBR.out.trans (hb1.mono HBR.out.size))
        have y2' := cell_below hb1 (by omega) y2
        clear y2 r0 r1 r2 hb1
        go_wp2
        all_goals
          go_roundw
          case rel => exact ⟨k + 1, by go_num, by omega, by rw [← HTK.out]; first | omega | exact congrArg (Value.int .i64) (by omega), HB1.out⟩
          case measure => simp [intOf]; omega
      · have hke : ps.take k = ps := List.take_of_length_le (by omega)
        have HF := Lib.hid (show deepI (l + 1) (.mk op cls ps) = min 99 (m + 1) by rw [HM.out]; unfold deepTo; rw [hke]; rfl)
        clear hke hbw
        go_wp2
        all_goals
          go_ret
          exact ⟨ret_int (by rw [HF.out]; try omega), HBWR.out⟩


theorem deep_any : ∀ l, l ≤ 1000 → DeepAt l
  | 0, _ => deep_zero
  | l + 1, h => deep_succ l h (deep_any l (by omega))

theorem count_part {op : Int} {cls : List Int} {ps : List Nd} {x : Nd} (h : x ∈ ps) : SizeOf.sizeOf x < SizeOf.sizeOf (Nd.mk op cls ps) := by
  have := List.sizeOf_lt_of_mem h
  simp; omega

def CountAt (x : Nd) : Prop := ∀ (w : World) (a b c : Value), NodeIs w x a b c →
    Calls Try.prog 25 #[.agg #[a, b, c]] w fun e w' => e = .returned (.int .i64 (countI x)) ∧ Below w.heap.size w w'

set_option maxHeartbeats 1000000 in
theorem count_step (op : Int) (cls : List Int) (ps : List Nd) (ih : ∀ x ∈ ps, CountAt x) : CountAt (.mk op cls ps) := by
    intro w a b c hx
    have IH := Lib.hid ih
    rw [nodeIs_iff] at hx
    obtain ⟨rfl, hcl, hcb, hpb, hps⟩ := hx
    obtain ⟨pc, capc, rfl, hcc, hxc⟩ := hcl.get
    obtain ⟨pp, capp, rfl, hcp, hxp⟩ := hps.get
    unfold R at hcb hpb
    have HXP := Lib.hid hxp
    clear hcl hps hxc hxp ih
    go_enter Try.func25, Try.ntmps25
    go_upto_region 2 with fail
    refine abs_wp fun W hW => ?_
    have hBW : Below w.heap.size w W := by rw [hW]; exact (Below.refl _ _).alloc (Nat.le_refl _) _
    have hbox : W.heap[w.heap.size]? = some (.cells #[.int .i64 op, .slice pc cls.length capc, .slice pp ps.length capp] 33) := by rw [hW]; exact heap_alloc_new _ _
    obtain ⟨B, hB⟩ : ∃ B, B = w.heap.size := ⟨_, rfl⟩
    rw [← hB] at hbox ⊢
    have hlt : B < W.heap.size := (Array.getElem?_eq_some_iff.1 hbox).1
    have x2 : W.cell? ⟨B, 2, none⟩ = some (.slice pp ps.length capp) := by simp [World.cell?, hbox]
    have HB := Lib.hid hB
    have HBW := Lib.hid hBW
    clear hW hbox hB hBW
    go_wp2_with fail
    go_loopw [3, 4] (fun d i wr => ∃ (k : Nat), i = .int .i64 k ∧ k ≤ ps.length ∧ d = .int .i64 (countL 1 (ps.take k)) ∧ Below W.heap.size W wr) (fun _ i _ => ps.length - (intOf i).toNat)
    case atStart => exact ⟨0, rfl, by omega, rfl, Below.refl _ _⟩
    case round =>
      obtain ⟨k, rfl, h1, rfl, hb⟩ := hrel
      have HBR := Lib.hid hb
      have y2 := cell_below hb hlt x2
      have hsr := hb.size
      have hbw := HBW.out.trans (hb.mono HBW.out.size)
      have HBWR := Lib.hid hbw
      clear hb
      by_cases hk : k < ps.length
      · obtain ⟨bb, off, rfl, hbl, hxx⟩ := HXP.out (by omega)
        obtain ⟨x, y, z, c0, c1, c2, hnode⟩ := hxx k hk
        have r0 := cell_below hbw hbl c0
        have r1 := cell_below hbw hbl c1
        have r2 := cell_below hbw hbl c2
        have HD := Lib.hid (IH.out ps[k] (List.getElem_mem hk) wr x y z (hnode.to hbw (Nat.le_refl _)))
        have HTK := Lib.hid (show wrap64 (countL 1 (ps.take k) + countI ps[k]) = countL 1 (ps.take (k + 1)) by
          rw [List.take_succ_eq_append_getElem hk, countL_snoc])
        generalize countI ps[k] = dk at *
        generalize countL 1 (ps.take k) = ck at *
        clear hxx c0 c1 c2 hnode hbw
        go_wp2_with fail
        refine HD.out.mono ?_
        rintro e w1 ⟨rfl, hb1⟩
        have HB1 := Lib.hid (HBR.out.trans (hb1.mono HBR.out.size))
        clear y2 r0 r1 r2 hb1
        go_wp2
        go_roundw
        case rel => exact ⟨k + 1, by go_num, by omega, congrArg (Value.int .i64) (by rw [← HTK.out]), HB1.out⟩
        case measure => simp [intOf]; omega
      · have hke : ps.take k = ps := List.take_of_length_le (by omega)
        have HF := Lib.hid (show countI (.mk op cls ps) = countL 1 (ps.take k) by rw [hke]; rfl)
        generalize countL 1 (ps.take k) = ck at *
        clear hke hbw
        go_wp2
        go_ret
        exact ⟨ret_int HF.out.symm, HBWR.out⟩

theorem count_any : ∀ (x : Nd), CountAt x
  | .mk op cls ps => count_step op cls ps (fun x hx => count_any x)
  termination_by x => SizeOf.sizeOf x
  decreasing_by
    have := List.sizeOf_lt_of_mem hx
    simp; omega
end Go.Proofs.Ytphgjppeindbaaa
