/-
  has, large: whether an expression has a class of a kind. Same of two rows that are the same. No condition beyond what each theorem names.
-/
import Derived.Test.YtphgjppeindbaaaQ
set_option linter.unusedVariables false
set_option linter.unusedSimpArgs false
namespace Go.Proofs.Ytphgjppeindbaaa
open Go.RowKit

/-- the class itself; a class above 3 -/
def eqC (c0 c : Int) : Bool := c == c0
def gt3 (c : Int) : Bool := decide (c > 3)

mutual
/-- has an expression a class of the kind q? -/
def anyC (q : Int → Bool) : Nd → Bool
  | .mk _ cls ps => cls.any q || anyL q ps
def anyL (q : Int → Bool) : List Nd → Bool
  | [] => false
  | x :: r => anyC q x || anyL q r
end
theorem anyL_any (q : Int → Bool) : ∀ (l : List Nd), anyL q l = l.any (anyC q)
  | [] => rfl
  | x :: r => by simp [anyL, anyL_any q r]
theorem anyC_mk (q : Int → Bool) (op : Int) (cls : List Int) (ps : List Nd) : anyC q (.mk op cls ps) = (cls.any q || ps.any (anyC q)) := by rw [← anyL_any]; rfl
theorem any_no {α : Type} {q : α → Bool} {l : List α} {k : Nat} (h : ∀ j (hj : j < l.length), j < k → q l[j] = false) (hk : l.length ≤ k) : l.any q = false := by
  rw [List.any_eq_false]
  intro x hx
  obtain ⟨j, hj, rfl⟩ := List.getElem_of_mem hx
  rw [h j hj (by omega)]; decide
theorem any_yes {α : Type} {q : α → Bool} {l : List α} {k : Nat} (hk : k < l.length) (h : q l[k] = true) : l.any q = true := List.any_eq_true.2 ⟨l[k], List.getElem_mem hk, h⟩
theorem no_step {α : Type} {q : α → Bool} {l : List α} {k : Nat} (h : ∀ j (hj : j < l.length), j < k → q l[j] = false) (hk : k < l.length) (h2 : q l[k] = false) : ∀ j (hj : j < l.length), j < k + 1 → q l[j] = false := by
  intro j hj hj2
  by_cases h3 : j = k
  · subst h3; exact h2
  · exact h j hj (by omega)


def HasAt (cq : Int) (x : Nd) : Prop := ∀ (w : World) (a b c : Value), NodeIs w x a b c →
    Calls Try.prog 20 #[.agg #[a, b, c], .int .i64 cq] w (Says (anyC (eqC cq) x) w)

set_option maxHeartbeats 2000000 in
theorem has_step (cq : Int) (op : Int) (cls : List Int) (ps : List Nd) (ih : ∀ x ∈ ps, HasAt cq x) : HasAt cq (.mk op cls ps) := by
    intro w a b c hx
    have IH := Lib.hid ih
    rw [nodeIs_iff] at hx
    obtain ⟨rfl, hcl, hcb, hpb, hps⟩ := hx
    obtain ⟨pc, capc, rfl, hcc, hxc⟩ := hcl.get
    obtain ⟨pp, capp, rfl, hcp, hxp⟩ := hps.get
    unfold R at hcb hpb
    have HXP := Lib.hid hxp
    have HXC := Lib.hid hxc
    have HMK := Lib.hid (anyC_mk (eqC cq) op cls ps)
    generalize anyC (eqC cq) (.mk op cls ps) = ans at *
    clear hcl hps hxc hxp ih
    go_enter Try.func20, Try.ntmps20
    go_upto_region 1 with fail
    refine abs_wp fun W hW => ?_
    have hBW : Below w.heap.size w W := by rw [hW]; exact (Below.refl _ _).alloc (Nat.le_refl _) _
    have hbox : W.heap[w.heap.size]? = some (.cells #[.int .i64 op, .slice pc cls.length capc, .slice pp ps.length capp] 33) := by rw [hW]; exact heap_alloc_new _ _
    obtain ⟨B, hB⟩ : ∃ B, B = w.heap.size := ⟨_, rfl⟩
    rw [← hB] at hbox ⊢
    have hlt : B < W.heap.size := (Array.getElem?_eq_some_iff.1 hbox).1
    have x1 : W.cell? ⟨B, 1, none⟩ = some (.slice pc cls.length capc) := by simp [World.cell?, hbox]
    have x2 : W.cell? ⟨B, 2, none⟩ = some (.slice pp ps.length capp) := by simp [World.cell?, hbox]
    have HB := Lib.hid hB
    have HBW := Lib.hid hBW
    clear hW hbox hB hBW
    go_wp2_with fail
    go_loopw [5] (fun i wr => ∃ (k : Nat), i = .int .i64 k ∧ k ≤ cls.length ∧ (∀ j (hj : j < cls.length), j < k → (eqC cq) cls[j] = false) ∧ Below W.heap.size W wr) (fun i _ => cls.length - (intOf i).toNat)
    case atStart => exact ⟨0, rfl, by omega, fun _ _ h => absurd h (Nat.not_lt_zero _), Below.refl _ _⟩
    case round =>
      obtain ⟨k, rfl, h1, hno, hb⟩ := hrel
      have HBR := Lib.hid hb
      have HNO := Lib.hid hno
      have y1 := cell_below hb hlt x1
      have y2 := cell_below hb hlt x2
      have hsr := hb.size
      have hbw := HBW.out.trans (hb.mono HBW.out.size)
      have HBWR := Lib.hid hbw
      clear hb hno
      by_cases hk : k < cls.length
      · obtain ⟨bb, off, rfl, hbl, hcc2⟩ := HXC.out (by omega)
        have c0 := cell_below hbw hbl (hcc2 k hk)
        have HNS := Lib.hid (no_step (q := (eqC cq)) (l := cls) HNO.out hk)
        have HYS := Lib.hid (any_yes (q := (eqC cq)) (l := cls) hk)
        generalize cls[k] = ci at *
        clear hcc2 hbw
        cases hq : (eqC cq) ci
        · have HQ := Lib.hid hq
          have hq2 : (ci == cq) = false := hq
          clear hq
          go_wp2_with fail
          go_roundw
          case rel => exact ⟨k + 1, by go_num, by omega, HNS.out HQ.out, HBR.out⟩
          case measure => simp [intOf]; omega
        · have HQ := Lib.hid hq
          have hq2 : (ci == cq) = true := hq
          clear hq
          go_wp2_with fail
          go_ret
          exact Says.mk (by rw [HMK.out, HYS.out HQ.out]; rfl) HBWR.out
      · have HC := Lib.hid (any_no (q := (eqC cq)) (l := cls) (k := k) HNO.out (by omega))
        clear hbw
        go_wp2_with fail
        go_loopw [6] (fun i wz => ∃ (k : Nat), i = .int .i64 k ∧ k ≤ ps.length ∧ (∀ j (hj : j < ps.length), j < k → anyC (eqC cq) ps[j] = false) ∧ Below wr.heap.size wr wz) (fun i _ => ps.length - (intOf i).toNat)
        case atStart => exact ⟨0, rfl, by omega, fun _ _ h => absurd h (Nat.not_lt_zero _), Below.refl _ _⟩
        case round =>
          obtain ⟨m, rfl, h1, hno, hb⟩ := hrel
          have HB2 := Lib.hid hb
          have HNO2 := Lib.hid hno
          have z2 := cell_below hb (by omega) y2
          have hsz := hb.size
          have hbw := HBWR.out.trans (hb.mono HBWR.out.size)
          have HBWZ := Lib.hid hbw
          clear hb hno
          by_cases hm : m < ps.length
          · obtain ⟨bb, off, rfl, hbl, hxx⟩ := HXP.out (by omega)
            obtain ⟨x, y, z, c0, c1, c2, hnode⟩ := hxx m hm
            have r0 := cell_below hbw hbl c0
            have r1 := cell_below hbw hbl c1
            have r2 := cell_below hbw hbl c2
            have HD := Lib.hid (IH.out ps[m] (List.getElem_mem hm) wr x y z (hnode.to hbw (Nat.le_refl _)))
            have HNS := Lib.hid (no_step (q := anyC (eqC cq)) (l := ps) HNO2.out hm)
            have HYS := Lib.hid (any_yes (q := anyC (eqC cq)) (l := ps) hm)
            clear hxx c0 c1 c2 hnode hbw
            go_wp2_with fail
            refine HD.out.mono ?_
            rintro e w1 ⟨rfl, hb1⟩
            have HB1 := Lib.hid (HB2.out.trans (hb1.mono HB2.out.size))
            have HBW1 := Lib.hid (HBWZ.out.trans (hb1.mono HBWZ.out.size))
            clear y1 y2 z2 r0 r1 r2 hb1
            cases hq : anyC (eqC cq) ps[m]
            · have HQ := Lib.hid hq
              clear hq
              go_wp2_with fail
              go_roundw
              case rel => exact ⟨m + 1, by go_num, by omega, HNS.out HQ.out, HB1.out⟩
              case measure => simp [intOf]; omega
            · have HQ := Lib.hid hq
              clear hq
              go_wp2_with fail
              go_ret
              exact Says.mk (by rw [HMK.out, HYS.out HQ.out]; simp) HBW1.out
          · have HC2 := Lib.hid (any_no (q := anyC (eqC cq)) (l := ps) (k := m) HNO2.out (by omega))
            clear hbw
            go_wp2_with fail
            go_ret
            exact Says.mk (by rw [HMK.out, HC.out, HC2.out]; rfl) HBWZ.out

theorem has_any (cq : Int) : ∀ (x : Nd), HasAt cq x
  | .mk op cls ps => has_step cq op cls ps (fun x hx => has_any cq x)
  termination_by x => SizeOf.sizeOf x
  decreasing_by
    have := List.sizeOf_lt_of_mem hx
    simp; omega


def LargeAt (x : Nd) : Prop := ∀ (w : World) (a b c : Value), NodeIs w x a b c →
    Calls Try.prog 22 #[.agg #[a, b, c]] w (Says (anyC gt3 x) w)

set_option maxHeartbeats 2000000 in
theorem large_step (op : Int) (cls : List Int) (ps : List Nd) (ih : ∀ x ∈ ps, LargeAt x) : LargeAt (.mk op cls ps) := by
    intro w a b c hx
    have IH := Lib.hid ih
    rw [nodeIs_iff] at hx
    obtain ⟨rfl, hcl, hcb, hpb, hps⟩ := hx
    obtain ⟨pc, capc, rfl, hcc, hxc⟩ := hcl.get
    obtain ⟨pp, capp, rfl, hcp, hxp⟩ := hps.get
    unfold R at hcb hpb
    have HXP := Lib.hid hxp
    have HXC := Lib.hid hxc
    have HMK := Lib.hid (anyC_mk gt3 op cls ps)
    generalize anyC gt3 (.mk op cls ps) = ans at *
    clear hcl hps hxc hxp ih
    go_enter Try.func22, Try.ntmps22
    go_upto_region 1 with fail
    refine abs_wp fun W hW => ?_
    have hBW : Below w.heap.size w W := by rw [hW]; exact (Below.refl _ _).alloc (Nat.le_refl _) _
    have hbox : W.heap[w.heap.size]? = some (.cells #[.int .i64 op, .slice pc cls.length capc, .slice pp ps.length capp] 33) := by rw [hW]; exact heap_alloc_new _ _
    obtain ⟨B, hB⟩ : ∃ B, B = w.heap.size := ⟨_, rfl⟩
    rw [← hB] at hbox ⊢
    have hlt : B < W.heap.size := (Array.getElem?_eq_some_iff.1 hbox).1
    have x1 : W.cell? ⟨B, 1, none⟩ = some (.slice pc cls.length capc) := by simp [World.cell?, hbox]
    have x2 : W.cell? ⟨B, 2, none⟩ = some (.slice pp ps.length capp) := by simp [World.cell?, hbox]
    have HB := Lib.hid hB
    have HBW := Lib.hid hBW
    clear hW hbox hB hBW
    go_wp2_with fail
    go_loopw [3] (fun i wr => ∃ (k : Nat), i = .int .i64 k ∧ k ≤ cls.length ∧ (∀ j (hj : j < cls.length), j < k → gt3 cls[j] = false) ∧ Below W.heap.size W wr) (fun i _ => cls.length - (intOf i).toNat)
    case atStart => exact ⟨0, rfl, by omega, fun _ _ h => absurd h (Nat.not_lt_zero _), Below.refl _ _⟩
    case round =>
      obtain ⟨k, rfl, h1, hno, hb⟩ := hrel
      have HBR := Lib.hid hb
      have HNO := Lib.hid hno
      have y1 := cell_below hb hlt x1
      have y2 := cell_below hb hlt x2
      have hsr := hb.size
      have hbw := HBW.out.trans (hb.mono HBW.out.size)
      have HBWR := Lib.hid hbw
      clear hb hno
      by_cases hk : k < cls.length
      · obtain ⟨bb, off, rfl, hbl, hcc2⟩ := HXC.out (by omega)
        have c0 := cell_below hbw hbl (hcc2 k hk)
        have HNS := Lib.hid (no_step (q := gt3) (l := cls) HNO.out hk)
        have HYS := Lib.hid (any_yes (q := gt3) (l := cls) hk)
        generalize cls[k] = ci at *
        clear hcc2 hbw
        cases hq : gt3 ci
        · have HQ := Lib.hid hq
          have hq3 : ¬ ci > 3 := of_decide_eq_false hq
          clear hq
          go_wp2_with fail
          go_roundw
          case rel => exact ⟨k + 1, by go_num, by omega, HNS.out HQ.out, HBR.out⟩
          case measure => simp [intOf]; omega
        · have HQ := Lib.hid hq
          have hq3 : ci > 3 := of_decide_eq_true hq
          clear hq
          go_wp2_with fail
          go_ret
          exact Says.mk (by rw [HMK.out, HYS.out HQ.out]; rfl) HBWR.out
      · have HC := Lib.hid (any_no (q := gt3) (l := cls) (k := k) HNO.out (by omega))
        clear hbw
        go_wp2_with fail
        go_loopw [4] (fun i wz => ∃ (k : Nat), i = .int .i64 k ∧ k ≤ ps.length ∧ (∀ j (hj : j < ps.length), j < k → anyC gt3 ps[j] = false) ∧ Below wr.heap.size wr wz) (fun i _ => ps.length - (intOf i).toNat)
        case atStart => exact ⟨0, rfl, by omega, fun _ _ h => absurd h (Nat.not_lt_zero _), Below.refl _ _⟩
        case round =>
          obtain ⟨m, rfl, h1, hno, hb⟩ := hrel
          have HB2 := Lib.hid hb
          have HNO2 := Lib.hid hno
          have z2 := cell_below hb (by omega) y2
          have hsz := hb.size
          have hbw := HBWR.out.trans (hb.mono HBWR.out.size)
          have HBWZ := Lib.hid hbw
          clear hb hno
          by_cases hm : m < ps.length
          · obtain ⟨bb, off, rfl, hbl, hxx⟩ := HXP.out (by omega)
            obtain ⟨x, y, z, c0, c1, c2, hnode⟩ := hxx m hm
            have r0 := cell_below hbw hbl c0
            have r1 := cell_below hbw hbl c1
            have r2 := cell_below hbw hbl c2
            have HD := Lib.hid (IH.out ps[m] (List.getElem_mem hm) wr x y z (hnode.to hbw (Nat.le_refl _)))
            have HNS := Lib.hid (no_step (q := anyC gt3) (l := ps) HNO2.out hm)
            have HYS := Lib.hid (any_yes (q := anyC gt3) (l := ps) hm)
            clear hxx c0 c1 c2 hnode hbw
            go_wp2_with fail
            refine HD.out.mono ?_
            rintro e w1 ⟨rfl, hb1⟩
            have HB1 := Lib.hid (HB2.out.trans (hb1.mono HB2.out.size))
            have HBW1 := Lib.hid (HBWZ.out.trans (hb1.mono HBWZ.out.size))
            clear y1 y2 z2 r0 r1 r2 hb1
            cases hq : anyC gt3 ps[m]
            · have HQ := Lib.hid hq
              clear hq
              go_wp2_with fail
              go_roundw
              case rel => exact ⟨m + 1, by go_num, by omega, HNS.out HQ.out, HB1.out⟩
              case measure => simp [intOf]; omega
            · have HQ := Lib.hid hq
              clear hq
              go_wp2_with fail
              go_ret
              exact Says.mk (by rw [HMK.out, HYS.out HQ.out]; simp) HBW1.out
          · have HC2 := Lib.hid (any_no (q := anyC gt3) (l := ps) (k := m) HNO2.out (by omega))
            clear hbw
            go_wp2_with fail
            go_ret
            exact Says.mk (by rw [HMK.out, HC.out, HC2.out]; rfl) HBWZ.out

theorem large_any : ∀ (x : Nd), LargeAt x
  | .mk op cls ps => large_step op cls ps (fun x hx => large_any x)
  termination_by x => SizeOf.sizeOf x
  decreasing_by
    have := List.sizeOf_lt_of_mem hx
    simp; omega


theorem same_any (w : World) (u v : Value) (xs : List Bool) (hl : xs.length ≤ 1000000) (hu : Bools w u xs) (hv : Bools w v xs) : Calls Try.prog 14 #[u, v] w (Says true w) := by
  obtain ⟨p1, c1, rfl, hc1, hx1⟩ := hu.get
  obtain ⟨p2, c2, rfl, hc2, hx2⟩ := hv.get
  have HX1 := Lib.hid hx1
  have HX2 := Lib.hid hx2
  clear hx1 hx2 hu hv
  go_enter Try.func14, Try.ntmps14
  go_wp2_with fail
  go_loopw [5] (fun i wr => ∃ (k : Nat), i = .int .i64 k ∧ k ≤ xs.length ∧ Below w.heap.size w wr) (fun i _ => xs.length - (intOf i).toNat)
  case atStart => exact ⟨0, rfl, by omega, Below.refl _ _⟩
  case round =>
    obtain ⟨k, rfl, h1, hb⟩ := hrel
    have HB := Lib.hid hb
    by_cases hk : k < xs.length
    · obtain ⟨b1, o1, rfl, hl1, hy1⟩ := HX1.out (by omega)
      obtain ⟨b2, o2, rfl, hl2, hy2⟩ := HX2.out (by omega)
      have y1 := cell_below hb hl1 (hy1 k hk)
      have y2 := cell_below hb hl2 (hy2 k hk)
      generalize xs[k] = xk at *
      have hne : (xk != xk) = false := by simp
      clear hb hy1 hy2
      go_wp2_with fail
      go_quiet (fail)
      go_wp2_with fail
      go_roundw
      case rel => exact ⟨k + 1, by go_num, by omega, below_drewN HB.out _⟩
      case measure => simp [intOf]; omega
    · clear hb
      go_wp2_with fail
      go_ret
      exact Says.mk rfl HB.out
end Go.Proofs.Ytphgjppeindbaaa
