/-
  dfa.inside: whether an expression has just classes below a number; slices.ContainsFunc. No condition beyond what each theorem names.
-/
import Derived.Test.YtmooflmhbpckjaaNJ
import Derived.Test.YtmooflmhbpckjaaKA
set_option linter.unusedVariables false
set_option linter.unusedSimpArgs false
namespace Go.Proofs.Ytmooflmhbpckjaa
open Go.RowKit

/-- what a function value of one variable answers of a number, wherever nothing but new memory has come -/
def AnswersI (w : World) (F : Nat) (p : Value) (q : Int → Bool) (xs : List Int) : Prop :=
  ∀ x ∈ xs, ∀ w1, Below w.heap.size w w1 → Calls Try.prog F #[.int .i64 x, p] w1 fun e w2 => e = .returned (.bool (q x)) ∧ Below w1.heap.size w1 w2

set_option maxRecDepth 100000 in
set_option maxHeartbeats 1000000 in
theorem indexF_ints (w : World) (v : Value) (xs : List Int) (F : Nat) (p : Value) (q : Int → Bool) (hn : xs.length ≤ 9223372036854775807) (hv : Ints w v xs) (hE : Enters Try.prog F) (hF : AnswersI w F p q xs) :
    Calls Try.prog 74 #[v, .func (.func F) #[] #[p]] w fun e w' => e = .returned (.int .i64 (idxOf q xs)) ∧ Below w.heap.size w w' := by
  obtain ⟨pp, cap, rfl, hcap, hx⟩ := hv.get
  have HX := Lib.hid hx
  have HF := Lib.hid hF
  obtain ⟨n, hlen⟩ : ∃ n, n = xs.length := ⟨_, rfl⟩
  rw [← hlen] at hn hcap ⊢
  have HL := Lib.hid hlen
  have hE := hE
  unfold Enters at hE
  clear hlen hx hv hF
  go_enter Try.func74, Try.ntmps74
  go_wp2_with fail
  go_loopw [8] (fun i wr => ∃ k : Nat, i = .int .i64 k ∧ k ≤ n ∧ (∀ j (h : j < xs.length), j < k → q xs[j] = false) ∧ Below w.heap.size w wr) (fun i _ => n - (intOf i).toNat)
  case atStart => exact ⟨0, rfl, by omega, by intro j hj h; omega, Below.refl _ _⟩
  case round =>
    obtain ⟨k, rfl, h1, h2, hb⟩ := hrel
    have H2 := Lib.hid h2
    have HB := Lib.hid hb
    clear h2
    by_cases hlt : k < n
    · have hl : k < xs.length := HL.out ▸ hlt
      obtain ⟨b, off, rfl, hbl, hy⟩ := HX.out (by omega)
      have hc := cell_below hb hbl (hy k hl)
      have HD := Lib.hid (HF.out xs[k] (List.getElem_mem hl) wr hb)
      obtain ⟨x, hxe⟩ : ∃ x, x = xs[k] := ⟨_, rfl⟩
      rw [← hxe] at hc HD
      have HXE := Lib.hid hxe
      clear hy hxe hb
      cases hq : q x
      · have HQ := Lib.hid (show q xs[k] = false by rw [← HXE.out]; exact hq)
        rw [hq] at HD
        clear hq
        go_wp2_with fail
        refine HD.out.mono ?_
        rintro e w2 ⟨rfl, hb2⟩
        have HB2 := Lib.hid (HB.out.trans (hb2.mono HB.out.size))
        clear hb2 hc
        go_wp2_with fail
        go_roundw
        case rel => exact ⟨k + 1, by go_num, by omega, fun j hj hjk => by
          by_cases e : j = k
          · subst e; exact HQ.out
          · exact H2.out j hj (by omega), HB2.out⟩
        case measure => simp [intOf]; omega
      · have HQ := Lib.hid (show q xs[k] = true by rw [← HXE.out]; exact hq)
        rw [hq] at HD
        clear hq
        go_wp2_with fail
        refine HD.out.mono ?_
        rintro e w2 ⟨rfl, hb2⟩
        have HB2 := Lib.hid (HB.out.trans (hb2.mono HB.out.size))
        clear hb2 hc
        go_wp2_with fail
        go_ret
        exact ⟨ret_int (idxOf_some hl (fun j hj h => H2.out j hj h) HQ.out).symm, HB2.out⟩
    · go_wp2_with fail
      go_ret
      exact ⟨ret_int (idxOf_none (fun j hj => H2.out j hj (by have := HL.out; omega))).symm, HB.out⟩

theorem containsF_ints (w : World) (v : Value) (xs : List Int) (F : Nat) (p : Value) (q : Int → Bool) (hn : xs.length ≤ 9223372036854775807) (hv : Ints w v xs) (hE : Enters Try.prog F) (hF : AnswersI w F p q xs) :
    Calls Try.prog 53 #[v, .func (.func F) #[] #[p]] w fun e w' => e = .returned (.bool (xs.any q)) ∧ Below w.heap.size w w' := by
  have HI := Lib.hid (indexF_ints w v xs F p q hn hv hE hF)
  have HG := Lib.hid (idxOf_ge q xs)
  clear hv hF
  generalize idxOf q xs = i at *
  go_enter Try.func53, Try.ntmps53
  go_wp2_with fail
  refine HI.out.mono ?_
  rintro e w' ⟨rfl, hb⟩
  go_wp2_with fail
  go_ret
  exact ⟨ret_val (by rw [← HG.out]; rfl), hb⟩

/-- .. of an expression -/
def AnswersN (w : World) (F : Nat) (p : Value) (q : Nd → Bool) (xs : List Nd) : Prop :=
  ∀ x ∈ xs, ∀ w1 a b c, Below w.heap.size w w1 → NodeIs w1 x a b c → Calls Try.prog F #[.agg #[a, b, c], p] w1 fun e w2 => e = .returned (.bool (q x)) ∧ Below w1.heap.size w1 w2

set_option maxRecDepth 100000 in
set_option maxHeartbeats 1000000 in
theorem indexF_nodes (w : World) (v : Value) (xs : List Nd) (F : Nat) (p : Value) (q : Nd → Bool) (hn : xs.length ≤ 1000000000000000) (hv : Nodes w v xs) (hE : Enters Try.prog F) (hF : AnswersN w F p q xs) :
    Calls Try.prog 75 #[v, .func (.func F) #[] #[p]] w fun e w' => e = .returned (.int .i64 (idxOf q xs)) ∧ Below w.heap.size w w' := by
  obtain ⟨pp, cap, rfl, hcap, hx⟩ := hv.get
  have HX := Lib.hid hx
  have HF := Lib.hid hF
  obtain ⟨n, hlen⟩ : ∃ n, n = xs.length := ⟨_, rfl⟩
  rw [← hlen] at hn hcap ⊢
  have HL := Lib.hid hlen
  have hE := hE
  unfold Enters at hE
  clear hlen hx hv hF
  go_enter Try.func75, Try.ntmps75
  go_wp2_with fail
  go_loopw [8] (fun i wr => ∃ k : Nat, i = .int .i64 k ∧ k ≤ n ∧ (∀ j (h : j < xs.length), j < k → q xs[j] = false) ∧ Below w.heap.size w wr) (fun i _ => n - (intOf i).toNat)
  case atStart => exact ⟨0, rfl, by omega, by intro j hj h; omega, Below.refl _ _⟩
  case round =>
    obtain ⟨k, rfl, h1, h2, hb⟩ := hrel
    have H2 := Lib.hid h2
    have HB := Lib.hid hb
    clear h2
    by_cases hlt : k < n
    · have hl : k < xs.length := HL.out ▸ hlt
      obtain ⟨b, off, rfl, hbl, hy⟩ := HX.out (by omega)
      obtain ⟨y0, y1, y2, l0, l1, l2, hnode⟩ := hy k hl
      obtain ⟨op, q0, m0, d0, q1, m1, d1, rfl, rfl, rfl⟩ := hnode.form
      have k0 := cell_below hb hbl l0
      have k1 := cell_below hb hbl l1
      have k2 := cell_below hb hbl l2
      have HD := Lib.hid (HF.out xs[k] (List.getElem_mem hl) wr _ _ _ hb (hnode.to hb (Nat.le_refl _)))
      obtain ⟨x, hxe⟩ : ∃ x, x = xs[k] := ⟨_, rfl⟩
      rw [← hxe] at HD
      have HXE := Lib.hid hxe
      have hkk : (k : Int) < n := by omega
      have hk0 : (0 : Int) ≤ k := by omega
      clear hy hxe hb l0 l1 l2 hnode
      cases hq : q x
      · have HQ := Lib.hid (show q xs[k] = false by rw [← HXE.out]; exact hq)
        rw [hq] at HD
        clear hq
        go_wp2_with fail
        refine HD.out.mono ?_
        rintro e w2 ⟨rfl, hb2⟩
        have HB2 := Lib.hid (HB.out.trans (hb2.mono HB.out.size))
        clear hb2 k0 k1 k2
        go_wp2_with fail
        go_roundw
        case rel => exact ⟨k + 1, by go_num, by omega, fun j hj hjk => by
          by_cases e : j = k
          · subst e; exact HQ.out
          · exact H2.out j hj (by omega), HB2.out⟩
        case measure => simp [intOf]; omega
      · have HQ := Lib.hid (show q xs[k] = true by rw [← HXE.out]; exact hq)
        rw [hq] at HD
        clear hq
        go_wp2_with fail
        refine HD.out.mono ?_
        rintro e w2 ⟨rfl, hb2⟩
        have HB2 := Lib.hid (HB.out.trans (hb2.mono HB.out.size))
        clear hb2 k0 k1 k2
        go_wp2_with fail
        go_ret
        exact ⟨ret_int (idxOf_some hl (fun j hj h => H2.out j hj h) HQ.out).symm, HB2.out⟩
    · go_wp2_with fail
      go_ret
      exact ⟨ret_int (idxOf_none (fun j hj => H2.out j hj (by have := HL.out; omega))).symm, HB.out⟩

theorem containsF_nodes (w : World) (v : Value) (xs : List Nd) (F : Nat) (p : Value) (q : Nd → Bool) (hn : xs.length ≤ 1000000000000000) (hv : Nodes w v xs) (hE : Enters Try.prog F) (hF : AnswersN w F p q xs) :
    Calls Try.prog 54 #[v, .func (.func F) #[] #[p]] w fun e w' => e = .returned (.bool (xs.any q)) ∧ Below w.heap.size w w' := by
  have HI := Lib.hid (indexF_nodes w v xs F p q hn hv hE hF)
  have HG := Lib.hid (idxOf_ge q xs)
  clear hv hF
  generalize idxOf q xs = i at *
  go_enter Try.func54, Try.ntmps54
  go_wp2_with fail
  refine HI.out.mono ?_
  rintro e w' ⟨rfl, hb⟩
  go_wp2_with fail
  go_ret
  exact ⟨ret_val (by rw [← HG.out]; rfl), hb⟩

/-! ### inside -/
theorem cells1 {w : World} {B : Nat} {a : Value} {T : TypeId} (hb : w.heap[B]? = some (.cells #[a] T)) : w.cell? ⟨B, 0, none⟩ = some a := by simp [World.cell?, hb]

mutual
/-- has an expression just classes below a number? -/
def insideB (n : Int) : Nd → Bool
  | .mk _ cls ps => !(cls.any fun c => decide (n ≤ c)) && insideL n ps
def insideL (n : Int) : List Nd → Bool
  | [] => true
  | p :: r => insideB n p && insideL n r
end
theorem insideL_any (n : Int) : ∀ ps : List Nd, insideL n ps = !(ps.any fun p => !insideB n p)
  | [] => rfl
  | p :: r => by rw [insideL, insideL_any n r, List.any_cons]; cases insideB n p <;> rfl

theorem high_any (w : World) (x n : Int) (p : Nat) (hp : w.cell? ⟨p, 0, none⟩ = some (.int .i64 n)) :
    Calls Try.prog 51 #[.int .i64 x, .pointer (some ⟨p, 0, none⟩)] w fun e w' => e = .returned (.bool (decide (n ≤ x))) ∧ Below w.heap.size w w' := by
  by_cases h : n ≤ x
  · have hd : decide (n ≤ x) = true := decide_eq_true h
    rw [hd]
    clear hd
    go_enter Try.func51, Try.ntmps51
    go_wp2_with fail
    go_ret
    exact ⟨rfl, Below.refl _ _⟩
  · have hd : decide (n ≤ x) = false := decide_eq_false h
    rw [hd]
    clear hd
    go_enter Try.func51, Try.ntmps51
    go_wp2_with fail
    go_ret
    exact ⟨rfl, Below.refl _ _⟩

theorem enters_high : Enters Try.prog 51 := fun args w => by kernel_rfl
theorem enters_out : Enters Try.prog 52 := fun args w => by kernel_rfl

def InsideAt (n : Int) (x : Nd) : Prop := ∀ (w : World) (a b c : Value), NodeIs w x a b c →
  Calls Try.prog 36 #[.agg #[a, b, c], .int .i64 n] w fun e w' => e = .returned (.bool (insideB n x)) ∧ Below w.heap.size w w'

theorem out_any (n : Int) (x : Nd) (hx : InsideAt n x) (w : World) (p : Nat) (hp : w.cell? ⟨p, 0, none⟩ = some (.int .i64 n)) (a b c : Value) (h : NodeIs w x a b c) :
    Calls Try.prog 52 #[.agg #[a, b, c], .pointer (some ⟨p, 0, none⟩)] w fun e w' => e = .returned (.bool (!insideB n x)) ∧ Below w.heap.size w w' := by
  obtain ⟨op, q0, m0, d0, q1, m1, d1, rfl, rfl, rfl⟩ := h.form
  have HN := Lib.hid h
  have HI := Lib.hid hx
  obtain ⟨bl, hbl⟩ : ∃ bl, bl = insideB n x := ⟨_, rfl⟩
  have HBL := Lib.hid hbl
  rw [← hbl]
  have hpl := World.block_lt_of_cell? w _ hp
  have HP := Lib.hid hp
  clear h hx hp hbl
  go_enter Try.func52, Try.ntmps52
  go_upto_region 1 with fail
  refine abs_wp fun W hW => ?_
  have HB := Lib.hid (show Below w.heap.size w W by rw [hW]; exact below_alloc1 _ _)
  have HBX := Lib.hid (show W.heap[w.heap.size]? = some (.cells #[.int .i64 op, .slice q0 m0 d0, .slice q1 m1 d1] 49) by rw [hW]; exact heap_alloc_new _ _)
  have c3 := cell_below HB.out hpl HP.out
  obtain ⟨x0, x1, x2⟩ := cells3 HBX.out
  have HD := Lib.hid (HI.out W _ _ _ (HN.out.to HB.out (Nat.le_refl _)))
  rw [← HBL.out] at HD
  clear hW
  go_wp2_with fail
  refine HD.out.mono ?_
  rintro e w1 ⟨rfl, hb1⟩
  have HB1 := Lib.hid (HB.out.trans (hb1.mono HB.out.size))
  clear hb1 x0 x1 x2 c3
  cases bl
  · go_wp2_with fail
    go_ret
    exact ⟨rfl, HB1.out⟩
  · go_wp2_with fail
    go_ret
    exact ⟨rfl, HB1.out⟩

set_option maxRecDepth 100000 in
set_option maxHeartbeats 4000000 in
theorem inside_step (n : Int) (op : Int) (cls : List Int) (ps : List Nd) (ih : ∀ x ∈ ps, InsideAt n x) : InsideAt n (.mk op cls ps) := by
  intro w a b c hx
  rw [nodeIs_iff] at hx
  obtain ⟨rfl, hcl, hcb, hpb, hps⟩ := hx
  obtain ⟨pc, capc, rfl, hcc, -⟩ := hcl.get
  obtain ⟨pp, capp, rfl, hcp, -⟩ := hps.get
  unfold R at hcb hpb
  have HCL := Lib.hid hcl
  have HPS := Lib.hid hps
  have IH := Lib.hid ih
  have HE := Lib.hid (show insideB n (.mk op cls ps) = (!(cls.any fun c => decide (n ≤ c)) && !(ps.any fun p => !insideB n p)) by rw [insideB, insideL_any])
  clear hcl hps ih
  have hmf : ∀ (fn : Fn) (first cap : Array Value) (w : World), (Instr.makeFunc fn first cap).run Try.prog w = .ok (.func fn first cap) w := fun _ _ _ _ => rfl
  go_enter Try.func36, Try.ntmps36
  go_upto_region 3 with fail
  refine abs_wp fun W hW => ?_
  obtain ⟨B, hB⟩ : ∃ B, B = w.heap.size := ⟨_, rfl⟩
  have hb1 := below_alloc1 w (.cells #[.int .i64 op, .slice pc cls.length capc, .slice pp ps.length capp] 49)
  have s1 : (w.alloc (.cells #[.int .i64 op, .slice pc cls.length capc, .slice pp ps.length capp] 49)).heap.size = w.heap.size + 1 := by simp
  have hb2 := below_alloc1 (w.alloc (.cells #[.int .i64 op, .slice pc cls.length capc, .slice pp ps.length capp] 49)) (.cells #[.int .i64 n] 3)
  have HB := Lib.hid (show Below w.heap.size w W by rw [hW]; exact hb1.trans (hb2.mono (by rw [s1]; omega)))
  have HBX := Lib.hid (show W.heap[B]? = some (.cells #[.int .i64 op, .slice pc cls.length capc, .slice pp ps.length capp] 49) by rw [hW, hB, hb2.block _ (by rw [s1]; omega)]; exact heap_alloc_new _ _)
  have HP := Lib.hid (cells1 (show W.heap[B + 1]? = some (.cells #[.int .i64 n] 3) by rw [hW, hB, ← s1]; exact heap_alloc_new _ _))
  have hpl := World.block_lt_of_cell? W _ HP.out
  rw [← hB]
  clear hW hb1 hb2 s1 hB hmf
  obtain ⟨x0, x1, x2⟩ := cells3 HBX.out
  have HC := Lib.hid (containsF_ints W (.slice pc cls.length capc) cls 51 (.pointer (some ⟨B + 1, 0, none⟩)) (fun c => decide (n ≤ c)) (by omega) (HCL.out.to HB.out (Nat.le_refl _)) enters_high (fun x _ w1 hb => high_any w1 x n (B + 1) (cell_below hb hpl HP.out)))
  rcases Bool.eq_false_or_eq_true (cls.any fun c => decide (n ≤ c)) with h1 | h1
  · rw [h1] at HC
    have H1 := Lib.hid h1
    clear h1
    go_wp2_with fail
    refine HC.out.mono ?_
    rintro e w1 ⟨rfl, hb1⟩
    have HB1 := Lib.hid (HB.out.trans (hb1.mono HB.out.size))
    clear hb1 x0 x1 x2
    go_wp2_with fail
    go_ret
    exact ⟨ret_val (by rw [HE.out, H1.out]; rfl), HB1.out⟩
  · rw [h1] at HC
    have H1 := Lib.hid h1
    clear h1
    go_wp2_with fail
    refine HC.out.mono ?_
    rintro e w1 ⟨rfl, hb1⟩
    have HB1 := Lib.hid (HB.out.trans (hb1.mono HB.out.size))
    have HBX1 := Lib.hid ((hb1.block _ (at_lt HBX.out)).trans HBX.out)
    have HP1 := Lib.hid (cell_below hb1 hpl HP.out)
    have hpl1 := World.block_lt_of_cell? w1 _ HP1.out
    clear hb1 x0 x1 x2
    obtain ⟨x0, x1, x2⟩ := cells3 HBX1.out
    have HC2 := Lib.hid (containsF_nodes w1 (.slice pp ps.length capp) ps 52 (.pointer (some ⟨B + 1, 0, none⟩)) (fun p => !insideB n p) (by omega) (HPS.out.to HB1.out (Nat.le_refl _)) enters_out (fun x hx w2 a b c hb hnd => out_any n x (IH.out x hx) w2 (B + 1) (cell_below hb hpl1 HP1.out) a b c hnd))
    rcases Bool.eq_false_or_eq_true (ps.any fun p => !insideB n p) with h2 | h2
    · rw [h2] at HC2
      have H2 := Lib.hid h2
      clear h2
      go_wp2_with fail
      refine HC2.out.mono ?_
      rintro e w2 ⟨rfl, hb2⟩
      have HB2 := Lib.hid (HB1.out.trans (hb2.mono HB1.out.size))
      clear hb2 x0 x1 x2
      go_wp2_with fail
      go_ret
      exact ⟨ret_val (by rw [HE.out, H1.out, H2.out]; rfl), HB2.out⟩
    · rw [h2] at HC2
      have H2 := Lib.hid h2
      clear h2
      go_wp2_with fail
      refine HC2.out.mono ?_
      rintro e w2 ⟨rfl, hb2⟩
      have HB2 := Lib.hid (HB1.out.trans (hb2.mono HB1.out.size))
      clear hb2 x0 x1 x2
      go_wp2_with fail
      go_ret
      exact ⟨ret_val (by rw [HE.out, H1.out, H2.out]; rfl), HB2.out⟩

theorem inside_any (n : Int) : ∀ (x : Nd), InsideAt n x
  | .mk op cls ps => inside_step n op cls ps (fun x hx => inside_any n x)
  termination_by x => SizeOf.sizeOf x
  decreasing_by
    have := List.sizeOf_lt_of_mem hx
    simp; omega
end Go.Proofs.Ytmooflmhbpckjaa
