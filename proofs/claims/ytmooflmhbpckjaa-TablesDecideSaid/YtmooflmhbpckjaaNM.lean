/-
  closed: the states to which one comes without a class. No condition beyond what each theorem names.
-/
import Derived.Test.YtmooflmhbpckjaaNL
import Derived.Test.YtmooflmhbpckjaaSort
set_option linter.unusedVariables false
set_option linter.unusedSimpArgs false
namespace Go.Proofs.Ytmooflmhbpckjaa
open Go.RowKit

theorem infoBool : (Try.prog.info? 4).map (fun i => (i.zero, i.size, i.bytes)) = some (some (.bool false), 1, 1) := by kernel_rfl

theorem made_bools (n : Nat) : madeCells #[Value.bool false] n = (List.replicate n (Value.bool false)).toArray := by
  apply Array.ext
  · simp [madeCells]
  · intro i h1 h2
    have e : i % 1 = 0 := Nat.mod_one i
    simp [madeCells, e]

theorem make_bools (t : TypeId) (ht : Try.prog.underlying t = some (.slice 4)) (w : World) (c : Int) (n : Nat) (hc : c = n) (hn : n ≤ 1000001) :
    (Instr.makeSlice t (.int .i64 c) (.int .i64 c)).run Try.prog w = .ok (.slice (some ⟨w.heap.size, 0, none⟩) n n) (w.alloc (.cells (List.replicate n (Value.bool false)).toArray 4)) := by
  subst hc
  obtain ⟨i0, hi, hz0, hz1, hz2⟩ := info_parts infoBool
  have := run_make (P := Try.prog) w t 4 i0 (.bool false) ht hi hz0 .i64 .i64 n n (by omega) (by omega) (by rw [hz2]; omega) (by omega)
  rw [hz1] at this
  simp only [Int.toNat_natCast, Nat.mul_one] at this
  rw [this, show (Value.bool false).cells = #[Value.bool false] from rfl, made_bools]

theorem visit_any (w0 : World) (sb mb ob vb m g N : Nat) (S : List Sta) (hM : MachR w0 m S) (hN : S.length = N) (hN2 : N ≤ 100000) (hS : Fine S N) (hfl : ∀ i, (at_ S i).free.length ≤ 100000) (u : Nat) : VisitAt w0 sb mb ob vb m g N S u := by
  induction u using Nat.strongRecOn with
  | ind u ih => exact visit_step w0 sb mb ob vb m g N S hM hN hN2 hS hfl u ih

/-- rising, without one twice -/
def Rises (xs : List Int) : Prop := xs.Pairwise (· < ·)

open Classical in
/-- to which states one comes without a class: those that count, rising -/
noncomputable def closedL (S : List Sta) (l : List Int) : List Int :=
  ((List.range S.length).filter fun k => decide ((∃ r : Nat, (r : Int) ∈ l ∧ FreeStar S r k) ∧ core S k)).map Int.ofNat

theorem rises_ext {xs ys : List Int} (hx : Rises xs) (hy : Rises ys) (h : ∀ v, v ∈ xs ↔ v ∈ ys) : xs = ys := by
  have nd : ∀ {l : List Int}, Rises l → l.Nodup := fun {l} h => by
    unfold Rises at h
    exact h.imp (fun hab e => by omega)
  have hp : xs.Perm ys := (List.perm_ext_iff_of_nodup (nd hx) (nd hy)).2 h
  exact hp.eq_of_pairwise (le := (· < ·)) (fun a b _ _ h1 h2 => by omega) hx hy

theorem closedL_rises (S : List Sta) (l : List Int) : Rises (closedL S l) := by
  unfold Rises closedL
  rw [List.pairwise_map]
  refine List.Pairwise.filter _ ?_
  have := List.pairwise_lt_range (n := S.length)
  exact this.imp (fun h => by simpa using h)

open Classical in
theorem mem_closedL {S : List Sta} {l : List Int} {v : Int} : v ∈ closedL S l ↔ ∃ k : Nat, v = k ∧ k < S.length ∧ (∃ r : Nat, (r : Int) ∈ l ∧ FreeStar S r k) ∧ core S k := by
  unfold closedL
  simp only [List.mem_map, List.mem_filter, List.mem_range, decide_eq_true_eq]
  constructor
  · rintro ⟨k, ⟨h1, h2, h3⟩, rfl⟩; exact ⟨k, rfl, h1, h2, h3⟩
  · rintro ⟨k, rfl, h1, h2, h3⟩; exact ⟨k, ⟨h1, h2, h3⟩, rfl⟩

theorem free_lt {S : List Sta} {N : Nat} (h : Fine S N) {r k : Nat} (hr : r < N) (hk : FreeStar S r k) : k < N := by
  induction hk with
  | refl => exact hr
  | step _ h2 ih => have := (h.free _ _ h2).2; omega

/-- what was told, sorted, is just those states -/
theorem told_closed {S : List Sta} {N : Nat} (hN : S.length = N) (hS : Fine S N) (l : List Int) (hl : ∀ v ∈ l, 0 ≤ v ∧ v < N) {bs' : List Bool} {xs : List Int} (h : Vis S (fun r : Nat => (r : Int) ∈ l) (List.replicate N false) [] bs' xs) :
    xs.mergeSort (fun x y => decide (x ≤ y)) = closedL S l := by
  obtain ⟨ys, hy, hnd, hm⟩ := h.out
  rw [List.nil_append] at hy
  rw [hy]
  have hno : ∀ k, ¬ tr (List.replicate N false) k := no_places N
  have hall : ∀ (r k : Nat), (r : Int) ∈ l → FreeStar S r k → tr bs' k := by
    intro r k hr hk
    induction hk with
    | refl => exact h.hit _ hr
    | step _ h2 ih => exact h.closed _ ih (hno _) _ h2
  have hp := List.mergeSort_perm ys (fun x y => decide (x ≤ y))
  refine rises_ext ?_ (closedL_rises S l) (fun v => ?_)
  · have h1 := List.pairwise_mergeSort (le := fun (x y : Int) => decide (x ≤ y)) (fun a b c h1 h2 => by simp at *; omega) (fun a b => by simp; omega) ys
    have h2 : (ys.mergeSort fun x y => decide (x ≤ y)).Pairwise (· ≠ ·) := (hp.nodup_iff).2 hnd
    exact (h1.and h2).imp (fun {a b} hh => by
      have h3 : a ≤ b := by simpa using hh.1
      have h4 := hh.2
      omega)
  · rw [hp.mem_iff, hm, mem_closedL]
    constructor
    · rintro ⟨k, rfl, h1, h2, h3⟩
      obtain ⟨r, h4, h5⟩ := h.reach k h1 h2
      exact ⟨k, rfl, by rw [hN]; exact free_lt hS (by have := hl _ h4; omega) h5, ⟨r, h4, h5⟩, h3⟩
    · rintro ⟨k, rfl, h1, ⟨r, h4, h5⟩, h3⟩
      exact ⟨k, rfl, hall r k h4 h5, hno k, h3⟩

def ClosedPost (w : World) (S : List Sta) (l : List Int) (e : Ending) (w' : World) : Prop :=
  ∃ v, e = .returned v ∧ OwnL intE 3 1 w.heap.size w' v (closedL S l) ∧ Below w.heap.size w w'

theorem alloc5 (w : World) (o1 o2 o3 o4 o5 : Obj) (W : World) (hW : W = ((((w.alloc o1).alloc o2).alloc o3).alloc o4).alloc o5) : Below w.heap.size w W ∧ W.heap[w.heap.size]? = some o1 ∧ W.heap[w.heap.size + 1]? = some o2 ∧ W.heap[w.heap.size + 1 + 1]? = some o3 ∧
    W.heap[w.heap.size + 1 + 1 + 1]? = some o4 ∧ W.heap[w.heap.size + 1 + 1 + 1 + 1]? = some o5 := by
  obtain ⟨a0, a1, a2, a3⟩ := alloc3 w o1 o2 o3 _ rfl
  have s3 : (((w.alloc o1).alloc o2).alloc o3).heap.size = w.heap.size + 1 + 1 + 1 := by simp
  generalize ((w.alloc o1).alloc o2).alloc o3 = W3 at *
  have s4 : (W3.alloc o4).heap.size = w.heap.size + 1 + 1 + 1 + 1 := by simp [s3]
  have b4 := below_alloc1 W3 o4
  have b5 := below_alloc1 (W3.alloc o4) o5
  subst hW
  refine ⟨(a0.trans (b4.mono (by omega))).trans (b5.mono (by omega)), ?_, ?_, ?_, ?_, ?_⟩
  · rw [b5.block _ (by omega), b4.block _ (by omega)]; exact a1
  · rw [b5.block _ (by omega), b4.block _ (by omega)]; exact a2
  · rw [b5.block _ (by omega), b4.block _ (by omega)]; exact a3
  · rw [b5.block _ (by omega), ← s3]; exact heap_alloc_new _ _
  · rw [← s4]; exact heap_alloc_new _ _

set_option maxRecDepth 100000 in
set_option maxHeartbeats 4000000 in
theorem closed_any (w : World) (m : Nat) (S : List Sta) (N : Nat) (hM : MachR w m S) (hN : S.length = N) (hN0 : 0 < N) (hN2 : N ≤ 100000) (hS : Fine S N) (hfl : ∀ i, (at_ S i).free.length ≤ 100000) (v : Value) (l : List Int) (hv : Ints w v l) (hlen : l.length ≤ 1000000) (hl : ∀ v ∈ l, 0 ≤ v ∧ v < N) :
    Calls Try.prog 76 #[.pointer (some ⟨m, 0, none⟩), v] w (ClosedPost w S l) := by
  have HM := Lib.hid hM
  have HVI := Lib.hid (fun sb mb ob vb g u => visit_any w sb mb ob vb m g N S hM hN hN2 hS hfl u)
  have HTC := Lib.hid (fun bs' xs h => told_closed (bs' := bs') (xs := xs) hN hS l hl h)
  have HLL := Lib.hid hl
  have HNN := Lib.hid hN
  obtain ⟨p, c, rfl, hc, hx⟩ := hv.get
  have HX := Lib.hid hx
  obtain ⟨pl, cl, m0, mc, m1, m2, mlt, mx⟩ := hM.get
  rw [hN] at m0 mc
  have HM0 := Lib.hid m0
  have hmf : ∀ (fn : Fn) (first cap : Array Value) (w : World), (Instr.makeFunc fn first cap).run Try.prog w = .ok (.func fn first cap) w := fun _ _ _ _ => rfl
  have hmk := fun w => make_bools 61 Try.underlying61 w (N : Int) N rfl (by omega)
  clear hM hS hfl hv hl hx mx m1 m2 hN
  go_enter Try.func76, Try.ntmps76
  go_upto_region 5 with fail
  refine abs_wp fun W hW => ?_
  obtain ⟨a0, a1, a2, a3, a4, a5⟩ := alloc5 w _ _ _ _ _ W hW
  have HV := Lib.hid (show VS w.heap.size (w.heap.size + 1 + 1) w.heap.size (w.heap.size + 1 + 1 + 1) (w.heap.size + 1 + 1 + 1 + 1) m (w.heap.size + 1) N W (List.replicate N false) [] from
    ⟨by omega, by omega, by omega, by omega, by omega, a3, a1, a5, ⟨_, a4, OwnL.nil _⟩, by unfold BRow; rw [a2]; simp, by simp, by simp⟩)
  have HB := Lib.hid a0
  obtain ⟨sb, hsb⟩ : ∃ sb, sb = w.heap.size + 1 + 1 := ⟨_, rfl⟩
  obtain ⟨ob, hob⟩ : ∃ ob, ob = w.heap.size + 1 + 1 + 1 := ⟨_, rfl⟩
  obtain ⟨vb, hvb⟩ : ∃ vb, vb = w.heap.size + 1 + 1 + 1 + 1 := ⟨_, rfl⟩
  rw [← hvb, ← hob, ← hsb] at HV ⊢
  clear hW a0 a1 a2 a3 a4 a5 hsb hob hvb hmk hmf
  have HVN := Lib.hid (show Vis S (fun r : Nat => (r : Int) ∈ l.take 0) (List.replicate N false) [] (List.replicate N false) [] from (Vis.nil S _ _).mono (fun r => by simp))
  go_wp2_with fail
  go_loopw [19] (fun i wr => ∃ (k : Nat) (b2 : List Bool) (x2 : List Int), i = .int .i64 k ∧ k ≤ l.length ∧ VS w.heap.size sb w.heap.size ob vb m (w.heap.size + 1) N wr b2 x2 ∧ Vis S (fun r : Nat => (r : Int) ∈ l.take k) (List.replicate N false) [] b2 x2 ∧ Below w.heap.size w wr) (fun i _ => l.length - (intOf i).toNat)
  case atStart => exact ⟨0, _, _, rfl, by omega, HV.out, HVN.out, HB.out⟩
  case round =>
    obtain ⟨k, b2, x2, rfl, h1, hvk, hvis, hbk⟩ := hrel
    have s4 : wr.cell? ⟨vb, 0, none⟩ = some (.func (.func 84) #[] #[.pointer (some ⟨sb, 0, none⟩), .pointer (some ⟨w.heap.size, 0, none⟩), .pointer (some ⟨ob, 0, none⟩), .pointer (some ⟨vb, 0, none⟩)]) := by simp [World.cell?, hvk.self]
    have HVk := Lib.hid hvk
    have HVIS := Lib.hid hvis
    have HBk := Lib.hid hbk
    clear hvk hvis
    by_cases hk : k < l.length
    · obtain ⟨bb, off, rfl, hbl, hxx⟩ := HX.out (by omega)
      have c0 := cell_below hbk hbl (hxx k hk)
      obtain ⟨v, hve⟩ : ∃ v, v = l[k] := ⟨_, rfl⟩
      have hvr := HLL.out v (by rw [hve]; exact List.getElem_mem hk)
      obtain ⟨j, rfl⟩ : ∃ j : Nat, v = j := ⟨v.toNat, by omega⟩
      rw [← hve] at c0
      have HVE := Lib.hid hve
      have hkk : (k : Int) < l.length := by omega
      have hk0 : (0 : Int) ≤ k := by omega
      have HCALL := Lib.hid (HVI.out sb w.heap.size ob vb (w.heap.size + 1) (b2.count false) wr b2 x2 j HVk.out hbk (by omega) (Nat.le_refl _))
      clear hxx hve hvr hbk
      go_wp2_with fail
      refine HCALL.out.mono ?_
      rintro e w3 ⟨rfl, b3, x3, hv3, hvis3, hb3⟩
      have HREL := Lib.hid (show VS w.heap.size sb w.heap.size ob vb m (w.heap.size + 1) N w3 b3 x3 ∧ Vis S (fun r : Nat => (r : Int) ∈ l.take (k + 1)) (List.replicate N false) [] b3 x3 ∧ Below w.heap.size w w3 from
        ⟨hv3, (HVIS.out.trans hvis3).mono (fun r => by
          rw [List.take_succ_eq_append_getElem hk, List.mem_append, List.mem_singleton, ← HVE.out]
          constructor
          · rintro (h | h)
            · exact .inl h
            · exact .inr (by rw [h])
          · rintro (h | h)
            · exact .inl h
            · exact .inr (by omega)), HBk.out.trans hb3⟩)
      clear hv3 hvis3 hb3 s4 c0
      go_wp2_with fail
      go_roundw
      case rel => exact ⟨k + 1, b3, x3, by go_num, by omega, HREL.out.1, HREL.out.2.1, HREL.out.2.2⟩
      case measure => simp [intOf]; omega
    · have hkk : ¬ (k : Int) < l.length := by omega
      have hke : l.take k = l := List.take_of_length_le (by omega)
      obtain ⟨ov, hov1, hov2⟩ := HVk.out.out
      obtain ⟨po, co, rfl⟩ := hov2.form
      have hvis := HVIS.out
      rw [hke] at hvis
      have HT := Lib.hid (HTC.out _ _ hvis)
      have HSO := Lib.hid (sort_own w.heap.size wr _ x2 hov2 (by have := HVk.out.room; omega))
      have HO1 := Lib.hid hov1
      have HO2 := Lib.hid hov2
      have s3 : wr.cell? ⟨ob, 0, none⟩ = some (.slice po x2.length co) := by simp [World.cell?, hov1]
      clear hke hvis hov1 hov2 hbk s4
      go_wp2_with fail
      refine HSO.out.mono ?_
      rintro e w3 ⟨rfl, hown3, hg3⟩
      have HF3 := Lib.hid (Fr.grown (F := fun k => (Value.slice po x2.length co).ownBlock = some k) hg3 (fun k h => h))
      have HOB3 := Lib.hid ((HF3.out.block ob (at_lt HO1.out) (HO2.out.notAt HO1.out (by decide))).trans HO1.out)
      rw [HT.out] at hown3
      have HOW3 := Lib.hid hown3
      have s3' : w3.cell? ⟨ob, 0, none⟩ = some (.slice po x2.length co) := cell1 HOB3.out
      clear hown3 hg3 s3
      go_wp2_with fail
      go_ret
      exact ⟨_, rfl, HOW3.out, HBk.out.trans (HF3.out.below HBk.out.size (fun k hk => (HO2.out.lt k hk).1))⟩
end Go.Proofs.Ytmooflmhbpckjaa
