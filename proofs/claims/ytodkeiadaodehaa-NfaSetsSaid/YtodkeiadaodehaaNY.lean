/-
  small, fits; what expressions that are put together fit. No condition beyond what each theorem names.
-/
import Derived.Test.YtodkeiadaodehaaNX
set_option linter.unusedVariables false
set_option linter.unusedSimpArgs false
namespace Go.Proofs.Ytodkeiadaodehaa
open Go.RowKit

/-- what is matched is matched in another text that reads the same elsewhere -/
theorem M_move {t u : List Int} (g : Nat → Nat) : ∀ (x : Nd) (a b : Nat), (∀ k, a ≤ k → k < b → t[g k]? = u[k]? ∧ g (k + 1) = g k + 1) → M u x a b → M t x (g a) (g b)
  | .mk op cls parts, a, b, hg, h => by
    have hpart : ∀ x ∈ parts, ∀ a b, (∀ k, a ≤ k → k < b → t[g k]? = u[k]? ∧ g (k + 1) = g k + 1) → M u x a b → M t x (g a) (g b) := by
      intro x hx a b hg h
      have := List.sizeOf_lt_of_mem hx
      exact M_move g x a b hg h
    have hseq : ∀ (l : List Nd), (∀ x ∈ l, x ∈ parts) → ∀ a b, (∀ k, a ≤ k → k < b → t[g k]? = u[k]? ∧ g (k + 1) = g k + 1) → Mseq u l a b → Mseq t l (g a) (g b) := by
      intro l
      induction l with
      | nil => intro _ a b _ h; simp only [Mseq] at h ⊢; rw [h]
      | cons x r ih =>
        intro hm a b hg h
        simp only [Mseq] at h ⊢
        obtain ⟨c, h2, h3⟩ := h
        have l1 := M_le h2
        have l2 := Mseq_le h3
        exact ⟨g c, hpart x (hm x (by simp)) _ _ (fun k h1 h2 => hg k h1 (by omega)) h2, ih (fun y hy => hm y (by simp [hy])) _ _ (fun k h1 h2 => hg k (by omega) h2) h3⟩
    have halt : ∀ a b, (∀ k, a ≤ k → k < b → t[g k]? = u[k]? ∧ g (k + 1) = g k + 1) → Malt u parts a b → Malt t parts (g a) (g b) := by
      intro a b hg h
      obtain ⟨x, hx, h2⟩ := Malt_mem.1 h
      exact Malt_mem.2 ⟨x, hx, hpart x hx _ _ hg h2⟩
    unfold M at h ⊢
    split at h
    · rename_i h0; rw [if_pos h0, h]
    · rename_i h0; rw [if_neg h0]
      split at h
      · rename_i h2; rw [if_pos h2]
        obtain ⟨rfl, c, h2, h3⟩ := h
        obtain ⟨g1, g2⟩ := hg a (Nat.le_refl _) (by omega)
        exact ⟨g2, c, by rw [g1]; exact h2, h3⟩
      · rename_i h2; rw [if_neg h2]
        split at h
        · rename_i h2; rw [if_pos h2]; exact hseq parts (fun _ h => h) a b hg h
        · rename_i h2; rw [if_neg h2]
          split at h
          · rename_i h2; rw [if_pos h2]; exact halt a b hg h
          · rename_i h2; rw [if_neg h2]
            split at h
            · rename_i h2; rw [if_pos h2]
              refine ⟨h.1, ?_⟩
              obtain ⟨-, h⟩ := h
              have key : ∀ {a b}, Star (Malt u parts) a b → (∀ k, a ≤ k → k < b → t[g k]? = u[k]? ∧ g (k + 1) = g k + 1) → a ≤ b ∧ Star (Malt t parts) (g a) (g b) := by
                intro a b h
                induction h with
                | refl => intro _; exact ⟨Nat.le_refl _, .refl _⟩
                | step h4 h3 ih =>
                  intro hg
                  have l1 := Malt_le h3
                  obtain ⟨i1, i2⟩ := ih (fun k h1 h2 => hg k h1 (by omega))
                  exact ⟨by omega, .step i2 (halt _ _ (fun k h1 h2 => hg k (by omega) h2) h3)⟩
              exact (key h hg).2
            · rename_i h2; rw [if_neg h2]
              split at h
              · rename_i h2; rw [if_pos h2]
                refine ⟨h.1, ?_⟩
                rcases h.2 with rfl | h
                · exact .inl rfl
                · exact .inr (halt a b hg h)
              · exact h.elim
  termination_by x => SizeOf.sizeOf x
  decreasing_by all_goals (simp; omega)

/-- of a row's beginning -/
theorem fit_take {x : Nd} {row : List Int} {k : Nat} (hk : k ≤ row.length) : fitB x (row.take k) = true ↔ M row x 0 k := by
  rw [fitB_iff, List.length_take, Nat.min_eq_left hk]
  constructor
  · exact M_move id x 0 k (fun j h1 h2 => ⟨by simp only [id]; rw [List.getElem?_take_of_lt h2], rfl⟩)
  · exact M_move id x 0 k (fun j h1 h2 => ⟨by simp only [id]; rw [List.getElem?_take_of_lt h2], rfl⟩)

/-- of a row's end -/
theorem fit_drop {x : Nd} {row : List Int} {k : Nat} (hk : k ≤ row.length) : fitB x (row.drop k) = true ↔ M row x k row.length := by
  rw [fitB_iff, List.length_drop]
  constructor
  · intro h
    have := M_move (t := row) (· + k) x 0 (row.length - k) (fun j h1 h2 => ⟨by rw [List.getElem?_drop, Nat.add_comm], by omega⟩) h
    simpa [Nat.sub_add_cancel hk] using this
  · intro h
    have := M_move (t := row.drop k) (· - k) x k row.length (fun j h1 h2 => ⟨by rw [List.getElem?_drop, show k + (j - k) = j by omega], by omega⟩) h
    simpa using this

theorem fit_seq2 {x y : Nd} {row : List Int} : fitB (.mk 2 [] [x, y]) row = true ↔ ∃ k, k ≤ row.length ∧ fitB x (row.take k) = true ∧ fitB y (row.drop k) = true := by
  rw [fitB_iff, M_2]
  simp only [Mseq]
  constructor
  · rintro ⟨c, h1, d, h2, rfl⟩
    have l2 := M_le h2
    exact ⟨c, l2, (fit_take l2).2 h1, (fit_drop l2).2 h2⟩
  · rintro ⟨c, h0, h1, h2⟩
    exact ⟨c, (fit_take h0).1 h1, _, (fit_drop h0).1 h2, rfl⟩

theorem fit_alt2 {x y : Nd} {row : List Int} : fitB (.mk 3 [] [x, y]) row = (fitB x row || fitB y row) := by
  rw [Bool.eq_iff_iff, Bool.or_eq_true, fitB_iff, fitB_iff, fitB_iff, M_3]
  simp [Malt]

theorem fit_opt {x : Nd} {row : List Int} : fitB (.mk 5 [] [x]) row = (fitB x row || decide (row.length = 0)) := by
  rw [Bool.eq_iff_iff, Bool.or_eq_true, fitB_iff, fitB_iff, decide_eq_true_iff, M_5, Malt_one]
  constructor
  · rintro ⟨-, h | h⟩
    · exact .inr h.symm
    · exact .inl h
  · rintro (h | h)
    · exact ⟨rfl, .inr h⟩
    · exact ⟨rfl, .inl h.symm⟩

theorem star_head {r : Nat → Nat → Prop} {a b : Nat} (h : Star r a b) : a = b ∨ ∃ c, r a c ∧ Star r c b := by
  induction h with
  | refl => exact .inl rfl
  | step h1 h2 ih =>
    rcases ih with rfl | ⟨c, h3, h4⟩
    · exact .inr ⟨_, h2, .refl _⟩
    · exact .inr ⟨c, h3, .step h4 h2⟩

theorem fit_star {x : Nd} {row : List Int} : fitB (.mk 4 [] [x]) row = (fitB (.mk 2 [] [x, .mk 4 [] [x]]) row || decide (row.length = 0)) := by
  rw [Bool.eq_iff_iff, Bool.or_eq_true, fitB_iff, fitB_iff, decide_eq_true_iff, M_4, M_2]
  simp only [Mseq]
  constructor
  · rintro ⟨-, h⟩
    rcases star_head h with h | ⟨c, h1, h2⟩
    · exact .inr h.symm
    · exact .inl ⟨c, Malt_one.1 h1, _, (M_4 _ _).2 ⟨rfl, h2⟩, rfl⟩
  · rintro (⟨c, h1, d, h2, rfl⟩ | h)
    · exact ⟨rfl, Star.head (Malt_one.2 h1) ((M_4 _ _).1 h2).2⟩
    · exact ⟨rfl, h ▸ .refl _⟩

theorem Small.at {x : Nd} (h : Small x) {d : Nat} (hd : d ≤ 13) : Wf d x := Wf_move x 1 d h.right.1 (by have := h.depth; omega)

theorem right_one {x : Nd} (h : Small x) (op : Int) (ho : 2 ≤ op ∧ op ≤ 5) : RightX (.mk op [] [x]) := by
  refine ⟨?_, by have := h.cnt; simp only [cnt, cntL]; omega⟩
  unfold Wf
  exact ⟨by omega, by omega, fun _ => rfl, by omega, fun _ => rfl, rising_nil, by simp only [WfL, and_true]; exact h.at (by omega)⟩

/-- two right expressions put together -/
theorem right_two {x y : Nd} {d : Nat} (hx : Wf (d + 1) x) (hy : Wf (d + 1) y) (hd : d ≤ 30) (op : Int) (ho : op = 2 ∨ op = 3) : Wf d (.mk op [] [x, y]) := by
  unfold Wf
  exact ⟨by omega, by omega, fun _ => rfl, by omega, by omega, rising_nil, by simp only [WfL, and_true]; exact ⟨hx, hy⟩⟩

theorem right_three {x y z : Nd} {d : Nat} (hx : Wf (d + 1) x) (hy : Wf (d + 1) y) (hz : Wf (d + 1) z) (hd : d ≤ 30) (op : Int) (ho : op = 2 ∨ op = 3) : Wf d (.mk op [] [x, y, z]) := by
  unfold Wf
  exact ⟨by omega, by omega, fun _ => rfl, by omega, by omega, rising_nil, by simp only [WfL, and_true]; exact ⟨hx, hy, hz⟩⟩

theorem right_star {x : Nd} {d : Nat} (hx : Wf (d + 1) x) (hd : d ≤ 30) : Wf d (.mk 4 [] [x]) := by
  unfold Wf
  exact ⟨by omega, by omega, fun _ => rfl, by omega, fun _ => rfl, rising_nil, by simp only [WfL, and_true]; exact hx⟩

set_option maxHeartbeats 1000000 in
theorem fits_any (x : Nd) (w : World) (a b c : Value) (hx : NodeIs w x a b c) (hr : RightX x) : Calls Try.prog 19 #[.agg #[a, b, c]] w fun e w' => ∃ m, e = .returned (.pointer (some ⟨m, 0, none⟩)) ∧ MachR w' m (mach x) ∧ Below w.heap.size w w' := by
  have HX := Lib.hid hx
  obtain ⟨op, pp, l, c1, q, m, d, rfl, rfl, rfl⟩ := hx.form
  clear hx
  go_enter Try.func19, Try.ntmps19
  have hb := below_alloc1 w (.cells #[.int .i64 op, .slice pp l c1, .slice q m d] 25)
  have HB := Lib.hid hb
  have HN := Lib.hid (new_ok x (w.alloc (.cells #[.int .i64 op, .slice pp l c1, .slice q m d] 25)) _ _ _ (HX.out.to hb (Nat.le_refl _)) hr)
  clear hb
  go_wp2_with fail
  refine HN.out.mono ?_
  rintro e w1 ⟨mm, rfl, hm, hb1⟩
  have HM := Lib.hid hm
  have HB1 := Lib.hid (HB.out.trans (hb1.mono HB.out.size))
  clear hm hb1
  go_wp2_with fail
  go_ret
  exact ⟨mm, rfl, HM.out, HB1.out⟩

def SmallPost (w : World) (x : Nd) (e : Ending) (w' : World) : Prop := ∃ b : Bool, e = .returned (.bool b) ∧ (b = true → Small x) ∧ Below w.heap.size w w'

set_option maxHeartbeats 2000000 in
theorem small_any (x : Nd) (w : World) (a b c : Value) (hx : NodeIs w x a b c) : Calls Try.prog 18 #[.agg #[a, b, c]] w (SmallPost w x) := by
  have HX := Lib.hid hx
  obtain ⟨op, pp, l, c1, q, m, d, rfl, rfl, rfl⟩ := hx.form
  clear hx
  go_enter Try.func18, Try.ntmps18
  go_upto_region 1 with fail
  refine abs_wp fun W hW => ?_
  obtain ⟨B, hB⟩ : ∃ B, B = w.heap.size := ⟨_, rfl⟩
  have hbox : W.heap[B]? = some (.cells #[.int .i64 op, .slice pp l c1, .slice q m d] 25) := by rw [hW, hB]; exact heap_alloc_new _ _
  have hbe : Below w.heap.size w W := by rw [hW]; exact below_alloc1 _ _
  rw [← hB]
  have HBE := Lib.hid hbe
  have HBOX := Lib.hid hbox
  obtain ⟨x0, x1, x2⟩ := cells3 hbox
  have HD := Lib.hid (right_any x W _ _ _ (HX.out.to hbe (Nat.le_refl _)))
  clear hW hbox hbe hB
  go_wp2_with fail
  refine HD.out.mono ?_
  rintro e w1 ⟨rfl, hb1⟩
  have HB1 := Lib.hid (HBE.out.trans (hb1.mono HBE.out.size))
  have HBOX1 := Lib.hid ((hb1.block _ (at_lt HBOX.out)).trans HBOX.out)
  clear hb1 x0 x1 x2
  obtain ⟨x0, x1, x2⟩ := cells3 HBOX1.out
  cases hr : rightB x
  · clear hr
    go_wp2_with fail
    go_ret
    exact ⟨false, rfl, (fun h => by cases h), HB1.out⟩
  · have HR := Lib.hid (rightB_iff.1 hr)
    have HC := Lib.hid (count_any x w1 _ _ _ (HX.out.to HB1.out (Nat.le_refl _)))
    clear hr
    go_wp2_with fail
    refine HC.out.mono ?_
    rintro e w2 ⟨rfl, hb2⟩
    have HB2 := Lib.hid (HB1.out.trans (hb2.mono HB1.out.size))
    have HBOX2 := Lib.hid ((hb2.block _ (at_lt HBOX1.out)).trans HBOX1.out)
    clear hb2 x0 x1 x2
    obtain ⟨x0, x1, x2⟩ := cells3 HBOX2.out
    obtain ⟨n, hn⟩ : ∃ n, n = countT x := ⟨_, rfl⟩
    rw [← hn]
    by_cases h1 : n ≤ 100
    · have HDE := Lib.hid (depth_any x w2 _ _ _ (HX.out.to HB2.out (Nat.le_refl _)))
      have HN := Lib.hid hn
      clear hn
      go_wp2_with fail
      refine HDE.out.mono ?_
      rintro e w3 ⟨rfl, hb3⟩
      have HB3 := Lib.hid (HB2.out.trans (hb3.mono HB2.out.size))
      clear hb3 x0 x1 x2
      obtain ⟨dd, hd⟩ : ∃ dd, dd = depthI x := ⟨_, rfl⟩
      rw [← hd]
      have HDD := Lib.hid hd
      clear hd
      go_wp2_with fail
      go_ret
      exact ⟨decide (dd ≤ 20), rfl, (fun h => small_of HR.out (by rw [← HN.out]; exact h1) (by rw [← HDD.out]; exact of_decide_eq_true h)), HB3.out⟩
    · clear hn
      go_wp2_with fail
      go_ret
      exact ⟨false, rfl, (fun h => by cases h), HB2.out⟩
end Go.Proofs.Ytodkeiadaodehaa
