/-
  Turned expressions and turned rows. Plain theorems; no program.
-/
import Derived.Test.YtodkeiadaodehaaNU
set_option linter.unusedVariables false
set_option linter.unusedSimpArgs false
namespace Go.Proofs.Ytodkeiadaodehaa

theorem revX_mk (op : Int) (cls : List Int) (ps : List Nd) : revX (.mk op cls ps) = .mk op cls (if op = 2 then (ps.map revX).reverse else ps.map revX) := by
  rw [revX, revL_map]

theorem mem_revX {op : Int} {ps : List Nd} {x : Nd} (hx : x ∈ ps) : revX x ∈ (if op = 2 then (ps.map revX).reverse else ps.map revX) := by
  split
  · simp; exact ⟨x, hx, rfl⟩
  · simp; exact ⟨x, hx, rfl⟩

theorem len_revX {op : Int} {ps : List Nd} : (if op = 2 then (ps.map revX).reverse else ps.map revX).length = ps.length := by
  split <;> simp

/-- what is matched is matched from the end -/
theorem M_rev {t : List Int} {n : Nat} (hn : n = t.length) : ∀ (x : Nd) {a b : Nat}, b ≤ n → M t x a b → M t.reverse (revX x) (n - b) (n - a)
  | .mk op cls parts, a, b, hb, h => by
    have hpart : ∀ x ∈ parts, ∀ a b, b ≤ n → M t x a b → M t.reverse (revX x) (n - b) (n - a) := by
      intro x hx a b hb h
      have := List.sizeOf_lt_of_mem hx
      exact M_rev hn x hb h
    have hseq : ∀ (l : List Nd), (∀ x ∈ l, x ∈ parts) → ∀ a b, b ≤ n → Mseq t l a b → Mseq t.reverse (l.map revX).reverse (n - b) (n - a) := by
      intro l
      induction l with
      | nil => intro _ a b _ h; simp only [Mseq] at h; subst h; simp [Mseq]
      | cons x r ih =>
        intro hm a b hb h
        simp only [Mseq] at h
        obtain ⟨c, h2, h3⟩ := h
        rw [List.map_cons, List.reverse_cons, Mseq_append]
        have hcb := Mseq_le h3
        exact ⟨n - c, ih (fun y hy => hm y (by simp [hy])) _ _ hb h3, Mseq_one.2 (hpart x (hm x (by simp)) _ _ (by omega) h2)⟩
    have halt : ∀ a b, b ≤ n → Malt t parts a b → Malt t.reverse (if op = 2 then (parts.map revX).reverse else parts.map revX) (n - b) (n - a) := by
      intro a b hb h
      obtain ⟨x, hx, h2⟩ := Malt_mem.1 h
      exact Malt_mem.2 ⟨revX x, mem_revX hx, hpart x hx _ _ hb h2⟩
    rw [revX_mk]
    unfold M at h ⊢
    split at h
    · rename_i h0; rw [if_pos h0]; omega
    · rename_i h0; rw [if_neg h0]
      split at h
      · rename_i h2; rw [if_pos h2]
        obtain ⟨rfl, c, h2, h3⟩ := h
        refine ⟨by omega, c, ?_, h3⟩
        rw [List.getElem?_reverse (by omega)]
        rw [← h2]
        congr 1; omega
      · rename_i h2; rw [if_neg h2]
        split at h
        · rename_i h2; rw [if_pos h2, if_pos h2]; exact hseq parts (fun _ h => h) a b hb h
        · rename_i h2; rw [if_neg h2]
          split at h
          · rename_i h2; rw [if_pos h2]; exact halt a b hb h
          · rename_i h2; rw [if_neg h2]
            split at h
            · rename_i h2; rw [if_pos h2]
              refine ⟨by rw [len_revX]; exact h.1, ?_⟩
              obtain ⟨-, h⟩ := h
              induction h with
              | refl => exact .refl _
              | step _ h3 ih => exact Star.head (halt _ _ hb h3) (ih (Nat.le_trans (Malt_le h3) hb))
            · rename_i h2; rw [if_neg h2]
              split at h
              · rename_i h2; rw [if_pos h2]
                refine ⟨by rw [len_revX]; exact h.1, ?_⟩
                rcases h.2 with rfl | h
                · exact .inl rfl
                · exact .inr (halt a b hb h)
              · exact h.elim
  termination_by x => SizeOf.sizeOf x
  decreasing_by all_goals (simp; omega)

theorem rev_rev : ∀ (x : Nd), revX (revX x) = x
  | .mk op cls ps => by
    rw [revX_mk, revX_mk]
    have h : (ps.map revX).map revX = ps := by
      rw [List.map_map]
      conv => rhs; rw [← List.map_id ps]
      refine List.map_congr_left fun x hx => ?_
      have := List.sizeOf_lt_of_mem hx
      exact rev_rev x
    congr 1
    split
    · rw [List.map_reverse, List.reverse_reverse, h]
    · exact h
  termination_by x => SizeOf.sizeOf x
  decreasing_by (simp; omega)

theorem cntL_sum : ∀ (l : List Nd), cntL l = (l.map cnt).sum
  | [] => by simp [cntL]
  | x :: r => by simp [cntL, cntL_sum r]

theorem cnt_rev : ∀ (x : Nd), cnt (revX x) = cnt x
  | .mk op cls ps => by
    have h : (ps.map revX).map cnt = ps.map cnt := by
      rw [List.map_map]
      refine List.map_congr_left fun x hx => ?_
      have := List.sizeOf_lt_of_mem hx
      exact cnt_rev x
    rw [revX_mk]
    simp only [cnt, cntL_sum]
    split
    · rw [List.map_reverse, List.sum_reverse, h]
    · rw [h]
  termination_by x => SizeOf.sizeOf x
  decreasing_by (simp; omega)

theorem Wf_rev : ∀ (x : Nd) (d : Nat), Wf d x → Wf d (revX x)
  | .mk op cls ps, d, h => by
    unfold Wf at h
    obtain ⟨h1, h2, h3, h4, h5, h6, h7⟩ := h
    rw [revX_mk]
    unfold Wf
    refine ⟨h1, h2, h3, fun h => ?_, fun h => by rw [len_revX]; exact h5 h, h6, ?_⟩
    · rw [h4 h]; simp
    · rw [WfL_iff] at h7 ⊢
      intro y hy
      have : ∃ x ∈ ps, revX x = y := by
        split at hy
        · simpa using hy
        · simpa using hy
      obtain ⟨x, hx, rfl⟩ := this
      have := List.sizeOf_lt_of_mem hx
      exact Wf_rev x (d + 1) (h7 x hx)
  termination_by x => SizeOf.sizeOf x
  decreasing_by (simp; omega)

theorem right_rev {x : Nd} (h : RightX x) : RightX (revX x) := ⟨Wf_rev x 1 h.1, by rw [cnt_rev]; exact h.2⟩

theorem rightB_rev (x : Nd) : rightB (revX x) = rightB x := by
  rw [Bool.eq_iff_iff, rightB_iff, rightB_iff]
  exact ⟨fun h => by have := right_rev h; rwa [rev_rev] at this, right_rev⟩

theorem fit_rev (x : Nd) (row : List Int) : fitB (revX x) row.reverse = fitB x row := by
  rw [Bool.eq_iff_iff, fitB_iff, fitB_iff, List.length_reverse]
  constructor
  · intro h
    have := M_rev (t := row.reverse) (n := row.length) (by simp) (revX x) (Nat.le_refl _) h
    rw [List.reverse_reverse, rev_rev] at this
    simpa using this
  · intro h
    have := M_rev (t := row) (n := row.length) rfl x (Nat.le_refl _) h
    simpa using this
end Go.Proofs.Ytodkeiadaodehaa
