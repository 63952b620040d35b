/-
  Texts that an expression cannot tell apart. Plain theorems; no program.
-/
import Derived.Test.YtphgjppeindbaaaU
set_option linter.unusedVariables false
set_option linter.unusedSimpArgs false
namespace Go.Proofs.Ytphgjppeindbaaa

theorem Mseq_le {t : List Int} : ∀ {l : List Nd} {a b : Nat}, Mseq t l a b → a ≤ b
  | [], a, b, h => by simp only [Mseq] at h; omega
  | x :: r, a, b, h => by
    simp only [Mseq] at h
    obtain ⟨c, h1, h2⟩ := h
    exact Nat.le_trans (M_le h1) (Mseq_le h2)
theorem Malt_le {t : List Int} {l : List Nd} {a b : Nat} (h : Malt t l a b) : a ≤ b := by
  obtain ⟨x, _, h⟩ := Malt_mem.1 h
  exact M_le h

theorem anyC_part {q : Int → Bool} {op : Int} {cls : List Int} {ps : List Nd} {x : Nd} (hx : x ∈ ps) (h : anyC q x = true) : anyC q (.mk op cls ps) = true := by
  rw [anyC_mk, Bool.or_eq_true]
  exact .inr (List.any_eq_true.2 ⟨x, hx, h⟩)
theorem anyC_cls {q : Int → Bool} {op : Int} {cls : List Int} {ps : List Nd} {c : Int} (hc : c ∈ cls) (h : q c = true) : anyC q (.mk op cls ps) = true := by
  rw [anyC_mk, Bool.or_eq_true]
  exact .inl (List.any_eq_true.2 ⟨c, hc, h⟩)

/-- what is matched within the first n characters is matched in a text that has the same ones there, as far as the expression knows them -/
theorem M_map {t u : List Int} {n : Nat} : ∀ (x : Nd), (∀ i c, i < n → t[i]? = some c → anyC (eqC c) x = true → u[i]? = some c) → ∀ {a b : Nat}, b ≤ n → M t x a b → M u x a b
  | .mk op cls parts, h1, a, b, hb, h => by
    have hpart : ∀ x ∈ parts, ∀ a b, b ≤ n → M t x a b → M u x a b := by
      intro x hx a b hb h
      have := List.sizeOf_lt_of_mem hx
      exact M_map x (fun i c hi hc hq => h1 i c hi hc (anyC_part hx hq)) hb h
    have hseq : ∀ (l : List Nd), (∀ x ∈ l, x ∈ parts) → ∀ a b, b ≤ n → Mseq t l a b → Mseq u l a b := by
      intro l
      induction l with
      | nil => intro _ a b _ h; simpa only [Mseq] using h
      | cons x r ih =>
        intro hm a b hb h
        simp only [Mseq] at h ⊢
        obtain ⟨c, h2, h3⟩ := h
        exact ⟨c, hpart x (hm x (by simp)) _ _ (Nat.le_trans (Mseq_le h3) hb) h2, ih (fun y hy => hm y (by simp [hy])) _ _ hb h3⟩
    have halt : ∀ a b, b ≤ n → Malt t parts a b → Malt u parts a b := by
      intro a b hb h
      obtain ⟨x, hx, h2⟩ := Malt_mem.1 h
      exact Malt_mem.2 ⟨x, hx, hpart x hx _ _ hb h2⟩
    unfold M at h ⊢
    split at h
    · rename_i h0; rw [if_pos h0]; exact h
    · rename_i h0; rw [if_neg h0]
      split at h
      · rename_i h2; rw [if_pos h2]
        obtain ⟨rfl, c, h2, h3⟩ := h
        exact ⟨rfl, c, h1 a c (by omega) h2 (anyC_cls h3 (by simp [eqC])), h3⟩
      · rename_i h2; rw [if_neg h2]
        split at h
        · rename_i h2; rw [if_pos h2]; exact hseq parts (fun _ h => h) a b hb h
        · rename_i h2; rw [if_neg h2]
          split at h
          · rename_i h2; rw [if_pos h2]; exact halt a b hb h
          · rename_i h2; rw [if_neg h2]
            split at h
            · rename_i h2; rw [if_pos h2]
              refine ⟨h.1, ?_⟩
              obtain ⟨-, h⟩ := h
              induction h with
              | refl => exact .refl _
              | step _ h3 ih => exact .step (ih (Nat.le_trans (Malt_le h3) hb)) (halt _ _ hb h3)
            · rename_i h2; rw [if_neg h2]
              split at h
              · rename_i h2; rw [if_pos h2]
                exact ⟨h.1, h.2.elim .inl (fun h => .inr (halt a b hb h))⟩
              · exact h.elim
  termination_by x => SizeOf.sizeOf x
  decreasing_by all_goals (simp; omega)

/-- each character that is matched is of a class of the expression -/
theorem M_cls {t : List Int} : ∀ (x : Nd) {a b : Nat}, M t x a b → ∀ k, a ≤ k → k < b → ∃ c, t[k]? = some c ∧ anyC (eqC c) x = true
  | .mk op cls parts, a, b, h => by
    have hpart : ∀ x ∈ parts, ∀ a b, M t x a b → ∀ k, a ≤ k → k < b → ∃ c, t[k]? = some c ∧ anyC (eqC c) (.mk op cls parts) = true := by
      intro x hx a b h k h1 h2
      have := List.sizeOf_lt_of_mem hx
      obtain ⟨c, h3, h4⟩ := M_cls x h k h1 h2
      exact ⟨c, h3, anyC_part hx h4⟩
    have hseq : ∀ (l : List Nd), (∀ x ∈ l, x ∈ parts) → ∀ a b, Mseq t l a b → ∀ k, a ≤ k → k < b → ∃ c, t[k]? = some c ∧ anyC (eqC c) (.mk op cls parts) = true := by
      intro l
      induction l with
      | nil => intro _ a b h k h1 h2; simp only [Mseq] at h; omega
      | cons x r ih =>
        intro hm a b h k h1 h2
        simp only [Mseq] at h
        obtain ⟨c, h3, h4⟩ := h
        by_cases hk : k < c
        · exact hpart x (hm x (by simp)) _ _ h3 k h1 hk
        · exact ih (fun y hy => hm y (by simp [hy])) _ _ h4 k (by omega) h2
    have halt : ∀ a b, Malt t parts a b → ∀ k, a ≤ k → k < b → ∃ c, t[k]? = some c ∧ anyC (eqC c) (.mk op cls parts) = true := by
      intro a b h
      obtain ⟨x, hx, h2⟩ := Malt_mem.1 h
      exact hpart x hx _ _ h2
    intro k h1 h2
    unfold M at h
    split at h
    · omega
    · split at h
      · obtain ⟨rfl, c, h3, h4⟩ := h
        obtain rfl : k = a := by omega
        exact ⟨c, h3, anyC_cls h4 (by simp [eqC])⟩
      · split at h
        · exact hseq parts (fun _ h => h) a b h k h1 h2
        · split at h
          · exact halt a b h k h1 h2
          · split at h
            · obtain ⟨-, h⟩ := h
              induction h with
              | refl => omega
              | step h4 h3 ih =>
                rename_i c d
                by_cases hk : k < c
                · exact ih hk
                · exact halt _ _ h3 k (by omega) h2
            · split at h
              · rcases h.2 with rfl | h
                · omega
                · exact halt a b h k h1 h2
              · exact h.elim
  termination_by x => SizeOf.sizeOf x
  decreasing_by all_goals (simp; omega)

/-- an expression read from the end -/
def turnR : Nd → Nd
  | .mk op cls ps => .mk op cls (turnL ps).reverse
where turnL : List Nd → List Nd
  | [] => []
  | x :: r => turnR x :: turnL r

theorem turnL_map : ∀ (l : List Nd), turnR.turnL l = l.map turnR
  | [] => by simp [turnR.turnL]
  | x :: r => by simp [turnR.turnL, turnL_map r]
theorem turnR_mk (op : Int) (cls : List Int) (ps : List Nd) : turnR (.mk op cls ps) = .mk op cls (ps.map turnR).reverse := by
  simp [turnR, turnL_map]


/-- what is matched is matched from the end -/
theorem M_turn {t : List Int} {n : Nat} (hn : n = t.length) : ∀ (x : Nd) {a b : Nat}, b ≤ n → M t x a b → M t.reverse (turnR x) (n - b) (n - a)
  | .mk op cls parts, a, b, hb, h => by
    have hpart : ∀ x ∈ parts, ∀ a b, b ≤ n → M t x a b → M t.reverse (turnR x) (n - b) (n - a) := by
      intro x hx a b hb h
      have := List.sizeOf_lt_of_mem hx
      exact M_turn hn x hb h
    have hseq : ∀ (l : List Nd), (∀ x ∈ l, x ∈ parts) → ∀ a b, b ≤ n → Mseq t l a b → Mseq t.reverse (l.map turnR).reverse (n - b) (n - a) := by
      intro l
      induction l with
      | nil => intro _ a b _ h; simp only [Mseq] at h; subst h; simp [Mseq]
      | cons x r ih =>
        intro hm a b hb h
        simp only [Mseq] at h
        obtain ⟨c, h2, h3⟩ := h
        rw [List.map_cons, List.reverse_cons, Mseq_append]
        have hcb := Mseq_le h3
        exact ⟨n - c, ih (fun y hy => hm y (by simp [hy])) _ _ hb h3, Mseq_one.2 (hpart x (hm x (by simp)) _ _ (by omega) h2)⟩
    have halt : ∀ a b, b ≤ n → Malt t parts a b → Malt t.reverse (parts.map turnR).reverse (n - b) (n - a) := by
      intro a b hb h
      obtain ⟨x, hx, h2⟩ := Malt_mem.1 h
      exact Malt_mem.2 ⟨turnR x, by simp; exact ⟨x, hx, rfl⟩, hpart x hx _ _ hb h2⟩
    rw [turnR_mk]
    unfold M at h ⊢
    split at h
    · rename_i h0; rw [if_pos h0]; omega
    · rename_i h0; rw [if_neg h0]
      split at h
      · rename_i h2; rw [if_pos h2]
        obtain ⟨rfl, c, h2, h3⟩ := h
        refine ⟨by omega, c, ?_, h3⟩
        rw [List.getElem?_reverse (by omega)]
        rw [← h2]
        congr 1; omega
      · rename_i h2; rw [if_neg h2]
        split at h
        · rename_i h2; rw [if_pos h2]; exact hseq parts (fun _ h => h) a b hb h
        · rename_i h2; rw [if_neg h2]
          split at h
          · rename_i h2; rw [if_pos h2]; exact halt a b hb h
          · rename_i h2; rw [if_neg h2]
            split at h
            · rename_i h2; rw [if_pos h2]
              refine ⟨by simpa using h.1, ?_⟩
              obtain ⟨-, h⟩ := h
              induction h with
              | refl => exact .refl _
              | step _ h3 ih => exact Star.head (halt _ _ hb h3) (ih (Nat.le_trans (Malt_le h3) hb))
            · rename_i h2; rw [if_neg h2]
              split at h
              · rename_i h2; rw [if_pos h2]
                refine ⟨by simpa using h.1, ?_⟩
                rcases h.2 with rfl | h
                · exact .inl rfl
                · exact .inr (halt a b hb h)
              · exact h.elim
  termination_by x => SizeOf.sizeOf x
  decreasing_by all_goals (simp; omega)
end Go.Proofs.Ytphgjppeindbaaa
