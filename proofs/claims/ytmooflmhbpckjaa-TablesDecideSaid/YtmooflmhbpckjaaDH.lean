/-
  dfa, plain: the situation of one expression. No program, no condition beyond what each theorem names.
-/
import Derived.Test.YtmooflmhbpckjaaDG
import Derived.Test.YtmooflmhbpckjaaNO
set_option linter.unusedVariables false
set_option linter.unusedSimpArgs false
namespace Go.Proofs.Ytmooflmhbpckjaa
open Classical

/-- the numbers that are in one of two lists, rising -/
noncomputable def uniR (N : Nat) (a b : List Int) : List Int := ((List.range N).filter fun (k : Nat) => decide ((k : Int) ∈ a ∨ (k : Int) ∈ b)).map fun (k : Nat) => (k : Int)

theorem mem_uniR {N : Nat} {a b : List Int} (ha : ∀ v ∈ a, 0 ≤ v ∧ v < N) (hb : ∀ v ∈ b, 0 ≤ v ∧ v < N) {v : Int} : v ∈ uniR N a b ↔ v ∈ a ∨ v ∈ b := by
  unfold uniR
  rw [List.mem_map]
  constructor
  · rintro ⟨k, hk, rfl⟩
    exact of_decide_eq_true (List.mem_filter.1 hk).2
  · intro h
    have hr : 0 ≤ v ∧ v < N := by
      rcases h with h | h
      · exact ha v h
      · exact hb v h
    refine ⟨v.toNat, List.mem_filter.2 ⟨List.mem_range.2 (by omega), ?_⟩, by omega⟩
    rw [show ((v.toNat : Nat) : Int) = v by omega]
    exact decide_eq_true h
theorem uniR_rises (N : Nat) (a b : List Int) : Rises (uniR N a b) := by
  unfold Rises uniR
  rw [List.pairwise_map]
  exact (List.pairwise_lt_range.filter _).imp (fun h => Int.ofNat_lt.2 h)

/-- an expression's situation behind one class more -/
noncomputable def stepE (S : List Sta) (whole : Bool) (s : List Int) (c : Int) : List Int :=
  if whole then closedL S (stepTo S s c) else uniR S.length (closedL S (stepTo S s c)) (closedL S [0])
noncomputable def runE (S : List Sta) (whole : Bool) (row : List Int) : List Int := row.foldl (stepE S whole) (closedL S [0])

theorem runE_snoc (S : List Sta) (whole : Bool) (row : List Int) (c : Int) : runE S whole (row ++ [c]) = stepE S whole (runE S whole row) c := by simp [runE]

theorem closed_or {S : List Sta} {a b d : List Int} (h : ∀ v, v ∈ d ↔ v ∈ a ∨ v ∈ b) {v : Int} : v ∈ closedL S d ↔ v ∈ closedL S a ∨ v ∈ closedL S b := by
  rw [mem_closedL, mem_closedL, mem_closedL]
  constructor
  · rintro ⟨k, h1, h2, ⟨r, h3, h4⟩, h5⟩
    rcases (h _).1 h3 with h3 | h3
    · exact .inl ⟨k, h1, h2, ⟨r, h3, h4⟩, h5⟩
    · exact .inr ⟨k, h1, h2, ⟨r, h3, h4⟩, h5⟩
  · rintro (⟨k, h1, h2, ⟨r, h3, h4⟩, h5⟩ | ⟨k, h1, h2, ⟨r, h3, h4⟩, h5⟩)
    · exact ⟨k, h1, h2, ⟨r, (h _).2 (.inl h3), h4⟩, h5⟩
    · exact ⟨k, h1, h2, ⟨r, (h _).2 (.inr h3), h4⟩, h5⟩

theorem mem_closed_ext {S : List Sta} {a b : List Int} (h : ∀ v, v ∈ a ↔ v ∈ b) : closedL S a = closedL S b :=
  rises_ext (closedL_rises S a) (closedL_rises S b) fun v => by
    rw [mem_closedL, mem_closedL]
    simp only [h]

theorem mem_stepTo {S : List Sta} {s : List Int} {c v : Int} : v ∈ stepTo S s c ↔ ∃ n ∈ s, ((at_ S n.toNat).takes.any fun x => c == x) = true ∧ v = n + 1 := by
  unfold stepTo
  rw [List.mem_map]
  constructor
  · rintro ⟨n, hn, rfl⟩
    obtain ⟨h1, h2⟩ := List.mem_filter.1 hn
    exact ⟨n, h1, h2, rfl⟩
  · rintro ⟨n, h1, h2, rfl⟩
    exact ⟨n, List.mem_filter.2 ⟨h1, h2⟩, rfl⟩

/-- all that is ahead is to fit: nfa's own run -/
theorem runE_whole (S : List Sta) (row : List Int) : runE S true row = runL S row := by
  unfold runE runL
  congr 1

/-- else: the run behind some end of the row -/
theorem mem_runE (S : List Sta) : ∀ (n : Nat) (row : List Int), row.length = n → ∀ v, v ∈ runE S false row ↔ ∃ k, k ≤ row.length ∧ v ∈ runL S (row.drop k)
  | 0, row, hl, v => by
    obtain rfl : row = [] := List.eq_nil_of_length_eq_zero hl
    constructor
    · intro h; exact ⟨0, by simp, h⟩
    · rintro ⟨k, hk, h⟩
      rw [List.drop_nil] at h
      exact h
  | n + 1, row, hl, v => by
    obtain ⟨r, c, rfl⟩ : ∃ r c, row = r ++ [c] := by
      rcases List.eq_nil_or_concat row with rfl | ⟨r, c, rfl⟩
      · simp at hl
      · exact ⟨r, c, by simp⟩
    have hrl : r.length = n := by simpa using hl
    have ih := mem_runE S n r hrl
    rw [runE_snoc]
    have hu : v ∈ stepE S false (runE S false r) c ↔ v ∈ closedL S (stepTo S (runE S false r) c) ∨ v ∈ closedL S [0] := by
      unfold stepE
      rw [if_neg (by simp)]
      exact mem_uniR (fun v hv => closedL_range hv) (fun v hv => closedL_range hv)
    rw [hu]
    have hstep : v ∈ closedL S (stepTo S (runE S false r) c) ↔ ∃ k, k ≤ r.length ∧ v ∈ closedL S (stepTo S (runL S (r.drop k)) c) := by
      rw [mem_closedL]
      constructor
      · rintro ⟨j, h1, h2, ⟨q, h3, h4⟩, h5⟩
        obtain ⟨m, hm, ht, e⟩ := mem_stepTo.1 h3
        obtain ⟨k, hk, hm2⟩ := (ih m).1 hm
        exact ⟨k, hk, mem_closedL.2 ⟨j, h1, h2, ⟨q, mem_stepTo.2 ⟨m, hm2, ht, e⟩, h4⟩, h5⟩⟩
      · rintro ⟨k, hk, h⟩
        obtain ⟨j, h1, h2, ⟨q, h3, h4⟩, h5⟩ := mem_closedL.1 h
        obtain ⟨m, hm, ht, e⟩ := mem_stepTo.1 h3
        exact ⟨j, h1, h2, ⟨q, mem_stepTo.2 ⟨m, (ih m).2 ⟨k, hk, hm⟩, ht, e⟩, h4⟩, h5⟩
    rw [hstep]
    constructor
    · rintro (⟨k, hk, h⟩ | h)
      · refine ⟨k, by simp; omega, ?_⟩
        rw [List.drop_append_of_le_length hk, runL_snoc]
        exact h
      · refine ⟨r.length + 1, by simp, ?_⟩
        rw [List.drop_of_length_le (by simp)]
        exact h
    · rintro ⟨k, hk, h⟩
      by_cases hkr : k ≤ r.length
      · rw [List.drop_append_of_le_length hkr, runL_snoc] at h
        exact .inl ⟨k, hkr, h⟩
      · rw [List.drop_of_length_le (by simp; omega)] at h
        exact .inr h

/-- which expressions fit: all of the row, or some end of it -/
noncomputable def fitsE (x : Nd) (whole : Bool) (row : List Int) : Bool := if whole then fitB x row else decide (∃ k, k ≤ row.length ∧ fitB x (row.drop k) = true)

theorem runE_fits {x : Nd} (hx : RightX x) (whole : Bool) (row : List Int) : ((runE (mach x) whole row).any fun u => 1 == u) = fitsE x whole row := by
  cases whole
  · rw [Bool.eq_iff_iff, List.any_eq_true]
    unfold fitsE
    rw [if_neg (by simp), decide_eq_true_iff]
    constructor
    · rintro ⟨u, hu, h1⟩
      obtain ⟨k, hk, h⟩ := (mem_runE (mach x) _ row rfl u).1 hu
      exact ⟨k, hk, by rw [← matches_fit hx]; exact List.any_eq_true.2 ⟨u, h, h1⟩⟩
    · rintro ⟨k, hk, h⟩
      rw [← matches_fit hx, List.any_eq_true] at h
      obtain ⟨u, hu, h1⟩ := h
      exact ⟨u, (mem_runE (mach x) _ row rfl u).2 ⟨k, hk, hu⟩, h1⟩
  · rw [runE_whole, matches_fit hx]
    rfl

end Go.Proofs.Ytmooflmhbpckjaa
