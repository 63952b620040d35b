/-
  dfa, plain: the list of situations in the order in which they are met. No program, no condition beyond what each theorem names.
-/
import Derived.Lib.Hide
set_option linter.unusedVariables false
set_option linter.unusedSimpArgs false
namespace Go.Proofs.Ytmooflmhbpckjaa
open Classical

section
variable {σ τ : Type}

/-- a list with one more, if it is new -/
noncomputable def putS (l : List σ) (s : σ) : List σ := if s ∈ l then l else l ++ [s]
/-- the place of one; behind the last if it is not there -/
noncomputable def place (l : List σ) (s : σ) : Nat := l.findIdx (fun x => decide (x = s))

theorem putS_mem (l : List σ) (s : σ) : s ∈ putS l s := by unfold putS; split <;> simp_all
theorem putS_pre (l : List σ) (s : σ) : l <+: putS l s := by unfold putS; split; exact List.prefix_refl _; exact List.prefix_append _ _
theorem putS_nodup {l : List σ} {s : σ} (h : l.Nodup) : (putS l s).Nodup := by
  unfold putS
  split
  · exact h
  · rename_i hs
    rw [List.nodup_append]
    exact ⟨h, by simp, fun a ha b hb => by rw [List.mem_singleton.1 hb]; intro e; exact hs (e ▸ ha)⟩

theorem place_lt {l : List σ} {s : σ} (h : s ∈ l) : place l s < l.length := List.findIdx_lt_length_of_exists ⟨s, h, by simp⟩
theorem place_get {l : List σ} {s : σ} (h : s ∈ l) : l[place l s]? = some s := by
  have h1 := place_lt h
  have h2 := List.findIdx_getElem (xs := l) (p := fun x => decide (x = s)) (w := h1)
  rw [List.getElem?_eq_getElem h1]
  exact congrArg some (of_decide_eq_true h2)
theorem place_new {l : List σ} {s : σ} (h : s ∉ l) : place l s = l.length := by
  unfold place
  exact List.findIdx_eq_length.2 fun x hx => by
    have : x ≠ s := fun e => h (e ▸ hx)
    simp [this]
theorem place_pre {l m : List σ} {s : σ} (h : l <+: m) (hs : s ∈ l) : place m s = place l s := by
  obtain ⟨r, rfl⟩ := h
  unfold place
  rw [List.findIdx_append]
  have := place_lt hs
  unfold place at this
  rw [if_pos this]
theorem place_put (l : List σ) (s : σ) : place (putS l s) s = place l s := by
  unfold putS
  split
  · rfl
  · rename_i h
    rw [place_new h]
    unfold place
    rw [List.findIdx_append]
    have h1 : List.findIdx (fun x => decide (x = s)) l = l.length := place_new h
    rw [h1, if_neg (by omega)]
    simp

/-- an automaton: where it begins, and where a class takes it -/
structure Auto (σ : Type) where
  start : σ
  step : σ → Nat → σ

/-- the list behind the first c classes of one -/
noncomputable def rowS (A : Auto σ) (s : σ) : List σ → Nat → List σ
  | l, 0 => l
  | l, c + 1 => putS (rowS A s l c) (A.step s c)

theorem rowS_pre (A : Auto σ) (s : σ) (l : List σ) : ∀ c, l <+: rowS A s l c
  | 0 => List.prefix_refl _
  | c + 1 => (rowS_pre A s l c).trans (putS_pre _ _)
theorem rowS_nodup (A : Auto σ) (s : σ) {l : List σ} (h : l.Nodup) : ∀ c, (rowS A s l c).Nodup
  | 0 => h
  | c + 1 => putS_nodup (rowS_nodup A s h c)
theorem rowS_mem (A : Auto σ) (s : σ) (l : List σ) : ∀ {k c : Nat}, c < k → A.step s c ∈ rowS A s l k
  | k + 1, c, h => by
    rw [rowS]
    by_cases hc : c = k
    · subst hc; exact putS_mem _ _
    · exact (putS_pre _ _).subset (rowS_mem A s l (by omega))

/-- the list when the first n have been looked at -/
noncomputable def cl (A : Auto σ) (classes : Nat) : Nat → List σ
  | 0 => [A.start]
  | n + 1 => match (cl A classes n)[n]? with
    | some s => rowS A s (cl A classes n) classes
    | none => cl A classes n

theorem cl_pre (A : Auto σ) (classes n : Nat) : cl A classes n <+: cl A classes (n + 1) := by
  rw [cl]
  split
  · exact rowS_pre _ _ _ _
  · exact List.prefix_refl _
theorem cl_nodup (A : Auto σ) (classes : Nat) : ∀ n, (cl A classes n).Nodup
  | 0 => by simp [cl]
  | n + 1 => by
    rw [cl]
    split
    · exact rowS_nodup _ _ (cl_nodup A classes n) _
    · exact cl_nodup A classes n
theorem cl_mono (A : Auto σ) (classes : Nat) {m : Nat} : ∀ {n : Nat}, m ≤ n → cl A classes m <+: cl A classes n
  | 0, h => by obtain rfl : m = 0 := by omega
               exact List.prefix_refl _
  | n + 1, h => by
    by_cases e : m = n + 1
    · subst e; exact List.prefix_refl _
    · exact (cl_mono A classes (by omega : m ≤ n)).trans (cl_pre A classes n)
theorem cl_start (A : Auto σ) (classes n : Nat) : (cl A classes n)[0]? = some A.start := by
  obtain ⟨r, h⟩ := cl_mono A classes (Nat.zero_le n)
  rw [← h, cl]; rfl
theorem cl_pos (A : Auto σ) (classes n : Nat) : 0 < (cl A classes n).length := by
  have := cl_start A classes n
  rw [List.getElem?_eq_some_iff] at this
  exact this.1

/-- all have been looked at -/
def Over (A : Auto σ) (classes n : Nat) : Prop := (cl A classes n).length ≤ n

theorem over_step {A : Auto σ} {classes n : Nat} (h : Over A classes n) : cl A classes (n + 1) = cl A classes n := by
  rw [cl, List.getElem?_eq_none h]
theorem cl_len {A : Auto σ} {classes n : Nat} (h : (cl A classes n)[n]? = none) : cl A classes (n + 1) = cl A classes n := by rw [cl, h]
theorem over_mono {A : Auto σ} {classes n : Nat} (h : Over A classes n) : ∀ {m : Nat}, n ≤ m → cl A classes m = cl A classes n
  | 0, hm => by obtain rfl : n = 0 := by omega
                rfl
  | m + 1, hm => by
    by_cases e : n = m + 1
    · subst e; rfl
    · have h1 := over_mono h (by omega : n ≤ m)
      have h2 : Over A classes m := by unfold Over at *; rw [h1]; omega
      rw [over_step h2, h1]

/-- what has been looked at has its ways in the list -/
theorem cl_closed {A : Auto σ} {classes : Nat} : ∀ {n k : Nat} {s : σ}, k < n → (cl A classes n)[k]? = some s → ∀ c, c < classes → A.step s c ∈ cl A classes n
  | n + 1, k, s, hk, hs, c, hc => by
    by_cases hkn : k < (cl A classes n).length
    · have hold : (cl A classes n)[k]? = some s := by
        obtain ⟨r, h⟩ := cl_pre A classes n
        rw [← h, List.getElem?_append_left hkn] at hs
        exact hs
      by_cases e : k = n
      · subst e
        rw [cl, hold]
        exact rowS_mem _ _ _ hc
      · exact (cl_pre A classes n).subset (cl_closed (by omega) hold c hc)
    · have hn : (cl A classes n)[n]? = none := List.getElem?_eq_none (by omega)
      rw [cl_len hn, List.getElem?_eq_none (by omega)] at hs
      cases hs

/-- where a row takes it -/
def runA (A : Auto σ) : σ → List Nat → σ
  | s, [] => s
  | s, c :: t => runA A (A.step s c) t

theorem runA_snoc (A : Auto σ) : ∀ (t : List Nat) (s : σ) (c : Nat), runA A s (t ++ [c]) = A.step (runA A s t) c
  | [], _, _ => rfl
  | d :: t, s, c => runA_snoc A t (A.step s d) c

/-- all of the list is met by some row -/
theorem rowS_met (A : Auto σ) (classes : Nat) (s : σ) (l : List σ) : ∀ k, k ≤ classes → ∀ x ∈ rowS A s l k, x ∈ l ∨ ∃ c, c < classes ∧ x = A.step s c
  | 0, _, x, h => .inl h
  | k + 1, hk, x, h => by
    rw [rowS] at h
    unfold putS at h
    split at h
    · exact rowS_met A classes s l k (by omega) x h
    · rcases List.mem_append.1 h with h | h
      · exact rowS_met A classes s l k (by omega) x h
      · exact .inr ⟨k, by omega, List.mem_singleton.1 h⟩
theorem cl_met (A : Auto σ) (classes : Nat) : ∀ n, ∀ x ∈ cl A classes n, ∃ t : List Nat, (∀ c ∈ t, c < classes) ∧ x = runA A A.start t
  | 0, x, h => ⟨[], by simp, by rw [cl] at h; exact List.mem_singleton.1 h⟩
  | n + 1, x, h => by
    rw [cl] at h
    split at h
    · rename_i s hs
      rcases rowS_met A classes s _ classes (Nat.le_refl _) x h with h | ⟨c, hc, rfl⟩
      · exact cl_met A classes n x h
      · obtain ⟨t, h1, h2⟩ := cl_met A classes n s (List.mem_of_getElem? hs)
        exact ⟨t ++ [c], fun d hd => by rcases List.mem_append.1 hd with hd | hd; exact h1 d hd; rw [List.mem_singleton.1 hd]; exact hc, by rw [runA_snoc, h2]⟩
    · exact cl_met A classes n x h

/-- the list of all: each row stays in it -/
theorem over_run {A : Auto σ} {classes n : Nat} (h : Over A classes n) (t : List Nat) (ht : ∀ c ∈ t, c < classes) : ∀ {s}, s ∈ cl A classes n → runA A s t ∈ cl A classes n := by
  induction t with
  | nil => intro s hs; exact hs
  | cons c t ih =>
    intro s hs
    obtain ⟨k, hk, e⟩ := List.getElem_of_mem hs
    exact ih (fun d hd => ht d (by simp [hd])) (cl_closed (k := k) (by unfold Over at h; omega) (by rw [List.getElem?_eq_getElem hk, e]) c (ht c (by simp)))

/-- A MAP OF AUTOMATA that tells apart what is met: the lists go together. -/
structure Hom (A : Auto σ) (B : Auto τ) (classes : Nat) (f : σ → τ) : Prop where
  start : f A.start = B.start
  step : ∀ t : List Nat, (∀ c ∈ t, c < classes) → ∀ c, c < classes → f (A.step (runA A A.start t) c) = B.step (f (runA A A.start t)) c
  inj : ∀ t u : List Nat, (∀ c ∈ t, c < classes) → (∀ c ∈ u, c < classes) → f (runA A A.start t) = f (runA A A.start u) → runA A A.start t = runA A A.start u

def MetA (A : Auto σ) (classes : Nat) (s : σ) : Prop := ∃ t : List Nat, (∀ c ∈ t, c < classes) ∧ s = runA A A.start t
theorem MetA.step {A : Auto σ} {classes : Nat} {s : σ} (h : MetA A classes s) {c : Nat} (hc : c < classes) : MetA A classes (A.step s c) := by
  obtain ⟨t, h1, rfl⟩ := h
  exact ⟨t ++ [c], fun d hd => by rcases List.mem_append.1 hd with hd | hd; exact h1 d hd; rw [List.mem_singleton.1 hd]; exact hc, by rw [runA_snoc]⟩

theorem put_map {A : Auto σ} {B : Auto τ} {classes : Nat} {f : σ → τ} (H : Hom A B classes f) {l : List σ} {s : σ} (hl : ∀ x ∈ l, MetA A classes x) (hs : MetA A classes s) : (putS l s).map f = putS (l.map f) (f s) := by
  unfold putS
  by_cases h : s ∈ l
  · rw [if_pos h, if_pos (List.mem_map_of_mem h)]
  · rw [if_neg h, if_neg, List.map_append]
    · rfl
    · intro hm
      obtain ⟨x, hx, e⟩ := List.mem_map.1 hm
      obtain ⟨t, ht, rfl⟩ := hl x hx
      obtain ⟨u, hu, rfl⟩ := hs
      exact h (H.inj t u ht hu e ▸ hx)
theorem put_all {A : Auto σ} {classes : Nat} {l : List σ} {s : σ} (hl : ∀ x ∈ l, MetA A classes x) (hs : MetA A classes s) : ∀ x ∈ putS l s, MetA A classes x := by
  unfold putS
  split
  · exact hl
  · intro x hx
    rcases List.mem_append.1 hx with hx | hx
    · exact hl x hx
    · rw [List.mem_singleton.1 hx]; exact hs

theorem row_map {A : Auto σ} {B : Auto τ} {classes : Nat} {f : σ → τ} (H : Hom A B classes f) {s : σ} (hs : MetA A classes s) {l : List σ} (hl : ∀ x ∈ l, MetA A classes x) : ∀ k, k ≤ classes → (rowS A s l k).map f = rowS B (f s) (l.map f) k ∧ ∀ x ∈ rowS A s l k, MetA A classes x
  | 0, _ => ⟨rfl, hl⟩
  | k + 1, hk => by
    obtain ⟨h1, h2⟩ := row_map H hs hl k (by omega)
    have hm := hs.step (show k < classes by omega)
    rw [rowS, rowS, put_map H h2 hm, h1]
    refine ⟨?_, put_all h2 hm⟩
    obtain ⟨t, ht, rfl⟩ := hs
    rw [H.step t ht k (by omega)]

theorem cl_map {A : Auto σ} {B : Auto τ} {classes : Nat} {f : σ → τ} (H : Hom A B classes f) : ∀ n, (cl A classes n).map f = cl B classes n ∧ ∀ x ∈ cl A classes n, MetA A classes x
  | 0 => ⟨by simp [cl, H.start], fun x hx => ⟨[], by simp, by rw [cl] at hx; exact List.mem_singleton.1 hx⟩⟩
  | n + 1 => by
    obtain ⟨h1, h2⟩ := cl_map H n
    rw [cl, cl, ← h1, List.getElem?_map]
    cases hs : (cl A classes n)[n]? with
    | none => exact ⟨rfl, h2⟩
    | some s => exact row_map H (h2 s (List.mem_of_getElem? hs)) h2 classes (Nat.le_refl _)

end
end Go.Proofs.Ytmooflmhbpckjaa
