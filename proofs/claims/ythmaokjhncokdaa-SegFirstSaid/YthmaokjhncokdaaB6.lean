import Derived.Lib.Hide
import Derived.Test.YthmaokjhncokdaaB5
/-
  dfa, plain: the list of situations in the order in which they are met. No program, no condition beyond what each theorem names.
-/
set_option linter.unusedVariables false
set_option linter.unusedSimpArgs false
namespace Go.Proofs.Ythmaokjhncokdaa
open Classical

section
variable {σ τ : Type}

/-- a list with one more, if it is new -/
noncomputable def putS (l : List σ) (s : σ) : List σ := if s ∈ l then l else l ++ [s]
/-- the place of one; behind the last if it is not there -/
noncomputable def place (l : List σ) (s : σ) : Nat := l.findIdx (fun x => decide (x = s))

theorem putS_mem (l : List σ) (s : σ) : s ∈ putS l s := by unfold putS; split <;> simp_all
theorem putS_pre (l : List σ) (s : σ) : l <+: putS l s := by unfold putS; split; exact List.prefix_refl _; exact List.prefix_append _ _
theorem putS_nodup {l : List σ} {s : σ} (h : l.Nodup) : (putS l s).Nodup := by
  unfold putS
  split
  · exact h
  · rename_i hs
    rw [List.nodup_append]
    exact ⟨h, by simp, fun a ha b hb => by rw [List.mem_singleton.1 hb]; intro e; exact hs (e ▸ ha)⟩

theorem place_lt {l : List σ} {s : σ} (h : s ∈ l) : place l s < l.length := List.findIdx_lt_length_of_exists ⟨s, h, by simp⟩
theorem place_get {l : List σ} {s : σ} (h : s ∈ l) : l[place l s]? = some s := by
  have h1 := place_lt h
  have h2 := List.findIdx_getElem (xs := l) (p := fun x => decide (x = s)) (w := h1)
  rw [List.getElem?_eq_getElem h1]
  exact congrArg some (of_decide_eq_true h2)
theorem place_new {l : List σ} {s : σ} (h : s ∉ l) : place l s = l.length := by
  unfold place
  exact List.findIdx_eq_length.2 fun x hx => by
    have : x ≠ s := fun e => h (e ▸ hx)
    simp [this]
theorem place_pre {l m : List σ} {s : σ} (h : l <+: m) (hs : s ∈ l) : place m s = place l s := by
  obtain ⟨r, rfl⟩ := h
  unfold place
  rw [List.findIdx_append]
  have := place_lt hs
  unfold place at this
  rw [if_pos this]
theorem place_put (l : List σ) (s : σ) : place (putS l s) s = place l s := by
  unfold putS
  split
  · rfl
  · rename_i h
    rw [place_new h]
    unfold place
    rw [List.findIdx_append]
    have h1 : List.findIdx (fun x => decide (x = s)) l = l.length := place_new h
    rw [h1, if_neg (by omega)]
    simp

/-- an automaton: where it begins, and where a class takes it -/
structure Auto (σ : Type) where
  start : σ
  step : σ → Nat → σ

/-- the list behind the first c classes of one -/
noncomputable def rowS (A : Auto σ) (s : σ) : List σ → Nat → List σ
  | l, 0 => l
  | l, c + 1 => putS (rowS A s l c) (A.step s c)

theorem rowS_pre (A : Auto σ) (s : σ) (l : List σ) : ∀ c, l <+: rowS A s l c
  | 0 => List.prefix_refl _
  | c + 1 => (rowS_pre A s l c).trans (putS_pre _ _)
theorem rowS_nodup (A : Auto σ) (s : σ) {l : List σ} (h : l.Nodup) : ∀ c, (rowS A s l c).Nodup
  | 0 => h
  | c + 1 => putS_nodup (rowS_nodup A s h c)
theorem rowS_mem (A : Auto σ) (s : σ) (l : List σ) : ∀ {k c : Nat}, c < k → A.step s c ∈ rowS A s l k
  | k + 1, c, h => by
    rw [rowS]
    by_cases hc : c = k
    · subst hc; exact putS_mem _ _
    · exact (putS_pre _ _).subset (rowS_mem A s l (by omega))

/-- the list when the first n have been looked at -/
noncomputable def cl (A : Auto σ) (classes : Nat) : Nat → List σ
  | 0 => [A.start]
  | n + 1 => match (cl A classes n)[n]? with
    | some s => rowS A s (cl A classes n) classes
    | none => cl A classes n

theorem cl_pre (A : Auto σ) (classes n : Nat) : cl A classes n <+: cl A classes (n + 1) := by
  rw [cl]
  split
  · exact rowS_pre _ _ _ _
  · exact List.prefix_refl _
theorem cl_nodup (A : Auto σ) (classes : Nat) : ∀ n, (cl A classes n).Nodup
  | 0 => by simp [cl]
  | n + 1 => by
    rw [cl]
    split
    · exact rowS_nodup _ _ (cl_nodup A classes n) _
    · exact cl_nodup A classes n
theorem cl_mono (A : Auto σ) (classes : Nat) {m : Nat} : ∀ {n : Nat}, m ≤ n → cl A classes m <+: cl A classes n
  | 0, h => by obtain rfl : m = 0 := by omega
               exact List.prefix_refl _
  | n + 1, h => by
    by_cases e : m = n + 1
    · subst e; exact List.prefix_refl _
    · exact (cl_mono A classes (by omega : m ≤ n)).trans (cl_pre A classes n)
theorem cl_start (A : Auto σ) (classes n : Nat) : (cl A classes n)[0]? = some A.start := by
  obtain ⟨r, h⟩ := cl_mono A classes (Nat.zero_le n)
  rw [← h, cl]; rfl
theorem cl_pos (A : Auto σ) (classes n : Nat) : 0 < (cl A classes n).length := by
  have := cl_start A classes n
  rw [List.getElem?_eq_some_iff] at this
  exact this.1

/-- all have been looked at -/
def Over (A : Auto σ) (classes n : Nat) : Prop := (cl A classes n).length ≤ n

theorem over_step {A : Auto σ} {classes n : Nat} (h : Over A classes n) : cl A classes (n + 1) = cl A classes n := by
  rw [cl, List.getElem?_eq_none h]
theorem cl_len {A : Auto σ} {classes n : Nat} (h : (cl A classes n)[n]? = none) : cl A classes (n + 1) = cl A classes n := by rw [cl, h]
theorem over_mono {A : Auto σ} {classes n : Nat} (h : Over A classes n) : ∀ {m : Nat}, n ≤ m → cl A classes m = cl A classes n
  | 0, hm => by obtain rfl : n = 0 := by omega
                rfl
  | m + 1, hm => by
    by_cases e : n = m + 1
    · subst e; rfl
    · have h1 := over_mono h (by omega : n ≤ m)
      have h2 : Over A classes m := by unfold Over at *; rw [h1]; omega
      rw [over_step h2, h1]

/-- what has been looked at has its ways in the list -/
theorem cl_closed {A : Auto σ} {classes : Nat} : ∀ {n k : Nat} {s : σ}, k < n → (cl A classes n)[k]? = some s → ∀ c, c < classes → A.step s c ∈ cl A classes n
  | n + 1, k, s, hk, hs, c, hc => by
    by_cases hkn : k < (cl A classes n).length
    · have hold : (cl A classes n)[k]? = some s := by
        obtain ⟨r, h⟩ := cl_pre A classes n
        rw [← h, List.getElem?_append_left hkn] at hs
        exact hs
      by_cases e : k = n
      · subst e
        rw [cl, hold]
        exact rowS_mem _ _ _ hc
      · exact (cl_pre A classes n).subset (cl_closed (by omega) hold c hc)
    · have hn : (cl A classes n)[n]? = none := List.getElem?_eq_none (by omega)
      rw [cl_len hn, List.getElem?_eq_none (by omega)] at hs
      cases hs

/-- where a row takes it -/
def runA (A : Auto σ) : σ → List Nat → σ
  | s, [] => s
  | s, c :: t => runA A (A.step s c) t

theorem runA_snoc (A : Auto σ) : ∀ (t : List Nat) (s : σ) (c : Nat), runA A s (t ++ [c]) = A.step (runA A s t) c
  | [], _, _ => rfl
  | d :: t, s, c => runA_snoc A t (A.step s d) c

/-- all of the list is met by some row -/
theorem rowS_met (A : Auto σ) (classes : Nat) (s : σ) (l : List σ) : ∀ k, k ≤ classes → ∀ x ∈ rowS A s l k, x ∈ l ∨ ∃ c, c < classes ∧ x = A.step s c
  | 0, _, x, h => .inl h
  | k + 1, hk, x, h => by
    rw [rowS] at h
    unfold putS at h
    split at h
    · exact rowS_met A classes s l k (by omega) x h
    · rcases List.mem_append.1 h with h | h
      · exact rowS_met A classes s l k (by omega) x h
      · exact .inr ⟨k, by omega, List.mem_singleton.1 h⟩
theorem cl_met (A : Auto σ) (classes : Nat) : ∀ n, ∀ x ∈ cl A classes n, ∃ t : List Nat, (∀ c ∈ t, c < classes) ∧ x = runA A A.start t
  | 0, x, h => ⟨[], by simp, by rw [cl] at h; exact List.mem_singleton.1 h⟩
  | n + 1, x, h => by
    rw [cl] at h
    split at h
    · rename_i s hs
      rcases rowS_met A classes s _ classes (Nat.le_refl _) x h with h | ⟨c, hc, rfl⟩
      · exact cl_met A classes n x h
      · obtain ⟨t, h1, h2⟩ := cl_met A classes n s (List.mem_of_getElem? hs)
        exact ⟨t ++ [c], fun d hd => by rcases List.mem_append.1 hd with hd | hd; exact h1 d hd; rw [List.mem_singleton.1 hd]; exact hc, by rw [runA_snoc, h2]⟩
    · exact cl_met A classes n x h

/-- the list of all: each row stays in it -/
theorem over_run {A : Auto σ} {classes n : Nat} (h : Over A classes n) (t : List Nat) (ht : ∀ c ∈ t, c < classes) : ∀ {s}, s ∈ cl A classes n → runA A s t ∈ cl A classes n := by
  induction t with
  | nil => intro s hs; exact hs
  | cons c t ih =>
    intro s hs
    obtain ⟨k, hk, e⟩ := List.getElem_of_mem hs
    exact ih (fun d hd => ht d (by simp [hd])) (cl_closed (k := k) (by unfold Over at h; omega) (by rw [List.getElem?_eq_getElem hk, e]) c (ht c (by simp)))

/-- A MAP OF AUTOMATA that tells apart what is met: the lists go together. -/
structure Hom (A : Auto σ) (B : Auto τ) (classes : Nat) (f : σ → τ) : Prop where
  start : f A.start = B.start
  step : ∀ t : List Nat, (∀ c ∈ t, c < classes) → ∀ c, c < classes → f (A.step (runA A A.start t) c) = B.step (f (runA A A.start t)) c
  inj : ∀ t u : List Nat, (∀ c ∈ t, c < classes) → (∀ c ∈ u, c < classes) → f (runA A A.start t) = f (runA A A.start u) → runA A A.start t = runA A A.start u

def MetA (A : Auto σ) (classes : Nat) (s : σ) : Prop := ∃ t : List Nat, (∀ c ∈ t, c < classes) ∧ s = runA A A.start t
theorem MetA.step {A : Auto σ} {classes : Nat} {s : σ} (h : MetA A classes s) {c : Nat} (hc : c < classes) : MetA A classes (A.step s c) := by
  obtain ⟨t, h1, rfl⟩ := h
  exact ⟨t ++ [c], fun d hd => by rcases List.mem_append.1 hd with hd | hd; exact h1 d hd; rw [List.mem_singleton.1 hd]; exact hc, by rw [runA_snoc]⟩

theorem put_map {A : Auto σ} {B : Auto τ} {classes : Nat} {f : σ → τ} (H : Hom A B classes f) {l : List σ} {s : σ} (hl : ∀ x ∈ l, MetA A classes x) (hs : MetA A classes s) : (putS l s).map f = putS (l.map f) (f s) := by
  unfold putS
  by_cases h : s ∈ l
  · rw [if_pos h, if_pos (List.mem_map_of_mem h)]
  · rw [if_neg h, if_neg, List.map_append]
    · rfl
    · intro hm
      obtain ⟨x, hx, e⟩ := List.mem_map.1 hm
      obtain ⟨t, ht, rfl⟩ := hl x hx
      obtain ⟨u, hu, rfl⟩ := hs
      exact h (H.inj t u ht hu e ▸ hx)
theorem put_all {A : Auto σ} {classes : Nat} {l : List σ} {s : σ} (hl : ∀ x ∈ l, MetA A classes x) (hs : MetA A classes s) : ∀ x ∈ putS l s, MetA A classes x := by
  unfold putS
  split
  · exact hl
  · intro x hx
    rcases List.mem_append.1 hx with hx | hx
    · exact hl x hx
    · rw [List.mem_singleton.1 hx]; exact hs

theorem row_map {A : Auto σ} {B : Auto τ} {classes : Nat} {f : σ → τ} (H : Hom A B classes f) {s : σ} (hs : MetA A classes s) {l : List σ} (hl : ∀ x ∈ l, MetA A classes x) : ∀ k, k ≤ classes → (rowS A s l k).map f = rowS B (f s) (l.map f) k ∧ ∀ x ∈ rowS A s l k, MetA A classes x
  | 0, _ => ⟨rfl, hl⟩
  | k + 1, hk => by
    obtain ⟨h1, h2⟩ := row_map H hs hl k (by omega)
    have hm := hs.step (show k < classes by omega)
    rw [rowS, rowS, put_map H h2 hm, h1]
    refine ⟨?_, put_all h2 hm⟩
    obtain ⟨t, ht, rfl⟩ := hs
    rw [H.step t ht k (by omega)]

theorem cl_map {A : Auto σ} {B : Auto τ} {classes : Nat} {f : σ → τ} (H : Hom A B classes f) : ∀ n, (cl A classes n).map f = cl B classes n ∧ ∀ x ∈ cl A classes n, MetA A classes x
  | 0 => ⟨by simp [cl, H.start], fun x hx => ⟨[], by simp, by rw [cl] at hx; exact List.mem_singleton.1 hx⟩⟩
  | n + 1 => by
    obtain ⟨h1, h2⟩ := cl_map H n
    rw [cl, cl, ← h1, List.getElem?_map]
    cases hs : (cl A classes n)[n]? with
    | none => exact ⟨rfl, h2⟩
    | some s => exact row_map H (h2 s (List.mem_of_getElem? hs)) h2 classes (Nat.le_refl _)

end
end Go.Proofs.Ythmaokjhncokdaa

/-
  dfa, plain: numbers by the order in which things are met; states that tell the same. No program, no condition beyond what each theorem names.
-/
set_option linter.unusedVariables false
set_option linter.unusedSimpArgs false
namespace Go.Proofs.Ythmaokjhncokdaa
open Classical

section
variable {σ τ : Type}

/-- a list without what is there already -/
noncomputable def distinct (l : List σ) : List σ := l.foldl putS []
theorem distinct_snoc (l : List σ) (x : σ) : distinct (l ++ [x]) = putS (distinct l) x := by simp [distinct, List.foldl_append]

theorem put_mem_iff {l : List σ} {s x : σ} : x ∈ putS l s ↔ x ∈ l ∨ x = s := by
  unfold putS
  split
  · rename_i h
    constructor
    · exact .inl
    · rintro (h1 | rfl)
      · exact h1
      · exact h
  · simp
theorem fold_put_mem {x : σ} : ∀ (l m : List σ), x ∈ l.foldl putS m ↔ x ∈ m ∨ x ∈ l
  | [], m => by simp
  | y :: l, m => by rw [List.foldl_cons, fold_put_mem l, put_mem_iff, List.mem_cons, or_assoc]
theorem distinct_mem {l : List σ} {x : σ} : x ∈ distinct l ↔ x ∈ l := by rw [distinct, fold_put_mem]; simp
theorem fold_put_nodup : ∀ (l m : List σ), m.Nodup → (l.foldl putS m).Nodup
  | [], m, h => h
  | y :: l, m, h => fold_put_nodup l _ (putS_nodup h)
theorem distinct_nodup (l : List σ) : (distinct l).Nodup := fold_put_nodup l [] (by simp)
theorem fold_put_pre : ∀ (l m : List σ), m <+: l.foldl putS m
  | [], m => List.prefix_refl _
  | y :: l, m => (putS_pre m y).trans (fold_put_pre l _)
theorem distinct_pre (l m : List σ) : distinct l <+: distinct (l ++ m) := by
  rw [distinct, distinct, List.foldl_append]
  exact fold_put_pre m _

theorem place_inj {l : List σ} {x y : σ} (hx : x ∈ l) (hy : y ∈ l) (h : place l x = place l y) : x = y := by
  have h1 := place_get hx
  have h2 := place_get hy
  rw [h, h2] at h1
  exact (Option.some.inj h1).symm

/-- of each its number -/
noncomputable def nums (l : List σ) : List Nat := l.map (place (distinct l))
theorem nums_length (l : List σ) : (nums l).length = l.length := by simp [nums]
theorem nums_get {l : List σ} {i : Nat} (h : i < l.length) : (nums l)[i]'(by rw [nums_length]; exact h) = place (distinct l) l[i] := by simp [nums]
theorem nums_lt {l : List σ} {i : Nat} (h : i < l.length) : (nums l)[i]'(by rw [nums_length]; exact h) < (distinct l).length := by
  rw [nums_get h]; exact place_lt (distinct_mem.2 (List.getElem_mem h))
theorem nums_eq {l : List σ} {i j : Nat} (hi : i < l.length) (hj : j < l.length) : (nums l)[i]'(by rw [nums_length]; exact hi) = (nums l)[j]'(by rw [nums_length]; exact hj) ↔ l[i] = l[j] := by
  rw [nums_get hi, nums_get hj]
  exact ⟨place_inj (distinct_mem.2 (List.getElem_mem hi)) (distinct_mem.2 (List.getElem_mem hj)), fun h => by rw [h]⟩
/-- the number is known as soon as it is met -/
theorem nums_take {l : List σ} {i : Nat} (h : i < l.length) : place (distinct (l.take i)) l[i] = (nums l)[i]'(by rw [nums_length]; exact h) := by
  rw [nums_get h]
  have e : l = l.take (i + 1) ++ l.drop (i + 1) := (List.take_append_drop _ _).symm
  have h1 : distinct (l.take (i + 1)) = putS (distinct (l.take i)) l[i] := by rw [List.take_succ_eq_append_getElem h, distinct_snoc]
  have h2 : place (distinct l) l[i] = place (distinct (l.take (i + 1))) l[i] := by
    have hp := distinct_pre (l.take (i + 1)) (l.drop (i + 1))
    rw [← e] at hp
    exact place_pre hp (by rw [h1]; exact putS_mem _ _)
  rw [h2, h1, place_put]

theorem sub_len : ∀ (d l : List σ), d.Nodup → (∀ x ∈ d, x ∈ l) → d.length ≤ l.length
  | [], l, _, _ => by simp
  | y :: d, l, hn, hs => by
    rw [List.nodup_cons] at hn
    have hy := hs y (by simp)
    have h := sub_len d (l.erase y) hn.2 (fun x hx => (List.mem_erase_of_ne (fun e => hn.1 (by rw [← e]; exact hx))).2 (hs x (by simp [hx])))
    rw [List.length_erase_of_mem hy] at h
    have := List.length_pos_of_mem hy
    simp only [List.length_cons]
    omega

/-- a map onto as many tells all apart -/
theorem onto_inj {d : List σ} {e : List τ} (g : σ → τ) (hd : d.Nodup) (he : e.Nodup) (hlen : d.length ≤ e.length) (honto : ∀ y ∈ e, ∃ x ∈ d, g x = y) {x x' : σ} (hx : x ∈ d) (hx' : x' ∈ d) (h : g x = g x') : x = x' := by
  by_cases hne : x = x'
  · exact hne
  · have h1 : ∀ y ∈ e, y ∈ (d.erase x).map g := fun y hy => by
      obtain ⟨z, hz, rfl⟩ := honto y hy
      by_cases hzx : z = x
      · subst hzx
        exact List.mem_map.2 ⟨x', (List.mem_erase_of_ne (fun e => hne e.symm)).2 hx', h.symm⟩
      · exact List.mem_map.2 ⟨z, (List.mem_erase_of_ne hzx).2 hz, rfl⟩
    have h2 := sub_len e _ he h1
    rw [List.length_map, List.length_erase_of_mem hx] at h2
    have := List.length_pos_of_mem hx
    omega

/-- If one list of keys tells apart all that the other does, and tells no more values apart: they tell the same apart. -/
theorem nums_stable {l : List σ} {m : List τ} (hlen : l.length = m.length) (hfine : ∀ i j (hi : i < l.length) (hj : j < l.length), l[i] = l[j] → m[i]'(by omega) = m[j]'(by omega)) (hc : (distinct l).length ≤ (distinct m).length) :
    ∀ i j (hi : i < l.length) (hj : j < l.length), m[i]'(by omega) = m[j]'(by omega) → l[i] = l[j] := by
  intro i j hi hj h
  have hpos : 0 < m.length := by omega
  let g : σ → τ := fun x => if hx : x ∈ l then m[place l x]'(by have := place_lt hx; omega) else m[0]
  have hg : ∀ k (hk : k < l.length), g l[k] = m[k]'(by omega) := fun k hk => by
    have hx : l[k] ∈ l := List.getElem_mem hk
    have h1 := place_get hx
    have h2 := place_lt hx
    rw [List.getElem?_eq_getElem h2] at h1
    show (if hx : l[k] ∈ l then m[place l l[k]]'(by have := place_lt hx; omega) else m[0]) = _
    rw [dif_pos hx]
    exact hfine _ _ h2 hk (Option.some.inj h1)
  refine onto_inj g (distinct_nodup l) (distinct_nodup m) hc (fun y hy => ?_) (distinct_mem.2 (List.getElem_mem hi)) (distinct_mem.2 (List.getElem_mem hj)) (by rw [hg i hi, hg j hj, h])
  obtain ⟨k, hk, rfl⟩ := List.getElem_of_mem (distinct_mem.1 hy)
  exact ⟨l[k]'(by omega), distinct_mem.2 (List.getElem_mem _), hg k (by omega)⟩

end
end Go.Proofs.Ythmaokjhncokdaa

/-
  dfa, plain: states that tell the same of all rows. No program, no condition beyond what each theorem names.
-/
set_option linter.unusedVariables false
set_option linter.unusedSimpArgs false
namespace Go.Proofs.Ythmaokjhncokdaa
open Classical

section
variable {β σ τ : Type}

theorem nodup_map_on {f : σ → τ} : ∀ {l : List σ}, l.Nodup → (∀ x ∈ l, ∀ y ∈ l, f x = f y → x = y) → (l.map f).Nodup
  | [], _, _ => by simp
  | x :: l, h, hf => by
    rw [List.nodup_cons] at h
    rw [List.map_cons, List.nodup_cons]
    refine ⟨fun hm => ?_, nodup_map_on h.2 (fun a ha b hb => hf a (by simp [ha]) b (by simp [hb]))⟩
    obtain ⟨y, hy, e⟩ := List.mem_map.1 hm
    exact h.1 (hf y (by simp [hy]) x (by simp) e ▸ hy)

theorem nums_count (l : List σ) : (distinct l).length ≤ (distinct (nums l)).length := by
  have h1 : ((distinct l).map (place (distinct l))).Nodup := nodup_map_on (distinct_nodup l) (fun x hx y hy => place_inj hx hy)
  have h2 := sub_len _ (distinct (nums l)) h1 (fun n hn => by
    obtain ⟨x, hx, rfl⟩ := List.mem_map.1 hn
    exact distinct_mem.2 (List.mem_map.2 ⟨x, distinct_mem.1 hx, rfl⟩))
  rwa [List.length_map] at h2

def at0 (p : List Nat) (i : Nat) : Nat := p[i]?.getD 0

/-- of each state its number and those of where it goes -/
def keysL (N : List (List Nat)) (p : List Nat) : List (List Nat) := N.mapIdx fun i row => at0 p i :: row.map (at0 p)

/-- the ways are of states that there are -/
structure OkN (N : List (List Nat)) (O : List β) (classes : Nat) : Prop where
  len : N.length = O.length
  row : ∀ r ∈ N, r.length = classes ∧ ∀ n ∈ r, n < N.length

/-- where a class leads -/
def goN (N : List (List Nat)) (i c : Nat) : Nat := at0 (N[i]?.getD []) c
def runN (N : List (List Nat)) : Nat → List Nat → Nat
  | i, [] => i
  | i, c :: t => runN N (goN N i c) t

theorem OkN.go {N : List (List Nat)} {O : List β} {classes i c : Nat} (h : OkN N O classes) (hi : i < N.length) (hc : c < classes) : goN N i c < N.length := by
  unfold goN at0
  rw [List.getElem?_eq_getElem hi]
  have hr := h.row _ (List.getElem_mem hi)
  have hc' : c < N[i].length := by rw [hr.1]; exact hc
  simp only [Option.getD_some]
  rw [List.getElem?_eq_getElem hc']
  exact hr.2 _ (List.getElem_mem hc')

/-- the numbers, k times made finer -/
noncomputable def partsN (N : List (List Nat)) (O : List β) : Nat → List Nat
  | 0 => nums O
  | k + 1 => nums (keysL N (partsN N O k))

theorem keysL_length (N : List (List Nat)) (p : List Nat) : (keysL N p).length = N.length := by simp [keysL]
theorem partsN_length {N : List (List Nat)} {O : List β} {classes : Nat} (h : OkN N O classes) : ∀ k, (partsN N O k).length = N.length
  | 0 => by rw [partsN, nums_length, h.len]
  | k + 1 => by rw [partsN, nums_length, keysL_length]

theorem keysL_get {N : List (List Nat)} {p : List Nat} {i : Nat} (hi : i < N.length) : (keysL N p)[i]'(by rw [keysL_length]; exact hi) = at0 p i :: N[i].map (at0 p) := by simp [keysL]

theorem keys_eq {N : List (List Nat)} {O : List β} {classes : Nat} (h : OkN N O classes) {p : List Nat} {i j : Nat} (hi : i < N.length) (hj : j < N.length) :
    (keysL N p)[i]'(by rw [keysL_length]; exact hi) = (keysL N p)[j]'(by rw [keysL_length]; exact hj) ↔ at0 p i = at0 p j ∧ ∀ c, c < classes → at0 p (goN N i c) = at0 p (goN N j c) := by
  rw [keysL_get hi, keysL_get hj, List.cons.injEq]
  have ri := h.row _ (List.getElem_mem hi)
  have rj := h.row _ (List.getElem_mem hj)
  have e : ∀ k (hk : k < N.length) c, c < classes → (N[k].map (at0 p))[c]? = some (at0 p (goN N k c)) := fun k hk c hc => by
    have rk := h.row _ (List.getElem_mem hk)
    have hc' : c < N[k].length := by rw [rk.1]; exact hc
    unfold goN
    rw [List.getElem?_map, List.getElem?_eq_getElem hk, Option.getD_some]
    show _ = some (at0 p (N[k][c]?.getD 0))
    rw [List.getElem?_eq_getElem hc']
    rfl
  refine and_congr_right fun _ => ⟨fun hm c hc => ?_, fun hm => ?_⟩
  · have h1 := e i hi c hc
    rw [hm, e j hj c hc] at h1
    exact (Option.some.inj h1).symm
  · apply List.ext_getElem?
    intro c
    by_cases hc : c < classes
    · rw [e i hi c hc, e j hj c hc, hm c hc]
    · rw [List.getElem?_eq_none (by rw [List.length_map, ri.1]; omega), List.getElem?_eq_none (by rw [List.length_map, rj.1]; omega)]

theorem at0_nums {l : List σ} {i j : Nat} (hi : i < l.length) (hj : j < l.length) : at0 (nums l) i = at0 (nums l) j ↔ l[i] = l[j] := by
  unfold at0
  rw [List.getElem?_eq_getElem (by rw [nums_length]; exact hi), List.getElem?_eq_getElem (by rw [nums_length]; exact hj)]
  exact nums_eq hi hj

theorem parts_succ {N : List (List Nat)} {O : List β} {classes : Nat} (h : OkN N O classes) (k : Nat) {i j : Nat} (hi : i < N.length) (hj : j < N.length) :
    at0 (partsN N O (k + 1)) i = at0 (partsN N O (k + 1)) j ↔ at0 (partsN N O k) i = at0 (partsN N O k) j ∧ ∀ c, c < classes → at0 (partsN N O k) (goN N i c) = at0 (partsN N O k) (goN N j c) := by
  rw [partsN, at0_nums (by rw [keysL_length]; exact hi) (by rw [keysL_length]; exact hj)]
  exact keys_eq h hi hj

/-- the numbers tell apart what rows so long tell apart -/
theorem parts_iff {N : List (List Nat)} {O : List β} {classes : Nat} (h : OkN N O classes) : ∀ (k : Nat) {i j : Nat}, i < N.length → j < N.length →
    (at0 (partsN N O k) i = at0 (partsN N O k) j ↔ ∀ t : List Nat, t.length ≤ k → (∀ c ∈ t, c < classes) → O[runN N i t]? = O[runN N j t]?)
  | 0, i, j, hi, hj => by
    have hio : i < O.length := by rw [← h.len]; exact hi
    have hjo : j < O.length := by rw [← h.len]; exact hj
    rw [partsN, at0_nums hio hjo]
    constructor
    · intro e t ht _
      obtain rfl : t = [] := List.eq_nil_of_length_eq_zero (by omega)
      rw [runN, runN, List.getElem?_eq_getElem hio, List.getElem?_eq_getElem hjo, e]
    · intro e
      have := e [] (by simp) (by simp)
      rw [runN, runN, List.getElem?_eq_getElem hio, List.getElem?_eq_getElem hjo] at this
      exact Option.some.inj this
  | k + 1, i, j, hi, hj => by
    rw [parts_succ h k hi hj, parts_iff h k hi hj]
    constructor
    · rintro ⟨h1, h2⟩ t ht hc
      cases t with
      | nil => exact h1 [] (by simp) hc
      | cons c t =>
        have hcc := hc c (by simp)
        simp only [List.length_cons] at ht
        exact (parts_iff h k (h.go hi hcc) (h.go hj hcc)).1 (h2 c hcc) t (by omega) (fun d hd => hc d (by simp [hd]))
    · intro h1
      refine ⟨fun t ht hc => h1 t (by omega) hc, fun c hcc => (parts_iff h k (h.go hi hcc) (h.go hj hcc)).2 fun t ht hc => ?_⟩
      exact h1 (c :: t) (by simp; omega) (fun d hd => by rcases List.mem_cons.1 hd with rfl | hd; exact hcc; exact hc d hd)

/-- two states tell the same of all rows -/
def TellSame (N : List (List Nat)) (O : List β) (classes : Nat) (i j : Nat) : Prop := ∀ t : List Nat, (∀ c ∈ t, c < classes) → O[runN N i t]? = O[runN N j t]?

/-- once it is no finer it is the last one -/
theorem parts_last {N : List (List Nat)} {O : List β} {classes k : Nat} (h : OkN N O classes) (hc : (distinct (keysL N (partsN N O k))).length ≤ (distinct (partsN N O k)).length) {i j : Nat} (hi : i < N.length) (hj : j < N.length) :
    at0 (partsN N O k) i = at0 (partsN N O k) j ↔ TellSame N O classes i j := by
  have hl := partsN_length h k
  have hst : ∀ i j, i < N.length → j < N.length → at0 (partsN N O k) i = at0 (partsN N O k) j → at0 (partsN N O (k + 1)) i = at0 (partsN N O (k + 1)) j := fun i j hi hj e => by
    rw [partsN, at0_nums (by rw [keysL_length]; exact hi) (by rw [keysL_length]; exact hj)]
    have hs := nums_stable (l := keysL N (partsN N O k)) (m := partsN N O k) (by rw [keysL_length, hl]) (fun a b ha hb hab => by
      rw [keysL_length] at ha hb
      have := ((keys_eq h ha hb).1 hab).1
      unfold at0 at this
      rwa [List.getElem?_eq_getElem (by omega), List.getElem?_eq_getElem (by omega)] at this) hc
    refine hs i j (by rw [keysL_length]; exact hi) (by rw [keysL_length]; exact hj) ?_
    unfold at0 at e
    rwa [List.getElem?_eq_getElem (by omega), List.getElem?_eq_getElem (by omega)] at e
  constructor
  · intro e t
    induction t generalizing i j with
    | nil => intro hcl; exact (parts_iff h k hi hj).1 e [] (by simp) hcl
    | cons c t ih =>
      intro hcl
      have hcc := hcl c (by simp)
      exact ih (h.go hi hcc) (h.go hj hcc) (((parts_succ h k hi hj).1 (hst i j hi hj e)).2 c hcc) (fun d hd => hcl d (by simp [hd]))
  · intro e
    exact (parts_iff h k hi hj).2 fun t _ hcl => e t hcl

end
end Go.Proofs.Ythmaokjhncokdaa

/-
  dfa, plain: the machine of a language; the machine of all situations tells the automaton's language. No program, no condition beyond what each theorem names.
-/
set_option linter.unusedVariables false
set_option linter.unusedSimpArgs false
namespace Go.Proofs.Ythmaokjhncokdaa
open Classical

section
variable {α β σ τ : Type}

/-- the place of one by one mark is that by another mark, if both tell apart the same -/
theorem place_map {f : α → σ} {g : α → τ} {x : α} : ∀ {l : List α}, (∀ y ∈ l, f y = f x ↔ g y = g x) → place (l.map f) (f x) = place (l.map g) (g x)
  | [], _ => rfl
  | y :: l, h => by
    have h1 := h y (by simp)
    have h2 := place_map (l := l) (fun z hz => h z (by simp [hz]))
    unfold place at *
    rw [List.map_cons, List.map_cons, List.findIdx_cons, List.findIdx_cons, h2]
    by_cases e : f y = f x
    · simp [e, h1.1 e]
    · have e2 : ¬ g y = g x := fun e2 => e (h1.2 e2)
      simp [e, e2]
theorem mem_map_iff {f : α → σ} {g : α → τ} {x : α} {l : List α} (h : ∀ y ∈ l, f y = f x ↔ g y = g x) : f x ∈ l.map f ↔ g x ∈ l.map g := by
  constructor
  · intro hm
    obtain ⟨y, hy, e⟩ := List.mem_map.1 hm
    exact List.mem_map.2 ⟨y, hy, (h y hy).1 e⟩
  · intro hm
    obtain ⟨y, hy, e⟩ := List.mem_map.1 hm
    exact List.mem_map.2 ⟨y, hy, (h y hy).2 e⟩

/-- languages: what is told behind each row -/
def langAuto (l0 : List Nat → Option β) : Auto (List Nat → Option β) := ⟨l0, fun l c t => l (c :: t)⟩

theorem runLang (l0 : List Nat → Option β) : ∀ (t : List Nat) (l : List Nat → Option β) (u : List Nat), runA (langAuto l0) l t u = l (t ++ u)
  | [], _, _ => rfl
  | c :: t, l, u => by
    show runA (langAuto l0) (fun t => l (c :: t)) t u = _
    rw [runLang l0 t]
    rfl

/-- what an automaton tells from a situation on -/
noncomputable def langA (A : Auto σ) (out : σ → β) (classes : Nat) (s : σ) : List Nat → Option β := fun t => if ∀ c ∈ t, c < classes then some (out (runA A s t)) else none
theorem langA_step (A : Auto σ) (out : σ → β) {classes c : Nat} (hc : c < classes) (s : σ) : langA A out classes (A.step s c) = fun t => langA A out classes s (c :: t) := by
  funext t
  unfold langA
  by_cases h : ∀ d ∈ t, d < classes
  · rw [if_pos h, if_pos (fun d hd => by rcases List.mem_cons.1 hd with rfl | hd; exact hc; exact h d hd)]
    rfl
  · rw [if_neg h, if_neg (fun h2 => h (fun d hd => h2 d (by simp [hd])))]

/-- what a machine tells from a state on -/
noncomputable def langN (N : List (List Nat)) (O : List β) (classes i : Nat) : List Nat → Option β := fun t => if ∀ c ∈ t, c < classes then O[runN N i t]? else none
theorem langN_step (N : List (List Nat)) (O : List β) {classes c : Nat} (hc : c < classes) (i : Nat) : langN N O classes (goN N i c) = fun t => langN N O classes i (c :: t) := by
  funext t
  unfold langN
  by_cases h : ∀ d ∈ t, d < classes
  · rw [if_pos h, if_pos (fun d hd => by rcases List.mem_cons.1 hd with rfl | hd; exact hc; exact h d hd)]
    rfl
  · rw [if_neg h, if_neg (fun h2 => h (fun d hd => h2 d (by simp [hd])))]
theorem langN_eq {N : List (List Nat)} {O : List β} {classes i j : Nat} : langN N O classes i = langN N O classes j ↔ TellSame N O classes i j := by
  constructor
  · intro h t ht
    have := congrFun h t
    unfold langN at this
    rwa [if_pos ht, if_pos ht] at this
  · intro h
    funext t
    unfold langN
    by_cases ht : ∀ c ∈ t, c < classes
    · rw [if_pos ht, if_pos ht, h t ht]
    · rw [if_neg ht, if_neg ht]

/-- the machine of a list of situations -/
noncomputable def nextsOf (A : Auto σ) (classes : Nat) (L : List σ) : List (List Nat) := L.map fun s => (List.range classes).map fun c => place L (A.step s c)

theorem nextsOf_go {A : Auto σ} {classes i c : Nat} {L : List σ} {s : σ} (hs : L[i]? = some s) (hc : c < classes) : goN (nextsOf A classes L) i c = place L (A.step s c) := by
  unfold goN at0 nextsOf
  rw [List.getElem?_map, hs]
  simp [hc]

theorem okN_of {A : Auto σ} {classes : Nat} {L : List σ} (out : σ → β) (hcl : ∀ s ∈ L, ∀ c, c < classes → A.step s c ∈ L) : OkN (nextsOf A classes L) (L.map out) classes where
  len := by simp [nextsOf]
  row := fun r hr => by
    obtain ⟨s, hs, rfl⟩ := List.mem_map.1 hr
    refine ⟨by simp, fun n hn => ?_⟩
    obtain ⟨c, hc, rfl⟩ := List.mem_map.1 hn
    rw [nextsOf, List.length_map]
    exact place_lt (hcl s hs c (List.mem_range.1 hc))

/-- the machine of all situations tells what the automaton tells -/
theorem langN_all {A : Auto σ} {classes : Nat} {L : List σ} (out : σ → β) (hcl : ∀ s ∈ L, ∀ c, c < classes → A.step s c ∈ L) : ∀ {i : Nat} {s : σ}, L[i]? = some s → langN (nextsOf A classes L) (L.map out) classes i = langA A out classes s := by
  intro i s hs
  funext t
  unfold langN langA
  by_cases ht : ∀ c ∈ t, c < classes
  · rw [if_pos ht, if_pos ht]
    induction t generalizing i s with
    | nil =>
      show (L.map out)[i]? = _
      rw [List.getElem?_map, hs]
      rfl
    | cons c t ih =>
      have hc := ht c (by simp)
      have hm := hcl s (List.mem_of_getElem? hs) c hc
      show (L.map out)[runN _ (goN _ i c) t]? = _
      rw [nextsOf_go hs hc]
      exact ih (place_get hm) (fun d hd => ht d (by simp [hd]))
  · rw [if_neg ht, if_neg ht]

theorem over_closed {A : Auto σ} {classes n : Nat} (h : Over A classes n) : ∀ s ∈ cl A classes n, ∀ c, c < classes → A.step s c ∈ cl A classes n := fun s hs c hc => by
  obtain ⟨k, hk, e⟩ := List.getElem_of_mem hs
  exact cl_closed (k := k) (by unfold Over at h; omega) (by rw [List.getElem?_eq_getElem hk, e]) c hc

/-- the languages of a machine's states are no more than its states -/
theorem lang_over {N : List (List Nat)} {O : List β} {classes i : Nat} (h : OkN N O classes) (hi : i < N.length) : Over (langAuto (langN N O classes i)) classes N.length := by
  have hmet : ∀ l ∈ cl (langAuto (langN N O classes i)) classes N.length, l ∈ (List.range N.length).map (langN N O classes) := fun l hl => by
    obtain ⟨t, ht, rfl⟩ := cl_met _ _ _ l hl
    have key : ∀ (t : List Nat) (j : Nat), j < N.length → (∀ c ∈ t, c < classes) → ∃ k, k < N.length ∧ runA (langAuto (langN N O classes i)) (langN N O classes j) t = langN N O classes k := fun t => by
      induction t with
      | nil => intro j hj _; exact ⟨j, hj, rfl⟩
      | cons c t ih =>
        intro j hj hc
        have hcc := hc c (by simp)
        show ∃ k, k < N.length ∧ runA _ (fun u => langN N O classes j (c :: u)) t = _
        rw [← langN_step N O hcc j]
        exact ih _ (h.go hj hcc) (fun d hd => hc d (by simp [hd]))
    obtain ⟨k, hk, e⟩ := key t i hi ht
    exact List.mem_map.2 ⟨k, List.mem_range.2 hk, e.symm⟩
  have := sub_len _ _ (cl_nodup _ _ _) hmet
  rw [List.length_map, List.length_range] at this
  exact this

end
end Go.Proofs.Ythmaokjhncokdaa

/-
  dfa, plain: the machine of a language, numbered as its states are met. No program, no condition beyond what each theorem names.
-/
set_option linter.unusedVariables false
set_option linter.unusedSimpArgs false
namespace Go.Proofs.Ythmaokjhncokdaa
open Classical

section
variable {α β σ τ : Type}

theorem place_le (l : List σ) (s : σ) : place l s ≤ l.length := by
  by_cases h : s ∈ l
  · exact Nat.le_of_lt (place_lt h)
  · rw [place_new h]; exact Nat.le_refl _
theorem place_eq_len {l : List σ} {s : σ} : place l s = l.length ↔ s ∉ l := by
  constructor
  · intro h hm; have := place_lt hm; omega
  · exact place_new
theorem place_own {l : List σ} (hd : l.Nodup) {i : Nat} (hi : i < l.length) : place l l[i] = i := by
  have h1 := place_get (List.getElem_mem hi)
  have h2 := place_lt (List.getElem_mem hi)
  rw [List.getElem?_eq_getElem h2] at h1
  have h3 := Option.some.inj h1
  by_cases h : place l l[i] = i
  · exact h
  · exfalso
    rw [List.nodup_iff_pairwise_ne, List.pairwise_iff_getElem] at hd
    rcases Nat.lt_or_gt_of_ne h with h4 | h4
    · exact hd _ _ h2 hi h4 h3
    · exact hd _ _ hi h2 h4 h3.symm
theorem put_length (l : List σ) (s : σ) : (putS l s).length = if place l s = l.length then l.length + 1 else l.length := by
  by_cases h : s ∈ l
  · rw [if_neg (fun e => place_eq_len.1 e h), putS, if_pos h]
  · rw [if_pos (place_new h), putS, if_neg h, List.length_append]; rfl

theorem rowS_mono (A : Auto σ) (s : σ) (l : List σ) {k : Nat} : ∀ {m : Nat}, k ≤ m → rowS A s l k <+: rowS A s l m
  | 0, h => by obtain rfl : k = 0 := by omega
               exact List.prefix_refl _
  | m + 1, h => by
    by_cases e : k = m + 1
    · subst e; exact List.prefix_refl _
    · exact (rowS_mono A s l (by omega : k ≤ m)).trans (putS_pre _ _)

/-- a way's number is known as soon as it is met -/
theorem row_place {A : Auto σ} {classes n c : Nat} {s : σ} (hs : (cl A classes n)[n]? = some s) (hc : c < classes) {L : List σ} (hL : cl A classes (n + 1) <+: L) :
    place L (A.step s c) = place (rowS A s (cl A classes n) c) (A.step s c) := by
  have e : cl A classes (n + 1) = rowS A s (cl A classes n) classes := by rw [cl, hs]
  rw [e] at hL
  have h1 : rowS A s (cl A classes n) (c + 1) <+: L := (rowS_mono A s _ (by omega)).trans hL
  rw [place_pre h1 (rowS_mem A s _ (by omega)), rowS, place_put]

theorem over_get {A : Auto σ} {classes n i : Nat} {s : σ} (h : Over A classes n) (hs : (cl A classes n)[i]? = some s) : (cl A classes i)[i]? = some s := by
  have hi : i < (cl A classes n).length := (List.getElem?_eq_some_iff.1 hs).1
  by_cases hl : i < (cl A classes i).length
  · have hin : i ≤ n := by unfold Over at h; omega
    obtain ⟨r, e⟩ := cl_mono A classes hin
    rw [← e, List.getElem?_append_left hl] at hs
    exact hs
  · have ho : Over A classes i := by unfold Over; omega
    have hin : i ≤ n := by unfold Over at h; omega
    rw [over_mono ho hin] at hi
    omega

/-- nothing is behind the last stage -/
theorem over_same {A : Auto σ} {classes m n : Nat} (hm : Over A classes m) (hn : Over A classes n) : cl A classes m = cl A classes n := by
  by_cases h : m ≤ n
  · exact (over_mono hm h).symm
  · exact over_mono hn (by omega)

/-- THE MACHINE OF A LANGUAGE, of which n stages are enough -/
noncomputable def canonL (l0 : List Nat → Option β) (classes n : Nat) : List (List Nat → Option β) := cl (langAuto l0) classes n
noncomputable def canonNext (l0 : List Nat → Option β) (classes n : Nat) : List (List Nat) := nextsOf (langAuto l0) classes (canonL l0 classes n)
noncomputable def canonOut (l0 : List Nat → Option β) (classes n : Nat) : List (Option β) := (canonL l0 classes n).map fun l => l []

theorem canon_same {l0 : List Nat → Option β} {classes m n : Nat} (hm : Over (langAuto l0) classes m) (hn : Over (langAuto l0) classes n) : canonNext l0 classes m = canonNext l0 classes n ∧ canonOut l0 classes m = canonOut l0 classes n := by
  have e : canonL l0 classes m = canonL l0 classes n := over_same hm hn
  exact ⟨by rw [canonNext, canonNext, e], by rw [canonOut, canonOut, e]⟩

/-- where a row takes the machine of a language, it tells what the language tells -/
theorem canon_tells {l0 : List Nat → Option β} {classes n : Nat} (h : Over (langAuto l0) classes n) (t : List Nat) (ht : ∀ c ∈ t, c < classes) {i : Nat} {l : List Nat → Option β} (hi : (canonL l0 classes n)[i]? = some l) :
    (canonOut l0 classes n)[runN (canonNext l0 classes n) i t]? = some (l t) := by
  have h1 := congrFun (langN_all (A := langAuto l0) (classes := classes) (L := canonL l0 classes n) (fun l => l []) (over_closed h) hi) t
  unfold langN langA at h1
  rw [if_pos ht, if_pos ht] at h1
  have h2 := runLang l0 t l []
  rw [List.append_nil] at h2
  refine Eq.trans h1 ?_
  show some (runA (langAuto l0) l t []) = some (l t)
  rw [h2]

/-- two states of the machine of a language tell apart by a row -/
theorem canon_apart {l0 : List Nat → Option β} {classes n : Nat} (h : Over (langAuto l0) classes n) (h0 : ∀ t, (¬ ∀ c ∈ t, c < classes) → l0 t = none) {i j : Nat} (hi : i < (canonL l0 classes n).length) (hj : j < (canonL l0 classes n).length)
    (ha : TellSame (canonNext l0 classes n) (canonOut l0 classes n) classes i j) : i = j := by
  have hnone : ∀ l ∈ canonL l0 classes n, ∀ t, (¬ ∀ c ∈ t, c < classes) → l t = none := fun l hl t ht => by
    obtain ⟨u, hu, rfl⟩ := cl_met _ _ _ l hl
    show runA (langAuto l0) l0 u t = none
    rw [runLang]
    exact h0 _ (fun h2 => ht (fun c hc => h2 c (List.mem_append.2 (.inr hc))))
  have e : (canonL l0 classes n)[i] = (canonL l0 classes n)[j] := by
    funext t
    by_cases ht : ∀ c ∈ t, c < classes
    · have h1 := ha t ht
      rw [canon_tells h t ht (List.getElem?_eq_getElem hi), canon_tells h t ht (List.getElem?_eq_getElem hj)] at h1
      exact Option.some.inj h1
    · rw [hnone _ (List.getElem_mem hi) t ht, hnone _ (List.getElem_mem hj) t ht]
  have hd := cl_nodup (langAuto l0) classes n
  have p1 : place (canonL l0 classes n) (canonL l0 classes n)[i] = i := place_own hd hi
  have p2 : place (canonL l0 classes n) (canonL l0 classes n)[j] = j := place_own hd hj
  rw [← p1, ← p2, e]

end
end Go.Proofs.Ythmaokjhncokdaa

/-
  dfa, plain: the least machine is the machine of the language. No program, no condition beyond what each theorem names.
-/
set_option linter.unusedVariables false
set_option linter.unusedSimpArgs false
namespace Go.Proofs.Ythmaokjhncokdaa
open Classical

section
variable {α β σ τ κ : Type}

/-- a list with one more, if none has its mark -/
noncomputable def putK (f : σ → τ) (l : List σ) (s : σ) : List σ := if f s ∈ l.map f then l else l ++ [s]
noncomputable def rowK (A : Auto σ) (f : σ → τ) (s : σ) : List σ → Nat → List σ
  | l, 0 => l
  | l, c + 1 => putK f (rowK A f s l c) (A.step s c)
noncomputable def clK (A : Auto σ) (f : σ → τ) (classes : Nat) : Nat → List σ
  | 0 => [A.start]
  | n + 1 => match (clK A f classes n)[n]? with
    | some s => rowK A f s (clK A f classes n) classes
    | none => clK A f classes n

theorem putK_map (f : σ → τ) (l : List σ) (s : σ) : (putK f l s).map f = putS (l.map f) (f s) := by
  unfold putK putS
  split
  · rfl
  · rw [List.map_append]; rfl
theorem putK_all {f : σ → τ} {P : σ → Prop} {l : List σ} {s : σ} (hl : ∀ x ∈ l, P x) (hs : P s) : ∀ x ∈ putK f l s, P x := by
  unfold putK
  split
  · exact hl
  · intro x hx
    rcases List.mem_append.1 hx with hx | hx
    · exact hl x hx
    · rw [List.mem_singleton.1 hx]; exact hs

/-- what the marks need: the ways go along with them -/
structure Marks (A : Auto σ) (B : Auto τ) (f : σ → τ) (P : σ → Prop) (classes : Nat) : Prop where
  start : f A.start = B.start
  first : P A.start
  stays : ∀ s, P s → ∀ c, c < classes → P (A.step s c)
  step : ∀ s, P s → ∀ c, c < classes → f (A.step s c) = B.step (f s) c

theorem rowK_map {A : Auto σ} {B : Auto τ} {f : σ → τ} {P : σ → Prop} {classes : Nat} (H : Marks A B f P classes) {s : σ} (hs : P s) {l : List σ} (hl : ∀ x ∈ l, P x) : ∀ k, k ≤ classes → (rowK A f s l k).map f = rowS B (f s) (l.map f) k ∧ ∀ x ∈ rowK A f s l k, P x
  | 0, _ => ⟨rfl, hl⟩
  | k + 1, hk => by
    obtain ⟨h1, h2⟩ := rowK_map H hs hl k (by omega)
    rw [rowK, rowS, putK_map, h1, H.step s hs k (by omega)]
    exact ⟨rfl, putK_all h2 (H.stays s hs k (by omega))⟩
theorem clK_map {A : Auto σ} {B : Auto τ} {f : σ → τ} {P : σ → Prop} {classes : Nat} (H : Marks A B f P classes) : ∀ n, (clK A f classes n).map f = cl B classes n ∧ ∀ x ∈ clK A f classes n, P x
  | 0 => ⟨by simp [clK, cl, H.start], fun x hx => by rw [clK] at hx; rw [List.mem_singleton.1 hx]; exact H.first⟩
  | n + 1 => by
    obtain ⟨h1, h2⟩ := clK_map H n
    rw [clK, cl, ← h1, List.getElem?_map]
    cases hs : (clK A f classes n)[n]? with
    | none => exact ⟨rfl, h2⟩
    | some s => exact rowK_map H (h2 s (List.mem_of_getElem? hs)) h2 classes (Nat.le_refl _)

/-- marks that tell apart the same give the same list -/
theorem putK_same {f : σ → τ} {g : σ → κ} {P : σ → Prop} (hfg : ∀ x y, P x → P y → (f x = f y ↔ g x = g y)) {l : List σ} {s : σ} (hl : ∀ x ∈ l, P x) (hs : P s) : putK f l s = putK g l s := by
  unfold putK
  have h := mem_map_iff (f := f) (g := g) (x := s) (l := l) (fun y hy => hfg y s (hl y hy) hs)
  by_cases hm : f s ∈ l.map f
  · rw [if_pos hm, if_pos (h.1 hm)]
  · rw [if_neg hm, if_neg (fun h2 => hm (h.2 h2))]
theorem rowK_same {A : Auto σ} {f : σ → τ} {g : σ → κ} {P : σ → Prop} {classes : Nat} (hfg : ∀ x y, P x → P y → (f x = f y ↔ g x = g y)) (hst : ∀ s, P s → ∀ c, c < classes → P (A.step s c)) {s : σ} (hs : P s) {l : List σ} (hl : ∀ x ∈ l, P x) : ∀ k, k ≤ classes → rowK A f s l k = rowK A g s l k ∧ ∀ x ∈ rowK A g s l k, P x
  | 0, _ => ⟨rfl, hl⟩
  | k + 1, hk => by
    obtain ⟨h1, h2⟩ := rowK_same hfg hst hs hl k (by omega)
    have hm := hst s hs k (by omega)
    rw [rowK, rowK, h1]
    exact ⟨putK_same hfg h2 hm, putK_all h2 hm⟩
theorem clK_same {A : Auto σ} {f : σ → τ} {g : σ → κ} {P : σ → Prop} {classes : Nat} (hfg : ∀ x y, P x → P y → (f x = f y ↔ g x = g y)) (h0 : P A.start) (hst : ∀ s, P s → ∀ c, c < classes → P (A.step s c)) : ∀ n, clK A f classes n = clK A g classes n ∧ ∀ x ∈ clK A g classes n, P x
  | 0 => ⟨rfl, fun x hx => by rw [clK] at hx; rw [List.mem_singleton.1 hx]; exact h0⟩
  | n + 1 => by
    obtain ⟨h1, h2⟩ := clK_same hfg h0 hst n
    rw [clK, clK, h1]
    cases hs : (clK A g classes n)[n]? with
    | none => exact ⟨rfl, h2⟩
    | some s => exact rowK_same hfg hst (h2 s (List.mem_of_getElem? hs)) h2 classes (Nat.le_refl _)

/-- a machine's states as an automaton -/
def autoN (N : List (List Nat)) : Auto Nat := ⟨0, goN N⟩

theorem marksN {N : List (List Nat)} {O : List β} {classes : Nat} (h : OkN N O classes) (h0 : 0 < N.length) : Marks (autoN N) (langAuto (langN N O classes 0)) (langN N O classes) (fun i => i < N.length) classes where
  start := rfl
  first := h0
  stays := fun s hs c hc => h.go hs hc
  step := fun s hs c hc => langN_step N O hc s

/-- THE LEAST MACHINE: of the states met, by what they tell, the ways and what is told are those of the language's machine. -/
theorem least_canon {N : List (List Nat)} {O : List β} {classes : Nat} (h : OkN N O classes) (h0 : 0 < N.length) (n : Nat) (M : List Nat) (hM : M = clK (autoN N) (langN N O classes) classes n) :
    (M.map fun s => (List.range classes).map fun c => place (M.map (langN N O classes)) (langN N O classes (goN N s c))) = canonNext (langN N O classes 0) classes n ∧ (M.map fun s => O[s]?) = canonOut (langN N O classes 0) classes n ∧ ∀ s ∈ M, s < N.length := by
  obtain ⟨h1, h2⟩ := clK_map (marksN h h0) n
  rw [← hM] at h1 h2
  refine ⟨?_, ?_, h2⟩
  · rw [canonNext, canonL, nextsOf, ← h1, List.map_map]
    apply List.map_congr_left
    intro s hs
    apply List.map_congr_left
    intro c hc
    exact congrArg _ ((marksN h h0).step s (h2 s hs) c (List.mem_range.1 hc))
  · rw [canonOut, canonL, ← h1, List.map_map]
    apply List.map_congr_left
    intro s hs
    simp [langN, runN]

end
end Go.Proofs.Ythmaokjhncokdaa

/-
  dfa, plain: what Build comes to. No program, no condition beyond what each theorem names.
-/
set_option linter.unusedVariables false
set_option linter.unusedSimpArgs false
namespace Go.Proofs.Ythmaokjhncokdaa
open Classical

section
variable {α β σ τ κ : Type}

/-- there are more than two thousand situations -/
def TooMany (A : Auto σ) (classes : Nat) : Prop := ∃ n, 2000 < (cl A classes n).length

theorem cl_grows {A : Auto σ} {classes : Nat} {n m : Nat} (h : n ≤ m) : (cl A classes n).length ≤ (cl A classes m).length := (cl_mono A classes h).length_le

/-- as long as there are not too many, two thousand looks are enough -/
theorem over_of_few {A : Auto σ} {classes : Nat} (h : ¬ TooMany A classes) : Over A classes 2000 := by
  unfold Over
  exact Nat.le_of_not_lt fun h2 => h ⟨2000, h2⟩
theorem few_of_over {A : Auto σ} {classes n : Nat} (h : Over A classes n) (hn : (cl A classes n).length ≤ 2000) : ¬ TooMany A classes := by
  rintro ⟨m, hm⟩
  by_cases hmn : m ≤ n
  · have := cl_grows (A := A) (classes := classes) hmn
    omega
  · rw [over_mono h (by omega)] at hm
    omega

/-- automata that go together have as many situations -/
theorem tooMany_hom {A : Auto σ} {B : Auto τ} {classes : Nat} {f : σ → τ} (H : Hom A B classes f) : TooMany A classes ↔ TooMany B classes := by
  unfold TooMany
  constructor
  · rintro ⟨n, h⟩
    exact ⟨n, by rw [← (cl_map H n).1, List.length_map]; exact h⟩
  · rintro ⟨n, h⟩
    exact ⟨n, by rw [← (cl_map H n).1, List.length_map] at h; exact h⟩

/-- the machine of all situations tells the automaton's language -/
theorem all_lang {A : Auto σ} {classes n : Nat} (out : σ → β) (h : Over A classes n) : langN (nextsOf A classes (cl A classes n)) ((cl A classes n).map out) classes 0 = langA A out classes A.start :=
  langN_all out (over_closed h) (cl_start A classes n)
theorem all_ok {A : Auto σ} {classes n : Nat} (out : σ → β) (h : Over A classes n) : OkN (nextsOf A classes (cl A classes n)) ((cl A classes n).map out) classes ∧ 0 < (nextsOf A classes (cl A classes n)).length :=
  ⟨okN_of out (over_closed h), by rw [nextsOf, List.length_map]; exact cl_pos A classes n⟩

/-- of a language of few situations two thousand looks are enough too -/
theorem canon_over {A : Auto σ} {classes : Nat} (out : σ → β) (h : ¬ TooMany A classes) : Over (langAuto (langA A out classes A.start)) classes 2000 := by
  have ho := over_of_few h
  have h1 := lang_over (all_ok out ho).1 (all_ok out ho).2
  rw [all_lang out ho] at h1
  have hlen : (nextsOf A classes (cl A classes 2000)).length ≤ 2000 := by
    rw [nextsOf, List.length_map]
    exact Nat.le_of_not_lt fun h2 => h ⟨2000, h2⟩
  have h2 := over_mono h1 hlen
  unfold Over at h1 ⊢
  rw [h2]
  omega

/-- the language's machine has no more states than there are situations -/
theorem canon_le {A : Auto σ} {classes : Nat} (out : σ → β) (h : ¬ TooMany A classes) : (canonL (langA A out classes A.start) classes 2000).length ≤ (cl A classes 2000).length := by
  have ho := over_of_few h
  have h1 := lang_over (all_ok out ho).1 (all_ok out ho).2
  rw [all_lang out ho] at h1
  have e : canonL (langA A out classes A.start) classes 2000 = cl (langAuto (langA A out classes A.start)) classes (nextsOf A classes (cl A classes 2000)).length := over_same (canon_over out h) h1
  rw [e]
  unfold Over at h1
  rw [nextsOf, List.length_map] at h1 ⊢
  exact h1

/-- WHAT BUILD COMES TO: too many situations, or too many states, or the language's machine. -/
def Built (A : Auto σ) (out : σ → β) (classes : Nat) (r : Option (List (List Nat) × List (Option β))) : Prop :=
  (r = none ∧ (TooMany A classes ∨ 400 < (canonL (langA A out classes A.start) classes 2000).length)) ∨
  (¬ TooMany A classes ∧ (canonL (langA A out classes A.start) classes 2000).length ≤ 400 ∧ r = some (canonNext (langA A out classes A.start) classes 2000, canonOut (langA A out classes A.start) classes 2000))

/-- what is built of two automata of one language is the same, if both are built -/
theorem built_same {A : Auto σ} {B : Auto τ} {classes : Nat} {out : σ → β} {out' : τ → β} (he : langA A out classes A.start = langA B out' classes B.start) {m m' : List (List Nat) × List (Option β)} (h : Built A out classes (some m)) (h' : Built B out' classes (some m')) : m = m' := by
  rcases h with ⟨h, -⟩ | ⟨-, -, h⟩
  · cases h
  rcases h' with ⟨h', -⟩ | ⟨-, -, h'⟩
  · cases h'
  rw [he] at h
  exact (Option.some.inj h).trans (Option.some.inj h').symm

/-- automata that go together, and tell the same, are built alike -/
theorem built_hom {A : Auto σ} {B : Auto τ} {classes : Nat} {out : σ → β} {out' : τ → β} {f : σ → τ} (H : Hom A B classes f) (he : langA A out classes A.start = langA B out' classes B.start) {r : Option (List (List Nat) × List (Option β))} : Built A out classes r ↔ Built B out' classes r := by
  unfold Built
  rw [tooMany_hom H, he]

end
end Go.Proofs.Ythmaokjhncokdaa

/-
  dfa, plain: the situation of one expression. No program, no condition beyond what each theorem names.
-/
set_option linter.unusedVariables false
set_option linter.unusedSimpArgs false
namespace Go.Proofs.Ythmaokjhncokdaa
open Classical

/-- the numbers that are in one of two lists, rising -/
noncomputable def uniR (N : Nat) (a b : List Int) : List Int := ((List.range N).filter fun (k : Nat) => decide ((k : Int) ∈ a ∨ (k : Int) ∈ b)).map fun (k : Nat) => (k : Int)

theorem mem_uniR {N : Nat} {a b : List Int} (ha : ∀ v ∈ a, 0 ≤ v ∧ v < N) (hb : ∀ v ∈ b, 0 ≤ v ∧ v < N) {v : Int} : v ∈ uniR N a b ↔ v ∈ a ∨ v ∈ b := by
  unfold uniR
  rw [List.mem_map]
  constructor
  · rintro ⟨k, hk, rfl⟩
    exact of_decide_eq_true (List.mem_filter.1 hk).2
  · intro h
    have hr : 0 ≤ v ∧ v < N := by
      rcases h with h | h
      · exact ha v h
      · exact hb v h
    refine ⟨v.toNat, List.mem_filter.2 ⟨List.mem_range.2 (by omega), ?_⟩, by omega⟩
    rw [show ((v.toNat : Nat) : Int) = v by omega]
    exact decide_eq_true h
theorem uniR_rises (N : Nat) (a b : List Int) : Rises (uniR N a b) := by
  unfold Rises uniR
  rw [List.pairwise_map]
  exact (List.pairwise_lt_range.filter _).imp (fun h => Int.ofNat_lt.2 h)

/-- an expression's situation behind one class more -/
noncomputable def stepE (S : List Sta) (whole : Bool) (s : List Int) (c : Int) : List Int :=
  if whole then closedL S (stepTo S s c) else uniR S.length (closedL S (stepTo S s c)) (closedL S [0])
noncomputable def runE (S : List Sta) (whole : Bool) (row : List Int) : List Int := row.foldl (stepE S whole) (closedL S [0])

theorem runE_snoc (S : List Sta) (whole : Bool) (row : List Int) (c : Int) : runE S whole (row ++ [c]) = stepE S whole (runE S whole row) c := by simp [runE]

theorem closed_or {S : List Sta} {a b d : List Int} (h : ∀ v, v ∈ d ↔ v ∈ a ∨ v ∈ b) {v : Int} : v ∈ closedL S d ↔ v ∈ closedL S a ∨ v ∈ closedL S b := by
  rw [mem_closedL, mem_closedL, mem_closedL]
  constructor
  · rintro ⟨k, h1, h2, ⟨r, h3, h4⟩, h5⟩
    rcases (h _).1 h3 with h3 | h3
    · exact .inl ⟨k, h1, h2, ⟨r, h3, h4⟩, h5⟩
    · exact .inr ⟨k, h1, h2, ⟨r, h3, h4⟩, h5⟩
  · rintro (⟨k, h1, h2, ⟨r, h3, h4⟩, h5⟩ | ⟨k, h1, h2, ⟨r, h3, h4⟩, h5⟩)
    · exact ⟨k, h1, h2, ⟨r, (h _).2 (.inl h3), h4⟩, h5⟩
    · exact ⟨k, h1, h2, ⟨r, (h _).2 (.inr h3), h4⟩, h5⟩

theorem mem_closed_ext {S : List Sta} {a b : List Int} (h : ∀ v, v ∈ a ↔ v ∈ b) : closedL S a = closedL S b :=
  rises_ext (closedL_rises S a) (closedL_rises S b) fun v => by
    rw [mem_closedL, mem_closedL]
    simp only [h]

theorem mem_stepTo {S : List Sta} {s : List Int} {c v : Int} : v ∈ stepTo S s c ↔ ∃ n ∈ s, ((at_ S n.toNat).takes.any fun x => c == x) = true ∧ v = n + 1 := by
  unfold stepTo
  rw [List.mem_map]
  constructor
  · rintro ⟨n, hn, rfl⟩
    obtain ⟨h1, h2⟩ := List.mem_filter.1 hn
    exact ⟨n, h1, h2, rfl⟩
  · rintro ⟨n, h1, h2, rfl⟩
    exact ⟨n, List.mem_filter.2 ⟨h1, h2⟩, rfl⟩

/-- all that is ahead is to fit: nfa's own run -/
theorem runE_whole (S : List Sta) (row : List Int) : runE S true row = runL S row := by
  unfold runE runL
  congr 1

/-- else: the run behind some end of the row -/
theorem mem_runE (S : List Sta) : ∀ (n : Nat) (row : List Int), row.length = n → ∀ v, v ∈ runE S false row ↔ ∃ k, k ≤ row.length ∧ v ∈ runL S (row.drop k)
  | 0, row, hl, v => by
    obtain rfl : row = [] := List.eq_nil_of_length_eq_zero hl
    constructor
    · intro h; exact ⟨0, by simp, h⟩
    · rintro ⟨k, hk, h⟩
      rw [List.drop_nil] at h
      exact h
  | n + 1, row, hl, v => by
    obtain ⟨r, c, rfl⟩ : ∃ r c, row = r ++ [c] := by
      rcases List.eq_nil_or_concat row with rfl | ⟨r, c, rfl⟩
      · simp at hl
      · exact ⟨r, c, by simp⟩
    have hrl : r.length = n := by simpa using hl
    have ih := mem_runE S n r hrl
    rw [runE_snoc]
    have hu : v ∈ stepE S false (runE S false r) c ↔ v ∈ closedL S (stepTo S (runE S false r) c) ∨ v ∈ closedL S [0] := by
      unfold stepE
      rw [if_neg (by simp)]
      exact mem_uniR (fun v hv => closedL_range hv) (fun v hv => closedL_range hv)
    rw [hu]
    have hstep : v ∈ closedL S (stepTo S (runE S false r) c) ↔ ∃ k, k ≤ r.length ∧ v ∈ closedL S (stepTo S (runL S (r.drop k)) c) := by
      rw [mem_closedL]
      constructor
      · rintro ⟨j, h1, h2, ⟨q, h3, h4⟩, h5⟩
        obtain ⟨m, hm, ht, e⟩ := mem_stepTo.1 h3
        obtain ⟨k, hk, hm2⟩ := (ih m).1 hm
        exact ⟨k, hk, mem_closedL.2 ⟨j, h1, h2, ⟨q, mem_stepTo.2 ⟨m, hm2, ht, e⟩, h4⟩, h5⟩⟩
      · rintro ⟨k, hk, h⟩
        obtain ⟨j, h1, h2, ⟨q, h3, h4⟩, h5⟩ := mem_closedL.1 h
        obtain ⟨m, hm, ht, e⟩ := mem_stepTo.1 h3
        exact ⟨j, h1, h2, ⟨q, mem_stepTo.2 ⟨m, (ih m).2 ⟨k, hk, hm⟩, ht, e⟩, h4⟩, h5⟩
    rw [hstep]
    constructor
    · rintro (⟨k, hk, h⟩ | h)
      · refine ⟨k, by simp; omega, ?_⟩
        rw [List.drop_append_of_le_length hk, runL_snoc]
        exact h
      · refine ⟨r.length + 1, by simp, ?_⟩
        rw [List.drop_of_length_le (by simp)]
        exact h
    · rintro ⟨k, hk, h⟩
      by_cases hkr : k ≤ r.length
      · rw [List.drop_append_of_le_length hkr, runL_snoc] at h
        exact .inl ⟨k, hkr, h⟩
      · rw [List.drop_of_length_le (by simp; omega)] at h
        exact .inr h

/-- which expressions fit: all of the row, or some end of it -/
noncomputable def fitsE (x : Nd) (whole : Bool) (row : List Int) : Bool := if whole then fitB x row else decide (∃ k, k ≤ row.length ∧ fitB x (row.drop k) = true)

theorem runE_fits {x : Nd} (hx : RightX x) (whole : Bool) (row : List Int) : ((runE (mach x) whole row).any fun u => 1 == u) = fitsE x whole row := by
  cases whole
  · rw [Bool.eq_iff_iff, List.any_eq_true]
    unfold fitsE
    rw [if_neg (by simp), decide_eq_true_iff]
    constructor
    · rintro ⟨u, hu, h1⟩
      obtain ⟨k, hk, h⟩ := (mem_runE (mach x) _ row rfl u).1 hu
      exact ⟨k, hk, by rw [← matches_fit hx]; exact List.any_eq_true.2 ⟨u, h, h1⟩⟩
    · rintro ⟨k, hk, h⟩
      rw [← matches_fit hx, List.any_eq_true] at h
      obtain ⟨u, hu, h1⟩ := h
      exact ⟨u, (mem_runE (mach x) _ row rfl u).2 ⟨k, hk, hu⟩, h1⟩
  · rw [runE_whole, matches_fit hx]
    rfl

end Go.Proofs.Ythmaokjhncokdaa

/-
  dfa, plain: the automaton of some expressions tells which of them fit. No program, no condition beyond what each theorem names.
-/
set_option linter.unusedVariables false
set_option linter.unusedSimpArgs false
namespace Go.Proofs.Ythmaokjhncokdaa
open Classical

/-- the situations of some expressions (each with whether it must fit all that is ahead) -/
noncomputable def autoE (l : List (Nd × Bool)) : Auto (List (List Int)) :=
  ⟨l.map fun e => closedL (mach e.1) [0], fun s c => List.zipWith (fun (e : Nd × Bool) si => stepE (mach e.1) e.2 si (c : Int)) l s⟩
/-- which fit in a situation -/
def outE (s : List (List Int)) : List Bool := s.map fun si => si.any fun u => 1 == u
/-- which fit a row -/
noncomputable def tellsE (l : List (Nd × Bool)) (classes : Nat) : List Nat → Option (List Bool) := fun t => if ∀ c ∈ t, c < classes then some (l.map fun e => fitsE e.1 e.2 (t.map fun (c : Nat) => (c : Int))) else none

theorem zip_map {α β γ : Type} (f : α → β) (g : α → β → γ) : ∀ (l : List α), List.zipWith g l (l.map f) = l.map fun e => g e (f e)
  | [] => rfl
  | x :: l => by simp [zip_map f g l]

theorem runA_E (l : List (Nd × Bool)) : ∀ (n : Nat) (t : List Nat), t.length = n → runA (autoE l) (autoE l).start t = l.map fun e => runE (mach e.1) e.2 (t.map fun (c : Nat) => (c : Int))
  | 0, t, h => by
    obtain rfl : t = [] := List.eq_nil_of_length_eq_zero h
    rfl
  | n + 1, t, h => by
    obtain ⟨r, c, rfl⟩ : ∃ r c, t = r ++ [c] := by
      rcases List.eq_nil_or_concat t with rfl | ⟨r, c, rfl⟩
      · simp at h
      · exact ⟨r, c, by simp⟩
    rw [runA_snoc, runA_E l n r (by simpa using h)]
    show List.zipWith _ l _ = _
    rw [zip_map]
    apply List.map_congr_left
    intro e _
    rw [List.map_append, List.map_cons, List.map_nil, runE_snoc]

theorem lang_E {l : List (Nd × Bool)} (hl : ∀ e ∈ l, RightX e.1) (classes : Nat) : langA (autoE l) outE classes (autoE l).start = tellsE l classes := by
  funext t
  unfold langA tellsE
  by_cases ht : ∀ c ∈ t, c < classes
  · rw [if_pos ht, if_pos ht, runA_E l _ t rfl, outE, List.map_map]
    congr 1
    apply List.map_congr_left
    intro e he
    exact runE_fits (hl e he) e.2 _
  · rw [if_neg ht, if_neg ht]

end Go.Proofs.Ythmaokjhncokdaa

/-
  dfa, plain: expressions in another order, or one that tells nothing new. No program, no condition beyond what each theorem names.
-/
set_option linter.unusedVariables false
set_option linter.unusedSimpArgs false
namespace Go.Proofs.Ythmaokjhncokdaa
open Classical

/-- behind a row: the situation of an expression -/
noncomputable def atRow (t : List Nat) (e : Nd × Bool) : List Int := runE (mach e.1) e.2 (t.map fun (c : Nat) => (c : Int))

theorem runA_at (l : List (Nd × Bool)) (t : List Nat) : runA (autoE l) (autoE l).start t = l.map (atRow t) := runA_E l _ t rfl

/-- A LIST OF EXPRESSIONS IN WHICH ANOTHER ONE'S LIE: their automata go together -/
theorem homE {l l' : List (Nd × Bool)} (classes : Nat) (f : List (List Int) → List (List Int)) (hsub : ∀ e ∈ l, e ∈ l') (hf : ∀ t : List Nat, f (l.map (atRow t)) = l'.map (atRow t)) : Hom (autoE l) (autoE l') classes f where
  start := by
    have h := hf []
    exact h
  step := fun t _ c _ => by
    have h1 := runA_at l (t ++ [c])
    have h2 := runA_at l' (t ++ [c])
    rw [runA_snoc] at h1 h2
    rw [h1, hf, ← h2, runA_at l', runA_at l, hf]
  inj := fun t u _ _ h => by
    rw [runA_at, runA_at] at h ⊢
    rw [hf, hf] at h
    apply List.map_congr_left
    intro e he
    exact List.map_inj_left.1 h e (hsub e he)

/-- turned round -/
theorem hom_turn (l : List (Nd × Bool)) (classes : Nat) : Hom (autoE l) (autoE l.reverse) classes List.reverse :=
  homE classes _ (fun e he => List.mem_reverse.2 he) (fun t => by rw [List.map_reverse])

/-- the last one once more -/
theorem hom_again (l : List (Nd × Bool)) (e : Nd × Bool) (classes : Nat) : Hom (autoE (l ++ [e])) (autoE ((l ++ [e]) ++ [e])) classes (fun s => s ++ [s.getLastD []]) :=
  homE classes _ (fun x hx => List.mem_append.2 (.inl hx)) (fun t => by simp)

theorem mach_never : mach (.mk 3 [] []) = layF (.mk 3 [] []) [] := rfl

/-- one that is in the same situation behind each row -/
theorem hom_const (l : List (Nd × Bool)) (e : Nd × Bool) (s0 : List Int) (he : ∀ t, atRow t e = s0) (classes : Nat) : Hom (autoE l) (autoE (l ++ [e])) classes (fun s => s ++ [s0]) :=
  homE classes _ (fun x hx => List.mem_append.2 (.inl hx)) (fun t => by simp [he t])

end Go.Proofs.Ythmaokjhncokdaa

/-
  dfa, plain: an expression that never fits is always in the same situation. No program, no condition beyond what each theorem names.
-/
set_option linter.unusedVariables false
set_option linter.unusedSimpArgs false
namespace Go.Proofs.Ythmaokjhncokdaa
open Classical

def neverX : Nd := .mk 3 [] []

theorem mach_neverX : mach neverX = [⟨[], false, []⟩, ⟨[], false, []⟩] := by
  unfold neverX mach
  simp [layF, altF, joinF, z0]

theorem closed_none (S : List Sta) : closedL S [] = [] := by
  refine List.eq_nil_iff_forall_not_mem.2 fun v h => ?_
  obtain ⟨k, -, -, ⟨r, h2, -⟩, -⟩ := mem_closedL.1 h
  simp at h2

theorem never_start : closedL (mach neverX) [0] = [] := by
  refine List.eq_nil_iff_forall_not_mem.2 fun v h => ?_
  obtain ⟨k, -, -, ⟨r, h2, h3⟩, h4⟩ := mem_closedL.1 h
  rw [mach_neverX] at h3 h4
  have h0 : r = 0 := by simp at h2; omega
  subst h0
  have hk : k = 0 := by
    cases h3 with
    | refl => rfl
    | @step b _ _ h5 => rcases b with _ | _ | b <;> simp [Free, at_, z0] at h5
  subst hk
  rcases h4 with h4 | h4
  · simp [at_] at h4
  · cases h4

theorem never_row : ∀ (n : Nat) (row : List Int), row.length = n → runE (mach neverX) false row = []
  | 0, row, h => by
    obtain rfl : row = [] := List.eq_nil_of_length_eq_zero h
    exact never_start
  | n + 1, row, h => by
    obtain ⟨r, c, rfl⟩ : ∃ r c, row = r ++ [c] := by
      rcases List.eq_nil_or_concat row with rfl | ⟨r, c, rfl⟩
      · simp at h
      · exact ⟨r, c, by simp⟩
    rw [runE_snoc, never_row n r (by simpa using h)]
    unfold stepE
    rw [if_neg (by simp), never_start]
    have e : closedL (mach neverX) (stepTo (mach neverX) [] c) = [] := closed_none _
    rw [e]
    simp [uniR]

theorem hom_never (l : List (Nd × Bool)) (classes : Nat) : Hom (autoE l) (autoE (l ++ [(neverX, false)])) classes (fun s => s ++ [[]]) :=
  hom_const l (neverX, false) [] (fun t => never_row (t.map fun (c : Nat) => (c : Int)).length (t.map fun (c : Nat) => (c : Int)) rfl) classes

end Go.Proofs.Ythmaokjhncokdaa

/-
  dfa, plain: expressions that fit the same (DfaEqual). No program, no condition beyond what each theorem names.
-/
set_option linter.unusedVariables false
set_option linter.unusedSimpArgs false
namespace Go.Proofs.Ythmaokjhncokdaa
open Classical

theorem fit_twice (x : Nd) (row : List Int) : fitB (.mk 3 [] [x, x]) row = fitB x row := by
  rw [fit_alt2, Bool.or_self]
theorem fit_behind (x : Nd) (row : List Int) : fitB (.mk 2 [] [x, .mk 0 [] []]) row = fitB x row := by
  rw [Bool.eq_iff_iff, fitB_iff, fitB_iff]
  simp [M, Mseq]
/-- any number of it, as one or more, or none -/
theorem fit_more (x : Nd) (row : List Int) : fitB (.mk 5 [] [.mk 2 [] [x, .mk 4 [] [x]]]) row = fitB (.mk 4 [] [x]) row := by
  rw [fit_opt, fit_star]

/-- what fits the same has the same language -/
theorem tells_same {x y : Nd} (h : ∀ row, fitB x row = fitB y row) (whole : Bool) (classes : Nat) : tellsE [(x, whole)] classes = tellsE [(y, whole)] classes := by
  funext t
  unfold tellsE fitsE
  simp only [List.map_cons, List.map_nil, h]

end Go.Proofs.Ythmaokjhncokdaa

/-
  dfa, plain: what a machine that was built tells. No program, no condition beyond what each theorem names.
-/
set_option linter.unusedVariables false
set_option linter.unusedSimpArgs false
namespace Go.Proofs.Ythmaokjhncokdaa
open Classical

/-- a machine that was built: its ways are of its states; behind each row it tells which expressions fit -/
theorem built_tells {l : List (Nd × Bool)} (hl : ∀ e ∈ l, RightX e.1) {classes : Nat} {N : List (List Nat)} {O : List (Option (List Bool))} (h : Built (autoE l) outE classes (some (N, O))) :
    OkN N O classes ∧ 0 < N.length ∧ N.length ≤ 400 ∧ ∀ t : List Nat, (∀ c ∈ t, c < classes) → O[runN N 0 t]? = some (some (l.map fun e => fitsE e.1 e.2 (t.map fun (c : Nat) => (c : Int)))) := by
  rcases h with ⟨h, -⟩ | ⟨hf, hle, he⟩
  · cases h
  obtain ⟨e1, e2⟩ := Prod.mk.inj (Option.some.inj he)
  have ho := canon_over outE hf
  have hpos0 := cl_pos (langAuto (langA (autoE l) outE classes (autoE l).start)) classes 2000
  have hst := cl_start (langAuto (langA (autoE l) outE classes (autoE l).start)) classes 2000
  unfold canonL at hle
  unfold canonNext canonL at e1
  unfold canonOut canonL at e2
  have hct := fun t ht i l' => canon_tells (l0 := langA (autoE l) outE classes (autoE l).start) (n := 2000) ho t ht (i := i) (l := l')
  unfold canonNext canonOut canonL at hct
  generalize 2000 = K at *
  have hlen : N.length = (cl (langAuto (langA (autoE l) outE classes (autoE l).start)) classes K).length := by rw [e1, nextsOf, List.length_map]
  refine ⟨?_, by omega, by omega, fun t ht => ?_⟩
  · rw [e1, e2]
    exact okN_of (fun l => l []) (over_closed ho)
  · rw [e1, e2, hct t ht 0 _ hst]
    show some (langA (autoE l) outE classes (autoE l).start t) = _
    rw [lang_E hl, tellsE, if_pos ht]

/-- the beginning of a row leads there from where the rest goes on -/
theorem runN_append (N : List (List Nat)) : ∀ (t u : List Nat) (i : Nat), runN N i (t ++ u) = runN N (runN N i t) u
  | [], _, _ => rfl
  | c :: t, u, i => runN_append N t u (goN N i c)

theorem runN_lt {β : Type} {N : List (List Nat)} {O : List β} {classes : Nat} (h : OkN N O classes) : ∀ (t : List Nat) (i : Nat), i < N.length → (∀ c ∈ t, c < classes) → runN N i t < N.length
  | [], i, hi, _ => hi
  | c :: t, i, hi, hc => runN_lt h t _ (h.go hi (hc c (by simp))) (fun d hd => hc d (by simp [hd]))

end Go.Proofs.Ythmaokjhncokdaa

/-
  dfa, plain: the states are numbered as they are met (DfaLeast). No program, no condition beyond what each theorem names.
-/
set_option linter.unusedVariables false
set_option linter.unusedSimpArgs false
namespace Go.Proofs.Ythmaokjhncokdaa
open Classical

section
variable {σ : Type}

/-- how many have been met when of the i-th the first c classes have been looked at -/
noncomputable def metN (A : Auto σ) (classes i c : Nat) : Nat := match (cl A classes i)[i]? with
  | some s => (rowS A s (cl A classes i) c).length
  | none => (cl A classes i).length

theorem metN_first (A : Auto σ) (classes : Nat) : metN A classes 0 0 = 1 := by
  unfold metN
  rw [cl_start]
  simp [rowS, cl]

variable {A : Auto σ} {classes n i : Nat}

/-- the next one's turn begins with what has been met -/
theorem metN_next (h : Over A classes n) (hi : i < (cl A classes n).length) : metN A classes (i + 1) 0 = metN A classes i classes := by
  have hs := over_get h (List.getElem?_eq_getElem hi)
  have e : cl A classes (i + 1) = rowS A (cl A classes n)[i] (cl A classes i) classes := by rw [cl, hs]
  have e2 : metN A classes i classes = (cl A classes (i + 1)).length := by unfold metN; rw [hs, e]
  rw [e2]
  unfold metN
  split
  · rfl
  · rfl

/-- a way leads to one that has been met, or to the next one -/
theorem metN_step (h : Over A classes n) (hi : i < (cl A classes n).length) {c : Nat} (hc : c < classes) :
    goN (nextsOf A classes (cl A classes n)) i c ≤ metN A classes i c ∧ metN A classes i (c + 1) = if goN (nextsOf A classes (cl A classes n)) i c = metN A classes i c then metN A classes i c + 1 else metN A classes i c := by
  have hg := List.getElem?_eq_getElem hi
  have hs := over_get h hg
  have hin : i + 1 ≤ n := by unfold Over at h; omega
  rw [nextsOf_go hg hc, row_place hs hc (cl_mono A classes hin)]
  unfold metN
  rw [hs]
  refine ⟨place_le _ _, ?_⟩
  show (rowS A _ _ (c + 1)).length = _
  rw [rowS, put_length]

/-- one whose turn it is has been met -/
theorem metN_gt (h : Over A classes n) (hi : i < (cl A classes n).length) : i < metN A classes i 0 := by
  have hs := over_get h (List.getElem?_eq_getElem hi)
  have hl := (List.getElem?_eq_some_iff.1 hs).1
  unfold metN
  rw [hs]
  exact hl

/-- at last all have been met -/
theorem metN_last (h : Over A classes n) : metN A classes (cl A classes n).length 0 = (cl A classes n).length := by
  have hle : (cl A classes n).length ≤ n := h
  have h1 := (cl_mono A classes hle).length_le
  have ho : Over A classes (cl A classes n).length := h1
  have e : cl A classes (cl A classes n).length = cl A classes n := over_same ho h
  unfold metN
  rw [e, List.getElem?_eq_none (Nat.le_refl _)]

end
end Go.Proofs.Ythmaokjhncokdaa

