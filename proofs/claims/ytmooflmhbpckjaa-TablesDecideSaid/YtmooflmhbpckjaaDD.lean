/-
  dfa, plain: the machine of a language; the machine of all situations tells the automaton's language. No program, no condition beyond what each theorem names.
-/
import Derived.Test.YtmooflmhbpckjaaDC
set_option linter.unusedVariables false
set_option linter.unusedSimpArgs false
namespace Go.Proofs.Ytmooflmhbpckjaa
open Classical

section
variable {α β σ τ : Type}

/-- the place of one by one mark is that by another mark, if both tell apart the same -/
theorem place_map {f : α → σ} {g : α → τ} {x : α} : ∀ {l : List α}, (∀ y ∈ l, f y = f x ↔ g y = g x) → place (l.map f) (f x) = place (l.map g) (g x)
  | [], _ => rfl
  | y :: l, h => by
    have h1 := h y (by simp)
    have h2 := place_map (l := l) (fun z hz => h z (by simp [hz]))
    unfold place at *
    rw [List.map_cons, List.map_cons, List.findIdx_cons, List.findIdx_cons, h2]
    by_cases e : f y = f x
    · simp [e, h1.1 e]
    · have e2 : ¬ g y = g x := fun e2 => e (h1.2 e2)
      simp [e, e2]
theorem mem_map_iff {f : α → σ} {g : α → τ} {x : α} {l : List α} (h : ∀ y ∈ l, f y = f x ↔ g y = g x) : f x ∈ l.map f ↔ g x ∈ l.map g := by
  constructor
  · intro hm
    obtain ⟨y, hy, e⟩ := List.mem_map.1 hm
    exact List.mem_map.2 ⟨y, hy, (h y hy).1 e⟩
  · intro hm
    obtain ⟨y, hy, e⟩ := List.mem_map.1 hm
    exact List.mem_map.2 ⟨y, hy, (h y hy).2 e⟩

/-- languages: what is told behind each row -/
def langAuto (l0 : List Nat → Option β) : Auto (List Nat → Option β) := ⟨l0, fun l c t => l (c :: t)⟩

theorem runLang (l0 : List Nat → Option β) : ∀ (t : List Nat) (l : List Nat → Option β) (u : List Nat), runA (langAuto l0) l t u = l (t ++ u)
  | [], _, _ => rfl
  | c :: t, l, u => by
    show runA (langAuto l0) (fun t => l (c :: t)) t u = _
    rw [runLang l0 t]
    rfl

/-- what an automaton tells from a situation on -/
noncomputable def langA (A : Auto σ) (out : σ → β) (classes : Nat) (s : σ) : List Nat → Option β := fun t => if ∀ c ∈ t, c < classes then some (out (runA A s t)) else none
theorem langA_step (A : Auto σ) (out : σ → β) {classes c : Nat} (hc : c < classes) (s : σ) : langA A out classes (A.step s c) = fun t => langA A out classes s (c :: t) := by
  funext t
  unfold langA
  by_cases h : ∀ d ∈ t, d < classes
  · rw [if_pos h, if_pos (fun d hd => by rcases List.mem_cons.1 hd with rfl | hd; exact hc; exact h d hd)]
    rfl
  · rw [if_neg h, if_neg (fun h2 => h (fun d hd => h2 d (by simp [hd])))]

/-- what a machine tells from a state on -/
noncomputable def langN (N : List (List Nat)) (O : List β) (classes i : Nat) : List Nat → Option β := fun t => if ∀ c ∈ t, c < classes then O[runN N i t]? else none
theorem langN_step (N : List (List Nat)) (O : List β) {classes c : Nat} (hc : c < classes) (i : Nat) : langN N O classes (goN N i c) = fun t => langN N O classes i (c :: t) := by
  funext t
  unfold langN
  by_cases h : ∀ d ∈ t, d < classes
  · rw [if_pos h, if_pos (fun d hd => by rcases List.mem_cons.1 hd with rfl | hd; exact hc; exact h d hd)]
    rfl
  · rw [if_neg h, if_neg (fun h2 => h (fun d hd => h2 d (by simp [hd])))]
theorem langN_eq {N : List (List Nat)} {O : List β} {classes i j : Nat} : langN N O classes i = langN N O classes j ↔ TellSame N O classes i j := by
  constructor
  · intro h t ht
    have := congrFun h t
    unfold langN at this
    rwa [if_pos ht, if_pos ht] at this
  · intro h
    funext t
    unfold langN
    by_cases ht : ∀ c ∈ t, c < classes
    · rw [if_pos ht, if_pos ht, h t ht]
    · rw [if_neg ht, if_neg ht]

/-- the machine of a list of situations -/
noncomputable def nextsOf (A : Auto σ) (classes : Nat) (L : List σ) : List (List Nat) := L.map fun s => (List.range classes).map fun c => place L (A.step s c)

theorem nextsOf_go {A : Auto σ} {classes i c : Nat} {L : List σ} {s : σ} (hs : L[i]? = some s) (hc : c < classes) : goN (nextsOf A classes L) i c = place L (A.step s c) := by
  unfold goN at0 nextsOf
  rw [List.getElem?_map, hs]
  simp [hc]

theorem okN_of {A : Auto σ} {classes : Nat} {L : List σ} (out : σ → β) (hcl : ∀ s ∈ L, ∀ c, c < classes → A.step s c ∈ L) : OkN (nextsOf A classes L) (L.map out) classes where
  len := by simp [nextsOf]
  row := fun r hr => by
    obtain ⟨s, hs, rfl⟩ := List.mem_map.1 hr
    refine ⟨by simp, fun n hn => ?_⟩
    obtain ⟨c, hc, rfl⟩ := List.mem_map.1 hn
    rw [nextsOf, List.length_map]
    exact place_lt (hcl s hs c (List.mem_range.1 hc))

/-- the machine of all situations tells what the automaton tells -/
theorem langN_all {A : Auto σ} {classes : Nat} {L : List σ} (out : σ → β) (hcl : ∀ s ∈ L, ∀ c, c < classes → A.step s c ∈ L) : ∀ {i : Nat} {s : σ}, L[i]? = some s → langN (nextsOf A classes L) (L.map out) classes i = langA A out classes s := by
  intro i s hs
  funext t
  unfold langN langA
  by_cases ht : ∀ c ∈ t, c < classes
  · rw [if_pos ht, if_pos ht]
    induction t generalizing i s with
    | nil =>
      show (L.map out)[i]? = _
      rw [List.getElem?_map, hs]
      rfl
    | cons c t ih =>
      have hc := ht c (by simp)
      have hm := hcl s (List.mem_of_getElem? hs) c hc
      show (L.map out)[runN _ (goN _ i c) t]? = _
      rw [nextsOf_go hs hc]
      exact ih (place_get hm) (fun d hd => ht d (by simp [hd]))
  · rw [if_neg ht, if_neg ht]

theorem over_closed {A : Auto σ} {classes n : Nat} (h : Over A classes n) : ∀ s ∈ cl A classes n, ∀ c, c < classes → A.step s c ∈ cl A classes n := fun s hs c hc => by
  obtain ⟨k, hk, e⟩ := List.getElem_of_mem hs
  exact cl_closed (k := k) (by unfold Over at h; omega) (by rw [List.getElem?_eq_getElem hk, e]) c hc

/-- the languages of a machine's states are no more than its states -/
theorem lang_over {N : List (List Nat)} {O : List β} {classes i : Nat} (h : OkN N O classes) (hi : i < N.length) : Over (langAuto (langN N O classes i)) classes N.length := by
  have hmet : ∀ l ∈ cl (langAuto (langN N O classes i)) classes N.length, l ∈ (List.range N.length).map (langN N O classes) := fun l hl => by
    obtain ⟨t, ht, rfl⟩ := cl_met _ _ _ l hl
    have key : ∀ (t : List Nat) (j : Nat), j < N.length → (∀ c ∈ t, c < classes) → ∃ k, k < N.length ∧ runA (langAuto (langN N O classes i)) (langN N O classes j) t = langN N O classes k := fun t => by
      induction t with
      | nil => intro j hj _; exact ⟨j, hj, rfl⟩
      | cons c t ih =>
        intro j hj hc
        have hcc := hc c (by simp)
        show ∃ k, k < N.length ∧ runA _ (fun u => langN N O classes j (c :: u)) t = _
        rw [← langN_step N O hcc j]
        exact ih _ (h.go hj hcc) (fun d hd => hc d (by simp [hd]))
    obtain ⟨k, hk, e⟩ := key t i hi ht
    exact List.mem_map.2 ⟨k, List.mem_range.2 hk, e.symm⟩
  have := sub_len _ _ (cl_nodup _ _ _) hmet
  rw [List.length_map, List.length_range] at this
  exact this

end
end Go.Proofs.Ytmooflmhbpckjaa
