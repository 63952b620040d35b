/-
  dfa, plain: the least machine is the machine of the language. No program, no condition beyond what each theorem names.
-/
import Derived.Test.YtmooflmhbpckjaaDE
set_option linter.unusedVariables false
set_option linter.unusedSimpArgs false
namespace Go.Proofs.Ytmooflmhbpckjaa
open Classical

section
variable {α β σ τ κ : Type}

/-- a list with one more, if none has its mark -/
noncomputable def putK (f : σ → τ) (l : List σ) (s : σ) : List σ := if f s ∈ l.map f then l else l ++ [s]
noncomputable def rowK (A : Auto σ) (f : σ → τ) (s : σ) : List σ → Nat → List σ
  | l, 0 => l
  | l, c + 1 => putK f (rowK A f s l c) (A.step s c)
noncomputable def clK (A : Auto σ) (f : σ → τ) (classes : Nat) : Nat → List σ
  | 0 => [A.start]
  | n + 1 => match (clK A f classes n)[n]? with
    | some s => rowK A f s (clK A f classes n) classes
    | none => clK A f classes n

theorem putK_map (f : σ → τ) (l : List σ) (s : σ) : (putK f l s).map f = putS (l.map f) (f s) := by
  unfold putK putS
  split
  · rfl
  · rw [List.map_append]; rfl
theorem putK_all {f : σ → τ} {P : σ → Prop} {l : List σ} {s : σ} (hl : ∀ x ∈ l, P x) (hs : P s) : ∀ x ∈ putK f l s, P x := by
  unfold putK
  split
  · exact hl
  · intro x hx
    rcases List.mem_append.1 hx with hx | hx
    · exact hl x hx
    · rw [List.mem_singleton.1 hx]; exact hs

/-- what the marks need: the ways go along with them -/
structure Marks (A : Auto σ) (B : Auto τ) (f : σ → τ) (P : σ → Prop) (classes : Nat) : Prop where
  start : f A.start = B.start
  first : P A.start
  stays : ∀ s, P s → ∀ c, c < classes → P (A.step s c)
  step : ∀ s, P s → ∀ c, c < classes → f (A.step s c) = B.step (f s) c

theorem rowK_map {A : Auto σ} {B : Auto τ} {f : σ → τ} {P : σ → Prop} {classes : Nat} (H : Marks A B f P classes) {s : σ} (hs : P s) {l : List σ} (hl : ∀ x ∈ l, P x) : ∀ k, k ≤ classes → (rowK A f s l k).map f = rowS B (f s) (l.map f) k ∧ ∀ x ∈ rowK A f s l k, P x
  | 0, _ => ⟨rfl, hl⟩
  | k + 1, hk => by
    obtain ⟨h1, h2⟩ := rowK_map H hs hl k (by omega)
    rw [rowK, rowS, putK_map, h1, H.step s hs k (by omega)]
    exact ⟨rfl, putK_all h2 (H.stays s hs k (by omega))⟩
theorem clK_map {A : Auto σ} {B : Auto τ} {f : σ → τ} {P : σ → Prop} {classes : Nat} (H : Marks A B f P classes) : ∀ n, (clK A f classes n).map f = cl B classes n ∧ ∀ x ∈ clK A f classes n, P x
  | 0 => ⟨by simp [clK, cl, H.start], fun x hx => by rw [clK] at hx; rw [List.mem_singleton.1 hx]; exact H.first⟩
  | n + 1 => by
    obtain ⟨h1, h2⟩ := clK_map H n
    rw [clK, cl, ← h1, List.getElem?_map]
    cases hs : (clK A f classes n)[n]? with
    | none => exact ⟨rfl, h2⟩
    | some s => exact rowK_map H (h2 s (List.mem_of_getElem? hs)) h2 classes (Nat.le_refl _)

/-- marks that tell apart the same give the same list -/
theorem putK_same {f : σ → τ} {g : σ → κ} {P : σ → Prop} (hfg : ∀ x y, P x → P y → (f x = f y ↔ g x = g y)) {l : List σ} {s : σ} (hl : ∀ x ∈ l, P x) (hs : P s) : putK f l s = putK g l s := by
  unfold putK
  have h := mem_map_iff (f := f) (g := g) (x := s) (l := l) (fun y hy => hfg y s (hl y hy) hs)
  by_cases hm : f s ∈ l.map f
  · rw [if_pos hm, if_pos (h.1 hm)]
  · rw [if_neg hm, if_neg (fun h2 => hm (h.2 h2))]
theorem rowK_same {A : Auto σ} {f : σ → τ} {g : σ → κ} {P : σ → Prop} {classes : Nat} (hfg : ∀ x y, P x → P y → (f x = f y ↔ g x = g y)) (hst : ∀ s, P s → ∀ c, c < classes → P (A.step s c)) {s : σ} (hs : P s) {l : List σ} (hl : ∀ x ∈ l, P x) : ∀ k, k ≤ classes → rowK A f s l k = rowK A g s l k ∧ ∀ x ∈ rowK A g s l k, P x
  | 0, _ => ⟨rfl, hl⟩
  | k + 1, hk => by
    obtain ⟨h1, h2⟩ := rowK_same hfg hst hs hl k (by omega)
    have hm := hst s hs k (by omega)
    rw [rowK, rowK, h1]
    exact ⟨putK_same hfg h2 hm, putK_all h2 hm⟩
theorem clK_same {A : Auto σ} {f : σ → τ} {g : σ → κ} {P : σ → Prop} {classes : Nat} (hfg : ∀ x y, P x → P y → (f x = f y ↔ g x = g y)) (h0 : P A.start) (hst : ∀ s, P s → ∀ c, c < classes → P (A.step s c)) : ∀ n, clK A f classes n = clK A g classes n ∧ ∀ x ∈ clK A g classes n, P x
  | 0 => ⟨rfl, fun x hx => by rw [clK] at hx; rw [List.mem_singleton.1 hx]; exact h0⟩
  | n + 1 => by
    obtain ⟨h1, h2⟩ := clK_same hfg h0 hst n
    rw [clK, clK, h1]
    cases hs : (clK A g classes n)[n]? with
    | none => exact ⟨rfl, h2⟩
    | some s => exact rowK_same hfg hst (h2 s (List.mem_of_getElem? hs)) h2 classes (Nat.le_refl _)

/-- a machine's states as an automaton -/
def autoN (N : List (List Nat)) : Auto Nat := ⟨0, goN N⟩

theorem marksN {N : List (List Nat)} {O : List β} {classes : Nat} (h : OkN N O classes) (h0 : 0 < N.length) : Marks (autoN N) (langAuto (langN N O classes 0)) (langN N O classes) (fun i => i < N.length) classes where
  start := rfl
  first := h0
  stays := fun s hs c hc => h.go hs hc
  step := fun s hs c hc => langN_step N O hc s

/-- THE LEAST MACHINE: of the states met, by what they tell, the ways and what is told are those of the language's machine. -/
theorem least_canon {N : List (List Nat)} {O : List β} {classes : Nat} (h : OkN N O classes) (h0 : 0 < N.length) (n : Nat) (M : List Nat) (hM : M = clK (autoN N) (langN N O classes) classes n) :
    (M.map fun s => (List.range classes).map fun c => place (M.map (langN N O classes)) (langN N O classes (goN N s c))) = canonNext (langN N O classes 0) classes n ∧ (M.map fun s => O[s]?) = canonOut (langN N O classes 0) classes n ∧ ∀ s ∈ M, s < N.length := by
  obtain ⟨h1, h2⟩ := clK_map (marksN h h0) n
  rw [← hM] at h1 h2
  refine ⟨?_, ?_, h2⟩
  · rw [canonNext, canonL, nextsOf, ← h1, List.map_map]
    apply List.map_congr_left
    intro s hs
    apply List.map_congr_left
    intro c hc
    exact congrArg _ ((marksN h h0).step s (h2 s hs) c (List.mem_range.1 hc))
  · rw [canonOut, canonL, ← h1, List.map_map]
    apply List.map_congr_left
    intro s hs
    simp [langN, runN]

end
end Go.Proofs.Ytmooflmhbpckjaa
