import Derived.Test.YthmaokjhncokdaaBS
import Derived.Test.YthmaokjhncokdaaB9
import Derived.Test.YthmaokjhncokdaaB6
/-
  tables, plain: two neighbouring rules changed about (TablesSwap). No program, no condition beyond what each theorem names.
-/
set_option linter.unusedVariables false
set_option linter.unusedSimpArgs false
namespace Go.Proofs.Ythmaokjhncokdaa
open Go.RowKit Classical

/-- the k-th and the one behind it changed about -/
def swapL {α : Type} (k : Nat) (l : List α) : List α := match l.drop k with
  | x :: y :: r => l.take k ++ y :: x :: r
  | _ => l
theorem swapL_eq {α : Type} (a : List α) (x y : α) (b : List α) : swapL a.length (a ++ x :: y :: b) = a ++ y :: x :: b := by
  unfold swapL
  rw [List.drop_left, List.take_left]
theorem swapL_form {α : Type} (k : Nat) (l : List α) : (∃ a x y b, l = a ++ x :: y :: b ∧ a.length = k) ∨ l.length ≤ k + 1 := by
  by_cases h : l.length ≤ k + 1
  · exact .inr h
  · left
    have e := (List.take_append_drop k l).symm
    cases h1 : l.drop k with
    | nil => have := congrArg List.length h1; rw [List.length_drop] at this; simp at this; omega
    | cons x r =>
      cases r with
      | nil => have := congrArg List.length h1; rw [List.length_drop] at this; simp at this; omega
      | cons y b => exact ⟨l.take k, x, y, b, by rw [← h1]; exact e, by rw [List.length_take]; omega⟩
theorem swapL_short {α : Type} {k : Nat} {l : List α} (h : l.length ≤ k + 1) : swapL k l = l := by
  unfold swapL
  split
  · rename_i x y r he
    have := congrArg List.length he
    rw [List.length_drop] at this
    simp at this
    omega
  · rfl
theorem swapL_map {α β : Type} (f : α → β) (k : Nat) (l : List α) : swapL k (l.map f) = (swapL k l).map f := by
  rcases swapL_form k l with ⟨a, x, y, b, rfl, rfl⟩ | h
  · rw [swapL_eq, List.map_append, List.map_cons, List.map_cons]
    have := swapL_eq (a.map f) (f x) (f y) (b.map f)
    rw [List.length_map] at this
    rw [this, List.map_append, List.map_cons, List.map_cons]
  · rw [swapL_short h, swapL_short (by simpa using h)]
theorem swapL_swap {α : Type} (k : Nat) (l : List α) : swapL k (swapL k l) = l := by
  rcases swapL_form k l with ⟨a, x, y, b, rfl, rfl⟩ | h
  · rw [swapL_eq, swapL_eq]
  · rw [swapL_short h, swapL_short h]
theorem swapL_length {α : Type} (k : Nat) (l : List α) : (swapL k l).length = l.length := by
  rcases swapL_form k l with ⟨a, x, y, b, rfl, rfl⟩ | h
  · rw [swapL_eq]; simp
  · rw [swapL_short h]
theorem swapL_mem {α : Type} {k : Nat} {l : List α} {x : α} : x ∈ swapL k l ↔ x ∈ l := by
  rcases swapL_form k l with ⟨a, u, v, b, rfl, rfl⟩ | h
  · rw [swapL_eq]
    simp only [List.mem_append, List.mem_cons]
    exact ⟨fun h => by rcases h with h | h | h | h <;> simp [h], fun h => by rcases h with h | h | h | h <;> simp [h]⟩
  · rw [swapL_short h]

def swapN (n k v : Nat) : Nat := bitsL (swapL k ((List.range n).map fun i => v.testBit i))
theorem swap_bits {bs : List Bool} {n k : Nat} (h : bs.length = n) : swapN n k (bitsL bs) = bitsL (swapL k bs) := by
  unfold swapN
  congr 2
  apply List.ext_getElem
  · simp [h]
  · intro i h1 h2
    simp only [List.getElem_map, List.getElem_range]
    exact bitsL_get bs i h2
theorem hom_swap (l : List (Nd × Bool)) (k classes : Nat) : Hom (autoE l) (autoE (swapL k l)) classes (swapL k) :=
  homE classes _ (fun e he => swapL_mem.2 he) (fun t => by rw [swapL_map])
theorem built_swap {l : List (Nd × Bool)} (hl : ∀ e ∈ l, RightX e.1) {classes k : Nat} {r : Option (List (List Nat) × List (Option Nat))} (h : Built (autoE l) outN classes r) :
    Built (autoE (swapL k l)) outN classes (r.map fun p => (p.1, p.2.map (Option.map (swapN l.length k)))) := by
  have h1 := built_g (swapN l.length k) (fun t u x y hx hy e => by
    obtain ⟨bs, hb, rfl⟩ := lang_shape hl hx
    obtain ⟨cs, hc, rfl⟩ := lang_shape hl hy
    rw [swap_bits hb, swap_bits hc] at e
    have h2 := bitsL_inj (by rw [swapL_length, swapL_length, hb, hc]) e
    have h3 := congrArg (swapL k) h2
    rw [swapL_swap, swapL_swap] at h3
    rw [h3]) h
  refine (built_hom (hom_swap l k classes) ?_).1 h1
  rw [lang_map (autoE l) outN (swapN l.length k) classes (autoE l).start, lang_N hl, lang_N (fun e he => hl e (swapL_mem.1 he))]
  funext t
  show ((tellsE l classes t).map bitsL).map (swapN l.length k) = (tellsE (swapL k l) classes t).map bitsL
  unfold tellsE
  by_cases ht : ∀ c ∈ t, c < classes
  · rw [if_pos ht, if_pos ht]
    simp only [Option.map_some]
    rw [swap_bits (by simp), swapL_map]
  · rw [if_neg ht, if_neg ht]
    rfl

theorem lefts_swap (k : Nat) (rs : List Rl) : leftsL (swapL k rs) = swapL k (leftsL rs) := by unfold leftsL; rw [swapL_map]
theorem rights_swap (k : Nat) (rs : List Rl) : rightsL (swapL k rs) = swapL k (rightsL rs) := by unfold rightsL; rw [swapL_map]
theorem argOk_swap {n : Int} {l : List (Nd × Bool)} {k : Nat} (h : ArgOk n l) : ArgOk n (swapL k l) := by
  unfold ArgOk at *
  rw [swapL_length]
  exact ⟨h.1, h.2.1, h.2.2.1, fun e he => h.2.2.2 e (swapL_mem.1 he)⟩
theorem compOk_swap {n : Int} {rs : List Rl} {k : Nat} (h : CompOk n rs) : CompOk n (swapL k rs) := by
  unfold CompOk at *
  rw [swapL_length, lefts_swap, rights_swap]
  exact ⟨h.1, fun r hr => h.2.1 r (swapL_mem.1 hr), argOk_swap h.2.2.1, argOk_swap h.2.2.2⟩
theorem compiles_swap {n : Nat} {rs : List Rl} {k : Nat} (h : Compiles n rs) : Compiles n (swapL k rs) := by
  obtain ⟨h1, ⟨m1, h2⟩, m2, h3⟩ := h
  refine ⟨compOk_swap h1, ?_, ?_⟩
  · rw [lefts_swap]
    exact ⟨_, built_swap (lefts_right h1.2.1) h2⟩
  · rw [rights_swap]
    exact ⟨_, built_swap (rights_right h1.2.1) h3⟩
theorem compC_swap (n : Nat) (rs : List Rl) (k : Nat) : compC n (swapL k rs) = compC n rs := by
  refine compC_same ⟨fun h => ?_, compOk_swap⟩ ⟨fun h => ?_, compiles_swap⟩
  · have := compOk_swap (k := k) h
    rwa [swapL_swap] at this
  · have := compiles_swap (k := k) h
    rwa [swapL_swap] at this
theorem says_swap (a b : List Rl) (x y : Rl) (h : x.brk = y.brk) (row : List Int) (i : Nat) : saysB (a ++ x :: y :: b) row i = saysB (a ++ y :: x :: b) row i := by
  unfold saysB
  rw [List.find?_append, List.find?_append]
  cases a.find? (ruleB row i) with
  | some r => rfl
  | none =>
    rw [Option.none_or, Option.none_or, List.find?_cons, List.find?_cons, List.find?_cons, List.find?_cons]
    cases ruleB row i x <;> cases ruleB row i y <;> simp [h]
end Go.Proofs.Ythmaokjhncokdaa

