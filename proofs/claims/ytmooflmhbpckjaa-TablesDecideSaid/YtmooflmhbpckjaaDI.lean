/-
  dfa, plain: the automaton of some expressions tells which of them fit. No program, no condition beyond what each theorem names.
-/
import Derived.Test.YtmooflmhbpckjaaDH
set_option linter.unusedVariables false
set_option linter.unusedSimpArgs false
namespace Go.Proofs.Ytmooflmhbpckjaa
open Classical

/-- the situations of some expressions (each with whether it must fit all that is ahead) -/
noncomputable def autoE (l : List (Nd × Bool)) : Auto (List (List Int)) :=
  ⟨l.map fun e => closedL (mach e.1) [0], fun s c => List.zipWith (fun (e : Nd × Bool) si => stepE (mach e.1) e.2 si (c : Int)) l s⟩
/-- which fit in a situation -/
def outE (s : List (List Int)) : List Bool := s.map fun si => si.any fun u => 1 == u
/-- which fit a row -/
noncomputable def tellsE (l : List (Nd × Bool)) (classes : Nat) : List Nat → Option (List Bool) := fun t => if ∀ c ∈ t, c < classes then some (l.map fun e => fitsE e.1 e.2 (t.map fun (c : Nat) => (c : Int))) else none

theorem zip_map {α β γ : Type} (f : α → β) (g : α → β → γ) : ∀ (l : List α), List.zipWith g l (l.map f) = l.map fun e => g e (f e)
  | [] => rfl
  | x :: l => by simp [zip_map f g l]

theorem runA_E (l : List (Nd × Bool)) : ∀ (n : Nat) (t : List Nat), t.length = n → runA (autoE l) (autoE l).start t = l.map fun e => runE (mach e.1) e.2 (t.map fun (c : Nat) => (c : Int))
  | 0, t, h => by
    obtain rfl : t = [] := List.eq_nil_of_length_eq_zero h
    rfl
  | n + 1, t, h => by
    obtain ⟨r, c, rfl⟩ : ∃ r c, t = r ++ [c] := by
      rcases List.eq_nil_or_concat t with rfl | ⟨r, c, rfl⟩
      · simp at h
      · exact ⟨r, c, by simp⟩
    rw [runA_snoc, runA_E l n r (by simpa using h)]
    show List.zipWith _ l _ = _
    rw [zip_map]
    apply List.map_congr_left
    intro e _
    rw [List.map_append, List.map_cons, List.map_nil, runE_snoc]

theorem lang_E {l : List (Nd × Bool)} (hl : ∀ e ∈ l, RightX e.1) (classes : Nat) : langA (autoE l) outE classes (autoE l).start = tellsE l classes := by
  funext t
  unfold langA tellsE
  by_cases ht : ∀ c ∈ t, c < classes
  · rw [if_pos ht, if_pos ht, runA_E l _ t rfl, outE, List.map_map]
    congr 1
    apply List.map_congr_left
    intro e he
    exact runE_fits (hl e he) e.2 _
  · rw [if_neg ht, if_neg ht]

end Go.Proofs.Ytmooflmhbpckjaa
