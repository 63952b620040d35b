/-
  dfa, plain: the machine of a language, numbered as its states are met. No program, no condition beyond what each theorem names.
-/
import Derived.Test.YtmooflmhbpckjaaDD
set_option linter.unusedVariables false
set_option linter.unusedSimpArgs false
namespace Go.Proofs.Ytmooflmhbpckjaa
open Classical

section
variable {α β σ τ : Type}

theorem place_le (l : List σ) (s : σ) : place l s ≤ l.length := by
  by_cases h : s ∈ l
  · exact Nat.le_of_lt (place_lt h)
  · rw [place_new h]; exact Nat.le_refl _
theorem place_eq_len {l : List σ} {s : σ} : place l s = l.length ↔ s ∉ l := by
  constructor
  · intro h hm; have := place_lt hm; omega
  · exact place_new
theorem place_own {l : List σ} (hd : l.Nodup) {i : Nat} (hi : i < l.length) : place l l[i] = i := by
  have h1 := place_get (List.getElem_mem hi)
  have h2 := place_lt (List.getElem_mem hi)
  rw [List.getElem?_eq_getElem h2] at h1
  have h3 := Option.some.inj h1
  by_cases h : place l l[i] = i
  · exact h
  · exfalso
    rw [List.nodup_iff_pairwise_ne, List.pairwise_iff_getElem] at hd
    rcases Nat.lt_or_gt_of_ne h with h4 | h4
    · exact hd _ _ h2 hi h4 h3
    · exact hd _ _ hi h2 h4 h3.symm
theorem put_length (l : List σ) (s : σ) : (putS l s).length = if place l s = l.length then l.length + 1 else l.length := by
  by_cases h : s ∈ l
  · rw [if_neg (fun e => place_eq_len.1 e h), putS, if_pos h]
  · rw [if_pos (place_new h), putS, if_neg h, List.length_append]; rfl

theorem rowS_mono (A : Auto σ) (s : σ) (l : List σ) {k : Nat} : ∀ {m : Nat}, k ≤ m → rowS A s l k <+: rowS A s l m
  | 0, h => by obtain rfl : k = 0 := by omega
               exact List.prefix_refl _
  | m + 1, h => by
    by_cases e : k = m + 1
    · subst e; exact List.prefix_refl _
    · exact (rowS_mono A s l (by omega : k ≤ m)).trans (putS_pre _ _)

/-- a way's number is known as soon as it is met -/
theorem row_place {A : Auto σ} {classes n c : Nat} {s : σ} (hs : (cl A classes n)[n]? = some s) (hc : c < classes) {L : List σ} (hL : cl A classes (n + 1) <+: L) :
    place L (A.step s c) = place (rowS A s (cl A classes n) c) (A.step s c) := by
  have e : cl A classes (n + 1) = rowS A s (cl A classes n) classes := by rw [cl, hs]
  rw [e] at hL
  have h1 : rowS A s (cl A classes n) (c + 1) <+: L := (rowS_mono A s _ (by omega)).trans hL
  rw [place_pre h1 (rowS_mem A s _ (by omega)), rowS, place_put]

theorem over_get {A : Auto σ} {classes n i : Nat} {s : σ} (h : Over A classes n) (hs : (cl A classes n)[i]? = some s) : (cl A classes i)[i]? = some s := by
  have hi : i < (cl A classes n).length := (List.getElem?_eq_some_iff.1 hs).1
  by_cases hl : i < (cl A classes i).length
  · have hin : i ≤ n := by unfold Over at h; omega
    obtain ⟨r, e⟩ := cl_mono A classes hin
    rw [← e, List.getElem?_append_left hl] at hs
    exact hs
  · have ho : Over A classes i := by unfold Over; omega
    have hin : i ≤ n := by unfold Over at h; omega
    rw [over_mono ho hin] at hi
    omega

/-- nothing is behind the last stage -/
theorem over_same {A : Auto σ} {classes m n : Nat} (hm : Over A classes m) (hn : Over A classes n) : cl A classes m = cl A classes n := by
  by_cases h : m ≤ n
  · exact (over_mono hm h).symm
  · exact over_mono hn (by omega)

/-- THE MACHINE OF A LANGUAGE, of which n stages are enough -/
noncomputable def canonL (l0 : List Nat → Option β) (classes n : Nat) : List (List Nat → Option β) := cl (langAuto l0) classes n
noncomputable def canonNext (l0 : List Nat → Option β) (classes n : Nat) : List (List Nat) := nextsOf (langAuto l0) classes (canonL l0 classes n)
noncomputable def canonOut (l0 : List Nat → Option β) (classes n : Nat) : List (Option β) := (canonL l0 classes n).map fun l => l []

theorem canon_same {l0 : List Nat → Option β} {classes m n : Nat} (hm : Over (langAuto l0) classes m) (hn : Over (langAuto l0) classes n) : canonNext l0 classes m = canonNext l0 classes n ∧ canonOut l0 classes m = canonOut l0 classes n := by
  have e : canonL l0 classes m = canonL l0 classes n := over_same hm hn
  exact ⟨by rw [canonNext, canonNext, e], by rw [canonOut, canonOut, e]⟩

/-- where a row takes the machine of a language, it tells what the language tells -/
theorem canon_tells {l0 : List Nat → Option β} {classes n : Nat} (h : Over (langAuto l0) classes n) (t : List Nat) (ht : ∀ c ∈ t, c < classes) {i : Nat} {l : List Nat → Option β} (hi : (canonL l0 classes n)[i]? = some l) :
    (canonOut l0 classes n)[runN (canonNext l0 classes n) i t]? = some (l t) := by
  have h1 := congrFun (langN_all (A := langAuto l0) (classes := classes) (L := canonL l0 classes n) (fun l => l []) (over_closed h) hi) t
  unfold langN langA at h1
  rw [if_pos ht, if_pos ht] at h1
  have h2 := runLang l0 t l []
  rw [List.append_nil] at h2
  refine Eq.trans h1 ?_
  show some (runA (langAuto l0) l t []) = some (l t)
  rw [h2]

/-- two states of the machine of a language tell apart by a row -/
theorem canon_apart {l0 : List Nat → Option β} {classes n : Nat} (h : Over (langAuto l0) classes n) (h0 : ∀ t, (¬ ∀ c ∈ t, c < classes) → l0 t = none) {i j : Nat} (hi : i < (canonL l0 classes n).length) (hj : j < (canonL l0 classes n).length)
    (ha : TellSame (canonNext l0 classes n) (canonOut l0 classes n) classes i j) : i = j := by
  have hnone : ∀ l ∈ canonL l0 classes n, ∀ t, (¬ ∀ c ∈ t, c < classes) → l t = none := fun l hl t ht => by
    obtain ⟨u, hu, rfl⟩ := cl_met _ _ _ l hl
    show runA (langAuto l0) l0 u t = none
    rw [runLang]
    exact h0 _ (fun h2 => ht (fun c hc => h2 c (List.mem_append.2 (.inr hc))))
  have e : (canonL l0 classes n)[i] = (canonL l0 classes n)[j] := by
    funext t
    by_cases ht : ∀ c ∈ t, c < classes
    · have h1 := ha t ht
      rw [canon_tells h t ht (List.getElem?_eq_getElem hi), canon_tells h t ht (List.getElem?_eq_getElem hj)] at h1
      exact Option.some.inj h1
    · rw [hnone _ (List.getElem_mem hi) t ht, hnone _ (List.getElem_mem hj) t ht]
  have hd := cl_nodup (langAuto l0) classes n
  have p1 : place (canonL l0 classes n) (canonL l0 classes n)[i] = i := place_own hd hi
  have p2 : place (canonL l0 classes n) (canonL l0 classes n)[j] = j := place_own hd hj
  rw [← p1, ← p2, e]

end
end Go.Proofs.Ytmooflmhbpckjaa
