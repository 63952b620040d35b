/-
  dfa, plain: what Build comes to. No program, no condition beyond what each theorem names.
-/
import Derived.Test.YtmooflmhbpckjaaDF
set_option linter.unusedVariables false
set_option linter.unusedSimpArgs false
namespace Go.Proofs.Ytmooflmhbpckjaa
open Classical

section
variable {α β σ τ κ : Type}

/-- there are more than two thousand situations -/
def TooMany (A : Auto σ) (classes : Nat) : Prop := ∃ n, 2000 < (cl A classes n).length

theorem cl_grows {A : Auto σ} {classes : Nat} {n m : Nat} (h : n ≤ m) : (cl A classes n).length ≤ (cl A classes m).length := (cl_mono A classes h).length_le

/-- as long as there are not too many, two thousand looks are enough -/
theorem over_of_few {A : Auto σ} {classes : Nat} (h : ¬ TooMany A classes) : Over A classes 2000 := by
  unfold Over
  exact Nat.le_of_not_lt fun h2 => h ⟨2000, h2⟩
theorem few_of_over {A : Auto σ} {classes n : Nat} (h : Over A classes n) (hn : (cl A classes n).length ≤ 2000) : ¬ TooMany A classes := by
  rintro ⟨m, hm⟩
  by_cases hmn : m ≤ n
  · have := cl_grows (A := A) (classes := classes) hmn
    omega
  · rw [over_mono h (by omega)] at hm
    omega

/-- automata that go together have as many situations -/
theorem tooMany_hom {A : Auto σ} {B : Auto τ} {classes : Nat} {f : σ → τ} (H : Hom A B classes f) : TooMany A classes ↔ TooMany B classes := by
  unfold TooMany
  constructor
  · rintro ⟨n, h⟩
    exact ⟨n, by rw [← (cl_map H n).1, List.length_map]; exact h⟩
  · rintro ⟨n, h⟩
    exact ⟨n, by rw [← (cl_map H n).1, List.length_map] at h; exact h⟩

/-- the machine of all situations tells the automaton's language -/
theorem all_lang {A : Auto σ} {classes n : Nat} (out : σ → β) (h : Over A classes n) : langN (nextsOf A classes (cl A classes n)) ((cl A classes n).map out) classes 0 = langA A out classes A.start :=
  langN_all out (over_closed h) (cl_start A classes n)
theorem all_ok {A : Auto σ} {classes n : Nat} (out : σ → β) (h : Over A classes n) : OkN (nextsOf A classes (cl A classes n)) ((cl A classes n).map out) classes ∧ 0 < (nextsOf A classes (cl A classes n)).length :=
  ⟨okN_of out (over_closed h), by rw [nextsOf, List.length_map]; exact cl_pos A classes n⟩

/-- of a language of few situations two thousand looks are enough too -/
theorem canon_over {A : Auto σ} {classes : Nat} (out : σ → β) (h : ¬ TooMany A classes) : Over (langAuto (langA A out classes A.start)) classes 2000 := by
  have ho := over_of_few h
  have h1 := lang_over (all_ok out ho).1 (all_ok out ho).2
  rw [all_lang out ho] at h1
  have hlen : (nextsOf A classes (cl A classes 2000)).length ≤ 2000 := by
    rw [nextsOf, List.length_map]
    exact Nat.le_of_not_lt fun h2 => h ⟨2000, h2⟩
  have h2 := over_mono h1 hlen
  unfold Over at h1 ⊢
  rw [h2]
  omega

/-- the language's machine has no more states than there are situations -/
theorem canon_le {A : Auto σ} {classes : Nat} (out : σ → β) (h : ¬ TooMany A classes) : (canonL (langA A out classes A.start) classes 2000).length ≤ (cl A classes 2000).length := by
  have ho := over_of_few h
  have h1 := lang_over (all_ok out ho).1 (all_ok out ho).2
  rw [all_lang out ho] at h1
  have e : canonL (langA A out classes A.start) classes 2000 = cl (langAuto (langA A out classes A.start)) classes (nextsOf A classes (cl A classes 2000)).length := over_same (canon_over out h) h1
  rw [e]
  unfold Over at h1
  rw [nextsOf, List.length_map] at h1 ⊢
  exact h1

/-- WHAT BUILD COMES TO: too many situations, or too many states, or the language's machine. -/
def Built (A : Auto σ) (out : σ → β) (classes : Nat) (r : Option (List (List Nat) × List (Option β))) : Prop :=
  (r = none ∧ (TooMany A classes ∨ 400 < (canonL (langA A out classes A.start) classes 2000).length)) ∨
  (¬ TooMany A classes ∧ (canonL (langA A out classes A.start) classes 2000).length ≤ 400 ∧ r = some (canonNext (langA A out classes A.start) classes 2000, canonOut (langA A out classes A.start) classes 2000))

/-- what is built of two automata of one language is the same, if both are built -/
theorem built_same {A : Auto σ} {B : Auto τ} {classes : Nat} {out : σ → β} {out' : τ → β} (he : langA A out classes A.start = langA B out' classes B.start) {m m' : List (List Nat) × List (Option β)} (h : Built A out classes (some m)) (h' : Built B out' classes (some m')) : m = m' := by
  rcases h with ⟨h, -⟩ | ⟨-, -, h⟩
  · cases h
  rcases h' with ⟨h', -⟩ | ⟨-, -, h'⟩
  · cases h'
  rw [he] at h
  exact (Option.some.inj h).trans (Option.some.inj h').symm

/-- automata that go together, and tell the same, are built alike -/
theorem built_hom {A : Auto σ} {B : Auto τ} {classes : Nat} {out : σ → β} {out' : τ → β} {f : σ → τ} (H : Hom A B classes f) (he : langA A out classes A.start = langA B out' classes B.start) {r : Option (List (List Nat) × List (Option β))} : Built A out classes r ↔ Built B out' classes r := by
  unfold Built
  rw [tooMany_hom H, he]

end
end Go.Proofs.Ytmooflmhbpckjaa
