/-
  Which places an expression takes one to from some. Plain definitions and theorems; no program.
-/
import Derived.Test.YtmooflmhbpckjaaMem
set_option linter.unusedVariables false
set_option linter.unusedSimpArgs false
namespace Go.Proofs.Ytmooflmhbpckjaa

/-- any number of steps -/
inductive Star (r : Nat → Nat → Prop) : Nat → Nat → Prop where
  | refl (a : Nat) : Star r a a
  | step {a b c : Nat} : Star r a b → r b c → Star r a c

theorem Star.head {r : Nat → Nat → Prop} {a b c : Nat} (h : r a b) (k : Star r b c) : Star r a c := by
  induction k with
  | refl => exact .step (.refl _) h
  | step _ h2 ih => exact .step ih h2
theorem Star.trans {r : Nat → Nat → Prop} {a b c : Nat} (h : Star r a b) (k : Star r b c) : Star r a c := by
  induction k with
  | refl => exact h
  | step _ h2 ih => exact .step ih h2
theorem Star.mono {r s : Nat → Nat → Prop} (hr : ∀ a b, r a b → s a b) {a b : Nat} (h : Star r a b) : Star s a b := by
  induction h with
  | refl => exact .refl _
  | step _ h2 ih => exact .step ih (hr _ _ h2)
theorem Star.swap {r : Nat → Nat → Prop} {a b : Nat} (h : Star r a b) : Star (fun x y => r y x) b a := by
  induction h with
  | refl => exact .refl _
  | step _ h2 ih => exact Star.head h2 ih

mutual
/-- an expression matches from a place to a place -/
def M (t : List Int) : Nd → Nat → Nat → Prop
  | .mk op cls parts, a, b =>
    if op = 0 then a = b
    else if op = 1 then b = a + 1 ∧ ∃ c, t[a]? = some c ∧ c ∈ cls
    else if op = 2 then Mseq t parts a b
    else if op = 3 then Malt t parts a b
    else if op = 4 then parts.length = 1 ∧ Star (Malt t parts) a b
    else if op = 5 then parts.length = 1 ∧ (a = b ∨ Malt t parts a b)
    else False
def Mseq (t : List Int) : List Nd → Nat → Nat → Prop
  | [], a, b => a = b
  | x :: r, a, b => ∃ c, M t x a c ∧ Mseq t r c b
def Malt (t : List Int) : List Nd → Nat → Nat → Prop
  | [], _, _ => False
  | x :: r, a, b => M t x a b ∨ Malt t r a b
end

theorem Malt_one {t : List Int} {x : Nd} {a b : Nat} : Malt t [x] a b ↔ M t x a b := by simp [Malt]

theorem Malt_mem {t : List Int} : ∀ {l : List Nd} {a b : Nat}, Malt t l a b ↔ ∃ x ∈ l, M t x a b
  | [], a, b => by simp [Malt]
  | x :: r, a, b => by simp [Malt, Malt_mem (l := r)]

theorem Mseq_append {t : List Int} : ∀ {l m : List Nd} {a b : Nat}, Mseq t (l ++ m) a b ↔ ∃ c, Mseq t l a c ∧ Mseq t m c b
  | [], m, a, b => by simp [Mseq]
  | x :: r, m, a, b => by
    simp only [List.cons_append, Mseq, Mseq_append (l := r)]
    constructor
    · rintro ⟨c, h1, d, h2, h3⟩; exact ⟨d, ⟨c, h1, h2⟩, h3⟩
    · rintro ⟨d, ⟨c, h1, h2⟩, h3⟩; exact ⟨c, h1, d, h2, h3⟩
theorem Mseq_one {t : List Int} {x : Nd} {a b : Nat} : Mseq t [x] a b ↔ M t x a b := by simp [Mseq]

/-- what holds of all matching, by the expression -/
theorem M_ind {t : List Int} {Q : Nat → Nat → Prop} (hr : ∀ a, Q a a) (ht : ∀ a b c, Q a b → Q b c → Q a c) :
    ∀ (x : Nd), (∀ (c : Int) (a : Nat), t[a]? = some c → Q a (a + 1)) → ∀ {a b : Nat}, M t x a b → Q a b
  | .mk op cls parts, h1, a, b, h => by
    have hseq : ∀ (l : List Nd), (∀ x ∈ l, x ∈ parts) → ∀ a b, Mseq t l a b → Q a b := by
      intro l
      induction l with
      | nil => intro _ a b h; simp only [Mseq] at h; exact h ▸ hr a
      | cons x r ih =>
        intro hm a b h
        simp only [Mseq] at h
        obtain ⟨c, h2, h3⟩ := h
        have := List.sizeOf_lt_of_mem (hm x (by simp))
        exact ht _ _ _ (M_ind hr ht x h1 h2) (ih (fun y hy => hm y (by simp [hy])) _ _ h3)
    have halt : ∀ a b, Malt t parts a b → Q a b := by
      intro a b h
      obtain ⟨x, hx, h2⟩ := Malt_mem.1 h
      have := List.sizeOf_lt_of_mem hx
      exact M_ind hr ht x h1 h2
    unfold M at h
    split at h
    · exact h ▸ hr a
    · split at h
      · obtain ⟨rfl, c, h2, -⟩ := h; exact h1 c a h2
      · split at h
        · exact hseq parts (fun _ h => h) a b h
        · split at h
          · exact halt a b h
          · split at h
            · obtain ⟨-, h⟩ := h
              induction h with
              | refl => exact hr _
              | step _ h3 ih => exact ht _ _ _ ih (halt _ _ h3)
            · split at h
              · rcases h.2 with rfl | h
                · exact hr _
                · exact halt _ _ h
              · exact h.elim
  termination_by x => SizeOf.sizeOf x
  decreasing_by all_goals (simp; omega)

theorem M_le {t : List Int} {x : Nd} {a b : Nat} (h : M t x a b) : a ≤ b := M_ind (Q := fun a b => a ≤ b) (fun a => Nat.le_refl _) (fun _ _ _ => Nat.le_trans) x (fun _ _ _ => Nat.le_succ _) h
theorem M_len {t : List Int} {x : Nd} {a b : Nat} (h : M t x a b) : b ≤ t.length ∨ a = b := by
  refine M_ind (Q := fun a b => b ≤ t.length ∨ a = b) (fun a => .inr rfl) (fun a b c h1 h2 => ?_) x (fun c a h => .inl (List.getElem?_eq_some_iff.1 h).1) h
  rcases h2 with h2 | rfl
  · exact .inl h2
  · exact h1

/-- the place is in the set -/
def tr (bs : List Bool) (q : Nat) : Prop := bs[q]? = some true

theorem tr_lt {bs : List Bool} {q : Nat} (h : tr bs q) : q < bs.length := (List.getElem?_eq_some_iff.1 h).1

/-- to the beginning, or to the end -/
def Rel (back : Bool) (r : Nat → Nat → Prop) (p q : Nat) : Prop := match back with | true => r q p | false => r p q

/-- where one comes to from a set -/
def img (r : Nat → Nat → Prop) (bs out : List Bool) : Prop := out.length = bs.length ∧ ∀ q, tr out q ↔ ∃ p, tr bs p ∧ r p q

/-- a rule fits at a place -/
def FitsAt (r : Rl) (t : List Int) (p : Nat) : Prop := (∃ a, M t r.left a p ∧ (r.start = true → a = 0)) ∧ ∃ b, b ≤ t.length ∧ M t r.right p b
open Classical in
noncomputable def fitsB (r : Rl) (t : List Int) (p : Int) : Bool := decide (0 ≤ p ∧ p ≤ t.length ∧ FitsAt r t p.toNat)
open Classical in
theorem fitsB_iff {r : Rl} {t : List Int} {p : Int} : fitsB r t p = true ↔ 0 ≤ p ∧ p ≤ t.length ∧ FitsAt r t p.toNat := by unfold fitsB; exact decide_eq_true_iff
theorem fitsB_false {r : Rl} {t : List Int} {p : Int} (h : ¬ (0 ≤ p ∧ p ≤ t.length ∧ FitsAt r t p.toNat)) : fitsB r t p = false := by
  cases hb : fitsB r t p
  · rfl
  · exact absurd (fitsB_iff.1 hb) h
noncomputable def whichI (rs : List Rl) (t : List Int) (p : Int) : Int := match rs.findIdx? (fun r => fitsB r t p) with | some i => (i : Int) | none => -1
/-- whether a place is a boundary -/
noncomputable def bndB (rs : List Rl) (t : List Int) (p : Nat) : Bool :=
  decide (0 < t.length) && (p == 0 || p == t.length || match rs.find? (fun r => fitsB r t p) with | some r => r.brk | none => true)
noncomputable def bnds (rs : List Rl) (t : List Int) : List Bool := (List.range (t.length + 1)).map (bndB rs t)
end Go.Proofs.Ytmooflmhbpckjaa
