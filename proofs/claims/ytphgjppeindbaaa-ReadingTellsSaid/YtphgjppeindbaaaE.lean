/-
  reader.run. No condition beyond what each theorem names.
-/
import Derived.Test.YtphgjppeindbaaaD
set_option linter.unusedVariables false
set_option linter.unusedSimpArgs false
namespace Go.Proofs.Ytphgjppeindbaaa
open Go.RowKit

/-- a set that was made since a world, or stands in the block of another value -/
def Came (w : World) (r : Nat → Nat → Prop) (bs : List Bool) (fv : Value) (e : Ending) (w' : World) : Prop :=
  ∃ v out, e = .returned v ∧ Bools w' v out ∧ img r bs out ∧ Below w.heap.size w w' ∧ ∀ k, v.ownBlock = some k → fv.ownBlock = some k ∨ w.heap.size ≤ k

theorem Fresh.came {w w' : World} {r : Nat → Nat → Prop} {bs : List Bool} {fv : Value} {e : Ending} (h : Fresh w r bs e w') : Came w r bs fv e w' := by
  obtain ⟨g, out, rfl, hg, hrow, himg, hb⟩ := h
  refine ⟨_, out, rfl, by have := hrow.bools; rwa [himg.1] at this, himg, hb, fun k hk => .inr ?_⟩
  obtain rfl : g = k := by simpa [Value.ownBlock] using hk
  exact hg

theorem step_any (back : Bool) (w : World) (tv fv cv : Value) (t cls : List Int) (bs : List Bool) (hn : t.length ≤ 1000000) (hl : bs.length = t.length + 1) (hc : cls.length ≤ 9223372036854775807) (ht : Ints w tv t) (hf : Bools w fv bs) (hcl : Ints w cv cls) :
    Calls Try.prog 37 #[.agg #[tv, .bool back], fv, cv] w (Fresh w (Rel back (one t cls)) bs) := by
  cases back
  · exact step_false w tv fv cv t cls bs hn hl hc ht hf hcl
  · exact step_true w tv fv cv t cls bs hn hl hc ht hf hcl

theorem img_same {r s : Nat → Nat → Prop} {bs out : List Bool} (h : img r bs out) (hrs : ∀ p q, r p q ↔ s p q) : img s bs out :=
  ⟨h.1, fun q => (h.2 q).trans ⟨fun ⟨p, h1, h2⟩ => ⟨p, h1, (hrs p q).1 h2⟩, fun ⟨p, h1, h2⟩ => ⟨p, h1, (hrs p q).2 h2⟩⟩⟩
theorem img_refl (bs : List Bool) : img (fun p q => p = q) bs bs := ⟨rfl, fun q => ⟨fun h => ⟨q, h, rfl⟩, fun ⟨p, h1, h2⟩ => h2 ▸ h1⟩⟩
theorem Rel_iff {back : Bool} {r s : Nat → Nat → Prop} (h : ∀ p q, r p q ↔ s p q) (p q : Nat) : Rel back r p q ↔ Rel back s p q := by cases back <;> exact h _ _
theorem Rel_eq {back : Bool} (p q : Nat) : Rel back (fun a b => a = b) p q ↔ p = q := by cases back <;> simp [Rel, eq_comm]

/-- the parts in the order in which they are gone through -/
def ordered (back : Bool) (ps : List Nd) : List Nd := match back with | true => ps.reverse | false => ps
/-- the chain through some parts, each as it is gone through -/
def chain (t : List Int) (back : Bool) (l : List Nd) : Nat → Nat → Prop := match back with | true => fun p q => Mseq t l.reverse q p | false => Mseq t l
theorem chain_nil (t : List Int) (back : Bool) (p q : Nat) : chain t back [] p q ↔ p = q := by cases back <;> simp [chain, Mseq, eq_comm]
theorem chain_snoc (t : List Int) (back : Bool) (l : List Nd) (x : Nd) (p q : Nat) : chain t back (l ++ [x]) p q ↔ ∃ m, chain t back l p m ∧ Rel back (M t x) m q := by
  cases back
  · simp only [chain, Rel, Mseq_append, Mseq_one]
  · simp only [chain, Rel, List.reverse_append, List.reverse_cons, List.reverse_nil, List.nil_append, Mseq_append, Mseq_one]
    exact ⟨fun ⟨c, h1, h2⟩ => ⟨c, h2, h1⟩, fun ⟨c, h1, h2⟩ => ⟨c, h2, h1⟩⟩
theorem chain_all (t : List Int) (back : Bool) (ps : List Nd) (p q : Nat) : chain t back (ordered back ps) p q ↔ Rel back (Mseq t ps) p q := by
  cases back <;> simp [chain, ordered, Rel]
theorem img_chain {t : List Int} {back : Bool} {l : List Nd} {x : Nd} {bs cur out : List Bool} (h1 : img (chain t back l) bs cur) (h2 : img (Rel back (M t x)) cur out) : img (chain t back (l ++ [x])) bs out := by
  refine ⟨h2.1.trans h1.1, fun q => ⟨fun h => ?_, fun ⟨p, h3, h4⟩ => ?_⟩⟩
  · obtain ⟨m, h3, h4⟩ := (h2.2 q).1 h
    obtain ⟨p, h5, h6⟩ := (h1.2 m).1 h3
    exact ⟨p, h5, (chain_snoc ..).2 ⟨m, h6, h4⟩⟩
  · obtain ⟨m, h5, h6⟩ := (chain_snoc ..).1 h4
    exact (h2.2 q).2 ⟨m, (h1.2 m).2 ⟨p, h3, h5⟩, h6⟩

theorem M_0 {t : List Int} {cls : List Int} {ps : List Nd} (p q : Nat) : M t (.mk 0 cls ps) p q ↔ p = q := by unfold M; simp
theorem M_1 {t : List Int} {cls : List Int} {ps : List Nd} (p q : Nat) : M t (.mk 1 cls ps) p q ↔ one t cls p q := by unfold M; simp [one]
theorem M_2 {t : List Int} {cls : List Int} {ps : List Nd} (p q : Nat) : M t (.mk 2 cls ps) p q ↔ Mseq t ps p q := by unfold M; simp
theorem M_3 {t : List Int} {cls : List Int} {ps : List Nd} (p q : Nat) : M t (.mk 3 cls ps) p q ↔ Malt t ps p q := by unfold M; simp
theorem M_4 {t : List Int} {cls : List Int} {ps : List Nd} (p q : Nat) : M t (.mk 4 cls ps) p q ↔ ps.length = 1 ∧ Star (Malt t ps) p q := by unfold M; simp
theorem M_5 {t : List Int} {cls : List Int} {ps : List Nd} (p q : Nat) : M t (.mk 5 cls ps) p q ↔ ps.length = 1 ∧ (p = q ∨ Malt t ps p q) := by unfold M; simp
theorem M_else {t : List Int} {op : Int} {cls : List Int} {ps : List Nd} (h0 : op ≠ 0) (h1 : op ≠ 1) (h2 : op ≠ 2) (h3 : op ≠ 3) (h4 : op ≠ 4) (h5 : op ≠ 5) (p q : Nat) : ¬ M t (.mk op cls ps) p q := by unfold M; simp [*]

theorem no_places (n : Nat) (q : Nat) : ¬ tr (List.replicate n false) q := by
  unfold tr; rw [List.getElem?_replicate]; split <;> simp

/-- how many places are not in a set that is known whole -/
def falses (w : World) (g : Nat) : Nat := match w.heap[g]? with | some (.cells c _ _) => (c.toList.filter fun v => match v with | .bool b => !b | _ => false).length | _ => 0
theorem falses_row {w : World} {g : Nat} {bs : List Bool} (h : BRow w g bs) : falses w g = (bs.filter (fun b => !b)).length := by
  unfold falses
  rw [show w.heap[g]? = _ from h]
  simp only [List.filter_map, List.length_map]
  rfl
theorem filter_lt : ∀ {bs cs : List Bool}, cs.length = bs.length → (∀ q, tr bs q → tr cs q) → (∃ q, tr cs q ∧ ¬ tr bs q) → (cs.filter (fun b => !b)).length < (bs.filter (fun b => !b)).length
  | [], [], _, _, ⟨q, h, _⟩ => by simp [tr] at h
  | b :: bs, c :: cs, hl, hs, ⟨q, h1, h2⟩ => by
    have hl' : cs.length = bs.length := by simpa using hl
    have hs' : ∀ q, tr bs q → tr cs q := fun q h => by have := hs (q + 1); simpa [tr] using this h
    have hle : (cs.filter (fun b => !b)).length ≤ (bs.filter (fun b => !b)).length := filter_le hl' hs'
    have h0 : b = true → c = true := fun h => by have := hs 0; simpa [tr, h] using this
    cases q with
    | zero =>
      have e1 : c = true := by simpa [tr] using h1
      have e2 : b = false := by simpa [tr] using h2
      subst e1 e2
      simp; omega
    | succ q =>
      have ih := filter_lt hl' hs' ⟨q, by simpa [tr] using h1, by simpa [tr] using h2⟩
      cases b <;> cases c <;> simp at * <;> omega
where
  filter_le : ∀ {bs cs : List Bool}, cs.length = bs.length → (∀ q, tr bs q → tr cs q) → (cs.filter (fun b => !b)).length ≤ (bs.filter (fun b => !b)).length
  | [], [], _, _ => by simp
  | b :: bs, c :: cs, hl, hs => by
    have hl' : cs.length = bs.length := by simpa using hl
    have hs' : ∀ q, tr bs q → tr cs q := fun q h => by have := hs (q + 1); simpa [tr] using this h
    have ih := filter_le hl' hs'
    have h0 : b = true → c = true := fun h => by have := hs 0; simpa [tr, h] using this
    cases b <;> cases c <;> simp at * <;> omega
end Go.Proofs.Ytphgjppeindbaaa
