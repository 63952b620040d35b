import Derived.Test.YthmaokjhncokdaaBS
/-
  A ruleset that is being made, rule by rule. No condition beyond what each theorem names.
-/
set_option linter.unusedVariables false
set_option linter.unusedSimpArgs false
namespace Go.Proofs.Ythmaokjhncokdaa
open Go.RowKit Classical

/-- a ruleset in block G, its rules a list of one's own -/
structure RS (E : Rl → List Value → Prop) (base G : Nat) (cs : Value) (W : World) (pv : Value) (xs : List Rl) : Prop where
  out : W.heap[G]? = some (.cells #[cs, pv] 25)
  own : OwnL E 54 8 base W pv xs
  apart : pv.ownBlock ≠ some G

section
variable {E : Rl → List Value → Prop} {base G : Nat} {cs : Value} {W W' : World} {pv : Value} {xs : List Rl}
theorem RS.keep (h : RS E base G cs W pv xs) {F : Nat → Prop} (hf : Fr F W W') (hG : ¬ F G) (ho : ∀ j, pv.ownBlock = some j → ¬ F j) : RS E base G cs W' pv xs :=
  ⟨(hf.block G (at_lt h.out) hG).trans h.out, h.own.fr hf ho, h.apart⟩
theorem RS.below (h : RS E base G cs W pv xs) (hb : Below W.heap.size W W') : RS E base G cs W' pv xs :=
  ⟨(hb.block G (at_lt h.out)).trans h.out, h.own.below hb (Nat.le_refl _), h.apart⟩

/-- what an append and the store of its answer come to -/
structure RSNext (E : Rl → List Value → Prop) (base G : Nat) (cs : Value) (W : World) (pv : Value) (W' : World) (pv' : Value) (ys : List Rl) : Prop where
  rs : RS E base G cs W' pv' ys
  fr : Fr (fun j => j = G ∨ pv.ownBlock = some j) W W'
  new : ∀ j, j < W.heap.size → pv.ownBlock ≠ some j → pv'.ownBlock ≠ some j
theorem RS.put (h : RS E base G cs W pv xs) {Wa w4 : World} (ha : Below W.heap.size W Wa) {p4 : Option Addr} {n4 c4 : Nat} {ys : List Rl} (hown : OwnL E 54 8 base w4 (.slice p4 n4 c4) ys) (hg : Wa.grownBy w4 pv.ownBlock)
    (hlie : (Value.slice p4 n4 c4).ownBlock = pv.ownBlock ∨ (Value.slice p4 n4 c4).ownBlock = some Wa.heap.size) : w4.heap[G]? = some (.cells #[cs, pv] 25) ∧ RSNext E base G cs W pv (w4.setCell ⟨G, 1, none⟩ (.slice p4 n4 c4)) (.slice p4 n4 c4) ys := by
  have hf4 : Fr (fun j => pv.ownBlock = some j) W w4 := (Fr.of_below ha _).trans (Fr.grown (F := fun j => pv.ownBlock = some j) hg (fun k h => h)) (fun _ _ h => h)
  have hG4 : w4.heap[G]? = some (.cells #[cs, pv] 25) := (hf4.block G (at_lt h.out) h.apart).trans h.out
  have key : ∀ j, j < W.heap.size → pv.ownBlock ≠ some j → (Value.slice p4 n4 c4).ownBlock ≠ some j := fun j h1 h2 he => by
    rcases hlie with h | h
    · exact h2 (h ▸ he)
    · rw [he] at h; injection h with h; have := ha.size; omega
  have hap := key G (at_lt h.out) h.apart
  have hFR := Fr.setCell (F := fun j => j = G) w4 (p := ⟨G, 1, none⟩) rfl (.slice p4 n4 c4)
  refine ⟨hG4, ⟨blk_set hG4 1 (.slice p4 n4 c4), hown.fr hFR (fun j hj he => hap (he ▸ hj)), hap⟩, ?_, key⟩
  exact (hf4.mono (G := fun j => j = G ∨ pv.ownBlock = some j) (fun k _ hk => .inr hk)).trans (hFR.mono (G := fun j => j = G ∨ pv.ownBlock = some j) (fun k _ hk => .inl hk)) (fun _ _ h => h)
end
end Go.Proofs.Ythmaokjhncokdaa

