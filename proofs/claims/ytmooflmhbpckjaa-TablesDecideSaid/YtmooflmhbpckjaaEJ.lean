/-
  dfa: what least has while it goes through the states. No condition beyond what each theorem names.
-/
import Derived.Test.YtmooflmhbpckjaaEI
set_option linter.unusedVariables false
set_option linter.unusedSimpArgs false
namespace Go.Proofs.Ytmooflmhbpckjaa
open Go.RowKit Go.Maps Classical

def litI (o : Nat) : Lit := .int .i64 (o : Nat)
theorem litI_inj {x y : Nat} (h : litI x = litI y) : x = y := by
  unfold litI at h
  injection h with _ h
  omega

/-- the machine that is made, the map of numbers, and the list of states that were met -/
structure LSt (base : Nat) (w : World) (mb ob classes : Nat) (F : Nat → Prop) (mv nv ov : Value) (ks : List Lit) (M : List Nat) (N : List (List Nat)) (O : List Nat) : Prop where
  m : MSt base w ob classes F nv ov N O
  num : NumMap 3 w mb ks
  mb0 : base ≤ mb
  met : OwnL intE 3 1 base w mv (natsI M)
  foot : ∀ k, F k → k ≠ mb ∧ mv.ownBlock ≠ some k

section
variable {base : Nat} {w w' : World} {mb ob classes : Nat} {F G : Nat → Prop} {mv nv ov : Value} {ks : List Lit} {M : List Nat} {N : List (List Nat)} {O : List Nat}
theorem LSt.fr (h : LSt base w mb ob classes F mv nv ov ks M N O) (hf : Fr G w w') (hG : ∀ k, k < w.heap.size → G k → ¬ F k ∧ k ≠ ob ∧ k ≠ mb ∧ mv.ownBlock ≠ some k ∧ nv.ownBlock ≠ some k ∧ ov.ownBlock ≠ some k) : LSt base w' mb ob classes F mv nv ov ks M N O := by
  refine ⟨h.m.fr hf (fun k hk g => ?_), h.num.fr hf (fun g => (hG mb h.num.lt g).2.2.1 rfl), h.mb0, ?_, h.foot⟩
  · obtain ⟨h1, h2, h3, h4, h5, h6⟩ := hG k hk g
    exact ⟨h1, h2, h5, h6⟩
  · exact h.met.fr hf (fun k hk g => (hG k (h.met.lt k hk).2 g).2.2.2.1 hk)
theorem LSt.below (h : LSt base w mb ob classes F mv nv ov ks M N O) (hb : Below w.heap.size w w') : LSt base w' mb ob classes F mv nv ov ks M N O :=
  h.fr (Fr.of_belowB hb) (fun k hk hg => by omega)
/-- the map alone has turned -/
theorem LSt.newK (h : LSt base w mb ob classes F mv nv ov ks M N O) {ks' : List Lit} (hg : w.grownBy w' (some mb)) (hn : NumMap 3 w' mb ks') : LSt base w' mb ob classes F mv nv ov ks' M N O := by
  have hf : Fr (fun k => k = mb) w w' := Fr.grown (F := fun k => k = mb) hg (fun k h => by injection h with h; exact h.symm)
  have hne : ∀ {α : Type} {E : α → List Value → Prop} {T : TypeId} {v : Value} {xs : List α}, OwnL E T 1 base w v xs → v.ownBlock ≠ some mb := fun {α E T v xs} ho hk => by
    obtain ⟨cs, hcs⟩ := ho.blkT mb hk
    exact h.num.notAt hcs rfl
  refine ⟨h.m.fr hf (fun k hk (g : k = mb) => ?_), hn, h.mb0, h.met.fr hf (fun k hk (g : k = mb) => hne h.met (by rw [hk, g])), h.foot⟩
  subst g
  exact ⟨fun hF => (h.foot k hF).1 rfl, fun e => h.num.notAt h.m.mach e.symm, hne h.m.next, hne h.m.outs⟩
/-- a state was appended -/
theorem LSt.newM (h : LSt base w mb ob classes F mv nv ov ks M N O) {mv' : Value} {M' : List Nat} (hf : Fr (fun k => mv.ownBlock = some k) w w')
    (hown : OwnL intE 3 1 base w' mv' (natsI M')) (hl : mv'.ownBlock = mv.ownBlock ∨ ∀ k, mv'.ownBlock = some k → w.heap.size ≤ k) : LSt base w' mb ob classes F mv' nv ov ks M' N O := by
  refine ⟨h.m.fr hf (fun k hk g => ⟨fun hF => (h.foot k hF).2 g, fun e => ?_, fun e => ?_, fun e => ?_⟩), h.num.fr hf (fun g => ?_), h.mb0, hown, fun k hk => ⟨(h.foot k hk).1, fun hk2 => ?_⟩⟩
  · subst e; exact h.met.notAt h.m.mach (by decide) g
  · obtain ⟨cs, hcs⟩ := h.m.next.blkT k e
    exact h.met.notAt hcs (by decide) g
  · obtain ⟨cs, hcs⟩ := h.m.outs.blkT k e
    exact h.met.notAt hcs (by decide) g
  · obtain ⟨cs, hcs⟩ := h.met.blkT mb g
    exact h.num.notAt hcs rfl
  · rcases hl with hl | hl
    · exact (h.foot k hk).2 (hl ▸ hk2)
    · have := hl k hk2
      have := (h.m.foot k hk).2.1
      omega
theorem LSt.put (h : LSt base w mb ob classes F mv nv ov ks M N O) {g : Nat} {vs : List Value} (hv : VRow w g 3 vs) (hg : ¬ F g) (hmv : mv.ownBlock ≠ some g) (i : Nat) (u : Value) : LSt base (w.setCell ⟨g, i, none⟩ u) mb ob classes F mv nv ov ks M N O := by
  have hf : Fr (fun k => k = g) w (w.setCell ⟨g, i, none⟩ u) := Fr.setCell (F := fun k => k = g) w rfl _
  refine h.fr hf (fun k _ (e : k = g) => ?_)
  subst e
  exact ⟨hg, fun e => hv.not_mach h.m.mach e, h.num.notAt hv, hmv, h.m.next.notAt hv (by decide), h.m.outs.notAt hv (by decide)⟩
theorem LSt.newN (h : LSt base w mb ob classes F mv nv ov ks M N O) (hbw : base ≤ w.heap.size) {F' : Nat → Prop} (hF : ∀ k, F k → F' k) (hX : ∀ k, F' k → F k ∨ (base ≤ k ∧ k < w.heap.size ∧ k ≠ ob ∧ nv.ownBlock ≠ some k ∧ ov.ownBlock ≠ some k ∧ k ≠ mb ∧ mv.ownBlock ≠ some k)) {w1 w2 : World} {nv' : Value} {N' : List (List Nat)} (hf : Fr (fun k => nv.ownBlock = some k) w w1)
    (hown : OwnL (nrowE F' w) 46 1 base w1 nv' N') (hl : nv'.ownBlock = nv.ownBlock ∨ ∀ k, nv'.ownBlock = some k → w.heap.size ≤ k) (h2 : w2 = w1.setCell ⟨ob, 1, none⟩ nv') : LSt base w2 mb ob classes F' mv nv' ov ks M N' O ∧ Fr (fun k => nv.ownBlock = some k ∨ k = ob) w w2 := by
  have hm := h.m.more hF (fun k hk => by
    rcases hX k hk with h1 | ⟨h1, h2, h3, h4, h5, -⟩
    · exact .inl h1
    · exact .inr ⟨h1, h2, h3, h4, h5⟩)
  obtain ⟨k1, k2⟩ := hm.newN hbw hf hown hl h2
  refine ⟨⟨k1, h.num.fr k2 (fun g => ?_), h.mb0, h.met.fr k2 (fun k hk g => ?_), fun k hk => ?_⟩, k2⟩
  · rcases g with g | g
    · obtain ⟨cs, hcs⟩ := h.m.next.blkT mb g
      exact h.num.notAt hcs rfl
    · exact h.num.notAt h.m.mach g.symm
  · rcases g with g | g
    · obtain ⟨cs, hcs⟩ := h.met.blkT k hk
      exact h.m.next.notAt hcs (by decide) g
    · exact h.met.notAt h.m.mach (by decide) (by rw [hk, g])
  · rcases hX k hk with h1 | ⟨-, -, -, -, -, h1, h2⟩
    · exact h.foot k h1
    · exact ⟨h1, h2⟩
theorem LSt.newO (h : LSt base w mb ob classes F mv nv ov ks M N O) (hbw : base ≤ w.heap.size) {w1 w2 : World} {ov' : Value} {O' : List Nat} (hf : Fr (fun k => ov.ownBlock = some k) w w1)
    (hown : OwnL u64E 37 1 base w1 ov' O') (hl : ov'.ownBlock = ov.ownBlock ∨ ∀ k, ov'.ownBlock = some k → w.heap.size ≤ k) (h2 : w2 = w1.setCell ⟨ob, 2, none⟩ ov') : LSt base w2 mb ob classes F mv nv ov' ks M N O' ∧ Fr (fun k => ov.ownBlock = some k ∨ k = ob) w w2 := by
  obtain ⟨k1, k2⟩ := h.m.newO hbw hf hown hl h2
  refine ⟨⟨k1, h.num.fr k2 (fun g => ?_), h.mb0, h.met.fr k2 (fun k hk g => ?_), h.foot⟩, k2⟩
  · rcases g with g | g
    · obtain ⟨cs, hcs⟩ := h.m.outs.blkT mb g
      exact h.num.notAt hcs rfl
    · exact h.num.notAt h.m.mach g.symm
  · rcases g with g | g
    · obtain ⟨cs, hcs⟩ := h.met.blkT k hk
      exact h.m.outs.notAt hcs (by decide) g
    · exact h.met.notAt h.m.mach (by decide) (by rw [hk, g])
end

/-! ### the law of least -/
section
variable {N : List (List Nat)} {O : List Nat} {classes : Nat} {p : List Nat}
/-- marks that tell apart what the states' languages do: places and new ones -/
theorem mark_place (hp : ∀ i j, i < N.length → j < N.length → (at0 p i = at0 p j ↔ TellSame N O classes i j)) {M : List Nat} (hM : ∀ x ∈ M, x < N.length) {n : Nat} (hn : n < N.length) :
    place (M.map fun x => litI (at0 p x)) (litI (at0 p n)) = place (M.map (langN N O classes)) (langN N O classes n) ∧ (litI (at0 p n) ∈ M.map (fun x => litI (at0 p x)) ↔ langN N O classes n ∈ M.map (langN N O classes)) := by
  have h : ∀ y ∈ M, (fun x => litI (at0 p x)) y = (fun x => litI (at0 p x)) n ↔ langN N O classes y = langN N O classes n := fun y hy => by
    rw [langN_eq, ← hp y n (hM y hy) hn]
    exact ⟨fun e => litI_inj e, fun e => congrArg litI e⟩
  exact ⟨place_map (f := fun x => litI (at0 p x)) (g := langN N O classes) (x := n) (l := M) h, mem_map_iff (f := fun x => litI (at0 p x)) (g := langN N O classes) (x := n) (l := M) h⟩
end
end Go.Proofs.Ytmooflmhbpckjaa
