/-
  dfa: what all has while it goes through the situations. No condition beyond what each theorem names.
-/
import Derived.Test.YtmooflmhbpckjaaEF
import Derived.Test.YtmooflmhbpckjaaEA
set_option linter.unusedVariables false
set_option linter.unusedSimpArgs false
namespace Go.Proofs.Ytmooflmhbpckjaa
open Go.RowKit Classical

section
variable {σ τ : Type}
theorem key_place {P : σ → Prop} {f : σ → τ} (hf : ∀ x y, P x → P y → f x = f y → x = y) {l : List σ} {s : σ} (hl : ∀ y ∈ l, P y) (hs : P s) :
    place (l.map f) (f s) = place l s ∧ putS (l.map f) (f s) = (putS l s).map f ∧ (f s ∈ l.map f ↔ s ∈ l) := by
  have h : ∀ y ∈ l, f y = f s ↔ id y = id s := fun y hy => ⟨fun e => hf y s (hl y hy) hs e, fun e => by rw [show y = s from e]⟩
  have h1 := place_map (f := f) (g := id) (x := s) (l := l) h
  have h2 := mem_map_iff (f := f) (g := id) (x := s) (l := l) h
  rw [List.map_id] at h1 h2
  refine ⟨h1, ?_, h2⟩
  unfold putS
  by_cases hm : s ∈ l
  · rw [if_pos hm, if_pos (h2.2 hm)]
  · rw [if_neg hm, if_neg (fun h3 => hm (h2.1 h3)), List.map_append]
    rfl

theorem put_allP {P : σ → Prop} {l : List σ} {s : σ} (hl : ∀ x ∈ l, P x) (hs : P s) : ∀ x ∈ putS l s, P x := by
  intro x hx
  rcases put_mem_iff.1 hx with h | h
  · exact hl x h
  · rw [h]; exact hs
theorem row_allP {A : Auto σ} {P : σ → Prop} (hst : ∀ s, P s → ∀ c, P (A.step s c)) {s : σ} (hs : P s) {l : List σ} (hl : ∀ x ∈ l, P x) : ∀ c, ∀ x ∈ rowS A s l c, P x
  | 0 => hl
  | c + 1 => put_allP (row_allP hst hs hl c) (hst s hs c)
theorem cl_allP {A : Auto σ} {P : σ → Prop} (hst : ∀ s, P s → ∀ c, P (A.step s c)) (h0 : P A.start) (classes : Nat) : ∀ n, ∀ x ∈ cl A classes n, P x
  | 0 => fun x hx => by rw [cl] at hx; rw [List.mem_singleton.1 hx]; exact h0
  | n + 1 => by
    rw [cl]
    split
    · rename_i s hs
      exact row_allP hst (cl_allP hst h0 classes n s (List.mem_of_getElem? hs)) (cl_allP hst h0 classes n) classes
    · exact cl_allP hst h0 classes n

/-- the ways of the first n -/
noncomputable def nextsAt (A : Auto σ) (classes n : Nat) : List (List Nat) := ((cl A classes n).take n).map fun s => (List.range classes).map fun c => place (cl A classes n) (A.step s c)
def outsAt {β : Type} (L : List σ) (out : σ → β) (n : Nat) : List β := (L.take n).map out
/-- one's ways, as they are met -/
noncomputable def rowN (A : Auto σ) (L : List σ) (s : σ) (k : Nat) : List Nat := (List.range k).map fun c => place (rowS A s L c) (A.step s c)
theorem rowN_snoc (A : Auto σ) (L : List σ) (s : σ) (k : Nat) : rowN A L s (k + 1) = rowN A L s k ++ [place (rowS A s L k) (A.step s k)] := by
  unfold rowN
  rw [List.range_succ, List.map_append]
  rfl
theorem rowN_length (A : Auto σ) (L : List σ) (s : σ) (k : Nat) : (rowN A L s k).length = k := by simp [rowN]

theorem cl_succ {A : Auto σ} {classes n : Nat} {s : σ} (hs : (cl A classes n)[n]? = some s) : cl A classes (n + 1) = rowS A s (cl A classes n) classes := by rw [cl, hs]
theorem cl_take {A : Auto σ} {classes n : Nat} {s : σ} (hs : (cl A classes n)[n]? = some s) : (cl A classes (n + 1)).take (n + 1) = (cl A classes n).take n ++ [s] := by
  have hl := (List.getElem?_eq_some_iff.1 hs)
  obtain ⟨r, e⟩ := cl_pre A classes n
  have hl1 := hl.1
  rw [← e, List.take_append_of_le_length (by omega), List.take_succ_eq_append_getElem hl.1, hl.2]
theorem nextsAt_succ {A : Auto σ} {classes n : Nat} {s : σ} (hs : (cl A classes n)[n]? = some s) : nextsAt A classes (n + 1) = nextsAt A classes n ++ [rowN A (cl A classes n) s classes] := by
  unfold nextsAt
  rw [cl_take hs, List.map_append]
  congr 1
  · apply List.map_congr_left
    intro x hx
    apply List.map_congr_left
    intro c hc
    obtain ⟨i, hi, e⟩ := List.getElem_of_mem hx
    rw [List.length_take] at hi
    rw [List.getElem_take] at e
    exact place_pre (cl_pre A classes n) (cl_closed (k := i) (by omega) (by rw [List.getElem?_eq_getElem (by omega), e]) c (List.mem_range.1 hc))
  · simp only [List.map_cons, List.map_nil, List.cons.injEq, and_true]
    unfold rowN
    apply List.map_congr_left
    intro c hc
    exact row_place hs (List.mem_range.1 hc) (List.prefix_refl _)
theorem outsAt_succ {β : Type} {A : Auto σ} {classes n : Nat} {s : σ} (out : σ → β) (hs : (cl A classes n)[n]? = some s) : outsAt (cl A classes (n + 1)) out (n + 1) = outsAt (cl A classes n) out n ++ [out s] := by
  unfold outsAt
  rw [cl_take hs, List.map_append]
  rfl
theorem nextsAt_over {A : Auto σ} {classes n : Nat} (h : Over A classes n) : nextsAt A classes n = nextsOf A classes (cl A classes n) := by
  unfold nextsAt nextsOf
  rw [List.take_of_length_le h]
theorem outsAt_over {β : Type} {A : Auto σ} {classes n : Nat} (out : σ → β) (h : Over A classes n) : outsAt (cl A classes n) out n = (cl A classes n).map out := by
  unfold outsAt
  rw [List.take_of_length_le h]
theorem rowS_length (A : Auto σ) (s : σ) (l : List σ) : ∀ c, (rowS A s l c).length ≤ l.length + c
  | 0 => Nat.le_refl _
  | c + 1 => by
    have := rowS_length A s l c
    rw [rowS]
    unfold putS
    split
    · omega
    · simp; omega
end

/-! ### in memory -/
/-- a situation as one cell; all its blocks lie in F -/
def sitE (F : Nat → Prop) (w : World) (s : List (List Int)) (row : List Value) : Prop := ∃ v, row = [v] ∧ v.oneCell' = true ∧ LLF F w v s
theorem sitE.fr {F G : Nat → Prop} {w w' : World} {s : List (List Int)} {row : List Value} (h : sitE F w s row) (hf : Fr G w w') (hg : ∀ k, F k → ¬ G k) : sitE F w' s row := by
  obtain ⟨v, rfl, h0, h1⟩ := h
  exact ⟨v, rfl, h0, h1.fr hf hg⟩
theorem sitE.mono {F G : Nat → Prop} {w : World} {s : List (List Int)} {row : List Value} (h : sitE F w s row) (hg : ∀ k, F k → G k) : sitE G w s row := by
  obtain ⟨v, rfl, h0, h1⟩ := h
  exact ⟨v, rfl, h0, h1.mono hg⟩

def u64E (x : Nat) (row : List Value) : Prop := row = [.int .u64 (x : Nat)]
def natsI (l : List Nat) : List Int := l.map fun (n : Nat) => (n : Int)
/-- ways, in memory -/
def nrowE (F : Nat → Prop) (w : World) (r : List Nat) (row : List Value) : Prop := rowE F w (natsI r) row

/-- what all, and least, have: the machine that is made -/
structure MSt (base : Nat) (w : World) (ob classes : Nat) (F : Nat → Prop) (nv ov : Value) (N : List (List Nat)) (O : List Nat) : Prop where
  mach : w.heap[ob]? = some (.cells #[.int .i64 (classes : Nat), nv, ov] 67)
  base0 : base ≤ ob
  next : OwnL (nrowE F w) 46 1 base w nv N
  outs : OwnL u64E 37 1 base w ov O
  foot : ∀ k, F k → base ≤ k ∧ k < w.heap.size ∧ k ≠ ob ∧ nv.ownBlock ≠ some k ∧ ov.ownBlock ≠ some k

section
variable {base : Nat} {w w' : World} {ob classes : Nat} {F G : Nat → Prop} {nv ov : Value} {N : List (List Nat)} {O : List Nat}
theorem MSt.fr (h : MSt base w ob classes F nv ov N O) (hf : Fr G w w') (hG : ∀ k, k < w.heap.size → G k → ¬ F k ∧ k ≠ ob ∧ nv.ownBlock ≠ some k ∧ ov.ownBlock ≠ some k) : MSt base w' ob classes F nv ov N O := by
  have hlt := at_lt h.mach
  have hfr : Fr (fun k => k < w.heap.size → G k) w w' := hf.mono (fun k hk hg _ => hg)
  refine ⟨(hf.block ob hlt (fun g => (hG ob hlt g).2.1 rfl)).trans h.mach, h.base0, ?_, ?_, fun k hk => ?_⟩
  · refine OwnL.mono (OwnL.fr h.next hf (fun k hk g => (hG k (h.next.lt k hk).2 g).2.2.1 hk)) (fun x r hr => ?_)
    exact rowE.fr hr hfr (fun k hk g => (hG k (h.foot k hk).2.1 (g (h.foot k hk).2.1)).1 hk)
  · exact h.outs.fr hf (fun k hk g => (hG k (h.outs.lt k hk).2 g).2.2.2 hk)
  · obtain ⟨h1, h2, h3⟩ := h.foot k hk
    exact ⟨h1, Nat.lt_of_lt_of_le h2 hf.size, h3⟩
theorem MSt.below (h : MSt base w ob classes F nv ov N O) (hb : Below w.heap.size w w') : MSt base w' ob classes F nv ov N O :=
  h.fr (Fr.of_belowB hb) (fun k hk hg => by omega)
/-- more blocks are kept -/
theorem MSt.more {F' : Nat → Prop} (h : MSt base w ob classes F nv ov N O) (hF : ∀ k, F k → F' k) (hX : ∀ k, F' k → F k ∨ (base ≤ k ∧ k < w.heap.size ∧ k ≠ ob ∧ nv.ownBlock ≠ some k ∧ ov.ownBlock ≠ some k)) : MSt base w ob classes F' nv ov N O :=
  ⟨h.mach, h.base0, h.next.mono (fun x r hr => rowE.mono hr hF), h.outs, fun k hk => by
    rcases hX k hk with h1 | h1
    · exact h.foot k h1
    · exact h1⟩

theorem infoU64 : (Try.prog.info? 37).map (fun i => (i.zero, i.size, i.bytes)) = some (some (.int .u64 0), 1, 8) := by kernel_rfl

/-- a row was appended to the ways, and their variable stored -/
theorem MSt.newN (h : MSt base w ob classes F nv ov N O) (hbw : base ≤ w.heap.size) {w1 w2 : World} {nv' : Value} {N' : List (List Nat)} (hf : Fr (fun k => nv.ownBlock = some k) w w1) (hown : OwnL (nrowE F w) 46 1 base w1 nv' N') (hl : nv'.ownBlock = nv.ownBlock ∨ ∀ k, nv'.ownBlock = some k → w.heap.size ≤ k)
    (h2 : w2 = w1.setCell ⟨ob, 1, none⟩ nv') : MSt base w2 ob classes F nv' ov N' O ∧ Fr (fun k => nv.ownBlock = some k ∨ k = ob) w w2 := by
  have hob1 := (hf.block ob (at_lt h.mach) (h.next.notAt h.mach (by decide))).trans h.mach
  have hf2 : Fr (fun k => k = ob) w1 w2 := by rw [h2]; exact Fr.setCell (F := fun k => k = ob) w1 rfl _
  have hf12 : Fr (fun k => nv.ownBlock = some k ∨ k = ob) w w2 := (hf.mono (fun k _ h => .inl h)).trans hf2 (fun k _ h => .inr h)
  refine ⟨⟨?_, h.base0, ?_, ?_, fun k hk => ?_⟩, hf12⟩
  · have := blk_set hob1 1 nv'
    rw [h2]
    exact this
  · refine OwnL.mono (OwnL.fr hown hf2 (fun k hk (he : k = ob) => hown.notAt hob1 (by decide) (by rw [hk, he]))) (fun x r hr => rowE.fr hr hf12 (fun k hk hg => ?_))
    obtain ⟨-, -, h3, h4, -⟩ := h.foot k hk
    rcases hg with hg | hg
    · exact h4 hg
    · exact h3 hg
  · refine h.outs.fr hf12 (fun k hk hg => ?_)
    rcases hg with hg | hg
    · obtain ⟨cs, hcs⟩ := h.outs.blkT k hk
      exact h.next.notAt hcs (by decide) hg
    · exact h.outs.notAt h.mach (by decide) (by rw [hk, hg])
  · obtain ⟨h1, h3, h4, h5, h6⟩ := h.foot k hk
    refine ⟨h1, Nat.lt_of_lt_of_le h3 hf12.size, h4, fun hk2 => ?_, h6⟩
    rcases hl with hl | hl
    · exact h5 (hl ▸ hk2)
    · have := hl k hk2; omega

/-- one was appended to what is told -/
theorem MSt.newO (h : MSt base w ob classes F nv ov N O) (hbw : base ≤ w.heap.size) {w1 w2 : World} {ov' : Value} {O' : List Nat} (hf : Fr (fun k => ov.ownBlock = some k) w w1) (hown : OwnL u64E 37 1 base w1 ov' O') (hl : ov'.ownBlock = ov.ownBlock ∨ ∀ k, ov'.ownBlock = some k → w.heap.size ≤ k)
    (h2 : w2 = w1.setCell ⟨ob, 2, none⟩ ov') : MSt base w2 ob classes F nv ov' N O' ∧ Fr (fun k => ov.ownBlock = some k ∨ k = ob) w w2 := by
  have hob1 := (hf.block ob (at_lt h.mach) (h.outs.notAt h.mach (by decide))).trans h.mach
  have hf2 : Fr (fun k => k = ob) w1 w2 := by rw [h2]; exact Fr.setCell (F := fun k => k = ob) w1 rfl _
  have hf12 : Fr (fun k => ov.ownBlock = some k ∨ k = ob) w w2 := (hf.mono (fun k _ h => .inl h)).trans hf2 (fun k _ h => .inr h)
  refine ⟨⟨?_, h.base0, ?_, ?_, fun k hk => ?_⟩, hf12⟩
  · have := blk_set hob1 2 ov'
    rw [h2]
    exact this
  · refine OwnL.mono (OwnL.fr h.next hf12 (fun k hk hg => ?_)) (fun x r hr => rowE.fr hr hf12 (fun k hk hg => ?_))
    · rcases hg with hg | hg
      · obtain ⟨cs, hcs⟩ := h.next.blkT k hk
        exact h.outs.notAt hcs (by decide) hg
      · exact h.next.notAt h.mach (by decide) (by rw [hk, hg])
    · obtain ⟨-, -, h3, -, h4⟩ := h.foot k hk
      rcases hg with hg | hg
      · exact h4 hg
      · exact h3 hg
  · exact hown.fr hf2 (fun k hk (he : k = ob) => hown.notAt hob1 (by decide) (by rw [hk, he]))
  · obtain ⟨h1, h3, h4, h5, h6⟩ := h.foot k hk
    refine ⟨h1, Nat.lt_of_lt_of_le h3 hf12.size, h4, h5, fun hk2 => ?_⟩
    rcases hl with hl | hl
    · exact h6 (hl ▸ hk2)
    · have := hl k hk2; omega
end

/-- .. and the list of situations that were met, and the map of their numbers -/
structure ASt (base : Nat) (w : World) (mb ob classes : Nat) (F : Nat → Prop) (lv nv ov : Value) (ks : List Lit) (L : List (List (List Int))) (N : List (List Nat)) (O : List Nat) : Prop where
  m : MSt base w ob classes F nv ov N O
  num : NumMap 9 w mb ks
  mb0 : base ≤ mb
  list : OwnL (sitE F w) 118 1 base w lv L
  foot : ∀ k, F k → k ≠ mb ∧ lv.ownBlock ≠ some k

section
variable {base : Nat} {w w' : World} {mb ob classes : Nat} {F G : Nat → Prop} {lv nv ov : Value} {ks : List Lit} {L : List (List (List Int))} {N : List (List Nat)} {O : List Nat}
theorem ASt.fr (h : ASt base w mb ob classes F lv nv ov ks L N O) (hf : Fr G w w') (hG : ∀ k, k < w.heap.size → G k → ¬ F k ∧ k ≠ ob ∧ k ≠ mb ∧ lv.ownBlock ≠ some k ∧ nv.ownBlock ≠ some k ∧ ov.ownBlock ≠ some k) : ASt base w' mb ob classes F lv nv ov ks L N O := by
  refine ⟨h.m.fr hf (fun k hk g => ?_), h.num.fr hf (fun g => (hG mb h.num.lt g).2.2.1 rfl), h.mb0, ?_, h.foot⟩
  · obtain ⟨h1, h2, h3, h4, h5, h6⟩ := hG k hk g
    exact ⟨h1, h2, h5, h6⟩
  · have hfr : Fr (fun k => k < w.heap.size → G k) w w' := hf.mono (fun k hk hg _ => hg)
    refine OwnL.mono (OwnL.fr h.list hf (fun k hk g => (hG k (h.list.lt k hk).2 g).2.2.2.1 hk)) (fun x r hr => ?_)
    exact sitE.fr hr hfr (fun k hk g => (hG k (h.m.foot k hk).2.1 (g (h.m.foot k hk).2.1)).1 hk)
theorem ASt.below (h : ASt base w mb ob classes F lv nv ov ks L N O) (hb : Below w.heap.size w w') : ASt base w' mb ob classes F lv nv ov ks L N O :=
  h.fr (Fr.of_belowB hb) (fun k hk hg => by omega)
/-- the map alone has turned -/
theorem ASt.newK (h : ASt base w mb ob classes F lv nv ov ks L N O) {ks' : List Lit} (hg : w.grownBy w' (some mb)) (hn : NumMap 9 w' mb ks') : ASt base w' mb ob classes F lv nv ov ks' L N O := by
  have hf : Fr (fun k => k = mb) w w' := Fr.grown (F := fun k => k = mb) hg (fun k h => by injection h with h; exact h.symm)
  have hfr : Fr (fun k => k = mb) w w' := hf
  have hne : ∀ {α : Type} {E : α → List Value → Prop} {T : TypeId} {v : Value} {xs : List α}, OwnL E T 1 base w v xs → v.ownBlock ≠ some mb := fun {α E T v xs} ho hk => by
    obtain ⟨cs, hcs⟩ := ho.blkT mb hk
    exact h.num.notAt hcs rfl
  refine ⟨h.m.fr hf (fun k hk (g : k = mb) => ?_), hn, h.mb0, ?_, h.foot⟩
  · subst g
    exact ⟨fun hF => (h.foot k hF).1 rfl, fun e => h.num.notAt h.m.mach e.symm, hne h.m.next, hne h.m.outs⟩
  · refine OwnL.mono (OwnL.fr h.list hf (fun k hk (g : k = mb) => hne h.list (by rw [hk, g]))) (fun x r hr => sitE.fr hr hfr (fun k hk (g : k = mb) => (h.foot k hk).1 g))
/-- a situation was appended; its blocks are kept from now on -/
theorem ASt.newL (h : ASt base w mb ob classes F lv nv ov ks L N O) {X : Nat → Prop} (hX : ∀ k, X k → base ≤ k ∧ k < w.heap.size ∧ k ≠ ob ∧ k ≠ mb ∧ lv.ownBlock ≠ some k ∧ nv.ownBlock ≠ some k ∧ ov.ownBlock ≠ some k) {lv' : Value} {L' : List (List (List Int))} (hf : Fr (fun k => lv.ownBlock = some k) w w')
    (hown : OwnL (sitE (fun k => F k ∨ X k) w) 118 1 base w' lv' L') (hl : lv'.ownBlock = lv.ownBlock ∨ ∀ k, lv'.ownBlock = some k → w.heap.size ≤ k) : ASt base w' mb ob classes (fun k => F k ∨ X k) lv' nv ov ks L' N O := by
  have hm : MSt base w ob classes (fun k => F k ∨ X k) nv ov N O := h.m.more (fun k hk => .inl hk) (fun k hk => by
    rcases hk with hk | hk
    · exact .inl hk
    · obtain ⟨h1, h2, h3, -, -, h4⟩ := hX k hk
      exact .inr ⟨h1, h2, h3, h4⟩)
  have hlb : ∀ k, (F k ∨ X k) → lv.ownBlock ≠ some k := fun k hk => by
    rcases hk with hk | hk
    · exact (h.foot k hk).2
    · exact (hX k hk).2.2.2.2.1
  refine ⟨hm.fr hf (fun k hk g => ⟨fun hF => hlb k hF g, fun e => ?_, fun e => ?_, fun e => ?_⟩), h.num.fr hf (fun g => ?_), h.mb0, ?_, fun k hk => ⟨?_, fun hk2 => ?_⟩⟩
  · subst e; exact h.list.notAt h.m.mach (by decide) g
  · obtain ⟨cs, hcs⟩ := h.m.next.blkT k e
    exact h.list.notAt hcs (by decide) g
  · obtain ⟨cs, hcs⟩ := h.m.outs.blkT k e
    exact h.list.notAt hcs (by decide) g
  · obtain ⟨cs, hcs⟩ := h.list.blkT mb g
    exact h.num.notAt hcs rfl
  · exact OwnL.mono hown (fun x r hr => sitE.fr hr hf (fun k hk g => hlb k hk g))
  · rcases hk with hk | hk
    · exact (h.foot k hk).1
    · exact (hX k hk).2.2.2.1
  · rcases hl with hl | hl
    · exact hlb k hk (hl ▸ hk2)
    · have := hl k hk2
      have := (hm.foot k hk).2.1
      omega
theorem VRow.not_mach {k : Nat} {vs : List Value} {cs : Array Value} (hv : VRow w k 3 vs) (h : w.heap[ob]? = some (.cells cs 67)) (e : k = ob) : False := by
  subst e
  have h1 : w.heap[k]? = some (.cells vs.toArray 3 (0, 0)) := hv
  rw [h1] at h
  cases h
/-- a cell of a row of one's own was stored -/
theorem MSt.put (h : MSt base w ob classes F nv ov N O) {g : Nat} {vs : List Value} (hv : VRow w g 3 vs) (hg : ¬ F g) (i : Nat) (u : Value) : MSt base (w.setCell ⟨g, i, none⟩ u) ob classes F nv ov N O := by
  have hf : Fr (fun k => k = g) w (w.setCell ⟨g, i, none⟩ u) := Fr.setCell (F := fun k => k = g) w rfl _
  refine h.fr hf (fun k _ (e : k = g) => ?_)
  subst e
  exact ⟨hg, fun e => hv.not_mach h.mach e, h.next.notAt hv (by decide), h.outs.notAt hv (by decide)⟩
theorem ASt.put (h : ASt base w mb ob classes F lv nv ov ks L N O) {g : Nat} {vs : List Value} (hv : VRow w g 3 vs) (hg : ¬ F g) (i : Nat) (u : Value) : ASt base (w.setCell ⟨g, i, none⟩ u) mb ob classes F lv nv ov ks L N O := by
  have hf : Fr (fun k => k = g) w (w.setCell ⟨g, i, none⟩ u) := Fr.setCell (F := fun k => k = g) w rfl _
  refine h.fr hf (fun k _ (e : k = g) => ?_)
  subst e
  exact ⟨hg, fun e => hv.not_mach h.m.mach e, h.num.notAt hv, h.list.notAt hv (by decide), h.m.next.notAt hv (by decide), h.m.outs.notAt hv (by decide)⟩
theorem fill_set (A : List Value) (m : Nat) (x z : Value) {c : Nat} (hc : A.length = c) (h : 0 < m) : (A ++ List.replicate m z).set c x = (A ++ [x]) ++ List.replicate (m - 1) z := by
  subst hc
  obtain ⟨j, rfl⟩ : ∃ j, m = j + 1 := ⟨m - 1, by omega⟩
  rw [List.set_append_right _ _ (Nat.le_refl _), Nat.sub_self, List.replicate_succ, List.set_cons_zero]
  simp
theorem ASt.newN (h : ASt base w mb ob classes F lv nv ov ks L N O) (hbw : base ≤ w.heap.size) {F' : Nat → Prop} (hF : ∀ k, F k → F' k) (hX : ∀ k, F' k → F k ∨ (base ≤ k ∧ k < w.heap.size ∧ k ≠ ob ∧ nv.ownBlock ≠ some k ∧ ov.ownBlock ≠ some k ∧ k ≠ mb ∧ lv.ownBlock ≠ some k)) {w1 w2 : World} {nv' : Value} {N' : List (List Nat)} (hf : Fr (fun k => nv.ownBlock = some k) w w1)
    (hown : OwnL (nrowE F' w) 46 1 base w1 nv' N') (hl : nv'.ownBlock = nv.ownBlock ∨ ∀ k, nv'.ownBlock = some k → w.heap.size ≤ k) (h2 : w2 = w1.setCell ⟨ob, 1, none⟩ nv') : ASt base w2 mb ob classes F' lv nv' ov ks L N' O ∧ Fr (fun k => nv.ownBlock = some k ∨ k = ob) w w2 := by
  have hm := h.m.more hF (fun k hk => by
    rcases hX k hk with h1 | ⟨h1, h2, h3, h4, h5, -⟩
    · exact .inl h1
    · exact .inr ⟨h1, h2, h3, h4, h5⟩)
  obtain ⟨k1, k2⟩ := hm.newN hbw hf hown hl h2
  refine ⟨⟨k1, h.num.fr k2 (fun g => ?_), h.mb0, OwnL.mono (OwnL.fr h.list k2 (fun k hk g => ?_)) (fun x r hr => (sitE.mono (sitE.fr hr k2 (fun k hk g => ?_)) hF)), fun k hk => ?_⟩, k2⟩
  · rcases g with g | g
    · obtain ⟨cs, hcs⟩ := h.m.next.blkT mb g
      exact h.num.notAt hcs rfl
    · exact h.num.notAt h.m.mach g.symm
  · rcases g with g | g
    · obtain ⟨cs, hcs⟩ := h.list.blkT k hk
      exact h.m.next.notAt hcs (by decide) g
    · exact h.list.notAt h.m.mach (by decide) (by rw [hk, g])
  · obtain ⟨-, -, h3, h4, -⟩ := h.m.foot k hk
    rcases g with g | g
    · exact h4 g
    · exact h3 g
  · rcases hX k hk with h1 | ⟨-, -, -, -, -, h1, h2⟩
    · exact h.foot k h1
    · exact ⟨h1, h2⟩
theorem ASt.newO (h : ASt base w mb ob classes F lv nv ov ks L N O) (hbw : base ≤ w.heap.size) {w1 w2 : World} {ov' : Value} {O' : List Nat} (hf : Fr (fun k => ov.ownBlock = some k) w w1)
    (hown : OwnL u64E 37 1 base w1 ov' O') (hl : ov'.ownBlock = ov.ownBlock ∨ ∀ k, ov'.ownBlock = some k → w.heap.size ≤ k) (h2 : w2 = w1.setCell ⟨ob, 2, none⟩ ov') : ASt base w2 mb ob classes F lv nv ov' ks L N O' ∧ Fr (fun k => ov.ownBlock = some k ∨ k = ob) w w2 := by
  obtain ⟨k1, k2⟩ := h.m.newO hbw hf hown hl h2
  refine ⟨⟨k1, h.num.fr k2 (fun g => ?_), h.mb0, OwnL.mono (OwnL.fr h.list k2 (fun k hk g => ?_)) (fun x r hr => sitE.fr hr k2 (fun k hk g => ?_)), h.foot⟩, k2⟩
  · rcases g with g | g
    · obtain ⟨cs, hcs⟩ := h.m.outs.blkT mb g
      exact h.num.notAt hcs rfl
    · exact h.num.notAt h.m.mach g.symm
  · rcases g with g | g
    · obtain ⟨cs, hcs⟩ := h.list.blkT k hk
      exact h.m.outs.notAt hcs (by decide) g
    · exact h.list.notAt h.m.mach (by decide) (by rw [hk, g])
  · obtain ⟨-, -, h3, -, h4⟩ := h.m.foot k hk
    rcases g with g | g
    · exact h4 g
    · exact h3 g
end
end Go.Proofs.Ytmooflmhbpckjaa
