/-
  Lists of one's own, and what append makes of them. No condition beyond what each theorem names.
-/
import Derived.Test.YtmooflmhbpckjaaKE
set_option linter.unusedVariables false
set_option linter.unusedSimpArgs false
namespace Go.Proofs.Ytmooflmhbpckjaa
open Go.RowKit

/-- v owns, from block base on, elements of sz cells each, which are as E says -/
def OwnL {α : Type} (E : α → List Value → Prop) (T : TypeId) (sz base : Nat) (w : World) (v : Value) (xs : List α) : Prop :=
  ∃ rows : List (List Value), w.ownsRow base T sz v xs.length rows.flatten ∧ rows.length = xs.length ∧ (∀ r ∈ rows, r.length = sz ∧ ∀ u ∈ r, u.oneCell' = true) ∧ ∀ i (h : i < xs.length), ∃ row, rows[i]? = some row ∧ E xs[i] row

/-- a slice whose elements are as E says -/
def ReadL {α : Type} (E : α → List Value → Prop) (sz : Nat) (w : World) (v : Value) (xs : List α) : Prop :=
  ∃ rows : List (List Value), Raw w v xs.length rows.flatten ∧ rows.length = xs.length ∧ (∀ r ∈ rows, r.length = sz ∧ ∀ u ∈ r, u.oneCell' = true) ∧ ∀ i (h : i < xs.length), ∃ row, rows[i]? = some row ∧ E xs[i] row

section
variable {α : Type} {E : α → List Value → Prop} {T : TypeId} {sz base : Nat} {w : World} {v : Value} {xs : List α}

theorem OwnL.read (h : OwnL E T sz base w v xs) : ReadL E sz w v xs := by
  obtain ⟨rows, h1, h2⟩ := h
  exact ⟨rows, Raw.of_own h1, h2⟩

theorem OwnL.nil (w : World) : OwnL E T sz base w (.slice none 0 0) [] := ⟨[], World.ownsRow_nil _ _ _ _, rfl, by simp, fun i h => by simp at h⟩

theorem OwnL.form (h : OwnL E T sz base w v xs) : ∃ p cap, v = .slice p xs.length cap := by
  obtain ⟨rows, ⟨h1, h2⟩, -⟩ := h
  rcases h2 with ⟨rfl, h3⟩ | ⟨g, cap, cur, rfl, -⟩
  · exact ⟨none, 0, by rw [h3]⟩
  · exact ⟨_, _, rfl⟩

theorem OwnL.lt (h : OwnL E T sz base w v xs) : ∀ k, v.ownBlock = some k → base ≤ k ∧ k < w.heap.size := by
  obtain ⟨rows, h1, -⟩ := h
  exact h1.lt

theorem OwnL.mono {F : α → List Value → Prop} (h : OwnL E T sz base w v xs) (hf : ∀ x r, E x r → F x r) : OwnL F T sz base w v xs := by
  obtain ⟨rows, h1, h2, h3, h4⟩ := h
  exact ⟨rows, h1, h2, h3, fun i hi => by obtain ⟨row, g1, g2⟩ := h4 i hi; exact ⟨row, g1, hf _ _ g2⟩⟩

theorem ownsRow_keep {w w' : World} {cs : List Value} {n : Nat} {G : Nat → Prop} (h : w.ownsRow base T sz v n cs) (hf : Fr G w w') (hn : ∀ k, v.ownBlock = some k → ¬ G k) : w'.ownsRow base T sz v n cs := by
  refine ⟨h.1, ?_⟩
  rcases h.2 with h1 | ⟨g, cap, cur, rfl, h1, h2, h3⟩
  · exact .inl h1
  · exact .inr ⟨g, cap, cur, rfl, h1, by rw [hf.block g (Array.getElem?_eq_some_iff.1 h2).1 (hn g rfl)]; exact h2, h3⟩

theorem OwnL.fr {w' : World} {G : Nat → Prop} (h : OwnL E T sz base w v xs) (hf : Fr G w w') (hn : ∀ k, v.ownBlock = some k → ¬ G k) : OwnL E T sz base w' v xs := by
  obtain ⟨rows, h1, h2⟩ := h
  exact ⟨rows, ownsRow_keep h1 hf hn, h2⟩

theorem OwnL.below {w' : World} {B : Nat} (h : OwnL E T sz base w v xs) (hb : Below B w w') (hB : w.heap.size ≤ B) : OwnL E T sz base w' v xs :=
  h.fr (Fr.of_belowB hb) (fun k hk => by have := (h.lt k hk).2; omega)

theorem ReadL.below {w' : World} {B : Nat} (h : ReadL E sz w v xs) (hb : Below B w w') (hB : w.heap.size ≤ B) : ReadL E sz w' v xs := by
  obtain ⟨rows, h1, h2⟩ := h
  exact ⟨rows, h1.below hb hB, h2⟩
end

theorem run_append_none {P : Program} {w : World} (base : Nat) (t ty e : TypeId) (i : TypeInfo) (size : Nat) (ht : P.underlying t = some (.slice e)) (hi : P.info? e = some i)
    (v : Value) (n : Nat) (xs : List Value) (hown : w.ownsRow base e size v n xs) (c : Nat) :
    (Builtin.append_ #[t, t] ty #[v, .slice none 0 c]).run P w = .ok v w := by
  rcases hown.2 with ⟨rfl, rfl⟩ | ⟨g, cap, cur, rfl, _, _, hnc, _⟩
  · simp [Builtin.append_, run_underlying ht, sizeOf, typeInfo, hi, Builtin.lenOf, Builtin.firstCells]
  · simp [Builtin.append_, run_underlying ht, sizeOf, typeInfo, hi, Builtin.lenOf, Builtin.firstCells, hnc, storeCells]

/-- append to a list of one's own: the list, longer, in its old row or in a new one -/
theorem wpList_append_L {P : Program} {α : Type} {E : α → List Value → Prop} {T : TypeId} {sz base : Nat} {ops : Array Oper} {rest : List Oper} {o : Oper} {a : Act} {w : World} {Q : Exit → Act → World → Prop} (hgd : o.guard = none) (s x : Operand) (t : TypeId)
    (ho : o.op = .call { callee := .builtin .append, args := #[s, x], argTypes := #[t, t] }) (i : TypeInfo) (z : Value) (by_ : Nat) (ht : P.underlying t = some (.slice T)) (hi : P.info? T = some i) (hz : i.zero = some z) (hsize : i.size = sz) (hby : i.bytes = by_) (hzs : z.cells.size = sz) (hsz : 0 < sz)
    (v : Value) (xs : List α) (hs : a.eval s = v) (hown : OwnL E T sz base w v xs) (xv : Value) (ns : List α) (hx : a.eval x = xv) (hr : ReadL E sz w xv ns) (h63 : xs.length + ns.length ≤ maxLen) (hbytes : (xs.length + ns.length) * by_ ≤ 140737488355328) (hbase : base ≤ w.heap.size)
    (h : ∀ p c w', OwnL E T sz base w' (.slice p (xs.length + ns.length) c) (xs ++ ns) → w.grownBy w' v.ownBlock → ((Value.slice p (xs.length + ns.length) c).ownBlock = v.ownBlock ∨ (Value.slice p (xs.length + ns.length) c).ownBlock = some w.heap.size) → wpList P ops Q rest (a.put o.dst (.slice p (xs.length + ns.length) c)) w') : wpList P ops Q (o :: rest) a w := by
  obtain ⟨rows, o1, o2, o3, o4⟩ := hown
  obtain ⟨nrows, n1, n2, n3, n4⟩ := hr
  have hnl : nrows.flatten.length = ns.length * sz := by rw [flatten_length (fun r hr => (n3 r hr).1), n2]
  have hform := o1.2
  have key : ∀ v' w', w'.ownsRow base T sz v' (xs.length + ns.length) (rows.flatten ++ nrows.flatten) → w.grownBy w' v.ownBlock → (v'.ownBlock = v.ownBlock ∨ v'.ownBlock = some w.heap.size) → wpList P ops Q rest (a.put o.dst v') w' := by
    intro v' w' k1 k2 k3
    have hv : ∃ p c, v' = .slice p (xs.length + ns.length) c := by
      rcases k1.2 with ⟨rfl, h3⟩ | ⟨g, cap, cur, rfl, -⟩
      · exact ⟨none, 0, by rw [h3]⟩
      · exact ⟨_, _, rfl⟩
    obtain ⟨p, c, rfl⟩ := hv
    refine h p c w' ⟨rows ++ nrows, ?_, by simp [o2, n2], fun r hr => ?_, fun i hi => ?_⟩ k2 k3
    · rw [List.flatten_append, List.length_append]; exact k1
    · rcases List.mem_append.1 hr with hr | hr
      · exact o3 r hr
      · exact n3 r hr
    · by_cases hlt : i < xs.length
      · obtain ⟨row, g1, g2⟩ := o4 i hlt
        exact ⟨row, by rw [List.getElem?_append_left (by omega)]; exact g1, by rw [List.getElem_append_left hlt]; exact g2⟩
      · have hi' : i - xs.length < ns.length := by simp at hi; omega
        obtain ⟨row, g1, g2⟩ := n4 (i - xs.length) hi'
        exact ⟨row, by rw [List.getElem?_append_right (by omega), o2]; exact g1, by rw [List.getElem_append_right (by omega)]; exact g2⟩
  obtain ⟨p, cap, rfl, hcap, hxx⟩ := n1
  cases p with
  | none =>
    have h0 : ns.length = 0 := by
      rcases Nat.eq_zero_or_pos ns.length with h | h
      · exact h
      · obtain ⟨b, off, e, -⟩ := hxx (by rw [hnl]; exact Nat.mul_pos h hsz)
        cases e
    have h1 : nrows.flatten = [] := List.eq_nil_of_length_eq_zero (by rw [hnl, h0, Nat.zero_mul])
    refine wpList_plain hgd fun K hK => ?_
    rw [h0] at hx
    have hrun := run_append_none (P := P) (w := w) base t o.type T i sz ht hi v _ _ o1 cap
    unfold Oper.wp
    simp [execOp, ho, resolve, invoke, builtin, hs, hx, hrun, Result.andThen]
    refine hK _ _ (key v w ?_ (World.grownBy.mk rfl rfl rfl (Nat.le_refl _) (fun _ _ _ => rfl)) (.inl rfl))
    rw [h1, h0]
    simpa using o1
  | some ad =>
    refine wpList_append_own_at (P := P) w hgd s x t ho base T i z sz by_ ht hi hz hsize hby hzs hsz v xs.length rows.flatten hs o1 ad ns.length cap nrows.flatten hx hnl (fun j u hu => ?_) (fun u hu => ?_) h63 hbytes hbase (fun v' w' k1 k2 _ k3 => key v' w' k1 k2 k3)
    · obtain ⟨b, off, e, hc⟩ := hxx (by have := (List.getElem?_eq_some_iff.1 hu).1; omega)
      cases e
      rw [show (⟨b, off, none⟩ : Addr).add j = ⟨b, off + j, none⟩ by unfold Addr.add; split <;> simp_all]
      exact hc j u hu
    · obtain ⟨r, hr, hu⟩ := List.mem_flatten.1 hu
      exact (n3 r hr).2 u hu

/-- the elements of a block that has just been made -/
theorem ReadL.block {α : Type} {E : α → List Value → Prop} {sz : Nat} {w : World} {g n : Nat} {cs : List Value} {T : TypeId} (h : w.heap[g]? = some (.cells cs.toArray T (0, 0))) (xs : List α) (rows : List (List Value)) (hr : rows.flatten = cs) (hn : n = xs.length) (hl : rows.length = xs.length)
    (h1 : ∀ r ∈ rows, r.length = sz ∧ ∀ u ∈ r, u.oneCell' = true) (h2 : ∀ i (h : i < xs.length), ∃ row, rows[i]? = some row ∧ E xs[i] row) : ReadL E sz w (.slice (some ⟨g, 0, none⟩) n n) xs := by
  subst hr
  subst hn
  exact ⟨rows, Raw.of_block h, hl, h1, h2⟩

def intE (x : Int) (row : List Value) : Prop := row = [.int .i64 x]

theorem flatten_ints {xs : List Int} {rows : List (List Value)} (hl : rows.length = xs.length) (h : ∀ i (h : i < xs.length), ∃ row, rows[i]? = some row ∧ intE xs[i] row) : rows.flatten = xs.map (Value.int .i64) := by
  have : rows = xs.map fun x => [.int .i64 x] := by
    apply List.ext_getElem
    · simp [hl]
    · intro i h1 h2
      obtain ⟨row, g1, g2⟩ := h i (by omega)
      rw [List.getElem?_eq_getElem h1] at g1
      cases g1
      rw [g2]; simp
  rw [this]
  clear this h hl
  induction xs with
  | nil => rfl
  | cons x r ih => simp [ih]

theorem ReadL.ints {w : World} {v : Value} {xs : List Int} (h : ReadL intE 1 w v xs) : Ints w v xs := by
  obtain ⟨rows, h1, h2, h3, h4⟩ := h
  unfold Ints
  rwa [flatten_ints h2 h4] at h1

theorem Ints.readL {w : World} {v : Value} {xs : List Int} (h : Ints w v xs) : ReadL intE 1 w v xs := by
  refine ⟨xs.map fun x => [.int .i64 x], ?_, by simp, fun r hr => ?_, fun i hi => ⟨_, by simp [hi], rfl⟩⟩
  · have : (xs.map fun x => [Value.int .i64 x]).flatten = xs.map (Value.int .i64) := by
      clear h
      induction xs with
      | nil => rfl
      | cons x r ih => simp [ih]
    rw [this]; exact h
  · obtain ⟨x, -, rfl⟩ := List.mem_map.1 hr
    simp [Value.oneCell']

theorem RuleIs.cells {w : World} {r : Rl} {row : List Value} (h : RuleIs w r row) : row.length = 8 ∧ ∀ u ∈ row, u.oneCell' = true := by
  obtain ⟨a, b, c, d, e, f, rfl, h1, h2⟩ := h
  obtain ⟨o1, p1, l1, c1, q1, m1, d1, rfl, rfl, rfl⟩ := h1.form
  obtain ⟨o2, p2, l2, c2, q2, m2, d2, rfl, rfl, rfl⟩ := h2.form
  refine ⟨rfl, fun u hu => ?_⟩
  simp at hu
  rcases hu with rfl | rfl | rfl | rfl | rfl | rfl | rfl | rfl <;> rfl

theorem ReadL.rules {w0 w : World} {v : Value} {rs : List Rl} (h : ReadL (RuleIs w0) 8 w v rs) (hb : Below w0.heap.size w0 w) : Rules w v rs := by
  obtain ⟨rows, h1, h2, h3, h4⟩ := h
  refine ⟨rows, ⟨fun r hr => (h3 r hr).1, by rwa [h2]⟩, h2, fun i hi => ?_⟩
  obtain ⟨row, g1, g2⟩ := h4 i hi
  exact ⟨row, g1, g2.to hb (Nat.le_refl _)⟩

theorem Rules.readL {w : World} {v : Value} {rs : List Rl} (h : Rules w v rs) : ReadL (RuleIs w) 8 w v rs := by
  obtain ⟨rows, ⟨h1, h2⟩, h3, h4⟩ := h
  refine ⟨rows, by rwa [h3] at h2, h3, fun r hr => ?_, h4⟩
  obtain ⟨i, hi, rfl⟩ := List.getElem_of_mem hr
  obtain ⟨row, g1, g2⟩ := h4 i (by omega)
  rw [List.getElem?_eq_getElem hi] at g1
  cases g1
  exact g2.cells

end Go.Proofs.Ytmooflmhbpckjaa
