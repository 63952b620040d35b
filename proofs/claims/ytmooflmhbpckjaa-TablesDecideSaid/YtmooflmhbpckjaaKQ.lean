/-
  append of ints; blocks. No condition beyond what each theorem names.
-/
import Derived.Test.YtmooflmhbpckjaaKL
set_option linter.unusedVariables false
set_option linter.unusedSimpArgs false
namespace Go.Proofs.Ytmooflmhbpckjaa
open Go.RowKit

theorem Ints.take {w : World} {p : Option Addr} {n cap : Nat} {xs : List Int} (h : Ints w (.slice p n cap) xs) {k : Nat} (hk : k ≤ n) : Ints w (.slice p k cap) (xs.take k) := by
  obtain ⟨p', c', he, hc, hx⟩ := h
  injection he with he1 he2 he3
  subst he1 he2 he3
  have hl : (xs.take k).length = k := by rw [List.length_take]; omega
  refine ⟨p, cap, by rw [hl], by omega, fun h0 => ?_⟩
  obtain ⟨b, off, hb, hx⟩ := hx (by simp at h0 ⊢; omega)
  refine ⟨b, off, hb, fun j u hu => hx j u ?_⟩
  rw [List.map_take, List.getElem?_take] at hu
  split at hu
  · exact hu
  · cases hu

theorem ReadL.get {α : Type} {E : α → List Value → Prop} {sz : Nat} {w : World} {v : Value} {rs : List α} (h : ReadL E sz w v rs) (hs : 0 < sz) : ∃ p cap, v = .slice p rs.length cap ∧ rs.length ≤ cap ∧ (0 < rs.length → ∃ b off, p = some ⟨b, off, none⟩ ∧ b < w.heap.size ∧
    ∀ i (h : i < rs.length), ∃ row, cellsAt w b (off + i * sz) row ∧ E rs[i] row) := by
  obtain ⟨rows, h1, h2, h3, h4⟩ := h
  have hr : Rows w sz v rows := ⟨fun r hr => (h3 r hr).1, by rwa [h2]⟩
  obtain ⟨p, cap, rfl, h5, h6⟩ := hr.get hs
  rw [h2] at h5 h6
  refine ⟨p, cap, by rw [h2], h5, fun h0 => ?_⟩
  obtain ⟨b, off, rfl, h7, h8⟩ := h6 h0
  refine ⟨b, off, rfl, h7, fun i hi => ?_⟩
  obtain ⟨row, h9, h10⟩ := h4 i hi
  exact ⟨row, h8 i _ h9, h10⟩

theorem infoInt : (Try.prog.info? 3).map (fun i => (i.zero, i.size, i.bytes)) = some (some (.int .i64 0), 1, 8) := by kernel_rfl

section
variable {ops : Array Oper} {rest : List Oper} {o : Oper} {a : Act} {w : World} {Q : Exit → Act → World → Prop} {base : Nat}
theorem wpList_append_ints (hgd : o.guard = none) (s x : Operand) (ho : o.op = .call { callee := .builtin .append, args := #[s, x], argTypes := #[46, 46] })
    (v : Value) (xs : List Int) (hs : a.eval s = v) (hown : OwnL intE 3 1 base w v xs) (xv : Value) (ns : List Int) (hx : a.eval x = xv) (hr : ReadL intE 1 w xv ns) (hlen : xs.length + ns.length ≤ 1000000) (hbase : base ≤ w.heap.size)
    (h : ∀ p c w', OwnL intE 3 1 base w' (.slice p (xs.length + ns.length) c) (xs ++ ns) → w.grownBy w' v.ownBlock → ((Value.slice p (xs.length + ns.length) c).ownBlock = v.ownBlock ∨ (Value.slice p (xs.length + ns.length) c).ownBlock = some w.heap.size) → wpList Try.prog ops Q rest (a.put o.dst (.slice p (xs.length + ns.length) c)) w') : wpList Try.prog ops Q (o :: rest) a w := by
  obtain ⟨i0, hi, hz0, hz1, hz2⟩ := info_parts infoInt
  exact wpList_append_L hgd s x 46 ho i0 _ 8 Try.underlying46 hi hz0 hz1 hz2 rfl (by decide) v xs hs hown xv ns hx hr (by unfold maxLen; omega) (by omega) hbase h

end
theorem abs_plan {P : Program} {ops : Array Oper} {S : World → Prop} {Q : Exit → Act → World → Prop} {p : Plan} {a : Act} {w : World} (h : ∀ W, W = w → Plan.wp P ops S Q p a W) : Plan.wp P ops S Q p a w := h w rfl

theorem below_alloc1 (W : World) (o : Obj) : Below W.heap.size W (W.alloc o) := (Below.refl _ _).alloc (Nat.le_refl _) _

/-- an empty list of one's own, in a new block -/
theorem OwnL.made {α : Type} {E : α → List Value → Prop} {T : TypeId} {sz base : Nat} (w : World) (hb : base ≤ w.heap.size) : OwnL E T sz base (w.alloc (.cells #[] T)) (.slice (some ⟨w.heap.size, 0, none⟩) 0 0) [] :=
  ⟨[], World.ownsRow_made w #[] 0 hb (by unfold maxLen; omega) (by simp), rfl, by simp, fun i h => by simp at h⟩

/-- one element, in a new block -/
theorem ReadL.one {α : Type} {E : α → List Value → Prop} {sz : Nat} (w : World) (T : TypeId) (x : α) (row : List Value) (h1 : row.length = sz ∧ ∀ u ∈ row, u.oneCell' = true) (h2 : E x row) : ReadL E sz (w.alloc (.cells row.toArray T)) (.slice (some ⟨w.heap.size, 0, none⟩) 1 1) [x] :=
  ReadL.block (cs := row) (heap_alloc_new w _) [x] [row] (by simp) rfl rfl (fun r hr => by rw [List.mem_singleton.1 hr]; exact h1) (fun i hi => by
    obtain rfl : i = 0 := by simpa using hi
    exact ⟨row, rfl, h2⟩)

theorem ReadL.fr {α : Type} {E : α → List Value → Prop} {sz : Nat} {w w' : World} {v : Value} {xs : List α} {G : Nat → Prop} (h : ReadL E sz w v xs) (hf : Fr G w w') (hn : ∀ k, v.ownBlock = some k → ¬ G k) : ReadL E sz w' v xs := by
  obtain ⟨rows, h1, h2, h3, h4⟩ := h
  exact ⟨rows, h1.fr hf (fun _ => hn), h2, h3, h4⟩

/-- a list read apart from the one that grew -/
theorem ReadL.grown {α : Type} {E : α → List Value → Prop} {sz : Nat} {w w' : World} {v : Value} {xs : List α} {r : Option Nat} (h : ReadL E sz w v xs) (hg : w.grownBy w' r) (hn : ∀ k, v.ownBlock = some k → r ≠ some k) : ReadL E sz w' v xs :=
  h.fr (Fr.grown (F := fun k => r = some k) hg (fun _ h => h)) (fun k hk => hn k hk)

/-- one element of one's own, in a new block -/
theorem OwnL.block1 {α : Type} {E : α → List Value → Prop} {sz base : Nat} (w : World) (T : TypeId) (x : α) (row : List Value) (h1 : row.length = sz ∧ ∀ u ∈ row, u.oneCell' = true) (h2 : E x row) (hb : base ≤ w.heap.size) : OwnL E T sz base (w.alloc (.cells row.toArray T)) (.slice (some ⟨w.heap.size, 0, none⟩) 1 1) [x] :=
  ⟨[row], by simpa using World.ownsRow_lit (e := T) (size := sz) w row.toArray 1 hb (by unfold maxLen; omega) (by simp [h1.1]), rfl, fun r hr => by rw [List.mem_singleton.1 hr]; exact h1, fun i hi => by
    obtain rfl : i = 0 := by simpa using hi
    exact ⟨row, rfl, h2⟩⟩

theorem nodeZ (w : World) : NodeIs w (.mk 0 [] []) (.int .i64 0) (.slice none 0 0) (.slice none 0 0) := by
  rw [nodeIs_iff]
  exact ⟨rfl, Ints.nil _, by unfold R; simp, by unfold R; simp, [], ⟨by simp, none, 0, rfl, by simp, fun h => by simp at h⟩, rfl, fun i h => by simp at h⟩

end Go.Proofs.Ytmooflmhbpckjaa
