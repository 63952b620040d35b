/-
  Expressions, and the blocks that they lie in. No condition beyond what each theorem names.
-/
import Derived.Test.YtmooflmhbpckjaaKO
set_option linter.unusedVariables false
set_option linter.unusedSimpArgs false
namespace Go.Proofs.Ytmooflmhbpckjaa
open Go.RowKit

/-- the block of a slice that is not empty is one of these -/
def Lies (F : Nat → Prop) (v : Value) (n : Nat) : Prop := 0 < n → ∀ k, v.ownBlock = some k → F k

/-- an expression, by its three cells, and all that it reaches lies in these blocks -/
def NodeF (F : Nat → Prop) (w : World) : Nd → Value → Value → Value → Prop
  | .mk op cls parts, a, b, c => a = .int .i64 op ∧ Ints w b cls ∧ Lies F b cls.length ∧ cls.length * 8 ≤ R ∧ parts.length * 56 ≤ R ∧
      ∃ rows : List (List Value), Rows w 3 c rows ∧ Lies F c parts.length ∧ rows.length = parts.length ∧ ∀ i (h : i < parts.length), ∃ x y z, rows[i]? = some [x, y, z] ∧ NodeF F w parts[i] x y z
  termination_by x => SizeOf.sizeOf x
  decreasing_by exact Nd.part_lt h

def NodesF (F : Nat → Prop) (w : World) (v : Value) (ns : List Nd) : Prop :=
  ∃ rows : List (List Value), Rows w 3 v rows ∧ Lies F v ns.length ∧ rows.length = ns.length ∧ ∀ i (h : i < ns.length), ∃ x y z, rows[i]? = some [x, y, z] ∧ NodeF F w ns[i] x y z

theorem nodeF_iff {F : Nat → Prop} {w : World} {op : Int} {cls : List Int} {parts : List Nd} {a b c : Value} : NodeF F w (.mk op cls parts) a b c ↔ a = .int .i64 op ∧ Ints w b cls ∧ Lies F b cls.length ∧ cls.length * 8 ≤ R ∧ parts.length * 56 ≤ R ∧ NodesF F w c parts := by
  rw [NodeF]; rfl

theorem Lies.mono {F G : Nat → Prop} {v : Value} {n : Nat} (h : Lies F v n) (hg : ∀ k, F k → G k) : Lies G v n := fun h0 k hk => hg k (h h0 k hk)

theorem NodeF.is {F : Nat → Prop} {w : World} : ∀ (x : Nd) {a b c : Value}, NodeF F w x a b c → NodeIs w x a b c
  | .mk op cls parts, a, b, c, h => by
    rw [nodeF_iff] at h
    rw [nodeIs_iff]
    obtain ⟨h1, h2, -, h3, h4, rows, h5, -, h7, h8⟩ := h
    refine ⟨h1, h2, h3, h4, rows, h5, h7, fun i hi => ?_⟩
    obtain ⟨x, y, z, h9, h10⟩ := h8 i hi
    exact ⟨x, y, z, h9, NodeF.is parts[i] h10⟩
  termination_by x => SizeOf.sizeOf x
  decreasing_by exact Nd.part_lt hi

theorem NodeF.mono {F G : Nat → Prop} {w : World} (hg : ∀ k, F k → G k) : ∀ (x : Nd) {a b c : Value}, NodeF F w x a b c → NodeF G w x a b c
  | .mk op cls parts, a, b, c, h => by
    rw [nodeF_iff] at *
    obtain ⟨h1, h2, h2', h3, h4, rows, h5, h6, h7, h8⟩ := h
    refine ⟨h1, h2, h2'.mono hg, h3, h4, rows, h5, h6.mono hg, h7, fun i hi => ?_⟩
    obtain ⟨x, y, z, h9, h10⟩ := h8 i hi
    exact ⟨x, y, z, h9, NodeF.mono hg parts[i] h10⟩
  termination_by x => SizeOf.sizeOf x
  decreasing_by exact Nd.part_lt hi

theorem NodeF.fr {F G : Nat → Prop} {w w' : World} (hf : Fr G w w') (hg : ∀ k, F k → ¬ G k) : ∀ (x : Nd) {a b c : Value}, NodeF F w x a b c → NodeF F w' x a b c
  | .mk op cls parts, a, b, c, h => by
    rw [nodeF_iff] at *
    obtain ⟨h1, h2, h2', h3, h4, rows, ⟨h5, h5'⟩, h6, h7, h8⟩ := h
    refine ⟨h1, Raw.fr hf h2 (fun h0 k hk => hg k (h2' (by simpa using h0) k hk)), h2', h3, h4, rows, ⟨h5, Raw.fr hf h5' (fun h0 k hk => hg k (h6 (by
      rw [flatten_length h5] at h0
      rw [← h7]
      exact Nat.pos_of_mul_pos_left h0 |> fun _ => by
        rcases Nat.eq_zero_or_pos rows.length with h | h
        · rw [h] at h0; simp at h0
        · exact h) k hk))⟩, h6, h7, fun i hi => ?_⟩
    obtain ⟨x, y, z, h9, h10⟩ := h8 i hi
    exact ⟨x, y, z, h9, NodeF.fr hf hg parts[i] h10⟩
  termination_by x => SizeOf.sizeOf x
  decreasing_by exact Nd.part_lt hi

/-- what may be read lies in the blocks that there are -/
theorem Raw.lies {w : World} {v : Value} {n m : Nat} {cs : List Value} (h : Raw w v n cs) (h0 : 0 < m → 0 < cs.length) : Lies (fun k => k < w.heap.size) v m := by
  intro hm k hk
  obtain ⟨b, off, cap, rfl, -, hb, -⟩ := h.lt (h0 hm)
  simp only [Value.ownBlock, Option.some.injEq] at hk
  subst hk
  exact hb

theorem NodeIs.foot {w : World} : ∀ (x : Nd) {a b c : Value}, NodeIs w x a b c → NodeF (fun k => k < w.heap.size) w x a b c
  | .mk op cls parts, a, b, c, h => by
    rw [nodeIs_iff] at h
    rw [nodeF_iff]
    obtain ⟨h1, h2, h3, h4, rows, ⟨h5, h5'⟩, h7, h8⟩ := h
    refine ⟨h1, h2, Raw.lies h2 (by simp), h3, h4, rows, ⟨h5, h5'⟩, Raw.lies h5' (fun h => by rw [flatten_length h5, h7]; omega), h7, fun i hi => ?_⟩
    obtain ⟨x, y, z, h9, h10⟩ := h8 i hi
    exact ⟨x, y, z, h9, NodeIs.foot parts[i] h10⟩
  termination_by x => SizeOf.sizeOf x
  decreasing_by exact Nd.part_lt hi

theorem NodeF.below {F : Nat → Prop} {B : Nat} {w w' : World} (hb : Below B w w') (hB : w.heap.size ≤ B) (x : Nd) {a b c : Value} (h : NodeF F w x a b c) : NodeF F w' x a b c :=
  NodeF.fr (G := fun _ => False) ⟨hb.os, hb.tape, hb.output, hb.size, fun k hk _ => hb.block k (by omega)⟩ (fun _ _ h => h) x h

theorem NodesF.get {F : Nat → Prop} {w : World} {v : Value} {ns : List Nd} (h : NodesF F w v ns) : ∃ p cap, v = .slice p ns.length cap ∧ ns.length ≤ cap ∧ (0 < ns.length → ∃ b off, p = some ⟨b, off, none⟩ ∧ b < w.heap.size ∧ F b ∧
    ∀ i (h : i < ns.length), ∃ x y z, w.cell? ⟨b, off + i * 3, none⟩ = some x ∧ w.cell? ⟨b, off + i * 3 + 1, none⟩ = some y ∧ w.cell? ⟨b, off + i * 3 + 2, none⟩ = some z ∧ NodeF F w ns[i] x y z) := by
  obtain ⟨rows, h1, h1', h2, h3⟩ := h
  obtain ⟨p, cap, rfl, h4, h5⟩ := h1.get (by omega)
  rw [h2] at h5 h4 h1'
  refine ⟨p, cap, by rw [h2], h4, fun h0 => ?_⟩
  obtain ⟨b, off, rfl, h6, h7⟩ := h5 h0
  refine ⟨b, off, rfl, h6, h1' h0 b rfl, fun i hi => ?_⟩
  obtain ⟨x, y, z, h8, h9⟩ := h3 i hi
  have h10 := h7 i _ h8
  exact ⟨x, y, z, h10 0 x rfl, h10 1 y rfl, h10 2 z rfl, h9⟩

/-- an expression in a row of three cells -/
def nodeE (F : Nat → Prop) (w : World) (x : Nd) (row : List Value) : Prop := ∃ a b c, row = [a, b, c] ∧ NodeF F w x a b c

theorem nodeE.fr {F G : Nat → Prop} {w w' : World} {x : Nd} {row : List Value} (h : nodeE F w x row) (hf : Fr G w w') (hg : ∀ k, F k → ¬ G k) : nodeE F w' x row := by
  obtain ⟨a, b, c, rfl, h⟩ := h
  exact ⟨a, b, c, rfl, h.fr hf hg⟩
theorem nodeE.mono {F G : Nat → Prop} {w : World} {x : Nd} {row : List Value} (h : nodeE F w x row) (hg : ∀ k, F k → G k) : nodeE G w x row := by
  obtain ⟨a, b, c, rfl, h⟩ := h
  exact ⟨a, b, c, rfl, h.mono hg⟩
theorem nodeE.cells {F : Nat → Prop} {w : World} {x : Nd} {row : List Value} (h : nodeE F w x row) : row.length = 3 ∧ ∀ u ∈ row, u.oneCell' = true := by
  obtain ⟨a, b, c, rfl, h⟩ := h
  obtain ⟨op, p, l, c1, q, m, d, rfl, rfl, rfl⟩ := (h.is).form
  refine ⟨rfl, fun u hu => ?_⟩
  simp at hu
  rcases hu with rfl | rfl | rfl <;> rfl

theorem ReadL.nodesF {F : Nat → Prop} {w : World} {v : Value} {ns : List Nd} (h : ReadL (nodeE F w) 3 w v ns) (hl : Lies F v ns.length) : NodesF F w v ns := by
  obtain ⟨rows, h1, h2, h3, h4⟩ := h
  refine ⟨rows, ⟨fun r hr => (h3 r hr).1, by rwa [h2]⟩, hl, h2, fun i hi => ?_⟩
  obtain ⟨row, g1, a, b, c, rfl, g2⟩ := h4 i hi
  exact ⟨a, b, c, g1, g2⟩

theorem infoNode : (Try.prog.info? 49).map (fun i => (i.zero, i.size, i.bytes)) = some (some (.agg #[.int .i64 0, .slice none 0 0, .slice none 0 0]), 3, 56) := by kernel_rfl

section
variable {ops : Array Oper} {rest : List Oper} {o : Oper} {a : Act} {w : World} {Q : Exit → Act → World → Prop} {base : Nat}

theorem wpList_append_nodes {E : Nd → List Value → Prop} (hgd : o.guard = none) (s x : Operand) (ho : o.op = .call { callee := .builtin .append, args := #[s, x], argTypes := #[47, 47] })
    (v : Value) (xs : List Nd) (hs : a.eval s = v) (hown : OwnL E 49 3 base w v xs) (xv : Value) (ns : List Nd) (hx : a.eval x = xv) (hr : ReadL E 3 w xv ns) (hlen : (xs.length + ns.length) * 56 ≤ R + 56) (hbase : base ≤ w.heap.size)
    (h : ∀ p c w', OwnL E 49 3 base w' (.slice p (xs.length + ns.length) c) (xs ++ ns) → w.grownBy w' v.ownBlock → ((Value.slice p (xs.length + ns.length) c).ownBlock = v.ownBlock ∨ (Value.slice p (xs.length + ns.length) c).ownBlock = some w.heap.size) → wpList Try.prog ops Q rest (a.put o.dst (.slice p (xs.length + ns.length) c)) w') : wpList Try.prog ops Q (o :: rest) a w := by
  obtain ⟨i0, hi, hz0, hz1, hz2⟩ := info_parts infoNode
  unfold R at hlen
  exact wpList_append_L hgd s x 47 ho i0 _ 56 Try.underlying47 hi hz0 hz1 hz2 rfl (by decide) v xs hs hown xv ns hx hr (by unfold maxLen; omega) (by omega) hbase h
end

end Go.Proofs.Ytmooflmhbpckjaa
