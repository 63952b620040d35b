/-
  What slices, expressions and rules read as in a world; kept by whatever only adds. Plain theorems; no condition.
-/
import Derived.Test.YtmooflmhbpckjaaLib
set_option linter.unusedVariables false
set_option linter.unusedSimpArgs false
namespace Go.Proofs.Ytmooflmhbpckjaa
open Go.RowKit

/-- v is a slice of n elements, whose cells, one behind the other, are cs -/
def Raw (w : World) (v : Value) (n : Nat) (cs : List Value) : Prop :=
  ∃ p cap, v = .slice p n cap ∧ n ≤ cap ∧ (0 < cs.length → ∃ b off, p = some ⟨b, off, none⟩ ∧ ∀ j u, cs[j]? = some u → w.cell? ⟨b, off + j, none⟩ = some u)

def cellsAt (w : World) (b off : Nat) (cs : List Value) : Prop := ∀ j u, cs[j]? = some u → w.cell? ⟨b, off + j, none⟩ = some u

theorem cell_below {B : Nat} {w w' : World} (hb : Below B w w') {b o : Nat} (h : b < B) {v : Value} (hc : w.cell? ⟨b, o, none⟩ = some v) : w'.cell? ⟨b, o, none⟩ = some v := (hb.cell (p := ⟨b, o, none⟩) h).trans hc

theorem Raw.lt {w : World} {v : Value} {n : Nat} {cs : List Value} (h : Raw w v n cs) (h0 : 0 < cs.length) : ∃ b off cap, v = .slice (some ⟨b, off, none⟩) n cap ∧ n ≤ cap ∧ b < w.heap.size ∧ cellsAt w b off cs := by
  obtain ⟨p, cap, rfl, hc, hx⟩ := h
  obtain ⟨b, off, rfl, hy⟩ := hx h0
  exact ⟨b, off, cap, rfl, hc, World.block_lt_of_cell? w _ (hy 0 cs[0] (by simp [h0])), hy⟩

theorem Raw.fr {F : Nat → Prop} {w w' : World} (hf : Fr F w w') {v : Value} {n : Nat} {cs : List Value} (h : Raw w v n cs) (hn : 0 < cs.length → ∀ k, v.ownBlock = some k → ¬ F k) : Raw w' v n cs := by
  obtain ⟨p, cap, rfl, hc, hx⟩ := h
  refine ⟨p, cap, rfl, hc, fun h0 => ?_⟩
  obtain ⟨b, off, rfl, hy⟩ := hx h0
  exact ⟨b, off, rfl, fun j u hu => hf.cell (p := ⟨b, off + j, none⟩) (hn h0 b rfl) (hy j u hu)⟩

theorem Raw.below {B : Nat} {w w' : World} (hb : Below B w w') (hB : w.heap.size ≤ B) {v : Value} {n : Nat} {cs : List Value} (h : Raw w v n cs) : Raw w' v n cs := by
  obtain ⟨p, cap, rfl, hc, hx⟩ := h
  refine ⟨p, cap, rfl, hc, fun h0 => ?_⟩
  obtain ⟨b, off, rfl, hy⟩ := hx h0
  exact ⟨b, off, rfl, fun j u hu => cell_below hb (Nat.lt_of_lt_of_le (World.block_lt_of_cell? w _ (hy j u hu)) hB) (hy j u hu)⟩

theorem Raw.of_own {w : World} {base : Nat} {e : TypeId} {size : Nat} {v : Value} {n : Nat} {cs : List Value} (h : w.ownsRow base e size v n cs) : Raw w v n cs := by
  have hcell := fun g hg => h.cells (g := g) hg
  obtain ⟨h1, h2⟩ := h
  rcases h2 with ⟨rfl, rfl⟩ | ⟨g, cap, cur, rfl, hb, hg, hn, hcm, hs, ht⟩
  · exact ⟨none, 0, rfl, Nat.le_refl _, fun h0 => by rw [h1, Nat.zero_mul] at h0; omega⟩
  · refine ⟨_, cap, rfl, hn, fun h0 => ⟨g, 0, rfl, fun j u hu => ?_⟩⟩
    have := hcell g rfl j u hu
    rwa [show (⟨g, 0, none⟩ : Addr).add j = ⟨g, 0 + j, none⟩ by unfold Addr.add; split <;> simp_all] at this

/-- the cells of a block that is known whole -/
theorem Raw.of_block {w : World} {g n : Nat} {cs : List Value} {t : TypeId} (h : w.heap[g]? = some (.cells cs.toArray t (0, 0))) : Raw w (.slice (some ⟨g, 0, none⟩) n n) n cs := by
  refine ⟨_, n, rfl, Nat.le_refl _, fun h0 => ⟨g, 0, rfl, fun j u hu => ?_⟩⟩
  simp [World.cell?, h, hu]

def Ints (w : World) (v : Value) (xs : List Int) : Prop := Raw w v xs.length (xs.map (Value.int .i64))
def Bools (w : World) (v : Value) (xs : List Bool) : Prop := Raw w v xs.length (xs.map Value.bool)

theorem Ints.nil (w : World) : Ints w (.slice none 0 0) [] := ⟨none, 0, rfl, Nat.le_refl _, fun h => by simp at h⟩

theorem Ints.get {w : World} {v : Value} {xs : List Int} (h : Ints w v xs) : ∃ p cap, v = .slice p xs.length cap ∧ xs.length ≤ cap ∧ (0 < xs.length → ∃ b off, p = some ⟨b, off, none⟩ ∧ b < w.heap.size ∧ ∀ j (h : j < xs.length), w.cell? ⟨b, off + j, none⟩ = some (.int .i64 xs[j])) := by
  have hl := h.lt
  obtain ⟨p, cap, rfl, hc, hx⟩ := h
  refine ⟨p, cap, rfl, hc, fun h0 => ?_⟩
  obtain ⟨b, off, cap', he, -, hb, -⟩ := hl (by simpa using h0)
  obtain ⟨b', off', rfl, hy⟩ := hx (by simpa using h0)
  simp only [Value.slice.injEq, Option.some.injEq, Addr.mk.injEq] at he
  obtain ⟨⟨rfl, rfl, -⟩, -⟩ := he
  exact ⟨_, _, rfl, hb, fun j hj => hy j _ (by simp [hj])⟩

theorem Bools.get {w : World} {v : Value} {xs : List Bool} (h : Bools w v xs) : ∃ p cap, v = .slice p xs.length cap ∧ xs.length ≤ cap ∧ (0 < xs.length → ∃ b off, p = some ⟨b, off, none⟩ ∧ b < w.heap.size ∧ ∀ j (h : j < xs.length), w.cell? ⟨b, off + j, none⟩ = some (.bool xs[j])) := by
  have hl := h.lt
  obtain ⟨p, cap, rfl, hc, hx⟩ := h
  refine ⟨p, cap, rfl, hc, fun h0 => ?_⟩
  obtain ⟨b, off, cap', he, -, hb, -⟩ := hl (by simpa using h0)
  obtain ⟨b', off', rfl, hy⟩ := hx (by simpa using h0)
  simp only [Value.slice.injEq, Option.some.injEq, Addr.mk.injEq] at he
  obtain ⟨⟨rfl, rfl, -⟩, -⟩ := he
  exact ⟨_, _, rfl, hb, fun j hj => hy j _ (by simp [hj])⟩

/-- a slice of elements of sz cells each -/
def Rows (w : World) (sz : Nat) (v : Value) (rows : List (List Value)) : Prop := (∀ r ∈ rows, r.length = sz) ∧ Raw w v rows.length rows.flatten

theorem flatten_length {sz : Nat} : ∀ {rows : List (List Value)}, (∀ r ∈ rows, r.length = sz) → rows.flatten.length = rows.length * sz
  | [], _ => by simp
  | r :: rs, h => by
    rw [List.flatten_cons, List.length_append, flatten_length (fun r' h' => h r' (by simp [h'])), h r (by simp), List.length_cons, Nat.succ_mul]; omega

theorem flatten_get {sz : Nat} : ∀ {rows : List (List Value)} {i : Nat} {row : List Value}, (∀ r ∈ rows, r.length = sz) → rows[i]? = some row → ∀ j, j < sz → rows.flatten[i * sz + j]? = row[j]?
  | [], i, row, _, h, j, hj => by simp at h
  | r :: rs, 0, row, hl, h, j, hj => by
    have e : r = row := by simpa using h
    subst e
    rw [List.flatten_cons, List.getElem?_append_left (by rw [hl r (by simp)]; omega)]
    simp
  | r :: rs, i + 1, row, hl, h, j, hj => by
    rw [List.flatten_cons, List.getElem?_append_right (by rw [hl r (by simp), Nat.succ_mul]; omega), hl r (by simp),
      show (i + 1) * sz + j - sz = i * sz + j by rw [Nat.succ_mul]; omega]
    exact flatten_get (fun r' h' => hl r' (by simp [h'])) (by simpa using h) j hj

theorem Rows.get {w : World} {sz : Nat} {v : Value} {rows : List (List Value)} (h : Rows w sz v rows) (h0 : 0 < sz) : ∃ p cap, v = .slice p rows.length cap ∧ rows.length ≤ cap ∧ (0 < rows.length → ∃ b off, p = some ⟨b, off, none⟩ ∧ b < w.heap.size ∧ ∀ i row, rows[i]? = some row → cellsAt w b (off + i * sz) row) := by
  obtain ⟨hl, hr⟩ := h
  have hlt := hr.lt
  obtain ⟨p, cap, rfl, hc, hx⟩ := hr
  refine ⟨p, cap, rfl, hc, fun h1 => ?_⟩
  have hpos : 0 < rows.flatten.length := by rw [flatten_length hl]; exact Nat.mul_pos h1 h0
  obtain ⟨b, off, cap', he, -, hb, -⟩ := hlt hpos
  obtain ⟨b', off', rfl, hy⟩ := hx hpos
  simp only [Value.slice.injEq, Option.some.injEq, Addr.mk.injEq] at he
  obtain ⟨⟨rfl, rfl, -⟩, -⟩ := he
  refine ⟨_, _, rfl, hb, fun i row hi j u hu => ?_⟩
  have hj : j < sz := by
    have h1 := hl row (List.mem_of_getElem? hi)
    have h2 := (List.getElem?_eq_some_iff.1 hu).1
    omega
  have := hy (i * sz + j) u (by rw [flatten_get hl hi j hj]; exact hu)
  rwa [← Nat.add_assoc] at this

/-- as many bytes as one slice may have -/
def R : Nat := 140737488351232

inductive Nd where
  | mk (op : Int) (cls : List Int) (parts : List Nd)

def Nd.op : Nd → Int | .mk o _ _ => o
def Nd.cls : Nd → List Int | .mk _ c _ => c
def Nd.parts : Nd → List Nd | .mk _ _ p => p

theorem Nd.part_lt {op : Int} {cls : List Int} {parts : List Nd} {i : Nat} (h : i < parts.length) : SizeOf.sizeOf parts[i] < SizeOf.sizeOf (Nd.mk op cls parts) := by
  have := List.sizeOf_lt_of_mem (List.getElem_mem h)
  simp; omega

/-- an expression, by its three cells -/
def NodeIs (w : World) : Nd → Value → Value → Value → Prop
  | .mk op cls parts, a, b, c => a = .int .i64 op ∧ Ints w b cls ∧ cls.length * 8 ≤ R ∧ parts.length * 56 ≤ R ∧
      ∃ rows : List (List Value), Rows w 3 c rows ∧ rows.length = parts.length ∧ ∀ i (h : i < parts.length), ∃ x y z, rows[i]? = some [x, y, z] ∧ NodeIs w parts[i] x y z
  termination_by x => SizeOf.sizeOf x
  decreasing_by exact Nd.part_lt h

def Nodes (w : World) (v : Value) (ns : List Nd) : Prop :=
  ∃ rows : List (List Value), Rows w 3 v rows ∧ rows.length = ns.length ∧ ∀ i (h : i < ns.length), ∃ x y z, rows[i]? = some [x, y, z] ∧ NodeIs w ns[i] x y z

theorem nodeIs_iff {w : World} {op : Int} {cls : List Int} {parts : List Nd} {a b c : Value} : NodeIs w (.mk op cls parts) a b c ↔ a = .int .i64 op ∧ Ints w b cls ∧ cls.length * 8 ≤ R ∧ parts.length * 56 ≤ R ∧ Nodes w c parts := by
  rw [NodeIs]; rfl

theorem NodeIs.to {B : Nat} {w w' : World} (hb : Below B w w') (hB : w.heap.size ≤ B) : ∀ (x : Nd) {a b c : Value}, NodeIs w x a b c → NodeIs w' x a b c
  | .mk op cls parts, a, b, c, h => by
    rw [nodeIs_iff] at *
    obtain ⟨h1, h2, h3, h4, rows, ⟨h5, h6⟩, h7, h8⟩ := h
    refine ⟨h1, Raw.below hb hB h2, h3, h4, rows, ⟨h5, Raw.below hb hB h6⟩, h7, fun i hi => ?_⟩
    obtain ⟨x, y, z, h9, h10⟩ := h8 i hi
    exact ⟨x, y, z, h9, NodeIs.to hb hB parts[i] h10⟩
  termination_by x => SizeOf.sizeOf x
  decreasing_by exact Nd.part_lt hi

theorem Nodes.to {B : Nat} {w w' : World} (hb : Below B w w') (hB : w.heap.size ≤ B) {v : Value} {ns : List Nd} (h : Nodes w v ns) : Nodes w' v ns := by
  obtain ⟨rows, ⟨h5, h6⟩, h7, h8⟩ := h
  refine ⟨rows, ⟨h5, Raw.below hb hB h6⟩, h7, fun i hi => ?_⟩
  obtain ⟨x, y, z, h9, h10⟩ := h8 i hi
  exact ⟨x, y, z, h9, NodeIs.to hb hB _ h10⟩

theorem Ints.to {B : Nat} {w w' : World} (hb : Below B w w') (hB : w.heap.size ≤ B) {v : Value} {xs : List Int} (h : Ints w v xs) : Ints w' v xs := Raw.below hb hB h
theorem Bools.to {B : Nat} {w w' : World} (hb : Below B w w') (hB : w.heap.size ≤ B) {v : Value} {xs : List Bool} (h : Bools w v xs) : Bools w' v xs := Raw.below hb hB h

theorem Nodes.get {w : World} {v : Value} {ns : List Nd} (h : Nodes w v ns) : ∃ p cap, v = .slice p ns.length cap ∧ ns.length ≤ cap ∧ (0 < ns.length → ∃ b off, p = some ⟨b, off, none⟩ ∧ b < w.heap.size ∧
    ∀ i (h : i < ns.length), ∃ x y z, w.cell? ⟨b, off + i * 3, none⟩ = some x ∧ w.cell? ⟨b, off + i * 3 + 1, none⟩ = some y ∧ w.cell? ⟨b, off + i * 3 + 2, none⟩ = some z ∧ NodeIs w ns[i] x y z) := by
  obtain ⟨rows, h1, h2, h3⟩ := h
  obtain ⟨p, cap, rfl, h4, h5⟩ := h1.get (by omega)
  rw [h2] at h5 h4
  refine ⟨p, cap, by rw [h2], h4, fun h0 => ?_⟩
  obtain ⟨b, off, rfl, h6, h7⟩ := h5 h0
  refine ⟨b, off, rfl, h6, fun i hi => ?_⟩
  obtain ⟨x, y, z, h8, h9⟩ := h3 i hi
  have h10 := h7 i _ h8
  exact ⟨x, y, z, h10 0 x rfl, h10 1 y rfl, h10 2 z rfl, h9⟩

structure Rl where
  left : Nd
  right : Nd
  brk : Bool
  start : Bool

/-- a rule, by its eight cells -/
def RuleIs (w : World) (r : Rl) (row : List Value) : Prop := ∃ a b c d e f, row = [a, b, c, d, e, f, .bool r.brk, .bool r.start] ∧ NodeIs w r.left a b c ∧ NodeIs w r.right d e f

def Rules (w : World) (v : Value) (rs : List Rl) : Prop :=
  ∃ rows : List (List Value), Rows w 8 v rows ∧ rows.length = rs.length ∧ ∀ i (h : i < rs.length), ∃ row, rows[i]? = some row ∧ RuleIs w rs[i] row

theorem RuleIs.to {B : Nat} {w w' : World} (hb : Below B w w') (hB : w.heap.size ≤ B) {r : Rl} {row : List Value} (h : RuleIs w r row) : RuleIs w' r row := by
  obtain ⟨a, b, c, d, e, f, h1, h2, h3⟩ := h
  exact ⟨a, b, c, d, e, f, h1, h2.to hb hB, h3.to hb hB⟩

theorem Rules.to {B : Nat} {w w' : World} (hb : Below B w w') (hB : w.heap.size ≤ B) {v : Value} {rs : List Rl} (h : Rules w v rs) : Rules w' v rs := by
  obtain ⟨rows, ⟨h5, h6⟩, h7, h8⟩ := h
  refine ⟨rows, ⟨h5, Raw.below hb hB h6⟩, h7, fun i hi => ?_⟩
  obtain ⟨row, h9, h10⟩ := h8 i hi
  exact ⟨row, h9, h10.to hb hB⟩

theorem Rules.get {w : World} {v : Value} {rs : List Rl} (h : Rules w v rs) : ∃ p cap, v = .slice p rs.length cap ∧ rs.length ≤ cap ∧ (0 < rs.length → ∃ b off, p = some ⟨b, off, none⟩ ∧ b < w.heap.size ∧
    ∀ i (h : i < rs.length), ∃ row, cellsAt w b (off + i * 8) row ∧ RuleIs w rs[i] row) := by
  obtain ⟨rows, h1, h2, h3⟩ := h
  obtain ⟨p, cap, rfl, h4, h5⟩ := h1.get (by omega)
  rw [h2] at h5 h4
  refine ⟨p, cap, by rw [h2], h4, fun h0 => ?_⟩
  obtain ⟨b, off, rfl, h6, h7⟩ := h5 h0
  refine ⟨b, off, rfl, h6, fun i hi => ?_⟩
  obtain ⟨row, h8, h9⟩ := h3 i hi
  exact ⟨row, h7 i _ h8, h9⟩

/-- a row of bools that is known whole -/
def BRow (w : World) (g : Nat) (bs : List Bool) : Prop := w.heap[g]? = some (.cells (bs.map Value.bool).toArray 4 (0, 0))

theorem BRow.bools {w : World} {g : Nat} {bs : List Bool} (h : BRow w g bs) : Bools w (.slice (some ⟨g, 0, none⟩) bs.length bs.length) bs := Raw.of_block h
theorem BRow.lt {w : World} {g : Nat} {bs : List Bool} (h : BRow w g bs) : g < w.heap.size := (Array.getElem?_eq_some_iff.1 h).1
theorem BRow.cell {w : World} {g : Nat} {bs : List Bool} (h : BRow w g bs) {i : Nat} (hi : i < bs.length) : w.cell? ⟨g, i, none⟩ = some (.bool bs[i]) := by simp [World.cell?, show w.heap[g]? = _ from h, hi]
theorem BRow.frozen {w : World} {g : Nat} {bs : List Bool} (h : BRow w g bs) (i : Nat) : w.frozen? ⟨g, i, none⟩ = false := by simp [World.frozen?, show w.heap[g]? = _ from h]
theorem BRow.fr {F : Nat → Prop} {w w' : World} (hf : Fr F w w') {g : Nat} {bs : List Bool} (h : BRow w g bs) (hn : ¬ F g) : BRow w' g bs := (hf.block g h.lt hn).trans h
theorem BRow.below {B : Nat} {w w' : World} (hb : Below B w w') {g : Nat} {bs : List Bool} (h : BRow w g bs) (hg : g < B) : BRow w' g bs := (hb.block g hg).trans h
theorem BRow.set {w : World} {g : Nat} {bs : List Bool} (h : BRow w g bs) (i : Nat) (u : Bool) : BRow (w.setCell ⟨g, i, none⟩ (.bool u)) g (bs.set i u) := by
  have h' : w.heap[g]? = some (.cells (bs.map Value.bool).toArray 4 (0, 0)) := h
  unfold BRow
  simp only [World.setCell, Array.getElem?_modify, if_true, h', Option.map_some, Option.isSome_none]
  congr 2
  simp [List.map_set]
end Go.Proofs.Ytmooflmhbpckjaa
