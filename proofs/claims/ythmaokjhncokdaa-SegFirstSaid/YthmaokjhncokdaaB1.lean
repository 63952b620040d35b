import Derived.Test.YthmaokjhncokdaaChecked
import Derived.WalkKit
import Derived.WalkLawsBesides
import Derived.WalkSpells
import Derived.WalkSmall
import Derived.Deep.QuietTactic
import Derived.BigQuiet
import Derived.Lib.Hide
import Derived.Laws.AppendOwnNone
import Derived.Laws.CopyOwn
import Derived.StillTailTactics
import Derived.Deep.AppendLies
import Derived.OrdersHeld
import Derived.ProofKit
import Derived.OpenShut
import Derived.Below
import Derived.Carry
import Derived.Deep.Slices
import Derived.KernelRfl
/-
  What a call keeps, and laws on stores, copies and clears of whole rows. No condition beyond what each theorem names.
-/
set_option linter.unusedVariables false
set_option linter.unusedSimpArgs false
namespace Go.Proofs.Ythmaokjhncokdaa
open Go.RowKit

/-- a call of function F enters its body -/
def Enters (P : Program) (F : FuncId) : Prop := ∀ (args : Array Value) (w : World), (callFunc F args).run P w = .ok (.enter F args) w

/-- blocks outside F are as they were -/
structure Fr (F : Nat → Prop) (w w' : World) : Prop where
  os : w'.os = w.os
  tape : w'.tape = w.tape
  output : w'.output = w.output
  size : w.heap.size ≤ w'.heap.size
  block : ∀ k, k < w.heap.size → ¬ F k → w'.heap[k]? = w.heap[k]?

theorem Fr.refl (F : Nat → Prop) (w : World) : Fr F w w := ⟨rfl, rfl, rfl, Nat.le_refl _, fun _ _ _ => rfl⟩
theorem Fr.mono {F G : Nat → Prop} {w w' : World} (h : Fr F w w') (hg : ∀ k, k < w.heap.size → F k → G k) : Fr G w w' := ⟨h.os, h.tape, h.output, h.size, fun k hk hn => h.block k hk fun hf => hn (hg k hk hf)⟩
theorem Fr.trans {F G : Nat → Prop} {a b c : World} (h : Fr F a b) (k : Fr G b c) (hg : ∀ i, i < a.heap.size → G i → F i) : Fr F a c :=
  ⟨k.os.trans h.os, k.tape.trans h.tape, k.output.trans h.output, Nat.le_trans h.size k.size, fun i hi hn => (k.block i (Nat.lt_of_lt_of_le hi h.size) fun hf => hn (hg i hi hf)).trans (h.block i hi hn)⟩
theorem Fr.of_below {w w' : World} (h : Below w.heap.size w w') (F : Nat → Prop) : Fr F w w' := ⟨h.os, h.tape, h.output, h.size, fun k hk _ => h.block k hk⟩
theorem Fr.of_belowB {B : Nat} {w w' : World} (h : Below B w w') : Fr (fun k => B ≤ k) w w' := ⟨h.os, h.tape, h.output, h.size, fun k _ hn => h.block k (by omega)⟩
theorem Fr.below {F : Nat → Prop} {B : Nat} {w w' : World} (h : Fr F w w') (hB : B ≤ w.heap.size) (hF : ∀ k, F k → B ≤ k) : Below B w w' :=
  ⟨h.os, h.tape, h.output, h.size, fun k hk => h.block k (by omega) fun hf => by have := hF k hf; omega⟩
theorem Fr.drewN {F : Nat → Prop} {a w : World} (h : Fr F a w) (n : Nat) : Fr F a (w.drewN n) := ⟨h.os, h.tape, h.output, h.size, h.block⟩
theorem Fr.cell {F : Nat → Prop} {w w' : World} (h : Fr F w w') {p : Addr} {v : Value} (hp : ¬ F p.block) (hv : w.cell? p = some v) : w'.cell? p = some v := by
  rw [World.cell?_of_block (h.block p.block (World.block_lt_of_cell? w _ hv) hp)]; exact hv
theorem Fr.alloc {F : Nat → Prop} {a w : World} (h : Fr F a w) (o : Obj) : Fr F a (w.alloc o) :=
  h.trans (Fr.of_below ((Below.refl _ _).alloc (Nat.le_refl _) _) (fun _ => False)) (fun _ _ hf => hf.elim)
theorem Fr.grown {F : Nat → Prop} {w w' : World} {row : Option Nat} (hg : w.grownBy w' row) (hF : ∀ k, row = some k → F k) : Fr F w w' :=
  ⟨hg.os, hg.tape, hg.output, hg.size, fun k hk hn => hg.block k hk fun e => hn (hF k e.symm)⟩
theorem Fr.setCell {F : Nat → Prop} (w : World) {p : Addr} (hp : F p.block) (u : Value) : Fr F w (w.setCell p u) :=
  ⟨rfl, rfl, rfl, by simp [World.setCell], fun k _ hn => Below.heap_setCell _ _ _ _ (fun e => hn (e ▸ hp))⟩
theorem Fr.setRow {F : Nat → Prop} (w : World) {g : Nat} (hp : F g) (cs : Array Value) : Fr F w (w.setRow g cs) :=
  ⟨rfl, rfl, rfl, by simp [World.setRow], fun k _ hn => setRow_other w g k cs (fun e => hn (e ▸ hp))⟩

theorem abs_world {P : Program} {f : FuncId} {args : Array Value} {w : World} {R : Ending → World → Prop} (h : ∀ W, W = w → Calls P f args W R) : Calls P f args w R := h w rfl
theorem ret_int {k : IntKind} {a b : Int} (h : a = b) : Ending.returned (.int k a) = .returned (.int k b) := by rw [h]
theorem ret_bool {a b : Bool} (h : a = b) : Ending.returned (.bool a) = .returned (.bool b) := by rw [h]

section
variable {P : Program}

theorem run_storeAt_row (w : World) (t : TypeId) (g o : Nat) (v : Value) (cur : Array Value) (e : TypeId) (hsz : (P.info? t).map (·.size) = some v.cells.size)
    (hg : w.heap[g]? = some (.cells cur e (0, 0))) (hfit : o + v.cells.size ≤ cur.size) (h1 : ∀ c ∈ v.cells.toList, c.oneCell' = true) :
    (Instr.storeAt t (.pointer (some ⟨g, o, none⟩)) v).run P w = .ok () (w.setRow g (splice cur.toList o v.cells.toList).toArray) := by
  have hst := run_storeCells_at P g o e v.cells.toList 0 cur w hg (by simpa using hfit) h1
  cases hq : P.info? t with
  | none => simp [hq] at hsz
  | some i =>
    have hi : i.size = v.cells.size := by simpa [hq] using hsz
    simp [Instr.storeAt, storeVar, sizeOf, typeInfo, hq, hi, hst, splice, Instr.sureAddr]

theorem wpList_store_row {w : World} {ops : Array Oper} {rest : List Oper} {o : Oper} {a : Act} {Q : Exit → Act → World → Prop} (hgd : o.guard = none) (x y : Operand) (t : TypeId)
    (ho : o.op = .store t x y) (g off : Nat) (hx : a.eval x = .pointer (some ⟨g, off, none⟩)) (v : Value) (hy : a.eval y = v) (cur : Array Value) (e : TypeId) (hsz : (P.info? t).map (·.size) = some v.cells.size)
    (hg : w.heap[g]? = some (.cells cur e (0, 0))) (hfit : off + v.cells.size ≤ cur.size) (h1 : ∀ c ∈ v.cells.toList, c.oneCell' = true)
    (h : wpList P ops Q rest (a.put o.dst undef) (w.setRow g (splice cur.toList off v.cells.toList).toArray)) : wpList P ops Q (o :: rest) a w := by
  refine wpList_plain hgd fun K hK => ?_
  have hrun := run_storeAt_row (P := P) w t g off v cur e hsz hg hfit h1
  unfold Oper.wp
  simp [execOp, ho, hx, hy, hrun]
  exact hK _ _ h

/-- copy within slices of whatever element size; an empty copy asks nothing of the addresses -/
theorem run_copy_rows (w : World) (dT sT ty elem : TypeId) (size : Nat) (dp sp : Option Addr) (dLen dCap sLen sCap : Nat) (g o : Nat) (cur : Array Value) (t : TypeId) (cs : List Value) (m : Nat)
    (hu : P.underlying dT = some (.slice elem)) (hs : (P.info? elem).map (·.size) = some size)
    (hg : w.heap[g]? = some (.cells cur t (0, 0))) (hm : m = Nat.min sLen dLen) (hn : cs.length = m * size)
    (hpos : 0 < cs.length → dp = some ⟨g, o, none⟩ ∧ ∃ a, sp = some a ∧ ∀ j v, cs[j]? = some v → w.cell? (a.add j) = some v) (hnil : sp = none → sLen = 0 ∧ sCap = 0)
    (hfit : o + cs.length ≤ cur.size) (h1 : ∀ v ∈ cs, v.oneCell' = true) :
    (Builtin.copy_ #[dT, sT] ty #[.slice dp dLen dCap, .slice sp sLen sCap]).run P w =
      .ok (goInt m) (w.setRow g (splice cur.toList o cs).toArray) := by
  cases hq : P.info? elem with
  | none => simp [hq] at hs
  | some i =>
    have hi : i.size = size := by simpa [hq] using hs
    by_cases h0 : cs.length = 0
    · have hcs : cs = [] := List.eq_nil_of_length_eq_zero h0
      subst hcs
      have hsp : (splice cur.toList o []).toArray = cur := by simp [splice]
      rw [hsp, setRow_self w g cur t (0, 0) hg]
      have hms : m * size = 0 := by simpa using hn.symm
      subst hm
      cases sp with
      | none =>
        obtain ⟨rfl, rfl⟩ := hnil rfl
        cases dp <;> simp [Builtin.copy_, run_underlying hu, Builtin.lenOf, Builtin.firstCells, sizeOf, typeInfo, hq, hi, storeCells, Nat.min_def]
      | some a =>
        have hl := run_loadCells_list (P := P) w a [] (by simp)
        simp only [List.length_nil] at hl
        cases dp <;> simp [Builtin.copy_, run_underlying hu, Builtin.lenOf, Builtin.firstCells, sizeOf, typeInfo, hq, hi, storeCells, hms, hl]
    · obtain ⟨rfl, a, rfl, hsrc⟩ := hpos (by omega)
      have hl := run_loadCells_list (P := P) w a cs hsrc
      have hst := run_storeCells_at P g o t cs 0 cur w hg (by simpa using hfit) h1
      rw [hn] at hl
      subst hm
      simp [Builtin.copy_, run_underlying hu, Builtin.lenOf, Builtin.firstCells, sizeOf, typeInfo, hq, hi, hl, hst, splice]

theorem run_clear_row (w : World) (t ty elem : TypeId) (hu : P.underlying t = some (.slice elem)) (g o n cap : Nat) (h0 : 0 < n) (i : TypeInfo) (z : Value) (hi : P.info? elem = some i) (hz : i.zero = some z)
    (cur : Array Value) (e : TypeId) (hg : w.heap[g]? = some (.cells cur e (0, 0))) (hfit : o + n * z.cells.size ≤ cur.size) (h1 : ∀ c ∈ z.cells.toList, c.oneCell' = true) :
    (Builtin.clear_ #[t] ty #[.slice (some ⟨g, o, none⟩) n cap]).run P w = .ok (.tuple #[]) (w.setRow g (splice cur.toList o (Builtin.zeroCells z.cells n).toList).toArray) := by
  have hst := run_storeCells_at P g o e (Builtin.zeroCells z.cells n).toList 0 cur w hg (by simpa [size_zeroCells] using hfit) (by
    intro c hc
    simp only [Builtin.zeroCells, Array.toList_map, List.mem_map] at hc
    obtain ⟨k, hk, rfl⟩ := hc
    apply h1
    simp only [Array.toList_range, List.mem_range] at hk
    have hs : 0 < z.cells.size := by
      rcases Nat.eq_zero_or_pos z.cells.size with h | h
      · rw [h] at hk; omega
      · exact h
    have hlt : k % z.cells.size < z.cells.size := Nat.mod_lt _ hs
    rw [getElem!_pos z.cells _ hlt]
    exact Array.getElem_mem_toList hlt)
  cases n with
  | zero => omega
  | succ n =>
    simp [Builtin.clear_, run_underlying hu, zeroValue, typeInfo, hi, hz, hst, splice]

theorem ret_cell2 {fn : Func} {p u : Tmp} {ty : TypeId} (h : fn.results = #[.cell p ty, .tmp u]) (tmps : Array Value) (w : World) (b : Nat) (cs : Array Value) (t : TypeId) (fr : Nat × Nat) (fs : Array Field)
    (hp : tmps.getD p undef = .pointer (some ⟨b, 0, none⟩)) (hg : w.heap[b]? = some (.cells cs t fr)) (hu : P.underlying ty = some (.struct fs)) (hi : (P.info? ty).map (·.size) = some cs.size) :
    (results fn tmps).run P w = .ok (.tuple #[.agg cs, tmps.getD u undef]) w := by
  rw [results_cell_tmp h, hp]
  have h1 := run_loadVar_row (P := P) w b t ty cs fr _ hg hu rfl hi
  simp [asAddr, h1]
end
end Go.Proofs.Ythmaokjhncokdaa

/-
  What slices, expressions and rules read as in a world; kept by whatever only adds. Plain theorems; no condition.
-/
set_option linter.unusedVariables false
set_option linter.unusedSimpArgs false
namespace Go.Proofs.Ythmaokjhncokdaa
open Go.RowKit

/-- v is a slice of n elements, whose cells, one behind the other, are cs -/
def Raw (w : World) (v : Value) (n : Nat) (cs : List Value) : Prop :=
  ∃ p cap, v = .slice p n cap ∧ n ≤ cap ∧ (0 < cs.length → ∃ b off, p = some ⟨b, off, none⟩ ∧ ∀ j u, cs[j]? = some u → w.cell? ⟨b, off + j, none⟩ = some u)

def cellsAt (w : World) (b off : Nat) (cs : List Value) : Prop := ∀ j u, cs[j]? = some u → w.cell? ⟨b, off + j, none⟩ = some u

theorem cell_below {B : Nat} {w w' : World} (hb : Below B w w') {b o : Nat} (h : b < B) {v : Value} (hc : w.cell? ⟨b, o, none⟩ = some v) : w'.cell? ⟨b, o, none⟩ = some v := (hb.cell (p := ⟨b, o, none⟩) h).trans hc

theorem Raw.lt {w : World} {v : Value} {n : Nat} {cs : List Value} (h : Raw w v n cs) (h0 : 0 < cs.length) : ∃ b off cap, v = .slice (some ⟨b, off, none⟩) n cap ∧ n ≤ cap ∧ b < w.heap.size ∧ cellsAt w b off cs := by
  obtain ⟨p, cap, rfl, hc, hx⟩ := h
  obtain ⟨b, off, rfl, hy⟩ := hx h0
  exact ⟨b, off, cap, rfl, hc, World.block_lt_of_cell? w _ (hy 0 cs[0] (by simp [h0])), hy⟩

theorem Raw.fr {F : Nat → Prop} {w w' : World} (hf : Fr F w w') {v : Value} {n : Nat} {cs : List Value} (h : Raw w v n cs) (hn : 0 < cs.length → ∀ k, v.ownBlock = some k → ¬ F k) : Raw w' v n cs := by
  obtain ⟨p, cap, rfl, hc, hx⟩ := h
  refine ⟨p, cap, rfl, hc, fun h0 => ?_⟩
  obtain ⟨b, off, rfl, hy⟩ := hx h0
  exact ⟨b, off, rfl, fun j u hu => hf.cell (p := ⟨b, off + j, none⟩) (hn h0 b rfl) (hy j u hu)⟩

theorem Raw.below {B : Nat} {w w' : World} (hb : Below B w w') (hB : w.heap.size ≤ B) {v : Value} {n : Nat} {cs : List Value} (h : Raw w v n cs) : Raw w' v n cs := by
  obtain ⟨p, cap, rfl, hc, hx⟩ := h
  refine ⟨p, cap, rfl, hc, fun h0 => ?_⟩
  obtain ⟨b, off, rfl, hy⟩ := hx h0
  exact ⟨b, off, rfl, fun j u hu => cell_below hb (Nat.lt_of_lt_of_le (World.block_lt_of_cell? w _ (hy j u hu)) hB) (hy j u hu)⟩

theorem Raw.of_own {w : World} {base : Nat} {e : TypeId} {size : Nat} {v : Value} {n : Nat} {cs : List Value} (h : w.ownsRow base e size v n cs) : Raw w v n cs := by
  have hcell := fun g hg => h.cells (g := g) hg
  obtain ⟨h1, h2⟩ := h
  rcases h2 with ⟨rfl, rfl⟩ | ⟨g, cap, cur, rfl, hb, hg, hn, hcm, hs, ht⟩
  · exact ⟨none, 0, rfl, Nat.le_refl _, fun h0 => by rw [h1, Nat.zero_mul] at h0; omega⟩
  · refine ⟨_, cap, rfl, hn, fun h0 => ⟨g, 0, rfl, fun j u hu => ?_⟩⟩
    have := hcell g rfl j u hu
    rwa [show (⟨g, 0, none⟩ : Addr).add j = ⟨g, 0 + j, none⟩ by unfold Addr.add; split <;> simp_all] at this

/-- the cells of a block that is known whole -/
theorem Raw.of_block {w : World} {g n : Nat} {cs : List Value} {t : TypeId} (h : w.heap[g]? = some (.cells cs.toArray t (0, 0))) : Raw w (.slice (some ⟨g, 0, none⟩) n n) n cs := by
  refine ⟨_, n, rfl, Nat.le_refl _, fun h0 => ⟨g, 0, rfl, fun j u hu => ?_⟩⟩
  simp [World.cell?, h, hu]

def Ints (w : World) (v : Value) (xs : List Int) : Prop := Raw w v xs.length (xs.map (Value.int .i64))
def Bools (w : World) (v : Value) (xs : List Bool) : Prop := Raw w v xs.length (xs.map Value.bool)

theorem Ints.nil (w : World) : Ints w (.slice none 0 0) [] := ⟨none, 0, rfl, Nat.le_refl _, fun h => by simp at h⟩

theorem Ints.get {w : World} {v : Value} {xs : List Int} (h : Ints w v xs) : ∃ p cap, v = .slice p xs.length cap ∧ xs.length ≤ cap ∧ (0 < xs.length → ∃ b off, p = some ⟨b, off, none⟩ ∧ b < w.heap.size ∧ ∀ j (h : j < xs.length), w.cell? ⟨b, off + j, none⟩ = some (.int .i64 xs[j])) := by
  have hl := h.lt
  obtain ⟨p, cap, rfl, hc, hx⟩ := h
  refine ⟨p, cap, rfl, hc, fun h0 => ?_⟩
  obtain ⟨b, off, cap', he, -, hb, -⟩ := hl (by simpa using h0)
  obtain ⟨b', off', rfl, hy⟩ := hx (by simpa using h0)
  simp only [Value.slice.injEq, Option.some.injEq, Addr.mk.injEq] at he
  obtain ⟨⟨rfl, rfl, -⟩, -⟩ := he
  exact ⟨_, _, rfl, hb, fun j hj => hy j _ (by simp [hj])⟩

theorem Bools.get {w : World} {v : Value} {xs : List Bool} (h : Bools w v xs) : ∃ p cap, v = .slice p xs.length cap ∧ xs.length ≤ cap ∧ (0 < xs.length → ∃ b off, p = some ⟨b, off, none⟩ ∧ b < w.heap.size ∧ ∀ j (h : j < xs.length), w.cell? ⟨b, off + j, none⟩ = some (.bool xs[j])) := by
  have hl := h.lt
  obtain ⟨p, cap, rfl, hc, hx⟩ := h
  refine ⟨p, cap, rfl, hc, fun h0 => ?_⟩
  obtain ⟨b, off, cap', he, -, hb, -⟩ := hl (by simpa using h0)
  obtain ⟨b', off', rfl, hy⟩ := hx (by simpa using h0)
  simp only [Value.slice.injEq, Option.some.injEq, Addr.mk.injEq] at he
  obtain ⟨⟨rfl, rfl, -⟩, -⟩ := he
  exact ⟨_, _, rfl, hb, fun j hj => hy j _ (by simp [hj])⟩

/-- a slice of elements of sz cells each -/
def Rows (w : World) (sz : Nat) (v : Value) (rows : List (List Value)) : Prop := (∀ r ∈ rows, r.length = sz) ∧ Raw w v rows.length rows.flatten

theorem flatten_length {sz : Nat} : ∀ {rows : List (List Value)}, (∀ r ∈ rows, r.length = sz) → rows.flatten.length = rows.length * sz
  | [], _ => by simp
  | r :: rs, h => by
    rw [List.flatten_cons, List.length_append, flatten_length (fun r' h' => h r' (by simp [h'])), h r (by simp), List.length_cons, Nat.succ_mul]; omega

theorem flatten_get {sz : Nat} : ∀ {rows : List (List Value)} {i : Nat} {row : List Value}, (∀ r ∈ rows, r.length = sz) → rows[i]? = some row → ∀ j, j < sz → rows.flatten[i * sz + j]? = row[j]?
  | [], i, row, _, h, j, hj => by simp at h
  | r :: rs, 0, row, hl, h, j, hj => by
    have e : r = row := by simpa using h
    subst e
    rw [List.flatten_cons, List.getElem?_append_left (by rw [hl r (by simp)]; omega)]
    simp
  | r :: rs, i + 1, row, hl, h, j, hj => by
    rw [List.flatten_cons, List.getElem?_append_right (by rw [hl r (by simp), Nat.succ_mul]; omega), hl r (by simp),
      show (i + 1) * sz + j - sz = i * sz + j by rw [Nat.succ_mul]; omega]
    exact flatten_get (fun r' h' => hl r' (by simp [h'])) (by simpa using h) j hj

theorem Rows.get {w : World} {sz : Nat} {v : Value} {rows : List (List Value)} (h : Rows w sz v rows) (h0 : 0 < sz) : ∃ p cap, v = .slice p rows.length cap ∧ rows.length ≤ cap ∧ (0 < rows.length → ∃ b off, p = some ⟨b, off, none⟩ ∧ b < w.heap.size ∧ ∀ i row, rows[i]? = some row → cellsAt w b (off + i * sz) row) := by
  obtain ⟨hl, hr⟩ := h
  have hlt := hr.lt
  obtain ⟨p, cap, rfl, hc, hx⟩ := hr
  refine ⟨p, cap, rfl, hc, fun h1 => ?_⟩
  have hpos : 0 < rows.flatten.length := by rw [flatten_length hl]; exact Nat.mul_pos h1 h0
  obtain ⟨b, off, cap', he, -, hb, -⟩ := hlt hpos
  obtain ⟨b', off', rfl, hy⟩ := hx hpos
  simp only [Value.slice.injEq, Option.some.injEq, Addr.mk.injEq] at he
  obtain ⟨⟨rfl, rfl, -⟩, -⟩ := he
  refine ⟨_, _, rfl, hb, fun i row hi j u hu => ?_⟩
  have hj : j < sz := by
    have h1 := hl row (List.mem_of_getElem? hi)
    have h2 := (List.getElem?_eq_some_iff.1 hu).1
    omega
  have := hy (i * sz + j) u (by rw [flatten_get hl hi j hj]; exact hu)
  rwa [← Nat.add_assoc] at this

/-- as many bytes as one slice may have -/
def R : Nat := 140737488351232

inductive Nd where
  | mk (op : Int) (cls : List Int) (parts : List Nd)

def Nd.op : Nd → Int | .mk o _ _ => o
def Nd.cls : Nd → List Int | .mk _ c _ => c
def Nd.parts : Nd → List Nd | .mk _ _ p => p

theorem Nd.part_lt {op : Int} {cls : List Int} {parts : List Nd} {i : Nat} (h : i < parts.length) : SizeOf.sizeOf parts[i] < SizeOf.sizeOf (Nd.mk op cls parts) := by
  have := List.sizeOf_lt_of_mem (List.getElem_mem h)
  simp; omega

/-- an expression, by its three cells -/
def NodeIs (w : World) : Nd → Value → Value → Value → Prop
  | .mk op cls parts, a, b, c => a = .int .i64 op ∧ Ints w b cls ∧ cls.length * 8 ≤ R ∧ parts.length * 56 ≤ R ∧
      ∃ rows : List (List Value), Rows w 3 c rows ∧ rows.length = parts.length ∧ ∀ i (h : i < parts.length), ∃ x y z, rows[i]? = some [x, y, z] ∧ NodeIs w parts[i] x y z
  termination_by x => SizeOf.sizeOf x
  decreasing_by exact Nd.part_lt h

def Nodes (w : World) (v : Value) (ns : List Nd) : Prop :=
  ∃ rows : List (List Value), Rows w 3 v rows ∧ rows.length = ns.length ∧ ∀ i (h : i < ns.length), ∃ x y z, rows[i]? = some [x, y, z] ∧ NodeIs w ns[i] x y z

theorem nodeIs_iff {w : World} {op : Int} {cls : List Int} {parts : List Nd} {a b c : Value} : NodeIs w (.mk op cls parts) a b c ↔ a = .int .i64 op ∧ Ints w b cls ∧ cls.length * 8 ≤ R ∧ parts.length * 56 ≤ R ∧ Nodes w c parts := by
  rw [NodeIs]; rfl

theorem NodeIs.to {B : Nat} {w w' : World} (hb : Below B w w') (hB : w.heap.size ≤ B) : ∀ (x : Nd) {a b c : Value}, NodeIs w x a b c → NodeIs w' x a b c
  | .mk op cls parts, a, b, c, h => by
    rw [nodeIs_iff] at *
    obtain ⟨h1, h2, h3, h4, rows, ⟨h5, h6⟩, h7, h8⟩ := h
    refine ⟨h1, Raw.below hb hB h2, h3, h4, rows, ⟨h5, Raw.below hb hB h6⟩, h7, fun i hi => ?_⟩
    obtain ⟨x, y, z, h9, h10⟩ := h8 i hi
    exact ⟨x, y, z, h9, NodeIs.to hb hB parts[i] h10⟩
  termination_by x => SizeOf.sizeOf x
  decreasing_by exact Nd.part_lt hi

theorem Nodes.to {B : Nat} {w w' : World} (hb : Below B w w') (hB : w.heap.size ≤ B) {v : Value} {ns : List Nd} (h : Nodes w v ns) : Nodes w' v ns := by
  obtain ⟨rows, ⟨h5, h6⟩, h7, h8⟩ := h
  refine ⟨rows, ⟨h5, Raw.below hb hB h6⟩, h7, fun i hi => ?_⟩
  obtain ⟨x, y, z, h9, h10⟩ := h8 i hi
  exact ⟨x, y, z, h9, NodeIs.to hb hB _ h10⟩

theorem Ints.to {B : Nat} {w w' : World} (hb : Below B w w') (hB : w.heap.size ≤ B) {v : Value} {xs : List Int} (h : Ints w v xs) : Ints w' v xs := Raw.below hb hB h
theorem Bools.to {B : Nat} {w w' : World} (hb : Below B w w') (hB : w.heap.size ≤ B) {v : Value} {xs : List Bool} (h : Bools w v xs) : Bools w' v xs := Raw.below hb hB h

theorem Nodes.get {w : World} {v : Value} {ns : List Nd} (h : Nodes w v ns) : ∃ p cap, v = .slice p ns.length cap ∧ ns.length ≤ cap ∧ (0 < ns.length → ∃ b off, p = some ⟨b, off, none⟩ ∧ b < w.heap.size ∧
    ∀ i (h : i < ns.length), ∃ x y z, w.cell? ⟨b, off + i * 3, none⟩ = some x ∧ w.cell? ⟨b, off + i * 3 + 1, none⟩ = some y ∧ w.cell? ⟨b, off + i * 3 + 2, none⟩ = some z ∧ NodeIs w ns[i] x y z) := by
  obtain ⟨rows, h1, h2, h3⟩ := h
  obtain ⟨p, cap, rfl, h4, h5⟩ := h1.get (by omega)
  rw [h2] at h5 h4
  refine ⟨p, cap, by rw [h2], h4, fun h0 => ?_⟩
  obtain ⟨b, off, rfl, h6, h7⟩ := h5 h0
  refine ⟨b, off, rfl, h6, fun i hi => ?_⟩
  obtain ⟨x, y, z, h8, h9⟩ := h3 i hi
  have h10 := h7 i _ h8
  exact ⟨x, y, z, h10 0 x rfl, h10 1 y rfl, h10 2 z rfl, h9⟩

structure Rl where
  left : Nd
  right : Nd
  brk : Bool
  start : Bool

/-- a rule, by its eight cells -/
def RuleIs (w : World) (r : Rl) (row : List Value) : Prop := ∃ a b c d e f, row = [a, b, c, d, e, f, .bool r.brk, .bool r.start] ∧ NodeIs w r.left a b c ∧ NodeIs w r.right d e f

def Rules (w : World) (v : Value) (rs : List Rl) : Prop :=
  ∃ rows : List (List Value), Rows w 8 v rows ∧ rows.length = rs.length ∧ ∀ i (h : i < rs.length), ∃ row, rows[i]? = some row ∧ RuleIs w rs[i] row

theorem RuleIs.to {B : Nat} {w w' : World} (hb : Below B w w') (hB : w.heap.size ≤ B) {r : Rl} {row : List Value} (h : RuleIs w r row) : RuleIs w' r row := by
  obtain ⟨a, b, c, d, e, f, h1, h2, h3⟩ := h
  exact ⟨a, b, c, d, e, f, h1, h2.to hb hB, h3.to hb hB⟩

theorem Rules.to {B : Nat} {w w' : World} (hb : Below B w w') (hB : w.heap.size ≤ B) {v : Value} {rs : List Rl} (h : Rules w v rs) : Rules w' v rs := by
  obtain ⟨rows, ⟨h5, h6⟩, h7, h8⟩ := h
  refine ⟨rows, ⟨h5, Raw.below hb hB h6⟩, h7, fun i hi => ?_⟩
  obtain ⟨row, h9, h10⟩ := h8 i hi
  exact ⟨row, h9, h10.to hb hB⟩

theorem Rules.get {w : World} {v : Value} {rs : List Rl} (h : Rules w v rs) : ∃ p cap, v = .slice p rs.length cap ∧ rs.length ≤ cap ∧ (0 < rs.length → ∃ b off, p = some ⟨b, off, none⟩ ∧ b < w.heap.size ∧
    ∀ i (h : i < rs.length), ∃ row, cellsAt w b (off + i * 8) row ∧ RuleIs w rs[i] row) := by
  obtain ⟨rows, h1, h2, h3⟩ := h
  obtain ⟨p, cap, rfl, h4, h5⟩ := h1.get (by omega)
  rw [h2] at h5 h4
  refine ⟨p, cap, by rw [h2], h4, fun h0 => ?_⟩
  obtain ⟨b, off, rfl, h6, h7⟩ := h5 h0
  refine ⟨b, off, rfl, h6, fun i hi => ?_⟩
  obtain ⟨row, h8, h9⟩ := h3 i hi
  exact ⟨row, h7 i _ h8, h9⟩

/-- a row of bools that is known whole -/
def BRow (w : World) (g : Nat) (bs : List Bool) : Prop := w.heap[g]? = some (.cells (bs.map Value.bool).toArray 4 (0, 0))

theorem BRow.bools {w : World} {g : Nat} {bs : List Bool} (h : BRow w g bs) : Bools w (.slice (some ⟨g, 0, none⟩) bs.length bs.length) bs := Raw.of_block h
theorem BRow.lt {w : World} {g : Nat} {bs : List Bool} (h : BRow w g bs) : g < w.heap.size := (Array.getElem?_eq_some_iff.1 h).1
theorem BRow.cell {w : World} {g : Nat} {bs : List Bool} (h : BRow w g bs) {i : Nat} (hi : i < bs.length) : w.cell? ⟨g, i, none⟩ = some (.bool bs[i]) := by simp [World.cell?, show w.heap[g]? = _ from h, hi]
theorem BRow.frozen {w : World} {g : Nat} {bs : List Bool} (h : BRow w g bs) (i : Nat) : w.frozen? ⟨g, i, none⟩ = false := by simp [World.frozen?, show w.heap[g]? = _ from h]
theorem BRow.fr {F : Nat → Prop} {w w' : World} (hf : Fr F w w') {g : Nat} {bs : List Bool} (h : BRow w g bs) (hn : ¬ F g) : BRow w' g bs := (hf.block g h.lt hn).trans h
theorem BRow.below {B : Nat} {w w' : World} (hb : Below B w w') {g : Nat} {bs : List Bool} (h : BRow w g bs) (hg : g < B) : BRow w' g bs := (hb.block g hg).trans h
theorem BRow.set {w : World} {g : Nat} {bs : List Bool} (h : BRow w g bs) (i : Nat) (u : Bool) : BRow (w.setCell ⟨g, i, none⟩ (.bool u)) g (bs.set i u) := by
  have h' : w.heap[g]? = some (.cells (bs.map Value.bool).toArray 4 (0, 0)) := h
  unfold BRow
  simp only [World.setCell, Array.getElem?_modify, if_true, h', Option.map_some, Option.isSome_none]
  congr 2
  simp [List.map_set]
end Go.Proofs.Ythmaokjhncokdaa

/-
  Which places an expression takes one to from some. Plain definitions and theorems; no program.
-/
set_option linter.unusedVariables false
set_option linter.unusedSimpArgs false
namespace Go.Proofs.Ythmaokjhncokdaa

/-- any number of steps -/
inductive Star (r : Nat → Nat → Prop) : Nat → Nat → Prop where
  | refl (a : Nat) : Star r a a
  | step {a b c : Nat} : Star r a b → r b c → Star r a c

theorem Star.head {r : Nat → Nat → Prop} {a b c : Nat} (h : r a b) (k : Star r b c) : Star r a c := by
  induction k with
  | refl => exact .step (.refl _) h
  | step _ h2 ih => exact .step ih h2
theorem Star.trans {r : Nat → Nat → Prop} {a b c : Nat} (h : Star r a b) (k : Star r b c) : Star r a c := by
  induction k with
  | refl => exact h
  | step _ h2 ih => exact .step ih h2
theorem Star.mono {r s : Nat → Nat → Prop} (hr : ∀ a b, r a b → s a b) {a b : Nat} (h : Star r a b) : Star s a b := by
  induction h with
  | refl => exact .refl _
  | step _ h2 ih => exact .step ih (hr _ _ h2)
theorem Star.swap {r : Nat → Nat → Prop} {a b : Nat} (h : Star r a b) : Star (fun x y => r y x) b a := by
  induction h with
  | refl => exact .refl _
  | step _ h2 ih => exact Star.head h2 ih

mutual
/-- an expression matches from a place to a place -/
def M (t : List Int) : Nd → Nat → Nat → Prop
  | .mk op cls parts, a, b =>
    if op = 0 then a = b
    else if op = 1 then b = a + 1 ∧ ∃ c, t[a]? = some c ∧ c ∈ cls
    else if op = 2 then Mseq t parts a b
    else if op = 3 then Malt t parts a b
    else if op = 4 then parts.length = 1 ∧ Star (Malt t parts) a b
    else if op = 5 then parts.length = 1 ∧ (a = b ∨ Malt t parts a b)
    else False
def Mseq (t : List Int) : List Nd → Nat → Nat → Prop
  | [], a, b => a = b
  | x :: r, a, b => ∃ c, M t x a c ∧ Mseq t r c b
def Malt (t : List Int) : List Nd → Nat → Nat → Prop
  | [], _, _ => False
  | x :: r, a, b => M t x a b ∨ Malt t r a b
end

theorem Malt_one {t : List Int} {x : Nd} {a b : Nat} : Malt t [x] a b ↔ M t x a b := by simp [Malt]

theorem Malt_mem {t : List Int} : ∀ {l : List Nd} {a b : Nat}, Malt t l a b ↔ ∃ x ∈ l, M t x a b
  | [], a, b => by simp [Malt]
  | x :: r, a, b => by simp [Malt, Malt_mem (l := r)]

theorem Mseq_append {t : List Int} : ∀ {l m : List Nd} {a b : Nat}, Mseq t (l ++ m) a b ↔ ∃ c, Mseq t l a c ∧ Mseq t m c b
  | [], m, a, b => by simp [Mseq]
  | x :: r, m, a, b => by
    simp only [List.cons_append, Mseq, Mseq_append (l := r)]
    constructor
    · rintro ⟨c, h1, d, h2, h3⟩; exact ⟨d, ⟨c, h1, h2⟩, h3⟩
    · rintro ⟨d, ⟨c, h1, h2⟩, h3⟩; exact ⟨c, h1, d, h2, h3⟩
theorem Mseq_one {t : List Int} {x : Nd} {a b : Nat} : Mseq t [x] a b ↔ M t x a b := by simp [Mseq]

/-- what holds of all matching, by the expression -/
theorem M_ind {t : List Int} {Q : Nat → Nat → Prop} (hr : ∀ a, Q a a) (ht : ∀ a b c, Q a b → Q b c → Q a c) :
    ∀ (x : Nd), (∀ (c : Int) (a : Nat), t[a]? = some c → Q a (a + 1)) → ∀ {a b : Nat}, M t x a b → Q a b
  | .mk op cls parts, h1, a, b, h => by
    have hseq : ∀ (l : List Nd), (∀ x ∈ l, x ∈ parts) → ∀ a b, Mseq t l a b → Q a b := by
      intro l
      induction l with
      | nil => intro _ a b h; simp only [Mseq] at h; exact h ▸ hr a
      | cons x r ih =>
        intro hm a b h
        simp only [Mseq] at h
        obtain ⟨c, h2, h3⟩ := h
        have := List.sizeOf_lt_of_mem (hm x (by simp))
        exact ht _ _ _ (M_ind hr ht x h1 h2) (ih (fun y hy => hm y (by simp [hy])) _ _ h3)
    have halt : ∀ a b, Malt t parts a b → Q a b := by
      intro a b h
      obtain ⟨x, hx, h2⟩ := Malt_mem.1 h
      have := List.sizeOf_lt_of_mem hx
      exact M_ind hr ht x h1 h2
    unfold M at h
    split at h
    · exact h ▸ hr a
    · split at h
      · obtain ⟨rfl, c, h2, -⟩ := h; exact h1 c a h2
      · split at h
        · exact hseq parts (fun _ h => h) a b h
        · split at h
          · exact halt a b h
          · split at h
            · obtain ⟨-, h⟩ := h
              induction h with
              | refl => exact hr _
              | step _ h3 ih => exact ht _ _ _ ih (halt _ _ h3)
            · split at h
              · rcases h.2 with rfl | h
                · exact hr _
                · exact halt _ _ h
              · exact h.elim
  termination_by x => SizeOf.sizeOf x
  decreasing_by all_goals (simp; omega)

theorem M_le {t : List Int} {x : Nd} {a b : Nat} (h : M t x a b) : a ≤ b := M_ind (Q := fun a b => a ≤ b) (fun a => Nat.le_refl _) (fun _ _ _ => Nat.le_trans) x (fun _ _ _ => Nat.le_succ _) h
theorem M_len {t : List Int} {x : Nd} {a b : Nat} (h : M t x a b) : b ≤ t.length ∨ a = b := by
  refine M_ind (Q := fun a b => b ≤ t.length ∨ a = b) (fun a => .inr rfl) (fun a b c h1 h2 => ?_) x (fun c a h => .inl (List.getElem?_eq_some_iff.1 h).1) h
  rcases h2 with h2 | rfl
  · exact .inl h2
  · exact h1

/-- the place is in the set -/
def tr (bs : List Bool) (q : Nat) : Prop := bs[q]? = some true

theorem tr_lt {bs : List Bool} {q : Nat} (h : tr bs q) : q < bs.length := (List.getElem?_eq_some_iff.1 h).1

/-- to the beginning, or to the end -/
def Rel (back : Bool) (r : Nat → Nat → Prop) (p q : Nat) : Prop := match back with | true => r q p | false => r p q

/-- where one comes to from a set -/
def img (r : Nat → Nat → Prop) (bs out : List Bool) : Prop := out.length = bs.length ∧ ∀ q, tr out q ↔ ∃ p, tr bs p ∧ r p q

/-- a rule fits at a place -/
def FitsAt (r : Rl) (t : List Int) (p : Nat) : Prop := (∃ a, M t r.left a p ∧ (r.start = true → a = 0)) ∧ ∃ b, b ≤ t.length ∧ M t r.right p b
open Classical in
noncomputable def fitsB (r : Rl) (t : List Int) (p : Int) : Bool := decide (0 ≤ p ∧ p ≤ t.length ∧ FitsAt r t p.toNat)
open Classical in
theorem fitsB_iff {r : Rl} {t : List Int} {p : Int} : fitsB r t p = true ↔ 0 ≤ p ∧ p ≤ t.length ∧ FitsAt r t p.toNat := by unfold fitsB; exact decide_eq_true_iff
theorem fitsB_false {r : Rl} {t : List Int} {p : Int} (h : ¬ (0 ≤ p ∧ p ≤ t.length ∧ FitsAt r t p.toNat)) : fitsB r t p = false := by
  cases hb : fitsB r t p
  · rfl
  · exact absurd (fitsB_iff.1 hb) h
noncomputable def whichI (rs : List Rl) (t : List Int) (p : Int) : Int := match rs.findIdx? (fun r => fitsB r t p) with | some i => (i : Int) | none => -1
/-- whether a place is a boundary -/
noncomputable def bndB (rs : List Rl) (t : List Int) (p : Nat) : Bool :=
  decide (0 < t.length) && (p == 0 || p == t.length || match rs.find? (fun r => fitsB r t p) with | some r => r.brk | none => true)
noncomputable def bnds (rs : List Rl) (t : List Int) : List Bool := (List.range (t.length + 1)).map (bndB rs t)
end Go.Proofs.Ythmaokjhncokdaa

/-
  A region whose operations may come in more than one order, walked along a plan. No condition beyond what each theorem names.
-/
set_option linter.unusedVariables false
set_option linter.unusedSimpArgs false
namespace Go.Proofs.Ythmaokjhncokdaa
open Go.RowKit

/-- how a region that draws its order is gone through: readers first, then whichever writer comes up -/
inductive Plan where
  | done
  | reads (l : List Nat) (p : Plan)
  | one (i : Nat) (p : Plan)
  | last (i : Nat)
  | two (i : Nat) (p : Plan) (j : Nat) (q : Plan)
  | three (i : Nat) (p : Plan) (j : Nat) (q : Plan) (k : Nat) (r : Plan)

def dstIs (ops : Array Oper) (i : Nat) (d : Option Tmp) : Bool := match ops[i]? with | some o => o.dst == d | none => false

def dstOk (ops : Array Oper) (sz : Nat) (l : List Nat) (i : Nat) : Bool := match (ops[i]?).bind (·.dst) with | some d => decide (d < sz) && l.all (fun j => !dstIs ops j (some d)) | none => false

/-- the operation f, if there is such, waits for i -/
def waits (ops : Array Oper) (f i : Nat) : Bool := match ops[f]? with | some o => decide (i ≠ f) && o.after.any (fun e => Region.binds .any e && e.on == i) | none => true

def readsOk (ops : Array Oper) (sz f : Nat) : List Nat → Array Bool → Option (Array Bool)
  | [], listed => some listed
  | i :: l, listed =>
    if (Region.ready .any ops listed).contains i && Region.free .any ops listed i && dstOk ops sz l i && waits ops f i
    then readsOk ops sz f l (listed.setIfInBounds i true) else none

/-- f is the operation behind which nothing is held any more -/
def Plan.ok (ops : Array Oper) (sz f : Nat) : Nat → Plan → Array Bool → Bool
  | _, .done, listed => (Region.ready .any ops listed).isEmpty
  | n, .last i, listed => decide (1 ≤ n) && (Region.ready .any ops listed == [i]) && decide (i = f) && (Region.ready .any ops (listed.setIfInBounds i true)).isEmpty
  | n, .reads l p, listed => decide (l.length ≤ n) && match readsOk ops sz f l listed with | some listed' => p.ok ops sz f (n - l.length) listed' | none => false
  | n, .one i p, listed => decide (1 ≤ n) && (Region.ready .any ops listed == [i]) && p.ok ops sz f (n - 1) (listed.setIfInBounds i true)
  | n, .two i p j q, listed => decide (1 ≤ n) && (Region.ready .any ops listed == [i, j]) && p.ok ops sz f (n - 1) (listed.setIfInBounds i true) && q.ok ops sz f (n - 1) (listed.setIfInBounds j true)
  | n, .three i p j q k r, listed => decide (1 ≤ n) && (Region.ready .any ops listed == [i, j, k]) && p.ok ops sz f (n - 1) (listed.setIfInBounds i true) && q.ok ops sz f (n - 1) (listed.setIfInBounds j true) && r.ok ops sz f (n - 1) (listed.setIfInBounds k true)

/-- behind a writer: what is held is held still, and then K -/
def Then (S : World → Prop) (K : Act → World → Prop) (Q : Exit → Act → World → Prop) : Exit → Act → World → Prop
  | .normal, a, w => S w ∧ K a w
  | e, a, w => Q e a w

theorem Then.mk {S : World → Prop} {K : Act → World → Prop} {Q : Exit → Act → World → Prop} {a : Act} {w : World} (h1 : S w) (h2 : K a w) : Then S K Q .normal a w := ⟨h1, h2⟩

/-- whatever order is picked from here on; S holds behind every operation that is carried out, but behind f -/
def wpAnyF (P : Program) (ops : Array Oper) (Q : Exit → Act → World → Prop) (S : World → Prop) (f : Nat) : Nat → Array Bool → Act → World → Prop
  | 0, listed, a, w => Region.ready .any ops listed = [] ∧ Q .normal a w
  | fuel + 1, listed, a, w =>
    (Region.ready .any ops listed = [] → Q .normal a w) ∧
    ∀ i ∈ Region.ready .any ops listed, wpOp P ops Q i (fun a' w' => (i ≠ f → S w') ∧ wpAnyF P ops Q S f fuel (listed.setIfInBounds i true) a' w') a w

section
variable {P : Program} {ops : Array Oper} {S : World → Prop} {Q : Exit → Act → World → Prop} {f : Nat}
theorem wpAny_of_F : ∀ (fuel : Nat) (listed : Array Bool) (a : Act) (w : World), wpAnyF P ops Q S f fuel listed a w → wpAny P .any ops Q fuel listed a w
  | 0, _, _, _, h => h
  | fuel + 1, _, _, _, h => ⟨h.1, fun i hi => wpOp_mono (fun a' w' h' => wpAny_of_F fuel _ a' w' h'.2) (h.2 i hi)⟩

theorem wpAnyF_first {i : Nat} {oi : Oper} {v : Value} (hi : ops[i]? = some oi) (hsel : ∀ (j : Nat) (o : Oper) cs b, ops[j]? = some o → o.op ≠ .select cs b)
    (hQ : ∀ c a w, Q (.panic c) (a.put oi.dst v) w → Q (.panic c) a w) (hw : waits ops f i = true) :
    ∀ (fuel : Nat) (listed : Array Bool) (a : Act) (w : World),
      (∀ j oj, ops[j]? = some oj → j ≠ i → listed.getD j true = false → (∀ e ∈ oj.after, Region.binds .any e = true → e.on ≠ i) → oi.apart ops oj = true) →
      i ∈ Region.ready .any ops listed → YieldsIf P ops S oi v a → S w →
      wpAnyF P ops Q S f fuel (listed.setIfInBounds i true) (a.put oi.dst v) w → wpAnyF P ops Q S f (fuel + 1) listed a w := by
  intro fuel
  induction fuel with
  | zero =>
    intro listed a w _ hr hy hS H
    refine ⟨fun h => (by rw [h] at hr; cases hr), fun j hj => ?_⟩
    by_cases hji : j = i
    · subst hji; exact hy.wpOp hi hS ⟨fun _ => hS, H⟩
    · have := ready_mono hj hji
      rw [H.1] at this
      cases this
  | succ fuel ih =>
    intro listed a w hfree hr hy hS H
    refine ⟨fun h => (by rw [h] at hr; cases hr), fun j hj => ?_⟩
    by_cases hji : j = i
    · subst hji; exact hy.wpOp hi hS ⟨fun _ => hS, H⟩
    · have h1 := H.2 j (ready_mono hj hji)
      obtain ⟨hjun, oj, hoj, hall⟩ := mem_ready.1 hj
      have hnot : ∀ e ∈ oj.after, Region.binds .any e = true → e.on ≠ i := fun e he hb heq => by
        have h1 := hall e he hb
        have h0 := (mem_ready.1 hr).1
        rw [heq] at h1
        rcases Nat.lt_or_ge i listed.size with h' | h'
        · simp [h'] at h0 h1; rw [h0] at h1; cases h1
        · simp [Array.getElem?_eq_none h'] at h1
      have hjf : j ≠ f := by
        intro e
        subst e
        simp only [waits, hoj, Bool.and_eq_true] at hw
        have h3 := hw.2
        simp only [List.any_eq_true, Array.any_eq_true', Bool.and_eq_true, beq_iff_eq] at h3
        obtain ⟨e, he, hb, heq⟩ := h3
        exact hnot e he hb heq
      have h2 := wpOp_putIf hoj (hfree j oj hoj hji hjun hnot) (fun cs b => hsel i oi cs b hi) (fun cs b => hsel j oj cs b hoj) hQ hy h1
      have hfree' : ∀ k ok, ops[k]? = some ok → k ≠ i → (listed.setIfInBounds j true).getD k true = false →
          (∀ e ∈ ok.after, Region.binds .any e = true → e.on ≠ i) → oi.apart ops ok = true := fun k ok hk hki hun hno => by
        refine hfree k ok hk hki ?_ hno
        by_cases hjk : j = k
        · subst hjk; exact hjun
        · rw [getD_set_ne true hjk] at hun; exact hun
      refine wpOp_mono (fun a' w' h3 => ⟨fun _ => h3.2.1 hjf, ih (listed.setIfInBounds j true) a' w' hfree' (ready_mono hr (Ne.symm hji)) h3.1 (h3.2.1 hjf) ?_⟩) h2
      rw [Array.setIfInBounds_comm _ _ hji]
      exact h3.2.2

theorem wpAnyF_all {rs : List Nat} {fuel : Nat} {listed : Array Bool} {a : Act} {w : World} (hr : Region.ready .any ops listed = rs) (hne : rs ≠ [])
    (h : ∀ i ∈ rs, wpOp P ops Q i (fun a' w' => (i ≠ f → S w') ∧ wpAnyF P ops Q S f fuel (listed.setIfInBounds i true) a' w') a w) : wpAnyF P ops Q S f (fuel + 1) listed a w :=
  ⟨fun h0 => absurd (hr ▸ h0) hne, hr ▸ h⟩

theorem wpAnyF_done {listed : Array Bool} {a : Act} {w : World} (hr : Region.ready .any ops listed = []) (h : Q .normal a w) : ∀ fuel, wpAnyF P ops Q S f fuel listed a w
  | 0 => ⟨hr, h⟩
  | _ + 1 => ⟨fun _ => h, by rw [hr]; simp⟩
end

def Oper.readUpon (o : Oper) (a : Act) (w : World) (next : Act → Prop) : Result Next → Prop
  | .ok (.value v) w' => w' = w ∧ next (a.put o.dst v)
  | _ => False
def Oper.read (P : Program) (o : Oper) (a : Act) (w : World) (next : Act → Prop) : Prop := Oper.readUpon o a w next ((execOp a.eval o).run P w)
attribute [go_sem] Oper.read Oper.readUpon

def wpRead (P : Program) (ops : Array Oper) (w : World) (Q : Act → Prop) : List Oper → Act → Prop
  | [], a => Q a
  | o :: rest, a => if Region.wanted o (yielded ops a.tmps) then Oper.read P o a w (wpRead P ops w Q rest) else wpRead P ops w Q rest (a.put o.dst undef)

section
variable {P : Program} {ops : Array Oper} {S : World → Prop} {Q : Exit → Act → World → Prop}

theorem wpRead_nil {w : World} {R : Act → Prop} {a : Act} (h : R a) : wpRead P ops w R [] a := h
theorem wpRead_step {w : World} {R : Act → Prop} {a : Act} {o : Oper} {rest : List Oper}
    (h : ∀ K : Act → Prop, (∀ a, wpRead P ops w R rest a → K a) → if Region.wanted o (yielded ops a.tmps) then Oper.read P o a w K else K (a.put o.dst undef)) : wpRead P ops w R (o :: rest) a :=
  h _ (fun _ h => h)

def readOps (ops : Array Oper) (l : List Nat) : List Oper := l.filterMap (ops[·]?)

/-- the walk along a plan -/
def Plan.wp (P : Program) (ops : Array Oper) (S : World → Prop) (Q : Exit → Act → World → Prop) : Plan → Act → World → Prop
  | .done, a, w => Q .normal a w
  | .reads l p, a, w => ∃ A, (∀ W, S W → wpRead P ops W (fun a' => a' = A) (readOps ops l) a) ∧ p.wp P ops S Q A w
  | .one i p, a, w => ∀ o, ops[i]? = some o → wpList P ops (Then S (p.wp P ops S Q) Q) [o] a w
  | .last i, a, w => ∀ o, ops[i]? = some o → wpList P ops Q [o] a w
  | .two i p j q, a, w => (∀ o, ops[i]? = some o → wpList P ops (Then S (p.wp P ops S Q) Q) [o] a w) ∧ (∀ o, ops[j]? = some o → wpList P ops (Then S (q.wp P ops S Q) Q) [o] a w)
  | .three i p j q k r, a, w => (∀ o, ops[i]? = some o → wpList P ops (Then S (p.wp P ops S Q) Q) [o] a w) ∧ (∀ o, ops[j]? = some o → wpList P ops (Then S (q.wp P ops S Q) Q) [o] a w) ∧
      (∀ o, ops[k]? = some o → wpList P ops (Then S (r.wp P ops S Q) Q) [o] a w)

theorem wpOp_of_list {i : Nat} {K : Act → World → Prop} {a : Act} {w : World} (hi : i < ops.size) (h : ∀ o, ops[i]? = some o → wpList P ops (Then S K Q) [o] a w) : wpOp P ops Q i (fun a' w' => S w' ∧ K a' w') a w := by
  have ho : ops[i]? = some ops[i] := by simp [hi]
  have h := h _ ho
  unfold wpOp
  simp only [ho]
  unfold wpList at h
  split
  · rename_i hw
    rw [if_pos hw] at h
    rcases h with h | ⟨h1, h2⟩
    · left
      unfold Oper.wp at *
      generalize (execOp a.eval ops[i]).run P w = r at *
      cases r with
      | ok n w' => cases n <;> exact h
      | halt x w' => cases x <;> exact h
    · right
      obtain ⟨a0, w0, h2⟩ := h2
      exact ⟨h1, a0, w0, h2⟩
  · rename_i hw
    rw [if_neg hw] at h
    exact h

theorem wpOp_of_last {i : Nat} {a : Act} {w : World} (hi : i < ops.size) (h : ∀ o, ops[i]? = some o → wpList P ops Q [o] a w) : wpOp P ops Q i (fun a' w' => Q .normal a' w') a w := by
  have ho : ops[i]? = some ops[i] := by simp [hi]
  have h := h _ ho
  unfold wpOp
  simp only [ho]
  unfold wpList at h
  split
  · rename_i hw
    rw [if_pos hw] at h
    rcases h with h | ⟨h1, h2⟩
    · left
      unfold Oper.wp at *
      generalize (execOp a.eval ops[i]).run P w = r at *
      cases r with
      | ok n w' => cases n <;> exact h
      | halt x w' => cases x <;> exact h
    · right
      obtain ⟨a0, w0, h2⟩ := h2
      exact ⟨h1, a0, w0, h2⟩
  · rename_i hw
    rw [if_neg hw] at h
    exact h

theorem wpOp_size {i : Nat} {K : Act → World → Prop} {a : Act} {w : World} (h : wpOp P ops Q i K a w) : wpOp P ops Q i (fun a' w' => a'.tmps.size = a.tmps.size ∧ K a' w') a w := by
  have hp : ∀ (a : Act) (d : Option Tmp) (v : Value), (a.put d v).tmps.size = a.tmps.size := fun a d v => by cases d <;> simp [Act.put]
  unfold wpOp at *
  cases ho : ops[i]? with
  | none => simp only [ho] at *; exact ⟨trivial, h⟩
  | some o =>
    simp only [ho] at *
    split
    · rename_i hw
      rw [if_pos hw] at h
      rcases h with h | h
      · left
        unfold Oper.wp at *
        generalize (execOp a.eval o).run P w = r at *
        cases r with
        | ok n w' =>
          cases n <;> simp only [Oper.upon] at h ⊢
          case value u => exact ⟨hp _ _ _, h⟩
          case skip => exact ⟨hp _ _ _, h⟩
          case defer d => exact ⟨hp _ _ _, h⟩
          case enter f args =>
            refine Calls.mono h fun e w'' he => ?_
            cases e with
            | returned u => exact ⟨hp _ _ _, he⟩
            | panicked c => exact he
            | outgrown => exact he
          case row row args => exact Rows.mono h fun u w'' he => ⟨hp _ _ _, he⟩
        | halt x w' => cases x <;> exact h
      · exact .inr h
    · rename_i hw
      rw [if_neg hw] at h
      exact ⟨hp _ _ _, h⟩

theorem ready_lt {listed : Array Bool} {i : Nat} (h : i ∈ Region.ready .any ops listed) : i < ops.size := by
  unfold Region.ready at h
  simp only [List.mem_filter, List.mem_range] at h
  exact h.1

theorem put_slot {a : Act} {d e : Nat} {v : Value} (h : d ≠ e) : (a.put (some e) v).tmps[d]? = a.tmps[d]? := by
  simp [Act.put, Array.getElem?_setIfInBounds, Ne.symm h]

theorem put_same {a : Act} {d : Nat} {v : Value} (h : d < a.tmps.size) : (a.put (some d) v).tmps[d]? = some v := by
  simp [Act.put, Array.getElem?_setIfInBounds, h]

theorem put_size (a : Act) (d : Option Tmp) (v : Value) : (a.put d v).tmps.size = a.tmps.size := by
  cases d <;> simp [Act.put]

theorem wpRead_slot {W : World} {A : Act} {d : Nat} : ∀ (l : List Oper) (a : Act), wpRead P ops W (fun a' => a' = A) l a → (∀ o ∈ l, o.dst ≠ some d) → A.tmps[d]? = a.tmps[d]?
  | [], a, h, _ => by rw [show a = A from h]
  | o :: r, a, h, hd => by
    have ho : ∀ v, (a.put o.dst v).tmps[d]? = a.tmps[d]? := fun v => by
      cases e : o.dst with
      | none => simp [Act.put]
      | some x => exact put_slot (fun e' => hd o (by simp) (by rw [e, e']))
    unfold wpRead at h
    split at h
    · unfold Oper.read Oper.readUpon at h
      split at h
      · rw [wpRead_slot r _ h.2 (fun o' h' => hd o' (by simp [h'])), ho]
      · exact h.elim
    · rw [wpRead_slot r _ h (fun o' h' => hd o' (by simp [h'])), ho]

theorem readOps_mem {l : List Nat} {o : Oper} (h : o ∈ readOps ops l) : ∃ j ∈ l, ops[j]? = some o := by
  simp only [readOps, List.mem_filterMap] at h
  exact h

theorem reads_sound {f n : Nat} (hs : Region.noSelect ops = true) (hQ : ∀ c a w d v, Q (.panic c) (Act.put a (some d) v) w → Q (.panic c) a w) : ∀ (l : List Nat) (listed listed' : Array Bool) (a A : Act) (w : World), S w →
    readsOk ops a.tmps.size f l listed = some listed' → (∀ W, S W → wpRead P ops W (fun a' => a' = A) (readOps ops l) a) →
    (A.tmps.size = a.tmps.size → wpAnyF P ops Q S f n listed' A w) → wpAnyF P ops Q S f (n + l.length) listed a w
  | [], listed, listed', a, A, w, hS, hok, h, H => by
    simp only [readsOk, Option.some.injEq] at hok
    subst hok
    have : a = A := h w hS
    subst this
    exact H rfl
  | i :: l, listed, listed', a, A, w, hS, hok, h, H => by
    unfold readsOk at hok
    split at hok
    · rename_i hc
      simp only [Bool.and_eq_true] at hc
      obtain ⟨⟨⟨hr, hf⟩, hd⟩, hwt⟩ := hc
      have hr' : i ∈ Region.ready .any ops listed := by simpa using hr
      have hlt := ready_lt hr'
      have ho : ops[i]? = some ops[i] := by simp [hlt]
      have hro : readOps ops (i :: l) = ops[i] :: readOps ops l := by simp [readOps, hlt]
      simp only [dstOk, ho, Option.bind_some] at hd
      cases hdst : (ops[i]).dst with
      | none => simp [hdst] at hd
      | some d =>
        simp only [hdst, Bool.and_eq_true, decide_eq_true_eq, List.all_eq_true] at hd
        obtain ⟨hd1, hd2⟩ := hd
        have hdn : ∀ o ∈ readOps ops l, o.dst ≠ some d := by
          intro o hm e
          obtain ⟨j, hj, hoj⟩ := readOps_mem hm
          have := hd2 j hj
          simp [dstIs, hoj, e] at this
        rw [hro] at h
        by_cases hw : Region.wanted ops[i] (yielded ops a.tmps) = true
        · have key : ∀ W, S W → (execOp a.eval ops[i]).run P W = .ok (.value (A.tmps[d]?.getD undef)) W ∧ wpRead P ops W (fun a' => a' = A) (readOps ops l) (a.put (some d) (A.tmps[d]?.getD undef)) := by
            intro W hW
            have h1 := h W hW
            unfold wpRead at h1
            rw [if_pos hw] at h1
            unfold Oper.read Oper.readUpon at h1
            split at h1
            · rename_i v w' hrun
              obtain ⟨rfl, h2⟩ := h1
              rw [hdst] at h2
              have h3 := wpRead_slot _ _ h2 hdn
              rw [put_same hd1] at h3
              rw [h3]
              exact ⟨hrun, h2⟩
            · exact h1.elim
          have ih := reads_sound hs hQ l (listed.setIfInBounds i true) listed' (a.put (some d) (A.tmps[d]?.getD undef)) A w hS (by rw [put_size]; exact hok) (fun W hW => (key W hW).2) (fun e => H (by rw [e, put_size]))
          refine wpAnyF_first ho (Region.noSelect_spec hs) (fun c a w hq => by rw [hdst] at hq; exact hQ c a w d _ hq) hwt _ listed a w (Region.free_spec ho hf) hr' (v := A.tmps[d]?.getD undef) (.inl ⟨hw, fun W hW => (key W hW).1⟩) hS ?_
          rw [hdst]
          exact ih
        · have hw' : Region.wanted ops[i] (yielded ops a.tmps) = false := by simpa using hw
          have ih := reads_sound hs hQ l (listed.setIfInBounds i true) listed' (a.put (some d) undef) A w hS (by rw [put_size]; exact hok) (fun W hW => by
            have h1 := h W hW
            unfold wpRead at h1
            rw [if_neg hw, hdst] at h1
            exact h1) (fun e => H (by rw [e, put_size]))
          refine wpAnyF_first ho (Region.noSelect_spec hs) (fun c a w hq => by rw [hdst] at hq; exact hQ c a w d _ hq) hwt _ listed a w (Region.free_spec ho hf) hr' (v := undef) (.inr ⟨hw', rfl⟩) hS ?_
          rw [hdst]
          exact ih
    · exact absurd hok (by simp)

theorem ready_one {listed : Array Bool} {i : Nat} (h : (Region.ready .any ops listed == [i]) = true) : Region.ready .any ops listed = [i] := by simpa using h

theorem plan_sound (hs : Region.noSelect ops = true) (hQ : ∀ c a w d v, Q (.panic c) (Act.put a (some d) v) w → Q (.panic c) a w) (sz f : Nat) : ∀ (p : Plan) (n : Nat) (listed : Array Bool) (a : Act) (w : World), S w → a.tmps.size = sz →
    p.ok ops sz f n listed = true → p.wp P ops S Q a w → wpAnyF P ops Q S f n listed a w
  | .done, n, listed, a, w, hS, hsz, hok, h => by
    unfold Plan.ok at hok
    exact wpAnyF_done (by simpa using hok) h n
  | .reads l p, n, listed, a, w, hS, hsz, hok, h => by
    unfold Plan.ok at hok
    simp only [Bool.and_eq_true, decide_eq_true_eq] at hok
    obtain ⟨hn, hok⟩ := hok
    obtain ⟨A, h1, h2⟩ := h
    split at hok
    · rename_i listed' hl
      obtain ⟨m, rfl⟩ : ∃ m, n = m + l.length := ⟨n - l.length, by omega⟩
      rw [Nat.add_sub_cancel] at hok
      subst hsz
      exact reads_sound hs hQ l listed listed' a A w hS hl h1 (fun e => plan_sound hs hQ _ f p m listed' A w hS e hok h2)
    · exact absurd hok (by simp)
  | .one i p, n, listed, a, w, hS, hsz, hok, h => by
    unfold Plan.ok at hok
    simp only [Bool.and_eq_true, decide_eq_true_eq] at hok
    obtain ⟨⟨hn, hr⟩, hok⟩ := hok
    obtain ⟨m, rfl⟩ : ∃ m, n = m + 1 := ⟨n - 1, by omega⟩
    have hr' := ready_one hr
    refine wpAnyF_all hr' (by simp) fun k hk => ?_
    obtain rfl : k = i := by simpa using hk
    exact wpOp_mono (fun a' w' h' => ⟨fun _ => h'.2.1, plan_sound hs hQ sz f p m _ a' w' h'.2.1 (h'.1.trans hsz) hok h'.2.2⟩) (wpOp_size (wpOp_of_list (ready_lt (listed := listed) (by rw [hr']; simp)) h))
  | .last i, n, listed, a, w, hS, hsz, hok, h => by
    unfold Plan.ok at hok
    simp only [Bool.and_eq_true, decide_eq_true_eq] at hok
    obtain ⟨⟨⟨hn, hr⟩, rfl⟩, he⟩ := hok
    obtain ⟨m, rfl⟩ : ∃ m, n = m + 1 := ⟨n - 1, by omega⟩
    have hr' := ready_one hr
    refine wpAnyF_all hr' (by simp) fun k hk => ?_
    obtain rfl : k = i := by simpa using hk
    exact wpOp_mono (fun a' w' h' => ⟨fun e => absurd rfl e, wpAnyF_done (by simpa using he) h' m⟩) (wpOp_of_last (ready_lt (listed := listed) (by rw [hr']; simp)) h)
  | .two i p j q, n, listed, a, w, hS, hsz, hok, h => by
    unfold Plan.ok at hok
    simp only [Bool.and_eq_true, decide_eq_true_eq] at hok
    obtain ⟨⟨⟨hn, hr⟩, hok⟩, hok2⟩ := hok
    obtain ⟨m, rfl⟩ : ∃ m, n = m + 1 := ⟨n - 1, by omega⟩
    have hr' : Region.ready .any ops listed = [i, j] := by simpa using hr
    refine wpAnyF_all hr' (by simp) fun k hk => ?_
    have hk' : k = i ∨ k = j := by simpa using hk
    rcases hk' with rfl | rfl
    · exact wpOp_mono (fun a' w' h' => ⟨fun _ => h'.2.1, plan_sound hs hQ sz f p m _ a' w' h'.2.1 (h'.1.trans hsz) hok h'.2.2⟩) (wpOp_size (wpOp_of_list (ready_lt (listed := listed) (by rw [hr']; simp)) h.1))
    · exact wpOp_mono (fun a' w' h' => ⟨fun _ => h'.2.1, plan_sound hs hQ sz f q m _ a' w' h'.2.1 (h'.1.trans hsz) hok2 h'.2.2⟩) (wpOp_size (wpOp_of_list (ready_lt (listed := listed) (by rw [hr']; simp)) h.2))
  | .three i p j q k r, n, listed, a, w, hS, hsz, hok, h => by
    unfold Plan.ok at hok
    simp only [Bool.and_eq_true, decide_eq_true_eq] at hok
    obtain ⟨⟨⟨⟨hn, hr⟩, hok⟩, hok2⟩, hok3⟩ := hok
    obtain ⟨m, rfl⟩ : ∃ m, n = m + 1 := ⟨n - 1, by omega⟩
    have hr' : Region.ready .any ops listed = [i, j, k] := by simpa using hr
    refine wpAnyF_all hr' (by simp) fun x hx => ?_
    have hx' : x = i ∨ x = j ∨ x = k := by simpa using hx
    rcases hx' with rfl | rfl | rfl
    · exact wpOp_mono (fun a' w' h' => ⟨fun _ => h'.2.1, plan_sound hs hQ sz f p m _ a' w' h'.2.1 (h'.1.trans hsz) hok h'.2.2⟩) (wpOp_size (wpOp_of_list (ready_lt (listed := listed) (by rw [hr']; simp)) h.1))
    · exact wpOp_mono (fun a' w' h' => ⟨fun _ => h'.2.1, plan_sound hs hQ sz f q m _ a' w' h'.2.1 (h'.1.trans hsz) hok2 h'.2.2⟩) (wpOp_size (wpOp_of_list (ready_lt (listed := listed) (by rw [hr']; simp)) h.2.1))
    · exact wpOp_mono (fun a' w' h' => ⟨fun _ => h'.2.1, plan_sound hs hQ sz f r m _ a' w' h'.2.1 (h'.1.trans hsz) hok3 h'.2.2⟩) (wpOp_size (wpOp_of_list (ready_lt (listed := listed) (by rw [hr']; simp)) h.2.2))

/-- A REGION THAT DRAWS ITS ORDER, ALONG A PLAN: what S holds is held by every writer; the readers look at no more than that. -/
theorem wp_region_fin (f : Nat) {id : Nat} {l : List Oper} {a : Act} {w : World} (S : World → Prop) (p : Plan) (sz : Nat) (hm : P.follows .mixedOrders = true)
    (hok : (Region.noSelect l.toArray && p.ok l.toArray sz f l.length (Array.replicate l.length false)) = true) (hsz : a.tmps.size = sz) (hQ : ∀ c a w d v, Q (.panic c) (Act.put a (some d) v) w → Q (.panic c) a w)
    (hS : S w.drew) (h : p.wp P l.toArray S Q a w.drew) : (Code.region id l.toArray true).wp P Q a w := by
  simp only [Bool.and_eq_true] at hok
  refine wp_region_any hm (wpAny_of_F (S := S) (f := f) _ _ _ _ ?_)
  have := plan_sound hok.1 hQ sz f p l.length (Array.replicate l.length false) a w.drew hS hsz hok.2 h
  simpa using this

theorem wp_region_plan {id : Nat} {l : List Oper} {a : Act} {w : World} (S : World → Prop) (p : Plan) (sz : Nat) (hm : P.follows .mixedOrders = true)
    (hok : (Region.noSelect l.toArray && p.ok l.toArray sz l.length l.length (Array.replicate l.length false)) = true) (hsz : a.tmps.size = sz) (hQ : ∀ c a w d v, Q (.panic c) (Act.put a (some d) v) w → Q (.panic c) a w)
    (hS : S w.drew) (h : p.wp P l.toArray S Q a w.drew) : (Code.region id l.toArray true).wp P Q a w := wp_region_fin l.length S p sz hm hok hsz hQ hS h

theorem plan_done {a : Act} {w : World} (h : Q .normal a w) : Plan.wp P ops S Q .done a w := h
theorem plan_last {i : Nat} {a : Act} {w : World} {o : Oper} (ho : ops[i]? = some o) (h : wpList P ops Q [o] a w) : Plan.wp P ops S Q (.last i) a w := fun o' ho' => by
  rw [ho] at ho'; cases ho'; exact h
theorem plan_reads {l : List Nat} {p : Plan} {a A : Act} {w : World} (h1 : ∀ W, S W → wpRead P ops W (fun a' => a' = A) (readOps ops l) a) (h2 : p.wp P ops S Q A w) : Plan.wp P ops S Q (.reads l p) a w := ⟨A, h1, h2⟩
theorem plan_one {i : Nat} {p : Plan} {a : Act} {w : World} {o : Oper} (ho : ops[i]? = some o) (h : wpList P ops (Then S (p.wp P ops S Q) Q) [o] a w) : Plan.wp P ops S Q (.one i p) a w := fun o' ho' => by
  rw [ho] at ho'; cases ho'; exact h
theorem plan_two {i j : Nat} {p q : Plan} {a : Act} {w : World} {o u : Oper} (ho : ops[i]? = some o) (hu : ops[j]? = some u) (h : wpList P ops (Then S (p.wp P ops S Q) Q) [o] a w) (k : wpList P ops (Then S (q.wp P ops S Q) Q) [u] a w) :
    Plan.wp P ops S Q (.two i p j q) a w := ⟨fun o' ho' => by rw [ho] at ho'; cases ho'; exact h, fun o' ho' => by rw [hu] at ho'; cases ho'; exact k⟩
theorem abs_wp {c : Code} {a : Act} {w : World} (h : ∀ W, W = w → c.wp P Q a W) : c.wp P Q a w := h w rfl
theorem abs_list {l : List Oper} {a : Act} {w : World} (h : ∀ W, W = w → wpList P ops Q l a W) : wpList P ops Q l a w := h w rfl
end
end Go.Proofs.Ythmaokjhncokdaa

/-
  A law's row out of a walk that ends 'true' and leaves all that was there as it was. Plain theorems over any program; no condition.
-/
set_option linter.unusedVariables false
set_option linter.unusedSimpArgs false
namespace Go.Proofs.Ythmaokjhncokdaa
open Go.ChangeShapes Go.WideShapes Go.ChangeAt Go.RowKit
section
variable {H : Type} {enc : TypeId × Value → H} {P : Program}

/-- a law's end: the answer; what was there is as it was -/
def Says (b : Bool) (w : World) (e : Ending) (w' : World) : Prop := e = .returned (.bool b) ∧ Below w.heap.size w w'

theorem trodAll_below (hl : laidOutB P = true) {W W' : World} (hb : Below W.heap.size W W') (sp : Nat → Bool) : ∀ (ts : List TypeId) (vs : List Value) (ds : List (DataW H)) (ps : List MemPlace), (∀ t ∈ ts, P.readableRec t = true ∧ t < P.types.size) →
    DataW.TrodAll enc P W 0 (fun _ => true) true ts vs ds ps → (∀ p ∈ ps, p.block < W.heap.size) → (∀ p ∈ ps, sp p.block = true) → DataW.TrodAll enc P W' 0 sp true ts vs ds ps
  | [], vs, ds, ps, _, h, _, _ => by
    obtain ⟨rfl, rfl, rfl⟩ := trodAll_nil h
    exact trodAll_mk0
  | t :: ts, vs, ds, ps, hp, h, hlt, hsp => by
    obtain ⟨v, vs, d, ds, p, q, rfl, rfl, rfl, h1, h2⟩ := trodAll_cons h
    obtain ⟨hr, hrow⟩ := hp t (by simp)
    exact trodAll_cons_mk (WideElems.Trod_stays hl hr hrow h1 (fun x hx => hb.same (hlt x (by simp [hx]))) (fun x hx => hsp x (by simp [hx])))
      (trodAll_below hl hb sp ts vs ds q (fun t' h' => hp t' (by simp [h'])) h2 (fun x hx => hlt x (by simp [hx])) (fun x hx => hsp x (by simp [hx])))

theorem trodAll_length {W : World} {base : Nat} {spare : Nat → Bool} {held : Bool} : ∀ (ts : List TypeId) (vs : List Value) (ds : List (DataW H)) (ps : List MemPlace), DataW.TrodAll enc P W base spare held ts vs ds ps → ds.length = ts.length
  | [], vs, ds, ps, h => by
    obtain ⟨rfl, rfl, rfl⟩ := trodAll_nil h
    rfl
  | t :: ts, vs, ds, ps, h => by
    obtain ⟨v, vs, d, ds, p, q, rfl, rfl, rfl, h1, h2⟩ := trodAll_cons h
    simp [trodAll_length ts vs ds q h2]

theorem law_post {f : Func} {s : ChangeSpec} {t : TypeId} (hl : laidOutB P = true) (hp : ∀ t ∈ f.params.toList, P.readableRec t = true ∧ t < P.types.size) (hr : f.resultTypes = #[t]) (ht : P.underlying t = some .bool) (hvars : s.vars = [])
    (hs : ∀ ds : List (DataW H), ds.length = f.params.size → (s.fn H (ds ++ [])).results = [.lit (.bool true)] ∧ (s.fn H (ds ++ [])).args = ds ∧ (s.fn H (ds ++ [])).vars = [])
    {W W' : World} {args : Array Value} {ds gs : List (DataW H)} {before : List MemPlace} (hW : DataW.Whole enc P f.params.toList s.vars false W args.toList ds gs before) (hb : Below W.heap.size W W') :
    s.post enc P f false true false false W args (.bool true) W' := by
  have hlt : ∀ p ∈ before, p.block < W.heap.size := fun p hp => hW.lt p hp
  have hW' := hW
  obtain ⟨p, q, hA, hV, rfl, hfz, hnd⟩ := hW
  rw [hvars] at hV
  obtain ⟨rfl, rfl⟩ := trodVars_none hV
  simp only [List.append_nil] at hW' hlt
  have hlen : ds.length = f.params.size := by rw [trodAll_length _ _ _ _ hA]; simp
  obtain ⟨s1, s2, s3⟩ := hs ds hlen
  have hres : ∀ (b : Nat) (sp : Nat → Bool) (hd : Bool), DataW.TrodAll enc P W' b sp hd f.resultTypes.toList ((Value.bool true).resultList f.resultTypes.size) (s.fn H (ds ++ [])).results [] := by
    intro b sp hd
    rw [s1, hr]
    exact trodAll_cons_mk (shut_bool ht _) trodAll_mk0
  have hargs : ∀ sp : Nat → Bool, (∀ x ∈ p, sp x.block = true) → DataW.TrodAll enc P W' 0 sp true f.params.toList args.toList (s.fn H (ds ++ [])).args p := by
    intro sp hsp
    rw [s2]
    exact trodAll_below hl hb sp _ _ _ _ hp hA hlt hsp
  have hvs : ∀ sp : Nat → Bool, DataW.TrodVars enc P W' sp s.vars (s.fn H (ds ++ [])).vars [] := by
    intro sp
    rw [s3, hvars]
    rfl
  have hold : ∀ x ∈ p, (fun b => decide (b < W.heap.size)) x.block = true := fun x hx => by simpa using hlt x hx
  refine ⟨ds, [], p, [], p, [], hW', hres _ _ _, hargs _ hold, hvs _, World.keptBut_mono (fun x hx => ⟨hx, ?_⟩) (hb.frame (· ∈ p)), fun h => by cases h⟩
  simpa using hx
end
end Go.Proofs.Ythmaokjhncokdaa

/-
  Readers of a region that draws its order, one by one, without the walk's looking into what comes behind. No condition.
-/
set_option linter.unusedVariables false
set_option linter.unusedSimpArgs false
namespace Go.Proofs.Ythmaokjhncokdaa
open Go.RowKit

/-- wpRead, shut -/
structure WR (P : Program) (ops : Array Oper) (w : World) (Q : Act → Prop) (l : List Oper) (a : Act) : Prop where
  go : wpRead P ops w Q l a

section
variable {P : Program} {ops : Array Oper} {S : World → Prop} {Q : Exit → Act → World → Prop}
theorem WR_nil {w : World} {R : Act → Prop} {a : Act} (h : R a) : WR P ops w R [] a := ⟨h⟩
theorem WR_step {w : World} {R : Act → Prop} {a : Act} {o : Oper} {rest : List Oper}
    (h : ∀ K : Act → Prop, Hid (∀ a, WR P ops w R rest a → K a) → if Region.wanted o (yielded ops a.tmps) then Oper.read P o a w K else K (a.put o.dst undef)) : WR P ops w R (o :: rest) a :=
  ⟨wpRead_step fun K hK => h K (Lib.hid fun a h => hK a h.go)⟩
theorem plan_readsW {l : List Nat} {p : Plan} {a A : Act} {w : World} (h1 : ∀ W, S W → WR P ops W (fun a' => a' = A) (readOps ops l) a) (h2 : p.wp P ops S Q A w) : Plan.wp P ops S Q (.reads l p) a w := ⟨A, fun W h => (h1 W h).go, h2⟩
end
end Go.Proofs.Ythmaokjhncokdaa

/-
  Two facts of the program that every row asks for. No condition.
-/
set_option linter.unusedVariables false
namespace Go.Proofs.Ythmaokjhncokdaa
theorem own : ownKnob Try.prog.godebug = none := by kernel_rfl
theorem laidOut : laidOutB Try.prog = true := by kernel_rfl
end Go.Proofs.Ythmaokjhncokdaa

