/-
  What a call keeps, and laws on stores, copies and clears of whole rows. No condition beyond what each theorem names.
-/
import Derived.Test.YtmooflmhbpckjaaChecked
import Derived.WalkKit
import Derived.WalkLawsBesides
import Derived.WalkSpells
import Derived.WalkSmall
import Derived.Deep.QuietTactic
import Derived.BigQuiet
import Derived.Lib.Hide
import Derived.Laws.AppendOwnNone
import Derived.Laws.CopyOwn
import Derived.StillTailTactics
import Derived.Deep.AppendLies
set_option linter.unusedVariables false
set_option linter.unusedSimpArgs false
namespace Go.Proofs.Ytmooflmhbpckjaa
open Go.RowKit

/-- a call of function F enters its body -/
def Enters (P : Program) (F : FuncId) : Prop := ∀ (args : Array Value) (w : World), (callFunc F args).run P w = .ok (.enter F args) w

/-- blocks outside F are as they were -/
structure Fr (F : Nat → Prop) (w w' : World) : Prop where
  os : w'.os = w.os
  tape : w'.tape = w.tape
  output : w'.output = w.output
  size : w.heap.size ≤ w'.heap.size
  block : ∀ k, k < w.heap.size → ¬ F k → w'.heap[k]? = w.heap[k]?

theorem Fr.refl (F : Nat → Prop) (w : World) : Fr F w w := ⟨rfl, rfl, rfl, Nat.le_refl _, fun _ _ _ => rfl⟩
theorem Fr.mono {F G : Nat → Prop} {w w' : World} (h : Fr F w w') (hg : ∀ k, k < w.heap.size → F k → G k) : Fr G w w' := ⟨h.os, h.tape, h.output, h.size, fun k hk hn => h.block k hk fun hf => hn (hg k hk hf)⟩
theorem Fr.trans {F G : Nat → Prop} {a b c : World} (h : Fr F a b) (k : Fr G b c) (hg : ∀ i, i < a.heap.size → G i → F i) : Fr F a c :=
  ⟨k.os.trans h.os, k.tape.trans h.tape, k.output.trans h.output, Nat.le_trans h.size k.size, fun i hi hn => (k.block i (Nat.lt_of_lt_of_le hi h.size) fun hf => hn (hg i hi hf)).trans (h.block i hi hn)⟩
theorem Fr.of_below {w w' : World} (h : Below w.heap.size w w') (F : Nat → Prop) : Fr F w w' := ⟨h.os, h.tape, h.output, h.size, fun k hk _ => h.block k hk⟩
theorem Fr.of_belowB {B : Nat} {w w' : World} (h : Below B w w') : Fr (fun k => B ≤ k) w w' := ⟨h.os, h.tape, h.output, h.size, fun k _ hn => h.block k (by omega)⟩
theorem Fr.below {F : Nat → Prop} {B : Nat} {w w' : World} (h : Fr F w w') (hB : B ≤ w.heap.size) (hF : ∀ k, F k → B ≤ k) : Below B w w' :=
  ⟨h.os, h.tape, h.output, h.size, fun k hk => h.block k (by omega) fun hf => by have := hF k hf; omega⟩
theorem Fr.drewN {F : Nat → Prop} {a w : World} (h : Fr F a w) (n : Nat) : Fr F a (w.drewN n) := ⟨h.os, h.tape, h.output, h.size, h.block⟩
theorem Fr.cell {F : Nat → Prop} {w w' : World} (h : Fr F w w') {p : Addr} {v : Value} (hp : ¬ F p.block) (hv : w.cell? p = some v) : w'.cell? p = some v := by
  rw [World.cell?_of_block (h.block p.block (World.block_lt_of_cell? w _ hv) hp)]; exact hv
theorem Fr.alloc {F : Nat → Prop} {a w : World} (h : Fr F a w) (o : Obj) : Fr F a (w.alloc o) :=
  h.trans (Fr.of_below ((Below.refl _ _).alloc (Nat.le_refl _) _) (fun _ => False)) (fun _ _ hf => hf.elim)
theorem Fr.grown {F : Nat → Prop} {w w' : World} {row : Option Nat} (hg : w.grownBy w' row) (hF : ∀ k, row = some k → F k) : Fr F w w' :=
  ⟨hg.os, hg.tape, hg.output, hg.size, fun k hk hn => hg.block k hk fun e => hn (hF k e.symm)⟩
theorem Fr.setCell {F : Nat → Prop} (w : World) {p : Addr} (hp : F p.block) (u : Value) : Fr F w (w.setCell p u) :=
  ⟨rfl, rfl, rfl, by simp [World.setCell], fun k _ hn => Below.heap_setCell _ _ _ _ (fun e => hn (e ▸ hp))⟩
theorem Fr.setRow {F : Nat → Prop} (w : World) {g : Nat} (hp : F g) (cs : Array Value) : Fr F w (w.setRow g cs) :=
  ⟨rfl, rfl, rfl, by simp [World.setRow], fun k _ hn => setRow_other w g k cs (fun e => hn (e ▸ hp))⟩

theorem abs_world {P : Program} {f : FuncId} {args : Array Value} {w : World} {R : Ending → World → Prop} (h : ∀ W, W = w → Calls P f args W R) : Calls P f args w R := h w rfl
theorem ret_int {k : IntKind} {a b : Int} (h : a = b) : Ending.returned (.int k a) = .returned (.int k b) := by rw [h]
theorem ret_bool {a b : Bool} (h : a = b) : Ending.returned (.bool a) = .returned (.bool b) := by rw [h]

section
variable {P : Program}

theorem run_storeAt_row (w : World) (t : TypeId) (g o : Nat) (v : Value) (cur : Array Value) (e : TypeId) (hsz : (P.info? t).map (·.size) = some v.cells.size)
    (hg : w.heap[g]? = some (.cells cur e (0, 0))) (hfit : o + v.cells.size ≤ cur.size) (h1 : ∀ c ∈ v.cells.toList, c.oneCell' = true) :
    (Instr.storeAt t (.pointer (some ⟨g, o, none⟩)) v).run P w = .ok () (w.setRow g (splice cur.toList o v.cells.toList).toArray) := by
  have hst := run_storeCells_at P g o e v.cells.toList 0 cur w hg (by simpa using hfit) h1
  cases hq : P.info? t with
  | none => simp [hq] at hsz
  | some i =>
    have hi : i.size = v.cells.size := by simpa [hq] using hsz
    simp [Instr.storeAt, storeVar, sizeOf, typeInfo, hq, hi, hst, splice, Instr.sureAddr]

theorem wpList_store_row {w : World} {ops : Array Oper} {rest : List Oper} {o : Oper} {a : Act} {Q : Exit → Act → World → Prop} (hgd : o.guard = none) (x y : Operand) (t : TypeId)
    (ho : o.op = .store t x y) (g off : Nat) (hx : a.eval x = .pointer (some ⟨g, off, none⟩)) (v : Value) (hy : a.eval y = v) (cur : Array Value) (e : TypeId) (hsz : (P.info? t).map (·.size) = some v.cells.size)
    (hg : w.heap[g]? = some (.cells cur e (0, 0))) (hfit : off + v.cells.size ≤ cur.size) (h1 : ∀ c ∈ v.cells.toList, c.oneCell' = true)
    (h : wpList P ops Q rest (a.put o.dst undef) (w.setRow g (splice cur.toList off v.cells.toList).toArray)) : wpList P ops Q (o :: rest) a w := by
  refine wpList_plain hgd fun K hK => ?_
  have hrun := run_storeAt_row (P := P) w t g off v cur e hsz hg hfit h1
  unfold Oper.wp
  simp [execOp, ho, hx, hy, hrun]
  exact hK _ _ h

/-- copy within slices of whatever element size; an empty copy asks nothing of the addresses -/
theorem run_copy_rows (w : World) (dT sT ty elem : TypeId) (size : Nat) (dp sp : Option Addr) (dLen dCap sLen sCap : Nat) (g o : Nat) (cur : Array Value) (t : TypeId) (cs : List Value) (m : Nat)
    (hu : P.underlying dT = some (.slice elem)) (hs : (P.info? elem).map (·.size) = some size)
    (hg : w.heap[g]? = some (.cells cur t (0, 0))) (hm : m = Nat.min sLen dLen) (hn : cs.length = m * size)
    (hpos : 0 < cs.length → dp = some ⟨g, o, none⟩ ∧ ∃ a, sp = some a ∧ ∀ j v, cs[j]? = some v → w.cell? (a.add j) = some v) (hnil : sp = none → sLen = 0 ∧ sCap = 0)
    (hfit : o + cs.length ≤ cur.size) (h1 : ∀ v ∈ cs, v.oneCell' = true) :
    (Builtin.copy_ #[dT, sT] ty #[.slice dp dLen dCap, .slice sp sLen sCap]).run P w =
      .ok (goInt m) (w.setRow g (splice cur.toList o cs).toArray) := by
  cases hq : P.info? elem with
  | none => simp [hq] at hs
  | some i =>
    have hi : i.size = size := by simpa [hq] using hs
    by_cases h0 : cs.length = 0
    · have hcs : cs = [] := List.eq_nil_of_length_eq_zero h0
      subst hcs
      have hsp : (splice cur.toList o []).toArray = cur := by simp [splice]
      rw [hsp, setRow_self w g cur t (0, 0) hg]
      have hms : m * size = 0 := by simpa using hn.symm
      subst hm
      cases sp with
      | none =>
        obtain ⟨rfl, rfl⟩ := hnil rfl
        cases dp <;> simp [Builtin.copy_, run_underlying hu, Builtin.lenOf, Builtin.firstCells, sizeOf, typeInfo, hq, hi, storeCells, Nat.min_def]
      | some a =>
        have hl := run_loadCells_list (P := P) w a [] (by simp)
        simp only [List.length_nil] at hl
        cases dp <;> simp [Builtin.copy_, run_underlying hu, Builtin.lenOf, Builtin.firstCells, sizeOf, typeInfo, hq, hi, storeCells, hms, hl]
    · obtain ⟨rfl, a, rfl, hsrc⟩ := hpos (by omega)
      have hl := run_loadCells_list (P := P) w a cs hsrc
      have hst := run_storeCells_at P g o t cs 0 cur w hg (by simpa using hfit) h1
      rw [hn] at hl
      subst hm
      simp [Builtin.copy_, run_underlying hu, Builtin.lenOf, Builtin.firstCells, sizeOf, typeInfo, hq, hi, hl, hst, splice]

theorem run_clear_row (w : World) (t ty elem : TypeId) (hu : P.underlying t = some (.slice elem)) (g o n cap : Nat) (h0 : 0 < n) (i : TypeInfo) (z : Value) (hi : P.info? elem = some i) (hz : i.zero = some z)
    (cur : Array Value) (e : TypeId) (hg : w.heap[g]? = some (.cells cur e (0, 0))) (hfit : o + n * z.cells.size ≤ cur.size) (h1 : ∀ c ∈ z.cells.toList, c.oneCell' = true) :
    (Builtin.clear_ #[t] ty #[.slice (some ⟨g, o, none⟩) n cap]).run P w = .ok (.tuple #[]) (w.setRow g (splice cur.toList o (Builtin.zeroCells z.cells n).toList).toArray) := by
  have hst := run_storeCells_at P g o e (Builtin.zeroCells z.cells n).toList 0 cur w hg (by simpa [size_zeroCells] using hfit) (by
    intro c hc
    simp only [Builtin.zeroCells, Array.toList_map, List.mem_map] at hc
    obtain ⟨k, hk, rfl⟩ := hc
    apply h1
    simp only [Array.toList_range, List.mem_range] at hk
    have hs : 0 < z.cells.size := by
      rcases Nat.eq_zero_or_pos z.cells.size with h | h
      · rw [h] at hk; omega
      · exact h
    have hlt : k % z.cells.size < z.cells.size := Nat.mod_lt _ hs
    rw [getElem!_pos z.cells _ hlt]
    exact Array.getElem_mem_toList hlt)
  cases n with
  | zero => omega
  | succ n =>
    simp [Builtin.clear_, run_underlying hu, zeroValue, typeInfo, hi, hz, hst, splice]

theorem ret_cell2 {fn : Func} {p u : Tmp} {ty : TypeId} (h : fn.results = #[.cell p ty, .tmp u]) (tmps : Array Value) (w : World) (b : Nat) (cs : Array Value) (t : TypeId) (fr : Nat × Nat) (fs : Array Field)
    (hp : tmps.getD p undef = .pointer (some ⟨b, 0, none⟩)) (hg : w.heap[b]? = some (.cells cs t fr)) (hu : P.underlying ty = some (.struct fs)) (hi : (P.info? ty).map (·.size) = some cs.size) :
    (results fn tmps).run P w = .ok (.tuple #[.agg cs, tmps.getD u undef]) w := by
  rw [results_cell_tmp h, hp]
  have h1 := run_loadVar_row (P := P) w b t ty cs fr _ hg hu rfl hi
  simp [asAddr, h1]
end
end Go.Proofs.Ytmooflmhbpckjaa
