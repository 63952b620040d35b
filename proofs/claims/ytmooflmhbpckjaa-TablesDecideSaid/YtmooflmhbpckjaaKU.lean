/-
  Variables of several cells. No condition beyond what each theorem names.
-/
import Derived.Test.YtmooflmhbpckjaaKQ
set_option linter.unusedVariables false
set_option linter.unusedSimpArgs false
namespace Go.Proofs.Ytmooflmhbpckjaa
open Go.RowKit

theorem cells8 {w : World} {B : Nat} {a b c d e f g h : Value} {T : TypeId} (hb : w.heap[B]? = some (.cells #[a, b, c, d, e, f, g, h] T)) : w.cell? ⟨B, 0, none⟩ = some a ∧ w.cell? ⟨B, 1, none⟩ = some b ∧ w.cell? ⟨B, 2, none⟩ = some c ∧ w.cell? ⟨B, 3, none⟩ = some d ∧
    w.cell? ⟨B, 4, none⟩ = some e ∧ w.cell? ⟨B, 5, none⟩ = some f ∧ w.cell? ⟨B, 6, none⟩ = some g ∧ w.cell? ⟨B, 7, none⟩ = some h := by
  refine ⟨?_, ?_, ?_, ?_, ?_, ?_, ?_, ?_⟩ <;> simp [World.cell?, hb]

theorem cells3 {w : World} {B : Nat} {a b c : Value} {T : TypeId} (hb : w.heap[B]? = some (.cells #[a, b, c] T)) : w.cell? ⟨B, 0, none⟩ = some a ∧ w.cell? ⟨B, 1, none⟩ = some b ∧ w.cell? ⟨B, 2, none⟩ = some c := by
  refine ⟨?_, ?_, ?_⟩ <;> simp [World.cell?, hb]

theorem at_lt {w : World} {B : Nat} {o : Obj} (h : w.heap[B]? = some o) : B < w.heap.size := (Array.getElem?_eq_some_iff.1 h).1

theorem fz_at {w : World} {B : Nat} {cur : Array Value} {T : TypeId} (hb : w.heap[B]? = some (.cells cur T)) (i : Nat) : w.frozen? ⟨B, i, none⟩ = false := by simp [World.frozen?, hb]

theorem blk_set {w : World} {B : Nat} {cur : Array Value} {T : TypeId} (hb : w.heap[B]? = some (.cells cur T)) (i : Nat) (u : Value) : (w.setCell ⟨B, i, none⟩ u).heap[B]? = some (.cells (cur.setIfInBounds i u) T) := by
  simp [World.setCell, Array.getElem?_modify, hb]

section
variable {P : Program} {ops : Array Oper} {rest : List Oper} {o : Oper} {a : Act} {w : World} {Q : Exit → Act → World → Prop}
/-- a variable of several cells is stored whole -/
theorem wpList_store_obj (hgd : o.guard = none) (x y : Operand) (T : TypeId) (ho : o.op = .store T x y) (b : Nat) (hx : a.eval x = .pointer (some ⟨b, 0, none⟩)) (row : List Value) (hy : a.eval y = .agg row.toArray) (cur : Array Value) (e : TypeId)
    (hg : w.heap[b]? = some (.cells cur e)) (hsz : (P.info? T).map (·.size) = some row.length) (hl : cur.size = row.length) (h1 : ∀ c ∈ row, c.oneCell' = true)
    (h : ∀ w', w'.heap[b]? = some (.cells row.toArray e) → Fr (fun k => k = b) w w' → wpList P ops Q rest (a.put o.dst undef) w') : wpList P ops Q (o :: rest) a w := by
  refine wpList_store_row hgd x y T ho b 0 hx _ hy cur e (by simpa [Value.cells] using hsz) hg (by simp [Value.cells, hl]) (by simpa [Value.cells] using h1) ?_
  refine h _ ?_ (Fr.setRow (F := fun k => k = b) _ rfl _)
  rw [setRow_heap w b _ _ e (0, 0) hg]
  congr 2
  simp [splice, Value.cells, hl]

end
end Go.Proofs.Ytmooflmhbpckjaa
