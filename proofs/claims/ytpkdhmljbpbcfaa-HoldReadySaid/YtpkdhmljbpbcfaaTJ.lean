/-
  Two operations are equal if all their fields are. No condition beyond what each theorem names.
-/
import Derived.Test.YtpkdhmljbpbcfaaTG
set_option linter.unusedVariables false
set_option linter.unusedSimpArgs false
namespace Go.Proofs.Ytpkdhmljbpbcfaa
open Go.RowKit

theorem op_eq (a b : OpV) : (a = b) ↔ a.ctr = b.ctr ∧ a.author = b.author ∧ a.seq = b.seq ∧ a.ins = b.ins ∧ a.rctr = b.rctr ∧ a.rauthor = b.rauthor ∧ a.rune = b.rune := by
  cases a; cases b; simp

theorem run_eql_op (a b : OpV) (w : World) : (binOp .eql 30 (.agg #[.int .i64 a.ctr, .int .i64 a.author, .int .i64 a.seq, .bool a.ins, .int .i64 a.rctr, .int .i64 a.rauthor, .int .i32 a.rune]) (.agg #[.int .i64 b.ctr, .int .i64 b.author, .int .i64 b.seq, .bool b.ins, .int .i64 b.rctr, .int .i64 b.rauthor, .int .i32 b.rune])).run Try.prog w = .ok (.bool (decide (a = b))) w := by
  by_cases h0 : a.ctr = b.ctr
  · by_cases h1 : a.author = b.author
    · by_cases h2 : a.seq = b.seq
      · by_cases h3 : a.ins = b.ins
        · by_cases h4 : a.rctr = b.rctr
          · by_cases h5 : a.rauthor = b.rauthor
            · by_cases h6 : a.rune = b.rune
              · simp [go_sem, op_eq, h0, h1, h2, h3, h4, h5, h6]
              · simp [go_sem, op_eq, h0, h1, h2, h3, h4, h5, h6]
            · simp [go_sem, op_eq, h0, h1, h2, h3, h4, h5]
          · simp [go_sem, op_eq, h0, h1, h2, h3, h4]
        · simp [go_sem, op_eq, h0, h1, h2, h3]
      · simp [go_sem, op_eq, h0, h1, h2]
    · simp [go_sem, op_eq, h0, h1]
  · simp [go_sem, op_eq, h0]
/-- an operation is stored into a variable of its own -/
theorem wpList_store_box {ops : Array Oper} {rest : List Oper} {o : Oper} {a : Act} {w : World} {Q : Exit → Act → World → Prop} (hgd : o.guard = none) (x y : Operand) (ho : o.op = .store 30 x y) (b : Nat) (hx : a.eval x = .pointer (some ⟨b, 0, none⟩)) (lo no : OpV)
    (hy : a.eval y = .agg #[.int .i64 no.ctr, .int .i64 no.author, .int .i64 no.seq, .bool no.ins, .int .i64 no.rctr, .int .i64 no.rauthor, .int .i32 no.rune]) (hb : w.heap[b]? = some (opObj lo))
    (h : ∀ w', w'.heap[b]? = some (opObj no) → Fr (fun k => k = b) w w' → wpList Try.prog ops Q rest (a.put o.dst undef) w') : wpList Try.prog ops Q (o :: rest) a w := by
  refine wpList_store_row hgd x y 30 ho b 0 hx _ hy _ 30 (by kernel_rfl) hb (by simp [Value.cells]) (by simp [Value.cells, Value.oneCell']) ?_
  refine h _ ?_ (Fr.setRow (F := fun k => k = b) _ rfl _)
  rw [setRow_heap w b _ _ 30 (0, 0) hb]
  rfl
end Go.Proofs.Ytpkdhmljbpbcfaa
