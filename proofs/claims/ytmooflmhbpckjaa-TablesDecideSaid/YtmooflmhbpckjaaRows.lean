/-
  NARROWER THAN 'FOR EVERY INPUT', by the rows' own cells (each row's printed sentence says how): TablesCompile: loops · TablesDecide: loops · TablesNames: loops · TablesTell: loops · TablesSwap: loops.
  DERIVED. THE GIVEN ROWS OF THIS SEAT. 6 by the template 'for every input the law returns true; each argument reads behind the call as it read before'; 0 by the template 'total and deterministic' (their statements: YtmooflmhbpckjaaTotals.lean).
  GIVEN WITH THE SEED: the statements are not yours to turn. If you find one false, say at which input.
  Laid BY PROGRAM, IN A SANDBOX (cutbox-rows.mjs): the forced cells as the released guide's own fill.sh prints them over the translation 6e0e98ec64cc27be… (all of the seat's roots in one cut). By AI agents, Wed Nov 11 2026. No macro, syntax, notation, axiom, sorry.
-/
import Derived.Test.YtmooflmhbpckjaaChecked
import GoSem.Claim
import GoSem.ClaimJoined
import GoSem.ClaimMapViews
import Derived.JoinedTies
import Derived.KernelRfl
namespace Go.Proofs.Ytmooflmhbpckjaa
/- THE CELL 'sum', in the pinned program and in every row, IS THE sha256 OF THE DUMP (.gsa) THAT YtmooflmhbpckjaaProg.lean LOADS. Nothing in Lean hashes anything: it is a label: what it is worth is what the hold of that sum in a sandbox is worth. -/
noncomputable def Try.pinned : Pinned := { name := "ytmooflmhbpckjaa", sum := "6e0e98ec64cc27be2b267440dc001c014a6c947fe6c0deeb53b8e9357efdcf4e", checked := Try.checked }
namespace Rows
def none {H : Type} : Left H := { results := [], args := [] }

/-- 'foolscaplaw09.TablesCompile': WHATEVER THE INPUT: true; the input reads as it did. -/
def tablesCompileSpec : ChangeSpec := { name := "tablesCompile", fn := fun _ => fun
  | [d] => { results := [.lit (.bool true)], args := [d] }
  | _ => none }
def tablesCompileRow : OpenClaim := { program := "ytmooflmhbpckjaa", sum := "6e0e98ec64cc27be2b267440dc001c014a6c947fe6c0deeb53b8e9357efdcf4e", func := "foolscap/foolscaplaw09.TablesCompile", spec := "tablesCompile", unfollowed := true, recurses := true, loops := true, apart := false }
def TablesCompileSaid : Prop := tablesCompileRow.holds Try.pinned (OpenSpec.ofChange tablesCompileSpec)

/-- ITS FALSE NEIGHBOUR: 'it returns false'. Refute it at one input. -/
def tablesCompileWrong : ChangeSpec := { name := "tablesCompile", fn := fun _ => fun
  | [d] => { results := [.lit (.bool false)], args := [d] }
  | _ => none }
def TablesCompileWrongFalsely : Prop := tablesCompileRow.holds Try.pinned (OpenSpec.ofChange tablesCompileWrong)

/-- 'foolscaplaw09.TablesDecide': WHATEVER THE INPUT: true; the input reads as it did. -/
def tablesDecideSpec : ChangeSpec := { name := "tablesDecide", fn := fun _ => fun
  | [d1, d2, d3] => { results := [.lit (.bool true)], args := [d1, d2, d3] }
  | _ => none }
def tablesDecideRow : OpenClaim := { program := "ytmooflmhbpckjaa", sum := "6e0e98ec64cc27be2b267440dc001c014a6c947fe6c0deeb53b8e9357efdcf4e", func := "foolscap/foolscaplaw09.TablesDecide", spec := "tablesDecide", unfollowed := true, recurses := true, loops := true, apart := false }
def TablesDecideSaid : Prop := tablesDecideRow.holds Try.pinned (OpenSpec.ofChange tablesDecideSpec)

/-- ITS FALSE NEIGHBOUR: 'it returns false'. Refute it at one input. -/
def tablesDecideWrong : ChangeSpec := { name := "tablesDecide", fn := fun _ => fun
  | [d1, d2, d3] => { results := [.lit (.bool false)], args := [d1, d2, d3] }
  | _ => none }
def TablesDecideWrongFalsely : Prop := tablesDecideRow.holds Try.pinned (OpenSpec.ofChange tablesDecideWrong)

/-- 'foolscaplaw09.TablesMany': WHATEVER THE INPUT: true; the input reads as it did. -/
def tablesManySpec : ChangeSpec := { name := "tablesMany", fn := fun _ => fun
  | [d1, d2] => { results := [.lit (.bool true)], args := [d1, d2] }
  | _ => none }
def tablesManyRow : OpenClaim := { program := "ytmooflmhbpckjaa", sum := "6e0e98ec64cc27be2b267440dc001c014a6c947fe6c0deeb53b8e9357efdcf4e", func := "foolscap/foolscaplaw09.TablesMany", spec := "tablesMany", unfollowed := true, recurses := true, apart := false }
def TablesManySaid : Prop := tablesManyRow.holds Try.pinned (OpenSpec.ofChange tablesManySpec)

/-- ITS FALSE NEIGHBOUR: 'it returns false'. Refute it at one input. -/
def tablesManyWrong : ChangeSpec := { name := "tablesMany", fn := fun _ => fun
  | [d1, d2] => { results := [.lit (.bool false)], args := [d1, d2] }
  | _ => none }
def TablesManyWrongFalsely : Prop := tablesManyRow.holds Try.pinned (OpenSpec.ofChange tablesManyWrong)

/-- 'foolscaplaw09.TablesNames': WHATEVER THE INPUT: true; the input reads as it did. -/
def tablesNamesSpec : ChangeSpec := { name := "tablesNames", fn := fun _ => fun
  | [d1, d2] => { results := [.lit (.bool true)], args := [d1, d2] }
  | _ => none }
def tablesNamesRow : OpenClaim := { program := "ytmooflmhbpckjaa", sum := "6e0e98ec64cc27be2b267440dc001c014a6c947fe6c0deeb53b8e9357efdcf4e", func := "foolscap/foolscaplaw09.TablesNames", spec := "tablesNames", unfollowed := true, recurses := true, loops := true, apart := false }
def TablesNamesSaid : Prop := tablesNamesRow.holds Try.pinned (OpenSpec.ofChange tablesNamesSpec)

/-- ITS FALSE NEIGHBOUR: 'it returns false'. Refute it at one input. -/
def tablesNamesWrong : ChangeSpec := { name := "tablesNames", fn := fun _ => fun
  | [d1, d2] => { results := [.lit (.bool false)], args := [d1, d2] }
  | _ => none }
def TablesNamesWrongFalsely : Prop := tablesNamesRow.holds Try.pinned (OpenSpec.ofChange tablesNamesWrong)

/-- 'foolscaplaw09.TablesTell': WHATEVER THE INPUT: true; the input reads as it did. -/
def tablesTellSpec : ChangeSpec := { name := "tablesTell", fn := fun _ => fun
  | [d1, d2] => { results := [.lit (.bool true)], args := [d1, d2] }
  | _ => none }
def tablesTellRow : OpenClaim := { program := "ytmooflmhbpckjaa", sum := "6e0e98ec64cc27be2b267440dc001c014a6c947fe6c0deeb53b8e9357efdcf4e", func := "foolscap/foolscaplaw09.TablesTell", spec := "tablesTell", unfollowed := true, recurses := true, loops := true, apart := false }
def TablesTellSaid : Prop := tablesTellRow.holds Try.pinned (OpenSpec.ofChange tablesTellSpec)

/-- ITS FALSE NEIGHBOUR: 'it returns false'. Refute it at one input. -/
def tablesTellWrong : ChangeSpec := { name := "tablesTell", fn := fun _ => fun
  | [d1, d2] => { results := [.lit (.bool false)], args := [d1, d2] }
  | _ => none }
def TablesTellWrongFalsely : Prop := tablesTellRow.holds Try.pinned (OpenSpec.ofChange tablesTellWrong)

/-- 'foolscaplaw09.TablesSwap': WHATEVER THE INPUT: true; the input reads as it did. -/
def tablesSwapSpec : ChangeSpec := { name := "tablesSwap", fn := fun _ => fun
  | [d1, d2, d3] => { results := [.lit (.bool true)], args := [d1, d2, d3] }
  | _ => none }
def tablesSwapRow : OpenClaim := { program := "ytmooflmhbpckjaa", sum := "6e0e98ec64cc27be2b267440dc001c014a6c947fe6c0deeb53b8e9357efdcf4e", func := "foolscap/foolscaplaw09.TablesSwap", spec := "tablesSwap", unfollowed := true, recurses := true, loops := true, apart := false }
def TablesSwapSaid : Prop := tablesSwapRow.holds Try.pinned (OpenSpec.ofChange tablesSwapSpec)

/-- ITS FALSE NEIGHBOUR: 'it returns false'. Refute it at one input. -/
def tablesSwapWrong : ChangeSpec := { name := "tablesSwap", fn := fun _ => fun
  | [d1, d2, d3] => { results := [.lit (.bool false)], args := [d1, d2, d3] }
  | _ => none }
def TablesSwapWrongFalsely : Prop := tablesSwapRow.holds Try.pinned (OpenSpec.ofChange tablesSwapWrong)

/- THE SECOND FORM. 'bulk': how many values and letters a reading holds, each counted each time it is reached (what is shared counts as often as it is met; a slice's spare places count too). A statement '..UptoSaid' is the law's where the arguments, and the package variables that the reading takes, are together of bulk at most 1048576: NARROWER than '..Said'. Prove '..Said' where nothing that the law and all that it calls make is longer than what came in: it says more and counts as full. Else prove '..UptoSaid'. A law counts once. -/
mutual
def uptoBulk {H : Type} : DataW H → Nat
  | .lit (.string bytes) => bytes.length + 1
  | .lit _ => 1
  | .nil => 1
  | .ptr d => uptoBulk d + 1
  | .slice elems spare => uptoBulkAll elems + uptoBulkAll spare + 1
  | .agg parts => uptoBulkAll parts + 1
  | .iface _ d => uptoBulk d + 1
  | .map entries => uptoBulkEntries entries + 1
  | .held _ => 1
def uptoBulkAll {H : Type} : List (DataW H) → Nat
  | [] => 0
  | d :: r => uptoBulk d + uptoBulkAll r
def uptoBulkEntries {H : Type} : List (Lit × DataW H) → Nat
  | [] => 0
  | x :: r => uptoBulkEntry x + uptoBulkEntries r
def uptoBulkEntry {H : Type} : Lit × DataW H → Nat
  | (.string bytes, d) => bytes.length + uptoBulk d + 1
  | (_, d) => uptoBulk d + 1
 end
def uptoSmall : (H : Type) → List (DataW H) → Bool := fun _ ds => decide (uptoBulkAll ds ≤ 1048576)
def OpenSpec.upto (s : _root_.Go.ChangeSpec) : _root_.Go.OpenSpec := { _root_.Go.OpenSpec.ofChange s with cond := some uptoSmall }

/-- 'foolscaplaw09.TablesCompile', WHERE WHAT IT READS IS OF BULK AT MOST 1048576: true; the input reads as it did. -/
def tablesCompileUptoRow : OpenClaim := { program := "ytmooflmhbpckjaa", sum := "6e0e98ec64cc27be2b267440dc001c014a6c947fe6c0deeb53b8e9357efdcf4e", func := "foolscap/foolscaplaw09.TablesCompile", spec := "tablesCompile", unfollowed := true, recurses := true, loops := true, apart := false, narrowed := true }
def TablesCompileUptoSaid : Prop := tablesCompileUptoRow.holds Try.pinned (OpenSpec.upto tablesCompileSpec)

/-- 'foolscaplaw09.TablesDecide', WHERE WHAT IT READS IS OF BULK AT MOST 1048576: true; the input reads as it did. -/
def tablesDecideUptoRow : OpenClaim := { program := "ytmooflmhbpckjaa", sum := "6e0e98ec64cc27be2b267440dc001c014a6c947fe6c0deeb53b8e9357efdcf4e", func := "foolscap/foolscaplaw09.TablesDecide", spec := "tablesDecide", unfollowed := true, recurses := true, loops := true, apart := false, narrowed := true }
def TablesDecideUptoSaid : Prop := tablesDecideUptoRow.holds Try.pinned (OpenSpec.upto tablesDecideSpec)

/-- 'foolscaplaw09.TablesMany', WHERE WHAT IT READS IS OF BULK AT MOST 1048576: true; the input reads as it did. -/
def tablesManyUptoRow : OpenClaim := { program := "ytmooflmhbpckjaa", sum := "6e0e98ec64cc27be2b267440dc001c014a6c947fe6c0deeb53b8e9357efdcf4e", func := "foolscap/foolscaplaw09.TablesMany", spec := "tablesMany", unfollowed := true, recurses := true, apart := false, narrowed := true }
def TablesManyUptoSaid : Prop := tablesManyUptoRow.holds Try.pinned (OpenSpec.upto tablesManySpec)

/-- 'foolscaplaw09.TablesNames', WHERE WHAT IT READS IS OF BULK AT MOST 1048576: true; the input reads as it did. -/
def tablesNamesUptoRow : OpenClaim := { program := "ytmooflmhbpckjaa", sum := "6e0e98ec64cc27be2b267440dc001c014a6c947fe6c0deeb53b8e9357efdcf4e", func := "foolscap/foolscaplaw09.TablesNames", spec := "tablesNames", unfollowed := true, recurses := true, loops := true, apart := false, narrowed := true }
def TablesNamesUptoSaid : Prop := tablesNamesUptoRow.holds Try.pinned (OpenSpec.upto tablesNamesSpec)

/-- 'foolscaplaw09.TablesTell', WHERE WHAT IT READS IS OF BULK AT MOST 1048576: true; the input reads as it did. -/
def tablesTellUptoRow : OpenClaim := { program := "ytmooflmhbpckjaa", sum := "6e0e98ec64cc27be2b267440dc001c014a6c947fe6c0deeb53b8e9357efdcf4e", func := "foolscap/foolscaplaw09.TablesTell", spec := "tablesTell", unfollowed := true, recurses := true, loops := true, apart := false, narrowed := true }
def TablesTellUptoSaid : Prop := tablesTellUptoRow.holds Try.pinned (OpenSpec.upto tablesTellSpec)

/-- 'foolscaplaw09.TablesSwap', WHERE WHAT IT READS IS OF BULK AT MOST 1048576: true; the input reads as it did. -/
def tablesSwapUptoRow : OpenClaim := { program := "ytmooflmhbpckjaa", sum := "6e0e98ec64cc27be2b267440dc001c014a6c947fe6c0deeb53b8e9357efdcf4e", func := "foolscap/foolscaplaw09.TablesSwap", spec := "tablesSwap", unfollowed := true, recurses := true, loops := true, apart := false, narrowed := true }
def TablesSwapUptoSaid : Prop := tablesSwapUptoRow.holds Try.pinned (OpenSpec.upto tablesSwapSpec)

end Rows
end Go.Proofs.Ytmooflmhbpckjaa
