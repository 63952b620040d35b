/-
  NARROWER THAN 'FOR EVERY INPUT', by the rows' own cells (each row's printed sentence says how): TablesCompile: loops · TablesNames: loops · TablesTell: loops · TablesSwap: loops · SegBoundaries: loops · SegSteps: loops · SegWalks: loops · SegFirst: loops · SegMirror: loops · SegAll: loops · SegRenamed: loops.
  DERIVED. THE GIVEN ROWS OF THIS SEAT. 12 by the template 'for every input the law returns true; each argument reads behind the call as it read before'; 0 by the template 'total and deterministic' (their statements: YthmaokjhncokdaaTotals.lean).
  GIVEN WITH THE SEED: the statements are not yours to turn. If you find one false, say at which input.
  Laid BY PROGRAM, IN A SANDBOX (cutbox-rows.mjs): the forced cells as the released guide's own fill.sh prints them over the translation 587c759eb00ca505… (all of the seat's roots in one cut). By AI agents, Wed Nov 11 2026. No macro, syntax, notation, axiom, sorry.
-/
import Derived.Test.YthmaokjhncokdaaChecked
import GoSem.Claim
import GoSem.ClaimJoined
import GoSem.ClaimMapViews
import Derived.JoinedTies
import Derived.KernelRfl
namespace Go.Proofs.Ythmaokjhncokdaa
/- THE CELL 'sum', in the pinned program and in every row, IS THE sha256 OF THE DUMP (.gsa) THAT YthmaokjhncokdaaProg.lean LOADS. Nothing in Lean hashes anything: it is a label: what it is worth is what the hold of that sum in a sandbox is worth. -/
noncomputable def Try.pinned : Pinned := { name := "ythmaokjhncokdaa", sum := "587c759eb00ca505eb79ea463a3373faeef037d8b53decdf0a65c4f2ce136670", checked := Try.checked }
namespace Rows
def none {H : Type} : Left H := { results := [], args := [] }

/-- 'foolscaplaw09.TablesCompile': WHATEVER THE INPUT: true; the input reads as it did. -/
def tablesCompileSpec : ChangeSpec := { name := "tablesCompile", fn := fun _ => fun
  | [d] => { results := [.lit (.bool true)], args := [d] }
  | _ => none }
def tablesCompileRow : OpenClaim := { program := "ythmaokjhncokdaa", sum := "587c759eb00ca505eb79ea463a3373faeef037d8b53decdf0a65c4f2ce136670", func := "foolscap/foolscaplaw09.TablesCompile", spec := "tablesCompile", unfollowed := true, recurses := true, loops := true, apart := false }
def TablesCompileSaid : Prop := tablesCompileRow.holds Try.pinned (OpenSpec.ofChange tablesCompileSpec)

/-- ITS FALSE NEIGHBOUR: 'it returns false'. Refute it at one input. -/
def tablesCompileWrong : ChangeSpec := { name := "tablesCompile", fn := fun _ => fun
  | [d] => { results := [.lit (.bool false)], args := [d] }
  | _ => none }
def TablesCompileWrongFalsely : Prop := tablesCompileRow.holds Try.pinned (OpenSpec.ofChange tablesCompileWrong)

/-- 'foolscaplaw09.TablesNames': WHATEVER THE INPUT: true; the input reads as it did. -/
def tablesNamesSpec : ChangeSpec := { name := "tablesNames", fn := fun _ => fun
  | [d1, d2] => { results := [.lit (.bool true)], args := [d1, d2] }
  | _ => none }
def tablesNamesRow : OpenClaim := { program := "ythmaokjhncokdaa", sum := "587c759eb00ca505eb79ea463a3373faeef037d8b53decdf0a65c4f2ce136670", func := "foolscap/foolscaplaw09.TablesNames", spec := "tablesNames", unfollowed := true, recurses := true, loops := true, apart := false }
def TablesNamesSaid : Prop := tablesNamesRow.holds Try.pinned (OpenSpec.ofChange tablesNamesSpec)

/-- ITS FALSE NEIGHBOUR: 'it returns false'. Refute it at one input. -/
def tablesNamesWrong : ChangeSpec := { name := "tablesNames", fn := fun _ => fun
  | [d1, d2] => { results := [.lit (.bool false)], args := [d1, d2] }
  | _ => none }
def TablesNamesWrongFalsely : Prop := tablesNamesRow.holds Try.pinned (OpenSpec.ofChange tablesNamesWrong)

/-- 'foolscaplaw09.TablesTell': WHATEVER THE INPUT: true; the input reads as it did. -/
def tablesTellSpec : ChangeSpec := { name := "tablesTell", fn := fun _ => fun
  | [d1, d2] => { results := [.lit (.bool true)], args := [d1, d2] }
  | _ => none }
def tablesTellRow : OpenClaim := { program := "ythmaokjhncokdaa", sum := "587c759eb00ca505eb79ea463a3373faeef037d8b53decdf0a65c4f2ce136670", func := "foolscap/foolscaplaw09.TablesTell", spec := "tablesTell", unfollowed := true, recurses := true, loops := true, apart := false }
def TablesTellSaid : Prop := tablesTellRow.holds Try.pinned (OpenSpec.ofChange tablesTellSpec)

/-- ITS FALSE NEIGHBOUR: 'it returns false'. Refute it at one input. -/
def tablesTellWrong : ChangeSpec := { name := "tablesTell", fn := fun _ => fun
  | [d1, d2] => { results := [.lit (.bool false)], args := [d1, d2] }
  | _ => none }
def TablesTellWrongFalsely : Prop := tablesTellRow.holds Try.pinned (OpenSpec.ofChange tablesTellWrong)

/-- 'foolscaplaw09.TablesSwap': WHATEVER THE INPUT: true; the input reads as it did. -/
def tablesSwapSpec : ChangeSpec := { name := "tablesSwap", fn := fun _ => fun
  | [d1, d2, d3] => { results := [.lit (.bool true)], args := [d1, d2, d3] }
  | _ => none }
def tablesSwapRow : OpenClaim := { program := "ythmaokjhncokdaa", sum := "587c759eb00ca505eb79ea463a3373faeef037d8b53decdf0a65c4f2ce136670", func := "foolscap/foolscaplaw09.TablesSwap", spec := "tablesSwap", unfollowed := true, recurses := true, loops := true, apart := false }
def TablesSwapSaid : Prop := tablesSwapRow.holds Try.pinned (OpenSpec.ofChange tablesSwapSpec)

/-- ITS FALSE NEIGHBOUR: 'it returns false'. Refute it at one input. -/
def tablesSwapWrong : ChangeSpec := { name := "tablesSwap", fn := fun _ => fun
  | [d1, d2, d3] => { results := [.lit (.bool false)], args := [d1, d2, d3] }
  | _ => none }
def TablesSwapWrongFalsely : Prop := tablesSwapRow.holds Try.pinned (OpenSpec.ofChange tablesSwapWrong)

/-- 'foolscaplaw10.SegBoundaries': WHATEVER THE INPUT: true; the input reads as it did. -/
def segBoundariesSpec : ChangeSpec := { name := "segBoundaries", fn := fun _ => fun
  | [d1, d2] => { results := [.lit (.bool true)], args := [d1, d2] }
  | _ => none }
def segBoundariesRow : OpenClaim := { program := "ythmaokjhncokdaa", sum := "587c759eb00ca505eb79ea463a3373faeef037d8b53decdf0a65c4f2ce136670", func := "foolscap/foolscaplaw10.SegBoundaries", spec := "segBoundaries", unfollowed := true, recurses := true, loops := true, apart := false }
def SegBoundariesSaid : Prop := segBoundariesRow.holds Try.pinned (OpenSpec.ofChange segBoundariesSpec)

/-- ITS FALSE NEIGHBOUR: 'it returns false'. Refute it at one input. -/
def segBoundariesWrong : ChangeSpec := { name := "segBoundaries", fn := fun _ => fun
  | [d1, d2] => { results := [.lit (.bool false)], args := [d1, d2] }
  | _ => none }
def SegBoundariesWrongFalsely : Prop := segBoundariesRow.holds Try.pinned (OpenSpec.ofChange segBoundariesWrong)

/-- 'foolscaplaw10.SegSteps': WHATEVER THE INPUT: true; the input reads as it did. -/
def segStepsSpec : ChangeSpec := { name := "segSteps", fn := fun _ => fun
  | [d1, d2, d3] => { results := [.lit (.bool true)], args := [d1, d2, d3] }
  | _ => none }
def segStepsRow : OpenClaim := { program := "ythmaokjhncokdaa", sum := "587c759eb00ca505eb79ea463a3373faeef037d8b53decdf0a65c4f2ce136670", func := "foolscap/foolscaplaw10.SegSteps", spec := "segSteps", unfollowed := true, recurses := true, loops := true, apart := false }
def SegStepsSaid : Prop := segStepsRow.holds Try.pinned (OpenSpec.ofChange segStepsSpec)

/-- ITS FALSE NEIGHBOUR: 'it returns false'. Refute it at one input. -/
def segStepsWrong : ChangeSpec := { name := "segSteps", fn := fun _ => fun
  | [d1, d2, d3] => { results := [.lit (.bool false)], args := [d1, d2, d3] }
  | _ => none }
def SegStepsWrongFalsely : Prop := segStepsRow.holds Try.pinned (OpenSpec.ofChange segStepsWrong)

/-- 'foolscaplaw10.SegWalks': WHATEVER THE INPUT: true; the input reads as it did. -/
def segWalksSpec : ChangeSpec := { name := "segWalks", fn := fun _ => fun
  | [d1, d2] => { results := [.lit (.bool true)], args := [d1, d2] }
  | _ => none }
def segWalksRow : OpenClaim := { program := "ythmaokjhncokdaa", sum := "587c759eb00ca505eb79ea463a3373faeef037d8b53decdf0a65c4f2ce136670", func := "foolscap/foolscaplaw10.SegWalks", spec := "segWalks", unfollowed := true, recurses := true, loops := true, apart := false }
def SegWalksSaid : Prop := segWalksRow.holds Try.pinned (OpenSpec.ofChange segWalksSpec)

/-- ITS FALSE NEIGHBOUR: 'it returns false'. Refute it at one input. -/
def segWalksWrong : ChangeSpec := { name := "segWalks", fn := fun _ => fun
  | [d1, d2] => { results := [.lit (.bool false)], args := [d1, d2] }
  | _ => none }
def SegWalksWrongFalsely : Prop := segWalksRow.holds Try.pinned (OpenSpec.ofChange segWalksWrong)

/-- 'foolscaplaw10.SegFirst': WHATEVER THE INPUT: true; the input reads as it did. -/
def segFirstSpec : ChangeSpec := { name := "segFirst", fn := fun _ => fun
  | [d1, d2, d3] => { results := [.lit (.bool true)], args := [d1, d2, d3] }
  | _ => none }
def segFirstRow : OpenClaim := { program := "ythmaokjhncokdaa", sum := "587c759eb00ca505eb79ea463a3373faeef037d8b53decdf0a65c4f2ce136670", func := "foolscap/foolscaplaw10.SegFirst", spec := "segFirst", unfollowed := true, recurses := true, loops := true, apart := false }
def SegFirstSaid : Prop := segFirstRow.holds Try.pinned (OpenSpec.ofChange segFirstSpec)

/-- ITS FALSE NEIGHBOUR: 'it returns false'. Refute it at one input. -/
def segFirstWrong : ChangeSpec := { name := "segFirst", fn := fun _ => fun
  | [d1, d2, d3] => { results := [.lit (.bool false)], args := [d1, d2, d3] }
  | _ => none }
def SegFirstWrongFalsely : Prop := segFirstRow.holds Try.pinned (OpenSpec.ofChange segFirstWrong)

/-- 'foolscaplaw10.SegMirror': WHATEVER THE INPUT: true; the input reads as it did. -/
def segMirrorSpec : ChangeSpec := { name := "segMirror", fn := fun _ => fun
  | [d1, d2] => { results := [.lit (.bool true)], args := [d1, d2] }
  | _ => none }
def segMirrorRow : OpenClaim := { program := "ythmaokjhncokdaa", sum := "587c759eb00ca505eb79ea463a3373faeef037d8b53decdf0a65c4f2ce136670", func := "foolscap/foolscaplaw10.SegMirror", spec := "segMirror", unfollowed := true, recurses := true, loops := true, apart := false }
def SegMirrorSaid : Prop := segMirrorRow.holds Try.pinned (OpenSpec.ofChange segMirrorSpec)

/-- ITS FALSE NEIGHBOUR: 'it returns false'. Refute it at one input. -/
def segMirrorWrong : ChangeSpec := { name := "segMirror", fn := fun _ => fun
  | [d1, d2] => { results := [.lit (.bool false)], args := [d1, d2] }
  | _ => none }
def SegMirrorWrongFalsely : Prop := segMirrorRow.holds Try.pinned (OpenSpec.ofChange segMirrorWrong)

/-- 'foolscaplaw10.SegAll': WHATEVER THE INPUT: true; the input reads as it did. -/
def segAllSpec : ChangeSpec := { name := "segAll", fn := fun _ => fun
  | [d1, d2] => { results := [.lit (.bool true)], args := [d1, d2] }
  | _ => none }
def segAllRow : OpenClaim := { program := "ythmaokjhncokdaa", sum := "587c759eb00ca505eb79ea463a3373faeef037d8b53decdf0a65c4f2ce136670", func := "foolscap/foolscaplaw10.SegAll", spec := "segAll", unfollowed := true, recurses := true, loops := true, apart := false }
def SegAllSaid : Prop := segAllRow.holds Try.pinned (OpenSpec.ofChange segAllSpec)

/-- ITS FALSE NEIGHBOUR: 'it returns false'. Refute it at one input. -/
def segAllWrong : ChangeSpec := { name := "segAll", fn := fun _ => fun
  | [d1, d2] => { results := [.lit (.bool false)], args := [d1, d2] }
  | _ => none }
def SegAllWrongFalsely : Prop := segAllRow.holds Try.pinned (OpenSpec.ofChange segAllWrong)

/-- 'foolscaplaw10.SegNeighbours': WHATEVER THE INPUT: true; the input reads as it did. -/
def segNeighboursSpec : ChangeSpec := { name := "segNeighbours", fn := fun _ => fun
  | [d1, d2, d3, d4] => { results := [.lit (.bool true)], args := [d1, d2, d3, d4] }
  | _ => none }
def segNeighboursRow : OpenClaim := { program := "ythmaokjhncokdaa", sum := "587c759eb00ca505eb79ea463a3373faeef037d8b53decdf0a65c4f2ce136670", func := "foolscap/foolscaplaw10.SegNeighbours", spec := "segNeighbours", unfollowed := true, recurses := true, apart := false }
def SegNeighboursSaid : Prop := segNeighboursRow.holds Try.pinned (OpenSpec.ofChange segNeighboursSpec)

/-- ITS FALSE NEIGHBOUR: 'it returns false'. Refute it at one input. -/
def segNeighboursWrong : ChangeSpec := { name := "segNeighbours", fn := fun _ => fun
  | [d1, d2, d3, d4] => { results := [.lit (.bool false)], args := [d1, d2, d3, d4] }
  | _ => none }
def SegNeighboursWrongFalsely : Prop := segNeighboursRow.holds Try.pinned (OpenSpec.ofChange segNeighboursWrong)

/-- 'foolscaplaw10.SegRenamed': WHATEVER THE INPUT: true; the input reads as it did. -/
def segRenamedSpec : ChangeSpec := { name := "segRenamed", fn := fun _ => fun
  | [d1, d2] => { results := [.lit (.bool true)], args := [d1, d2] }
  | _ => none }
def segRenamedRow : OpenClaim := { program := "ythmaokjhncokdaa", sum := "587c759eb00ca505eb79ea463a3373faeef037d8b53decdf0a65c4f2ce136670", func := "foolscap/foolscaplaw10.SegRenamed", spec := "segRenamed", unfollowed := true, recurses := true, loops := true, apart := false }
def SegRenamedSaid : Prop := segRenamedRow.holds Try.pinned (OpenSpec.ofChange segRenamedSpec)

/-- ITS FALSE NEIGHBOUR: 'it returns false'. Refute it at one input. -/
def segRenamedWrong : ChangeSpec := { name := "segRenamed", fn := fun _ => fun
  | [d1, d2] => { results := [.lit (.bool false)], args := [d1, d2] }
  | _ => none }
def SegRenamedWrongFalsely : Prop := segRenamedRow.holds Try.pinned (OpenSpec.ofChange segRenamedWrong)

/- THE SECOND FORM. 'bulk': how many values and letters a reading holds, each counted each time it is reached (what is shared counts as often as it is met; a slice's spare places count too). A statement '..UptoSaid' is the law's where the arguments, and the package variables that the reading takes, are together of bulk at most 1048576: NARROWER than '..Said'. Prove '..Said' where nothing that the law and all that it calls make is longer than what came in: it says more and counts as full. Else prove '..UptoSaid'. A law counts once. -/
mutual
def uptoBulk {H : Type} : DataW H → Nat
  | .lit (.string bytes) => bytes.length + 1
  | .lit _ => 1
  | .nil => 1
  | .ptr d => uptoBulk d + 1
  | .slice elems spare => uptoBulkAll elems + uptoBulkAll spare + 1
  | .agg parts => uptoBulkAll parts + 1
  | .iface _ d => uptoBulk d + 1
  | .map entries => uptoBulkEntries entries + 1
  | .held _ => 1
def uptoBulkAll {H : Type} : List (DataW H) → Nat
  | [] => 0
  | d :: r => uptoBulk d + uptoBulkAll r
def uptoBulkEntries {H : Type} : List (Lit × DataW H) → Nat
  | [] => 0
  | x :: r => uptoBulkEntry x + uptoBulkEntries r
def uptoBulkEntry {H : Type} : Lit × DataW H → Nat
  | (.string bytes, d) => bytes.length + uptoBulk d + 1
  | (_, d) => uptoBulk d + 1
 end
def uptoSmall : (H : Type) → List (DataW H) → Bool := fun _ ds => decide (uptoBulkAll ds ≤ 1048576)
def OpenSpec.upto (s : _root_.Go.ChangeSpec) : _root_.Go.OpenSpec := { _root_.Go.OpenSpec.ofChange s with cond := some uptoSmall }

/-- 'foolscaplaw09.TablesCompile', WHERE WHAT IT READS IS OF BULK AT MOST 1048576: true; the input reads as it did. -/
def tablesCompileUptoRow : OpenClaim := { program := "ythmaokjhncokdaa", sum := "587c759eb00ca505eb79ea463a3373faeef037d8b53decdf0a65c4f2ce136670", func := "foolscap/foolscaplaw09.TablesCompile", spec := "tablesCompile", unfollowed := true, recurses := true, loops := true, apart := false, narrowed := true }
def TablesCompileUptoSaid : Prop := tablesCompileUptoRow.holds Try.pinned (OpenSpec.upto tablesCompileSpec)

/-- 'foolscaplaw09.TablesNames', WHERE WHAT IT READS IS OF BULK AT MOST 1048576: true; the input reads as it did. -/
def tablesNamesUptoRow : OpenClaim := { program := "ythmaokjhncokdaa", sum := "587c759eb00ca505eb79ea463a3373faeef037d8b53decdf0a65c4f2ce136670", func := "foolscap/foolscaplaw09.TablesNames", spec := "tablesNames", unfollowed := true, recurses := true, loops := true, apart := false, narrowed := true }
def TablesNamesUptoSaid : Prop := tablesNamesUptoRow.holds Try.pinned (OpenSpec.upto tablesNamesSpec)

/-- 'foolscaplaw09.TablesTell', WHERE WHAT IT READS IS OF BULK AT MOST 1048576: true; the input reads as it did. -/
def tablesTellUptoRow : OpenClaim := { program := "ythmaokjhncokdaa", sum := "587c759eb00ca505eb79ea463a3373faeef037d8b53decdf0a65c4f2ce136670", func := "foolscap/foolscaplaw09.TablesTell", spec := "tablesTell", unfollowed := true, recurses := true, loops := true, apart := false, narrowed := true }
def TablesTellUptoSaid : Prop := tablesTellUptoRow.holds Try.pinned (OpenSpec.upto tablesTellSpec)

/-- 'foolscaplaw09.TablesSwap', WHERE WHAT IT READS IS OF BULK AT MOST 1048576: true; the input reads as it did. -/
def tablesSwapUptoRow : OpenClaim := { program := "ythmaokjhncokdaa", sum := "587c759eb00ca505eb79ea463a3373faeef037d8b53decdf0a65c4f2ce136670", func := "foolscap/foolscaplaw09.TablesSwap", spec := "tablesSwap", unfollowed := true, recurses := true, loops := true, apart := false, narrowed := true }
def TablesSwapUptoSaid : Prop := tablesSwapUptoRow.holds Try.pinned (OpenSpec.upto tablesSwapSpec)

/-- 'foolscaplaw10.SegBoundaries', WHERE WHAT IT READS IS OF BULK AT MOST 1048576: true; the input reads as it did. -/
def segBoundariesUptoRow : OpenClaim := { program := "ythmaokjhncokdaa", sum := "587c759eb00ca505eb79ea463a3373faeef037d8b53decdf0a65c4f2ce136670", func := "foolscap/foolscaplaw10.SegBoundaries", spec := "segBoundaries", unfollowed := true, recurses := true, loops := true, apart := false, narrowed := true }
def SegBoundariesUptoSaid : Prop := segBoundariesUptoRow.holds Try.pinned (OpenSpec.upto segBoundariesSpec)

/-- 'foolscaplaw10.SegSteps', WHERE WHAT IT READS IS OF BULK AT MOST 1048576: true; the input reads as it did. -/
def segStepsUptoRow : OpenClaim := { program := "ythmaokjhncokdaa", sum := "587c759eb00ca505eb79ea463a3373faeef037d8b53decdf0a65c4f2ce136670", func := "foolscap/foolscaplaw10.SegSteps", spec := "segSteps", unfollowed := true, recurses := true, loops := true, apart := false, narrowed := true }
def SegStepsUptoSaid : Prop := segStepsUptoRow.holds Try.pinned (OpenSpec.upto segStepsSpec)

/-- 'foolscaplaw10.SegWalks', WHERE WHAT IT READS IS OF BULK AT MOST 1048576: true; the input reads as it did. -/
def segWalksUptoRow : OpenClaim := { program := "ythmaokjhncokdaa", sum := "587c759eb00ca505eb79ea463a3373faeef037d8b53decdf0a65c4f2ce136670", func := "foolscap/foolscaplaw10.SegWalks", spec := "segWalks", unfollowed := true, recurses := true, loops := true, apart := false, narrowed := true }
def SegWalksUptoSaid : Prop := segWalksUptoRow.holds Try.pinned (OpenSpec.upto segWalksSpec)

/-- 'foolscaplaw10.SegFirst', WHERE WHAT IT READS IS OF BULK AT MOST 1048576: true; the input reads as it did. -/
def segFirstUptoRow : OpenClaim := { program := "ythmaokjhncokdaa", sum := "587c759eb00ca505eb79ea463a3373faeef037d8b53decdf0a65c4f2ce136670", func := "foolscap/foolscaplaw10.SegFirst", spec := "segFirst", unfollowed := true, recurses := true, loops := true, apart := false, narrowed := true }
def SegFirstUptoSaid : Prop := segFirstUptoRow.holds Try.pinned (OpenSpec.upto segFirstSpec)

/-- 'foolscaplaw10.SegMirror', WHERE WHAT IT READS IS OF BULK AT MOST 1048576: true; the input reads as it did. -/
def segMirrorUptoRow : OpenClaim := { program := "ythmaokjhncokdaa", sum := "587c759eb00ca505eb79ea463a3373faeef037d8b53decdf0a65c4f2ce136670", func := "foolscap/foolscaplaw10.SegMirror", spec := "segMirror", unfollowed := true, recurses := true, loops := true, apart := false, narrowed := true }
def SegMirrorUptoSaid : Prop := segMirrorUptoRow.holds Try.pinned (OpenSpec.upto segMirrorSpec)

/-- 'foolscaplaw10.SegAll', WHERE WHAT IT READS IS OF BULK AT MOST 1048576: true; the input reads as it did. -/
def segAllUptoRow : OpenClaim := { program := "ythmaokjhncokdaa", sum := "587c759eb00ca505eb79ea463a3373faeef037d8b53decdf0a65c4f2ce136670", func := "foolscap/foolscaplaw10.SegAll", spec := "segAll", unfollowed := true, recurses := true, loops := true, apart := false, narrowed := true }
def SegAllUptoSaid : Prop := segAllUptoRow.holds Try.pinned (OpenSpec.upto segAllSpec)

/-- 'foolscaplaw10.SegNeighbours', WHERE WHAT IT READS IS OF BULK AT MOST 1048576: true; the input reads as it did. -/
def segNeighboursUptoRow : OpenClaim := { program := "ythmaokjhncokdaa", sum := "587c759eb00ca505eb79ea463a3373faeef037d8b53decdf0a65c4f2ce136670", func := "foolscap/foolscaplaw10.SegNeighbours", spec := "segNeighbours", unfollowed := true, recurses := true, apart := false, narrowed := true }
def SegNeighboursUptoSaid : Prop := segNeighboursUptoRow.holds Try.pinned (OpenSpec.upto segNeighboursSpec)

/-- 'foolscaplaw10.SegRenamed', WHERE WHAT IT READS IS OF BULK AT MOST 1048576: true; the input reads as it did. -/
def segRenamedUptoRow : OpenClaim := { program := "ythmaokjhncokdaa", sum := "587c759eb00ca505eb79ea463a3373faeef037d8b53decdf0a65c4f2ce136670", func := "foolscap/foolscaplaw10.SegRenamed", spec := "segRenamed", unfollowed := true, recurses := true, loops := true, apart := false, narrowed := true }
def SegRenamedUptoSaid : Prop := segRenamedUptoRow.holds Try.pinned (OpenSpec.upto segRenamedSpec)

end Rows
end Go.Proofs.Ythmaokjhncokdaa
