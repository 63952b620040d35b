/-
  NARROWER THAN 'FOR EVERY INPUT', by the rows' own cells (each row's printed sentence says how): ReadingTells: loops · ReadingFirst: loops · ReadingEnds: loops · ReadingStart: loops · ReadingTurned: loops · ReadingLeft: loops · ReadingParts: loops · ReadingSame: loops.
  DERIVED. THE GIVEN ROWS OF THIS SEAT. 8 by the template 'for every input the law returns true; each argument reads behind the call as it read before'; 0 by the template 'total and deterministic' (their statements: YtphgjppeindbaaaTotals.lean).
  GIVEN WITH THE SEED: the statements are not yours to turn. If you find one false, say at which input.
  Laid BY PROGRAM, IN A SANDBOX (cutbox-rows.mjs): the forced cells as the released guide's own fill.sh prints them over the translation f1428b2ddc1da6a1… (all of the seat's roots in one cut). By AI agents, Wed Nov 11 2026. No macro, syntax, notation, axiom, sorry.
-/
import Derived.Test.YtphgjppeindbaaaChecked
import GoSem.Claim
import GoSem.ClaimJoined
import GoSem.ClaimMapViews
import Derived.JoinedTies
import Derived.KernelRfl
namespace Go.Proofs.Ytphgjppeindbaaa
/- THE CELL 'sum', in the pinned program and in every row, IS THE sha256 OF THE DUMP (.gsa) THAT YtphgjppeindbaaaProg.lean LOADS. Nothing in Lean hashes anything: it is a label: what it is worth is what the hold of that sum in a sandbox is worth. -/
noncomputable def Try.pinned : Pinned := { name := "ytphgjppeindbaaa", sum := "f1428b2ddc1da6a1cba445b1fdabe779a751f36f26be8e91524293900bb04f03", checked := Try.checked }
namespace Rows
def none {H : Type} : Left H := { results := [], args := [] }

/-- 'foolscaplaw06.ReadingTells': WHATEVER THE INPUT: true; the input reads as it did. -/
def readingTellsSpec : ChangeSpec := { name := "readingTells", fn := fun _ => fun
  | [d1, d2, d3] => { results := [.lit (.bool true)], args := [d1, d2, d3] }
  | _ => none }
def readingTellsRow : OpenClaim := { program := "ytphgjppeindbaaa", sum := "f1428b2ddc1da6a1cba445b1fdabe779a751f36f26be8e91524293900bb04f03", func := "foolscap/foolscaplaw06.ReadingTells", spec := "readingTells", unfollowed := true, recurses := true, loops := true, apart := false }
def ReadingTellsSaid : Prop := readingTellsRow.holds Try.pinned (OpenSpec.ofChange readingTellsSpec)

/-- ITS FALSE NEIGHBOUR: 'it returns false'. Refute it at one input. -/
def readingTellsWrong : ChangeSpec := { name := "readingTells", fn := fun _ => fun
  | [d1, d2, d3] => { results := [.lit (.bool false)], args := [d1, d2, d3] }
  | _ => none }
def ReadingTellsWrongFalsely : Prop := readingTellsRow.holds Try.pinned (OpenSpec.ofChange readingTellsWrong)

/-- 'foolscaplaw06.ReadingFirst': WHATEVER THE INPUT: true; the input reads as it did. -/
def readingFirstSpec : ChangeSpec := { name := "readingFirst", fn := fun _ => fun
  | [d1, d2, d3] => { results := [.lit (.bool true)], args := [d1, d2, d3] }
  | _ => none }
def readingFirstRow : OpenClaim := { program := "ytphgjppeindbaaa", sum := "f1428b2ddc1da6a1cba445b1fdabe779a751f36f26be8e91524293900bb04f03", func := "foolscap/foolscaplaw06.ReadingFirst", spec := "readingFirst", unfollowed := true, recurses := true, loops := true, apart := false }
def ReadingFirstSaid : Prop := readingFirstRow.holds Try.pinned (OpenSpec.ofChange readingFirstSpec)

/-- ITS FALSE NEIGHBOUR: 'it returns false'. Refute it at one input. -/
def readingFirstWrong : ChangeSpec := { name := "readingFirst", fn := fun _ => fun
  | [d1, d2, d3] => { results := [.lit (.bool false)], args := [d1, d2, d3] }
  | _ => none }
def ReadingFirstWrongFalsely : Prop := readingFirstRow.holds Try.pinned (OpenSpec.ofChange readingFirstWrong)

/-- 'foolscaplaw06.ReadingEnds': WHATEVER THE INPUT: true; the input reads as it did. -/
def readingEndsSpec : ChangeSpec := { name := "readingEnds", fn := fun _ => fun
  | [d1, d2] => { results := [.lit (.bool true)], args := [d1, d2] }
  | _ => none }
def readingEndsRow : OpenClaim := { program := "ytphgjppeindbaaa", sum := "f1428b2ddc1da6a1cba445b1fdabe779a751f36f26be8e91524293900bb04f03", func := "foolscap/foolscaplaw06.ReadingEnds", spec := "readingEnds", unfollowed := true, recurses := true, loops := true, apart := false }
def ReadingEndsSaid : Prop := readingEndsRow.holds Try.pinned (OpenSpec.ofChange readingEndsSpec)

/-- ITS FALSE NEIGHBOUR: 'it returns false'. Refute it at one input. -/
def readingEndsWrong : ChangeSpec := { name := "readingEnds", fn := fun _ => fun
  | [d1, d2] => { results := [.lit (.bool false)], args := [d1, d2] }
  | _ => none }
def ReadingEndsWrongFalsely : Prop := readingEndsRow.holds Try.pinned (OpenSpec.ofChange readingEndsWrong)

/-- 'foolscaplaw06.ReadingStart': WHATEVER THE INPUT: true; the input reads as it did. -/
def readingStartSpec : ChangeSpec := { name := "readingStart", fn := fun _ => fun
  | [d1, d2] => { results := [.lit (.bool true)], args := [d1, d2] }
  | _ => none }
def readingStartRow : OpenClaim := { program := "ytphgjppeindbaaa", sum := "f1428b2ddc1da6a1cba445b1fdabe779a751f36f26be8e91524293900bb04f03", func := "foolscap/foolscaplaw06.ReadingStart", spec := "readingStart", unfollowed := true, recurses := true, loops := true, apart := false }
def ReadingStartSaid : Prop := readingStartRow.holds Try.pinned (OpenSpec.ofChange readingStartSpec)

/-- ITS FALSE NEIGHBOUR: 'it returns false'. Refute it at one input. -/
def readingStartWrong : ChangeSpec := { name := "readingStart", fn := fun _ => fun
  | [d1, d2] => { results := [.lit (.bool false)], args := [d1, d2] }
  | _ => none }
def ReadingStartWrongFalsely : Prop := readingStartRow.holds Try.pinned (OpenSpec.ofChange readingStartWrong)

/-- 'foolscaplaw06.ReadingTurned': WHATEVER THE INPUT: true; the input reads as it did. -/
def readingTurnedSpec : ChangeSpec := { name := "readingTurned", fn := fun _ => fun
  | [d1, d2] => { results := [.lit (.bool true)], args := [d1, d2] }
  | _ => none }
def readingTurnedRow : OpenClaim := { program := "ytphgjppeindbaaa", sum := "f1428b2ddc1da6a1cba445b1fdabe779a751f36f26be8e91524293900bb04f03", func := "foolscap/foolscaplaw06.ReadingTurned", spec := "readingTurned", unfollowed := true, recurses := true, loops := true, apart := false }
def ReadingTurnedSaid : Prop := readingTurnedRow.holds Try.pinned (OpenSpec.ofChange readingTurnedSpec)

/-- ITS FALSE NEIGHBOUR: 'it returns false'. Refute it at one input. -/
def readingTurnedWrong : ChangeSpec := { name := "readingTurned", fn := fun _ => fun
  | [d1, d2] => { results := [.lit (.bool false)], args := [d1, d2] }
  | _ => none }
def ReadingTurnedWrongFalsely : Prop := readingTurnedRow.holds Try.pinned (OpenSpec.ofChange readingTurnedWrong)

/-- 'foolscaplaw06.ReadingLeft': WHATEVER THE INPUT: true; the input reads as it did. -/
def readingLeftSpec : ChangeSpec := { name := "readingLeft", fn := fun _ => fun
  | [d1, d2, d3] => { results := [.lit (.bool true)], args := [d1, d2, d3] }
  | _ => none }
def readingLeftRow : OpenClaim := { program := "ytphgjppeindbaaa", sum := "f1428b2ddc1da6a1cba445b1fdabe779a751f36f26be8e91524293900bb04f03", func := "foolscap/foolscaplaw06.ReadingLeft", spec := "readingLeft", unfollowed := true, recurses := true, loops := true, apart := false }
def ReadingLeftSaid : Prop := readingLeftRow.holds Try.pinned (OpenSpec.ofChange readingLeftSpec)

/-- ITS FALSE NEIGHBOUR: 'it returns false'. Refute it at one input. -/
def readingLeftWrong : ChangeSpec := { name := "readingLeft", fn := fun _ => fun
  | [d1, d2, d3] => { results := [.lit (.bool false)], args := [d1, d2, d3] }
  | _ => none }
def ReadingLeftWrongFalsely : Prop := readingLeftRow.holds Try.pinned (OpenSpec.ofChange readingLeftWrong)

/-- 'foolscaplaw06.ReadingParts': WHATEVER THE INPUT: true; the input reads as it did. -/
def readingPartsSpec : ChangeSpec := { name := "readingParts", fn := fun _ => fun
  | [d1, d2, d3, d4] => { results := [.lit (.bool true)], args := [d1, d2, d3, d4] }
  | _ => none }
def readingPartsRow : OpenClaim := { program := "ytphgjppeindbaaa", sum := "f1428b2ddc1da6a1cba445b1fdabe779a751f36f26be8e91524293900bb04f03", func := "foolscap/foolscaplaw06.ReadingParts", spec := "readingParts", unfollowed := true, recurses := true, loops := true, apart := false }
def ReadingPartsSaid : Prop := readingPartsRow.holds Try.pinned (OpenSpec.ofChange readingPartsSpec)

/-- ITS FALSE NEIGHBOUR: 'it returns false'. Refute it at one input. -/
def readingPartsWrong : ChangeSpec := { name := "readingParts", fn := fun _ => fun
  | [d1, d2, d3, d4] => { results := [.lit (.bool false)], args := [d1, d2, d3, d4] }
  | _ => none }
def ReadingPartsWrongFalsely : Prop := readingPartsRow.holds Try.pinned (OpenSpec.ofChange readingPartsWrong)

/-- 'foolscaplaw06.ReadingSame': WHATEVER THE INPUT: true; the input reads as it did. -/
def readingSameSpec : ChangeSpec := { name := "readingSame", fn := fun _ => fun
  | [d1, d2, d3] => { results := [.lit (.bool true)], args := [d1, d2, d3] }
  | _ => none }
def readingSameRow : OpenClaim := { program := "ytphgjppeindbaaa", sum := "f1428b2ddc1da6a1cba445b1fdabe779a751f36f26be8e91524293900bb04f03", func := "foolscap/foolscaplaw06.ReadingSame", spec := "readingSame", unfollowed := true, recurses := true, loops := true, apart := false }
def ReadingSameSaid : Prop := readingSameRow.holds Try.pinned (OpenSpec.ofChange readingSameSpec)

/-- ITS FALSE NEIGHBOUR: 'it returns false'. Refute it at one input. -/
def readingSameWrong : ChangeSpec := { name := "readingSame", fn := fun _ => fun
  | [d1, d2, d3] => { results := [.lit (.bool false)], args := [d1, d2, d3] }
  | _ => none }
def ReadingSameWrongFalsely : Prop := readingSameRow.holds Try.pinned (OpenSpec.ofChange readingSameWrong)

/- THE SECOND FORM. 'bulk': how many values and letters a reading holds, each counted each time it is reached (what is shared counts as often as it is met; a slice's spare places count too). A statement '..UptoSaid' is the law's where the arguments, and the package variables that the reading takes, are together of bulk at most 1048576: NARROWER than '..Said'. Prove '..Said' where nothing that the law and all that it calls make is longer than what came in: it says more and counts as full. Else prove '..UptoSaid'. A law counts once. -/
mutual
def uptoBulk {H : Type} : DataW H → Nat
  | .lit (.string bytes) => bytes.length + 1
  | .lit _ => 1
  | .nil => 1
  | .ptr d => uptoBulk d + 1
  | .slice elems spare => uptoBulkAll elems + uptoBulkAll spare + 1
  | .agg parts => uptoBulkAll parts + 1
  | .iface _ d => uptoBulk d + 1
  | .map entries => uptoBulkEntries entries + 1
  | .held _ => 1
def uptoBulkAll {H : Type} : List (DataW H) → Nat
  | [] => 0
  | d :: r => uptoBulk d + uptoBulkAll r
def uptoBulkEntries {H : Type} : List (Lit × DataW H) → Nat
  | [] => 0
  | x :: r => uptoBulkEntry x + uptoBulkEntries r
def uptoBulkEntry {H : Type} : Lit × DataW H → Nat
  | (.string bytes, d) => bytes.length + uptoBulk d + 1
  | (_, d) => uptoBulk d + 1
 end
def uptoSmall : (H : Type) → List (DataW H) → Bool := fun _ ds => decide (uptoBulkAll ds ≤ 1048576)
def OpenSpec.upto (s : _root_.Go.ChangeSpec) : _root_.Go.OpenSpec := { _root_.Go.OpenSpec.ofChange s with cond := some uptoSmall }

/-- 'foolscaplaw06.ReadingTells', WHERE WHAT IT READS IS OF BULK AT MOST 1048576: true; the input reads as it did. -/
def readingTellsUptoRow : OpenClaim := { program := "ytphgjppeindbaaa", sum := "f1428b2ddc1da6a1cba445b1fdabe779a751f36f26be8e91524293900bb04f03", func := "foolscap/foolscaplaw06.ReadingTells", spec := "readingTells", unfollowed := true, recurses := true, loops := true, apart := false, narrowed := true }
def ReadingTellsUptoSaid : Prop := readingTellsUptoRow.holds Try.pinned (OpenSpec.upto readingTellsSpec)

/-- 'foolscaplaw06.ReadingFirst', WHERE WHAT IT READS IS OF BULK AT MOST 1048576: true; the input reads as it did. -/
def readingFirstUptoRow : OpenClaim := { program := "ytphgjppeindbaaa", sum := "f1428b2ddc1da6a1cba445b1fdabe779a751f36f26be8e91524293900bb04f03", func := "foolscap/foolscaplaw06.ReadingFirst", spec := "readingFirst", unfollowed := true, recurses := true, loops := true, apart := false, narrowed := true }
def ReadingFirstUptoSaid : Prop := readingFirstUptoRow.holds Try.pinned (OpenSpec.upto readingFirstSpec)

/-- 'foolscaplaw06.ReadingEnds', WHERE WHAT IT READS IS OF BULK AT MOST 1048576: true; the input reads as it did. -/
def readingEndsUptoRow : OpenClaim := { program := "ytphgjppeindbaaa", sum := "f1428b2ddc1da6a1cba445b1fdabe779a751f36f26be8e91524293900bb04f03", func := "foolscap/foolscaplaw06.ReadingEnds", spec := "readingEnds", unfollowed := true, recurses := true, loops := true, apart := false, narrowed := true }
def ReadingEndsUptoSaid : Prop := readingEndsUptoRow.holds Try.pinned (OpenSpec.upto readingEndsSpec)

/-- 'foolscaplaw06.ReadingStart', WHERE WHAT IT READS IS OF BULK AT MOST 1048576: true; the input reads as it did. -/
def readingStartUptoRow : OpenClaim := { program := "ytphgjppeindbaaa", sum := "f1428b2ddc1da6a1cba445b1fdabe779a751f36f26be8e91524293900bb04f03", func := "foolscap/foolscaplaw06.ReadingStart", spec := "readingStart", unfollowed := true, recurses := true, loops := true, apart := false, narrowed := true }
def ReadingStartUptoSaid : Prop := readingStartUptoRow.holds Try.pinned (OpenSpec.upto readingStartSpec)

/-- 'foolscaplaw06.ReadingTurned', WHERE WHAT IT READS IS OF BULK AT MOST 1048576: true; the input reads as it did. -/
def readingTurnedUptoRow : OpenClaim := { program := "ytphgjppeindbaaa", sum := "f1428b2ddc1da6a1cba445b1fdabe779a751f36f26be8e91524293900bb04f03", func := "foolscap/foolscaplaw06.ReadingTurned", spec := "readingTurned", unfollowed := true, recurses := true, loops := true, apart := false, narrowed := true }
def ReadingTurnedUptoSaid : Prop := readingTurnedUptoRow.holds Try.pinned (OpenSpec.upto readingTurnedSpec)

/-- 'foolscaplaw06.ReadingLeft', WHERE WHAT IT READS IS OF BULK AT MOST 1048576: true; the input reads as it did. -/
def readingLeftUptoRow : OpenClaim := { program := "ytphgjppeindbaaa", sum := "f1428b2ddc1da6a1cba445b1fdabe779a751f36f26be8e91524293900bb04f03", func := "foolscap/foolscaplaw06.ReadingLeft", spec := "readingLeft", unfollowed := true, recurses := true, loops := true, apart := false, narrowed := true }
def ReadingLeftUptoSaid : Prop := readingLeftUptoRow.holds Try.pinned (OpenSpec.upto readingLeftSpec)

/-- 'foolscaplaw06.ReadingParts', WHERE WHAT IT READS IS OF BULK AT MOST 1048576: true; the input reads as it did. -/
def readingPartsUptoRow : OpenClaim := { program := "ytphgjppeindbaaa", sum := "f1428b2ddc1da6a1cba445b1fdabe779a751f36f26be8e91524293900bb04f03", func := "foolscap/foolscaplaw06.ReadingParts", spec := "readingParts", unfollowed := true, recurses := true, loops := true, apart := false, narrowed := true }
def ReadingPartsUptoSaid : Prop := readingPartsUptoRow.holds Try.pinned (OpenSpec.upto readingPartsSpec)

/-- 'foolscaplaw06.ReadingSame', WHERE WHAT IT READS IS OF BULK AT MOST 1048576: true; the input reads as it did. -/
def readingSameUptoRow : OpenClaim := { program := "ytphgjppeindbaaa", sum := "f1428b2ddc1da6a1cba445b1fdabe779a751f36f26be8e91524293900bb04f03", func := "foolscap/foolscaplaw06.ReadingSame", spec := "readingSame", unfollowed := true, recurses := true, loops := true, apart := false, narrowed := true }
def ReadingSameUptoSaid : Prop := readingSameUptoRow.holds Try.pinned (OpenSpec.upto readingSameSpec)

end Rows
end Go.Proofs.Ytphgjppeindbaaa
