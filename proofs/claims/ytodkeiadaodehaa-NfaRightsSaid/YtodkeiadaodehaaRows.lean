/-
  NARROWER THAN 'FOR EVERY INPUT', by the rows' own cells (each row's printed sentence says how): NfaMatches: loops · NfaBuilds: loops · NfaFlat: loops · NfaRights: loops · NfaTurned: loops.
  DERIVED. THE GIVEN ROWS OF THIS SEAT. 6 by the template 'for every input the law returns true; each argument reads behind the call as it read before'; 0 by the template 'total and deterministic' (their statements: YtodkeiadaodehaaTotals.lean).
  GIVEN WITH THE SEED: the statements are not yours to turn. If you find one false, say at which input.
  Laid BY PROGRAM, IN A SANDBOX (cutbox-rows.mjs): the forced cells as the released guide's own fill.sh prints them over the translation fc1b46bb90b9022c… (all of the seat's roots in one cut). By AI agents, Wed Nov 11 2026. No macro, syntax, notation, axiom, sorry.
-/
import Derived.Test.YtodkeiadaodehaaChecked
import GoSem.Claim
import GoSem.ClaimJoined
import GoSem.ClaimMapViews
import Derived.JoinedTies
import Derived.KernelRfl
namespace Go.Proofs.Ytodkeiadaodehaa
/- THE CELL 'sum', in the pinned program and in every row, IS THE sha256 OF THE DUMP (.gsa) THAT YtodkeiadaodehaaProg.lean LOADS. Nothing in Lean hashes anything: it is a label: what it is worth is what the hold of that sum in a sandbox is worth. -/
noncomputable def Try.pinned : Pinned := { name := "ytodkeiadaodehaa", sum := "fc1b46bb90b9022cc818754f50837e8e281c1316258fb1809fbd5d2c59db1f04", checked := Try.checked }
namespace Rows
def none {H : Type} : Left H := { results := [], args := [] }

/-- 'foolscaplaw07.NfaMatches': WHATEVER THE INPUT: true; the input reads as it did. -/
def nfaMatchesSpec : ChangeSpec := { name := "nfaMatches", fn := fun _ => fun
  | [d1, d2] => { results := [.lit (.bool true)], args := [d1, d2] }
  | _ => none }
def nfaMatchesRow : OpenClaim := { program := "ytodkeiadaodehaa", sum := "fc1b46bb90b9022cc818754f50837e8e281c1316258fb1809fbd5d2c59db1f04", func := "foolscap/foolscaplaw07.NfaMatches", spec := "nfaMatches", unfollowed := true, recurses := true, loops := true, apart := false }
def NfaMatchesSaid : Prop := nfaMatchesRow.holds Try.pinned (OpenSpec.ofChange nfaMatchesSpec)

/-- ITS FALSE NEIGHBOUR: 'it returns false'. Refute it at one input. -/
def nfaMatchesWrong : ChangeSpec := { name := "nfaMatches", fn := fun _ => fun
  | [d1, d2] => { results := [.lit (.bool false)], args := [d1, d2] }
  | _ => none }
def NfaMatchesWrongFalsely : Prop := nfaMatchesRow.holds Try.pinned (OpenSpec.ofChange nfaMatchesWrong)

/-- 'foolscaplaw07.NfaBuilds': WHATEVER THE INPUT: true; the input reads as it did. -/
def nfaBuildsSpec : ChangeSpec := { name := "nfaBuilds", fn := fun _ => fun
  | [d1, d2, d3] => { results := [.lit (.bool true)], args := [d1, d2, d3] }
  | _ => none }
def nfaBuildsRow : OpenClaim := { program := "ytodkeiadaodehaa", sum := "fc1b46bb90b9022cc818754f50837e8e281c1316258fb1809fbd5d2c59db1f04", func := "foolscap/foolscaplaw07.NfaBuilds", spec := "nfaBuilds", unfollowed := true, recurses := true, loops := true, apart := false }
def NfaBuildsSaid : Prop := nfaBuildsRow.holds Try.pinned (OpenSpec.ofChange nfaBuildsSpec)

/-- ITS FALSE NEIGHBOUR: 'it returns false'. Refute it at one input. -/
def nfaBuildsWrong : ChangeSpec := { name := "nfaBuilds", fn := fun _ => fun
  | [d1, d2, d3] => { results := [.lit (.bool false)], args := [d1, d2, d3] }
  | _ => none }
def NfaBuildsWrongFalsely : Prop := nfaBuildsRow.holds Try.pinned (OpenSpec.ofChange nfaBuildsWrong)

/-- 'foolscaplaw07.NfaFlat': WHATEVER THE INPUT: true; the input reads as it did. -/
def nfaFlatSpec : ChangeSpec := { name := "nfaFlat", fn := fun _ => fun
  | [d1, d2, d3, d4] => { results := [.lit (.bool true)], args := [d1, d2, d3, d4] }
  | _ => none }
def nfaFlatRow : OpenClaim := { program := "ytodkeiadaodehaa", sum := "fc1b46bb90b9022cc818754f50837e8e281c1316258fb1809fbd5d2c59db1f04", func := "foolscap/foolscaplaw07.NfaFlat", spec := "nfaFlat", unfollowed := true, recurses := true, loops := true, apart := false }
def NfaFlatSaid : Prop := nfaFlatRow.holds Try.pinned (OpenSpec.ofChange nfaFlatSpec)

/-- ITS FALSE NEIGHBOUR: 'it returns false'. Refute it at one input. -/
def nfaFlatWrong : ChangeSpec := { name := "nfaFlat", fn := fun _ => fun
  | [d1, d2, d3, d4] => { results := [.lit (.bool false)], args := [d1, d2, d3, d4] }
  | _ => none }
def NfaFlatWrongFalsely : Prop := nfaFlatRow.holds Try.pinned (OpenSpec.ofChange nfaFlatWrong)

/-- 'foolscaplaw07.NfaSets': WHATEVER THE INPUT: true; the input reads as it did. -/
def nfaSetsSpec : ChangeSpec := { name := "nfaSets", fn := fun _ => fun
  | [d1, d2] => { results := [.lit (.bool true)], args := [d1, d2] }
  | _ => none }
def nfaSetsRow : OpenClaim := { program := "ytodkeiadaodehaa", sum := "fc1b46bb90b9022cc818754f50837e8e281c1316258fb1809fbd5d2c59db1f04", func := "foolscap/foolscaplaw07.NfaSets", spec := "nfaSets", unfollowed := true, recurses := true, apart := false }
def NfaSetsSaid : Prop := nfaSetsRow.holds Try.pinned (OpenSpec.ofChange nfaSetsSpec)

/-- ITS FALSE NEIGHBOUR: 'it returns false'. Refute it at one input. -/
def nfaSetsWrong : ChangeSpec := { name := "nfaSets", fn := fun _ => fun
  | [d1, d2] => { results := [.lit (.bool false)], args := [d1, d2] }
  | _ => none }
def NfaSetsWrongFalsely : Prop := nfaSetsRow.holds Try.pinned (OpenSpec.ofChange nfaSetsWrong)

/-- 'foolscaplaw07.NfaRights': WHATEVER THE INPUT: true; the input reads as it did. -/
def nfaRightsSpec : ChangeSpec := { name := "nfaRights", fn := fun _ => fun
  | [d] => { results := [.lit (.bool true)], args := [d] }
  | _ => none }
def nfaRightsRow : OpenClaim := { program := "ytodkeiadaodehaa", sum := "fc1b46bb90b9022cc818754f50837e8e281c1316258fb1809fbd5d2c59db1f04", func := "foolscap/foolscaplaw07.NfaRights", spec := "nfaRights", unfollowed := true, recurses := true, loops := true, apart := false }
def NfaRightsSaid : Prop := nfaRightsRow.holds Try.pinned (OpenSpec.ofChange nfaRightsSpec)

/-- ITS FALSE NEIGHBOUR: 'it returns false'. Refute it at one input. -/
def nfaRightsWrong : ChangeSpec := { name := "nfaRights", fn := fun _ => fun
  | [d] => { results := [.lit (.bool false)], args := [d] }
  | _ => none }
def NfaRightsWrongFalsely : Prop := nfaRightsRow.holds Try.pinned (OpenSpec.ofChange nfaRightsWrong)

/-- 'foolscaplaw07.NfaTurned': WHATEVER THE INPUT: true; the input reads as it did. -/
def nfaTurnedSpec : ChangeSpec := { name := "nfaTurned", fn := fun _ => fun
  | [d1, d2] => { results := [.lit (.bool true)], args := [d1, d2] }
  | _ => none }
def nfaTurnedRow : OpenClaim := { program := "ytodkeiadaodehaa", sum := "fc1b46bb90b9022cc818754f50837e8e281c1316258fb1809fbd5d2c59db1f04", func := "foolscap/foolscaplaw07.NfaTurned", spec := "nfaTurned", unfollowed := true, recurses := true, loops := true, apart := false }
def NfaTurnedSaid : Prop := nfaTurnedRow.holds Try.pinned (OpenSpec.ofChange nfaTurnedSpec)

/-- ITS FALSE NEIGHBOUR: 'it returns false'. Refute it at one input. -/
def nfaTurnedWrong : ChangeSpec := { name := "nfaTurned", fn := fun _ => fun
  | [d1, d2] => { results := [.lit (.bool false)], args := [d1, d2] }
  | _ => none }
def NfaTurnedWrongFalsely : Prop := nfaTurnedRow.holds Try.pinned (OpenSpec.ofChange nfaTurnedWrong)

/- THE SECOND FORM. 'bulk': how many values and letters a reading holds, each counted each time it is reached (what is shared counts as often as it is met; a slice's spare places count too). A statement '..UptoSaid' is the law's where the arguments, and the package variables that the reading takes, are together of bulk at most 1048576: NARROWER than '..Said'. Prove '..Said' where nothing that the law and all that it calls make is longer than what came in: it says more and counts as full. Else prove '..UptoSaid'. A law counts once. -/
mutual
def uptoBulk {H : Type} : DataW H → Nat
  | .lit (.string bytes) => bytes.length + 1
  | .lit _ => 1
  | .nil => 1
  | .ptr d => uptoBulk d + 1
  | .slice elems spare => uptoBulkAll elems + uptoBulkAll spare + 1
  | .agg parts => uptoBulkAll parts + 1
  | .iface _ d => uptoBulk d + 1
  | .map entries => uptoBulkEntries entries + 1
  | .held _ => 1
def uptoBulkAll {H : Type} : List (DataW H) → Nat
  | [] => 0
  | d :: r => uptoBulk d + uptoBulkAll r
def uptoBulkEntries {H : Type} : List (Lit × DataW H) → Nat
  | [] => 0
  | x :: r => uptoBulkEntry x + uptoBulkEntries r
def uptoBulkEntry {H : Type} : Lit × DataW H → Nat
  | (.string bytes, d) => bytes.length + uptoBulk d + 1
  | (_, d) => uptoBulk d + 1
 end
def uptoSmall : (H : Type) → List (DataW H) → Bool := fun _ ds => decide (uptoBulkAll ds ≤ 1048576)
def OpenSpec.upto (s : _root_.Go.ChangeSpec) : _root_.Go.OpenSpec := { _root_.Go.OpenSpec.ofChange s with cond := some uptoSmall }

/-- 'foolscaplaw07.NfaMatches', WHERE WHAT IT READS IS OF BULK AT MOST 1048576: true; the input reads as it did. -/
def nfaMatchesUptoRow : OpenClaim := { program := "ytodkeiadaodehaa", sum := "fc1b46bb90b9022cc818754f50837e8e281c1316258fb1809fbd5d2c59db1f04", func := "foolscap/foolscaplaw07.NfaMatches", spec := "nfaMatches", unfollowed := true, recurses := true, loops := true, apart := false, narrowed := true }
def NfaMatchesUptoSaid : Prop := nfaMatchesUptoRow.holds Try.pinned (OpenSpec.upto nfaMatchesSpec)

/-- 'foolscaplaw07.NfaBuilds', WHERE WHAT IT READS IS OF BULK AT MOST 1048576: true; the input reads as it did. -/
def nfaBuildsUptoRow : OpenClaim := { program := "ytodkeiadaodehaa", sum := "fc1b46bb90b9022cc818754f50837e8e281c1316258fb1809fbd5d2c59db1f04", func := "foolscap/foolscaplaw07.NfaBuilds", spec := "nfaBuilds", unfollowed := true, recurses := true, loops := true, apart := false, narrowed := true }
def NfaBuildsUptoSaid : Prop := nfaBuildsUptoRow.holds Try.pinned (OpenSpec.upto nfaBuildsSpec)

/-- 'foolscaplaw07.NfaFlat', WHERE WHAT IT READS IS OF BULK AT MOST 1048576: true; the input reads as it did. -/
def nfaFlatUptoRow : OpenClaim := { program := "ytodkeiadaodehaa", sum := "fc1b46bb90b9022cc818754f50837e8e281c1316258fb1809fbd5d2c59db1f04", func := "foolscap/foolscaplaw07.NfaFlat", spec := "nfaFlat", unfollowed := true, recurses := true, loops := true, apart := false, narrowed := true }
def NfaFlatUptoSaid : Prop := nfaFlatUptoRow.holds Try.pinned (OpenSpec.upto nfaFlatSpec)

/-- 'foolscaplaw07.NfaSets', WHERE WHAT IT READS IS OF BULK AT MOST 1048576: true; the input reads as it did. -/
def nfaSetsUptoRow : OpenClaim := { program := "ytodkeiadaodehaa", sum := "fc1b46bb90b9022cc818754f50837e8e281c1316258fb1809fbd5d2c59db1f04", func := "foolscap/foolscaplaw07.NfaSets", spec := "nfaSets", unfollowed := true, recurses := true, apart := false, narrowed := true }
def NfaSetsUptoSaid : Prop := nfaSetsUptoRow.holds Try.pinned (OpenSpec.upto nfaSetsSpec)

/-- 'foolscaplaw07.NfaRights', WHERE WHAT IT READS IS OF BULK AT MOST 1048576: true; the input reads as it did. -/
def nfaRightsUptoRow : OpenClaim := { program := "ytodkeiadaodehaa", sum := "fc1b46bb90b9022cc818754f50837e8e281c1316258fb1809fbd5d2c59db1f04", func := "foolscap/foolscaplaw07.NfaRights", spec := "nfaRights", unfollowed := true, recurses := true, loops := true, apart := false, narrowed := true }
def NfaRightsUptoSaid : Prop := nfaRightsUptoRow.holds Try.pinned (OpenSpec.upto nfaRightsSpec)

/-- 'foolscaplaw07.NfaTurned', WHERE WHAT IT READS IS OF BULK AT MOST 1048576: true; the input reads as it did. -/
def nfaTurnedUptoRow : OpenClaim := { program := "ytodkeiadaodehaa", sum := "fc1b46bb90b9022cc818754f50837e8e281c1316258fb1809fbd5d2c59db1f04", func := "foolscap/foolscaplaw07.NfaTurned", spec := "nfaTurned", unfollowed := true, recurses := true, loops := true, apart := false, narrowed := true }
def NfaTurnedUptoSaid : Prop := nfaTurnedUptoRow.holds Try.pinned (OpenSpec.upto nfaTurnedSpec)

end Rows
end Go.Proofs.Ytodkeiadaodehaa
