/-
  NARROWER THAN 'FOR EVERY INPUT', by the rows' own cells (each row's printed sentence says how): DfaBuilds: loops · DfaLeast: loops · DfaEqual: loops · DfaMore: loops · DfaRuns: loops · DfaTurns: loops · DfaEither: loops · DfaBeginnings: loops.
  DERIVED. THE GIVEN ROWS OF THIS SEAT. 9 by the template 'for every input the law returns true; each argument reads behind the call as it read before'; 0 by the template 'total and deterministic' (their statements: YteamokljlcnicaaTotals.lean).
  GIVEN WITH THE SEED: the statements are not yours to turn. If you find one false, say at which input.
  Laid BY PROGRAM, IN A SANDBOX (cutbox-rows.mjs): the forced cells as the released guide's own fill.sh prints them over the translation 3db26a679e4775ab… (all of the seat's roots in one cut). By AI agents, Wed Nov 11 2026. No macro, syntax, notation, axiom, sorry.
-/
import Derived.Test.YteamokljlcnicaaChecked
import GoSem.Claim
import GoSem.ClaimJoined
import GoSem.ClaimMapViews
import Derived.JoinedTies
import Derived.KernelRfl
namespace Go.Proofs.Yteamokljlcnicaa
/- THE CELL 'sum', in the pinned program and in every row, IS THE sha256 OF THE DUMP (.gsa) THAT YteamokljlcnicaaProg.lean LOADS. Nothing in Lean hashes anything: it is a label: what it is worth is what the hold of that sum in a sandbox is worth. -/
noncomputable def Try.pinned : Pinned := { name := "yteamokljlcnicaa", sum := "3db26a679e4775ab6fb2da736a801dbd1c3f8df8affe116b36faac713646eebe", checked := Try.checked }
namespace Rows
def none {H : Type} : Left H := { results := [], args := [] }

/-- 'foolscaplaw08.DfaBuilds': WHATEVER THE INPUT: true; the input reads as it did. -/
def dfaBuildsSpec : ChangeSpec := { name := "dfaBuilds", fn := fun _ => fun
  | [d1, d2] => { results := [.lit (.bool true)], args := [d1, d2] }
  | _ => none }
def dfaBuildsRow : OpenClaim := { program := "yteamokljlcnicaa", sum := "3db26a679e4775ab6fb2da736a801dbd1c3f8df8affe116b36faac713646eebe", func := "foolscap/foolscaplaw08.DfaBuilds", spec := "dfaBuilds", unfollowed := true, recurses := true, loops := true, apart := false }
def DfaBuildsSaid : Prop := dfaBuildsRow.holds Try.pinned (OpenSpec.ofChange dfaBuildsSpec)

/-- ITS FALSE NEIGHBOUR: 'it returns false'. Refute it at one input. -/
def dfaBuildsWrong : ChangeSpec := { name := "dfaBuilds", fn := fun _ => fun
  | [d1, d2] => { results := [.lit (.bool false)], args := [d1, d2] }
  | _ => none }
def DfaBuildsWrongFalsely : Prop := dfaBuildsRow.holds Try.pinned (OpenSpec.ofChange dfaBuildsWrong)

/-- 'foolscaplaw08.DfaLeast': WHATEVER THE INPUT: true; the input reads as it did. -/
def dfaLeastSpec : ChangeSpec := { name := "dfaLeast", fn := fun _ => fun
  | [d1, d2] => { results := [.lit (.bool true)], args := [d1, d2] }
  | _ => none }
def dfaLeastRow : OpenClaim := { program := "yteamokljlcnicaa", sum := "3db26a679e4775ab6fb2da736a801dbd1c3f8df8affe116b36faac713646eebe", func := "foolscap/foolscaplaw08.DfaLeast", spec := "dfaLeast", unfollowed := true, recurses := true, loops := true, apart := false }
def DfaLeastSaid : Prop := dfaLeastRow.holds Try.pinned (OpenSpec.ofChange dfaLeastSpec)

/-- ITS FALSE NEIGHBOUR: 'it returns false'. Refute it at one input. -/
def dfaLeastWrong : ChangeSpec := { name := "dfaLeast", fn := fun _ => fun
  | [d1, d2] => { results := [.lit (.bool false)], args := [d1, d2] }
  | _ => none }
def DfaLeastWrongFalsely : Prop := dfaLeastRow.holds Try.pinned (OpenSpec.ofChange dfaLeastWrong)

/-- 'foolscaplaw08.DfaEqual': WHATEVER THE INPUT: true; the input reads as it did. -/
def dfaEqualSpec : ChangeSpec := { name := "dfaEqual", fn := fun _ => fun
  | [d1, d2] => { results := [.lit (.bool true)], args := [d1, d2] }
  | _ => none }
def dfaEqualRow : OpenClaim := { program := "yteamokljlcnicaa", sum := "3db26a679e4775ab6fb2da736a801dbd1c3f8df8affe116b36faac713646eebe", func := "foolscap/foolscaplaw08.DfaEqual", spec := "dfaEqual", unfollowed := true, recurses := true, loops := true, apart := false }
def DfaEqualSaid : Prop := dfaEqualRow.holds Try.pinned (OpenSpec.ofChange dfaEqualSpec)

/-- ITS FALSE NEIGHBOUR: 'it returns false'. Refute it at one input. -/
def dfaEqualWrong : ChangeSpec := { name := "dfaEqual", fn := fun _ => fun
  | [d1, d2] => { results := [.lit (.bool false)], args := [d1, d2] }
  | _ => none }
def DfaEqualWrongFalsely : Prop := dfaEqualRow.holds Try.pinned (OpenSpec.ofChange dfaEqualWrong)

/-- 'foolscaplaw08.DfaLimits': WHATEVER THE INPUT: true; the input reads as it did. -/
def dfaLimitsSpec : ChangeSpec := { name := "dfaLimits", fn := fun _ => fun
  | [d] => { results := [.lit (.bool true)], args := [d] }
  | _ => none }
def dfaLimitsRow : OpenClaim := { program := "yteamokljlcnicaa", sum := "3db26a679e4775ab6fb2da736a801dbd1c3f8df8affe116b36faac713646eebe", func := "foolscap/foolscaplaw08.DfaLimits", spec := "dfaLimits", unfollowed := true, recurses := true, apart := false }
def DfaLimitsSaid : Prop := dfaLimitsRow.holds Try.pinned (OpenSpec.ofChange dfaLimitsSpec)

/-- ITS FALSE NEIGHBOUR: 'it returns false'. Refute it at one input. -/
def dfaLimitsWrong : ChangeSpec := { name := "dfaLimits", fn := fun _ => fun
  | [d] => { results := [.lit (.bool false)], args := [d] }
  | _ => none }
def DfaLimitsWrongFalsely : Prop := dfaLimitsRow.holds Try.pinned (OpenSpec.ofChange dfaLimitsWrong)

/-- 'foolscaplaw08.DfaMore': WHATEVER THE INPUT: true; the input reads as it did. -/
def dfaMoreSpec : ChangeSpec := { name := "dfaMore", fn := fun _ => fun
  | [d1, d2] => { results := [.lit (.bool true)], args := [d1, d2] }
  | _ => none }
def dfaMoreRow : OpenClaim := { program := "yteamokljlcnicaa", sum := "3db26a679e4775ab6fb2da736a801dbd1c3f8df8affe116b36faac713646eebe", func := "foolscap/foolscaplaw08.DfaMore", spec := "dfaMore", unfollowed := true, recurses := true, loops := true, apart := false }
def DfaMoreSaid : Prop := dfaMoreRow.holds Try.pinned (OpenSpec.ofChange dfaMoreSpec)

/-- ITS FALSE NEIGHBOUR: 'it returns false'. Refute it at one input. -/
def dfaMoreWrong : ChangeSpec := { name := "dfaMore", fn := fun _ => fun
  | [d1, d2] => { results := [.lit (.bool false)], args := [d1, d2] }
  | _ => none }
def DfaMoreWrongFalsely : Prop := dfaMoreRow.holds Try.pinned (OpenSpec.ofChange dfaMoreWrong)

/-- 'foolscaplaw08.DfaRuns': WHATEVER THE INPUT: true; the input reads as it did. -/
def dfaRunsSpec : ChangeSpec := { name := "dfaRuns", fn := fun _ => fun
  | [d1, d2, d3] => { results := [.lit (.bool true)], args := [d1, d2, d3] }
  | _ => none }
def dfaRunsRow : OpenClaim := { program := "yteamokljlcnicaa", sum := "3db26a679e4775ab6fb2da736a801dbd1c3f8df8affe116b36faac713646eebe", func := "foolscap/foolscaplaw08.DfaRuns", spec := "dfaRuns", unfollowed := true, recurses := true, loops := true, apart := false }
def DfaRunsSaid : Prop := dfaRunsRow.holds Try.pinned (OpenSpec.ofChange dfaRunsSpec)

/-- ITS FALSE NEIGHBOUR: 'it returns false'. Refute it at one input. -/
def dfaRunsWrong : ChangeSpec := { name := "dfaRuns", fn := fun _ => fun
  | [d1, d2, d3] => { results := [.lit (.bool false)], args := [d1, d2, d3] }
  | _ => none }
def DfaRunsWrongFalsely : Prop := dfaRunsRow.holds Try.pinned (OpenSpec.ofChange dfaRunsWrong)

/-- 'foolscaplaw08.DfaTurns': WHATEVER THE INPUT: true; the input reads as it did. -/
def dfaTurnsSpec : ChangeSpec := { name := "dfaTurns", fn := fun _ => fun
  | [d1, d2, d3] => { results := [.lit (.bool true)], args := [d1, d2, d3] }
  | _ => none }
def dfaTurnsRow : OpenClaim := { program := "yteamokljlcnicaa", sum := "3db26a679e4775ab6fb2da736a801dbd1c3f8df8affe116b36faac713646eebe", func := "foolscap/foolscaplaw08.DfaTurns", spec := "dfaTurns", unfollowed := true, recurses := true, loops := true, apart := false }
def DfaTurnsSaid : Prop := dfaTurnsRow.holds Try.pinned (OpenSpec.ofChange dfaTurnsSpec)

/-- ITS FALSE NEIGHBOUR: 'it returns false'. Refute it at one input. -/
def dfaTurnsWrong : ChangeSpec := { name := "dfaTurns", fn := fun _ => fun
  | [d1, d2, d3] => { results := [.lit (.bool false)], args := [d1, d2, d3] }
  | _ => none }
def DfaTurnsWrongFalsely : Prop := dfaTurnsRow.holds Try.pinned (OpenSpec.ofChange dfaTurnsWrong)

/-- 'foolscaplaw08.DfaEither': WHATEVER THE INPUT: true; the input reads as it did. -/
def dfaEitherSpec : ChangeSpec := { name := "dfaEither", fn := fun _ => fun
  | [d1, d2, d3, d4] => { results := [.lit (.bool true)], args := [d1, d2, d3, d4] }
  | _ => none }
def dfaEitherRow : OpenClaim := { program := "yteamokljlcnicaa", sum := "3db26a679e4775ab6fb2da736a801dbd1c3f8df8affe116b36faac713646eebe", func := "foolscap/foolscaplaw08.DfaEither", spec := "dfaEither", unfollowed := true, recurses := true, loops := true, apart := false }
def DfaEitherSaid : Prop := dfaEitherRow.holds Try.pinned (OpenSpec.ofChange dfaEitherSpec)

/-- ITS FALSE NEIGHBOUR: 'it returns false'. Refute it at one input. -/
def dfaEitherWrong : ChangeSpec := { name := "dfaEither", fn := fun _ => fun
  | [d1, d2, d3, d4] => { results := [.lit (.bool false)], args := [d1, d2, d3, d4] }
  | _ => none }
def DfaEitherWrongFalsely : Prop := dfaEitherRow.holds Try.pinned (OpenSpec.ofChange dfaEitherWrong)

/-- 'foolscaplaw08.DfaBeginnings': WHATEVER THE INPUT: true; the input reads as it did. -/
def dfaBeginningsSpec : ChangeSpec := { name := "dfaBeginnings", fn := fun _ => fun
  | [d1, d2, d3, d4] => { results := [.lit (.bool true)], args := [d1, d2, d3, d4] }
  | _ => none }
def dfaBeginningsRow : OpenClaim := { program := "yteamokljlcnicaa", sum := "3db26a679e4775ab6fb2da736a801dbd1c3f8df8affe116b36faac713646eebe", func := "foolscap/foolscaplaw08.DfaBeginnings", spec := "dfaBeginnings", unfollowed := true, recurses := true, loops := true, apart := false }
def DfaBeginningsSaid : Prop := dfaBeginningsRow.holds Try.pinned (OpenSpec.ofChange dfaBeginningsSpec)

/-- ITS FALSE NEIGHBOUR: 'it returns false'. Refute it at one input. -/
def dfaBeginningsWrong : ChangeSpec := { name := "dfaBeginnings", fn := fun _ => fun
  | [d1, d2, d3, d4] => { results := [.lit (.bool false)], args := [d1, d2, d3, d4] }
  | _ => none }
def DfaBeginningsWrongFalsely : Prop := dfaBeginningsRow.holds Try.pinned (OpenSpec.ofChange dfaBeginningsWrong)

/- THE SECOND FORM. 'bulk': how many values and letters a reading holds, each counted each time it is reached (what is shared counts as often as it is met; a slice's spare places count too). A statement '..UptoSaid' is the law's where the arguments, and the package variables that the reading takes, are together of bulk at most 1048576: NARROWER than '..Said'. Prove '..Said' where nothing that the law and all that it calls make is longer than what came in: it says more and counts as full. Else prove '..UptoSaid'. A law counts once. -/
mutual
def uptoBulk {H : Type} : DataW H → Nat
  | .lit (.string bytes) => bytes.length + 1
  | .lit _ => 1
  | .nil => 1
  | .ptr d => uptoBulk d + 1
  | .slice elems spare => uptoBulkAll elems + uptoBulkAll spare + 1
  | .agg parts => uptoBulkAll parts + 1
  | .iface _ d => uptoBulk d + 1
  | .map entries => uptoBulkEntries entries + 1
  | .held _ => 1
def uptoBulkAll {H : Type} : List (DataW H) → Nat
  | [] => 0
  | d :: r => uptoBulk d + uptoBulkAll r
def uptoBulkEntries {H : Type} : List (Lit × DataW H) → Nat
  | [] => 0
  | x :: r => uptoBulkEntry x + uptoBulkEntries r
def uptoBulkEntry {H : Type} : Lit × DataW H → Nat
  | (.string bytes, d) => bytes.length + uptoBulk d + 1
  | (_, d) => uptoBulk d + 1
 end
def uptoSmall : (H : Type) → List (DataW H) → Bool := fun _ ds => decide (uptoBulkAll ds ≤ 1048576)
def OpenSpec.upto (s : _root_.Go.ChangeSpec) : _root_.Go.OpenSpec := { _root_.Go.OpenSpec.ofChange s with cond := some uptoSmall }

/-- 'foolscaplaw08.DfaBuilds', WHERE WHAT IT READS IS OF BULK AT MOST 1048576: true; the input reads as it did. -/
def dfaBuildsUptoRow : OpenClaim := { program := "yteamokljlcnicaa", sum := "3db26a679e4775ab6fb2da736a801dbd1c3f8df8affe116b36faac713646eebe", func := "foolscap/foolscaplaw08.DfaBuilds", spec := "dfaBuilds", unfollowed := true, recurses := true, loops := true, apart := false, narrowed := true }
def DfaBuildsUptoSaid : Prop := dfaBuildsUptoRow.holds Try.pinned (OpenSpec.upto dfaBuildsSpec)

/-- 'foolscaplaw08.DfaLeast', WHERE WHAT IT READS IS OF BULK AT MOST 1048576: true; the input reads as it did. -/
def dfaLeastUptoRow : OpenClaim := { program := "yteamokljlcnicaa", sum := "3db26a679e4775ab6fb2da736a801dbd1c3f8df8affe116b36faac713646eebe", func := "foolscap/foolscaplaw08.DfaLeast", spec := "dfaLeast", unfollowed := true, recurses := true, loops := true, apart := false, narrowed := true }
def DfaLeastUptoSaid : Prop := dfaLeastUptoRow.holds Try.pinned (OpenSpec.upto dfaLeastSpec)

/-- 'foolscaplaw08.DfaEqual', WHERE WHAT IT READS IS OF BULK AT MOST 1048576: true; the input reads as it did. -/
def dfaEqualUptoRow : OpenClaim := { program := "yteamokljlcnicaa", sum := "3db26a679e4775ab6fb2da736a801dbd1c3f8df8affe116b36faac713646eebe", func := "foolscap/foolscaplaw08.DfaEqual", spec := "dfaEqual", unfollowed := true, recurses := true, loops := true, apart := false, narrowed := true }
def DfaEqualUptoSaid : Prop := dfaEqualUptoRow.holds Try.pinned (OpenSpec.upto dfaEqualSpec)

/-- 'foolscaplaw08.DfaLimits', WHERE WHAT IT READS IS OF BULK AT MOST 1048576: true; the input reads as it did. -/
def dfaLimitsUptoRow : OpenClaim := { program := "yteamokljlcnicaa", sum := "3db26a679e4775ab6fb2da736a801dbd1c3f8df8affe116b36faac713646eebe", func := "foolscap/foolscaplaw08.DfaLimits", spec := "dfaLimits", unfollowed := true, recurses := true, apart := false, narrowed := true }
def DfaLimitsUptoSaid : Prop := dfaLimitsUptoRow.holds Try.pinned (OpenSpec.upto dfaLimitsSpec)

/-- 'foolscaplaw08.DfaMore', WHERE WHAT IT READS IS OF BULK AT MOST 1048576: true; the input reads as it did. -/
def dfaMoreUptoRow : OpenClaim := { program := "yteamokljlcnicaa", sum := "3db26a679e4775ab6fb2da736a801dbd1c3f8df8affe116b36faac713646eebe", func := "foolscap/foolscaplaw08.DfaMore", spec := "dfaMore", unfollowed := true, recurses := true, loops := true, apart := false, narrowed := true }
def DfaMoreUptoSaid : Prop := dfaMoreUptoRow.holds Try.pinned (OpenSpec.upto dfaMoreSpec)

/-- 'foolscaplaw08.DfaRuns', WHERE WHAT IT READS IS OF BULK AT MOST 1048576: true; the input reads as it did. -/
def dfaRunsUptoRow : OpenClaim := { program := "yteamokljlcnicaa", sum := "3db26a679e4775ab6fb2da736a801dbd1c3f8df8affe116b36faac713646eebe", func := "foolscap/foolscaplaw08.DfaRuns", spec := "dfaRuns", unfollowed := true, recurses := true, loops := true, apart := false, narrowed := true }
def DfaRunsUptoSaid : Prop := dfaRunsUptoRow.holds Try.pinned (OpenSpec.upto dfaRunsSpec)

/-- 'foolscaplaw08.DfaTurns', WHERE WHAT IT READS IS OF BULK AT MOST 1048576: true; the input reads as it did. -/
def dfaTurnsUptoRow : OpenClaim := { program := "yteamokljlcnicaa", sum := "3db26a679e4775ab6fb2da736a801dbd1c3f8df8affe116b36faac713646eebe", func := "foolscap/foolscaplaw08.DfaTurns", spec := "dfaTurns", unfollowed := true, recurses := true, loops := true, apart := false, narrowed := true }
def DfaTurnsUptoSaid : Prop := dfaTurnsUptoRow.holds Try.pinned (OpenSpec.upto dfaTurnsSpec)

/-- 'foolscaplaw08.DfaEither', WHERE WHAT IT READS IS OF BULK AT MOST 1048576: true; the input reads as it did. -/
def dfaEitherUptoRow : OpenClaim := { program := "yteamokljlcnicaa", sum := "3db26a679e4775ab6fb2da736a801dbd1c3f8df8affe116b36faac713646eebe", func := "foolscap/foolscaplaw08.DfaEither", spec := "dfaEither", unfollowed := true, recurses := true, loops := true, apart := false, narrowed := true }
def DfaEitherUptoSaid : Prop := dfaEitherUptoRow.holds Try.pinned (OpenSpec.upto dfaEitherSpec)

/-- 'foolscaplaw08.DfaBeginnings', WHERE WHAT IT READS IS OF BULK AT MOST 1048576: true; the input reads as it did. -/
def dfaBeginningsUptoRow : OpenClaim := { program := "yteamokljlcnicaa", sum := "3db26a679e4775ab6fb2da736a801dbd1c3f8df8affe116b36faac713646eebe", func := "foolscap/foolscaplaw08.DfaBeginnings", spec := "dfaBeginnings", unfollowed := true, recurses := true, loops := true, apart := false, narrowed := true }
def DfaBeginningsUptoSaid : Prop := dfaBeginningsUptoRow.holds Try.pinned (OpenSpec.upto dfaBeginningsSpec)

end Rows
end Go.Proofs.Yteamokljlcnicaa
