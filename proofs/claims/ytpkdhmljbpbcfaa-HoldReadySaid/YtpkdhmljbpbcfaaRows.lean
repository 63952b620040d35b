/-
  No cell of these rows narrows 'for every input' (looked for: loops, veiled, ifaces, maps, wideKeys, modest, calm, conditions, laid).
  DERIVED. THE GIVEN ROWS OF THIS SEAT. 6 by the template 'for every input the law returns true; each argument reads behind the call as it read before'; 0 by the template 'total and deterministic' (their statements: YtpkdhmljbpbcfaaTotals.lean).
  GIVEN WITH THE SEED: the statements are not yours to turn. If you find one false, say at which input.
  Laid BY PROGRAM, IN A SANDBOX (cutbox-rows.mjs): the forced cells as the released guide's own fill.sh prints them over the translation f88ac7efde5f68d8… (all of the seat's roots in one cut). By AI agents, Wed Nov 11 2026. No macro, syntax, notation, axiom, sorry.
-/
import Derived.Test.YtpkdhmljbpbcfaaChecked
import GoSem.Claim
import GoSem.ClaimJoined
import GoSem.ClaimMapViews
import Derived.JoinedTies
import Derived.KernelRfl
namespace Go.Proofs.Ytpkdhmljbpbcfaa
/- THE CELL 'sum', in the pinned program and in every row, IS THE sha256 OF THE DUMP (.gsa) THAT YtpkdhmljbpbcfaaProg.lean LOADS. Nothing in Lean hashes anything: it is a label: what it is worth is what the hold of that sum in a sandbox is worth. -/
noncomputable def Try.pinned : Pinned := { name := "ytpkdhmljbpbcfaa", sum := "f88ac7efde5f68d8344c863c03a9fe32a70b24755aebe17394733600ba720fd9", checked := Try.checked }
namespace Rows
def none {H : Type} : Left H := { results := [], args := [] }

/-- 'foolscaplaw16.HoldOnce': WHATEVER THE INPUT: true; the input reads as it did. -/
def holdOnceSpec : ChangeSpec := { name := "holdOnce", fn := fun _ => fun
  | [d] => { results := [.lit (.bool true)], args := [d] }
  | _ => none }
def holdOnceRow : OpenClaim := { program := "ytpkdhmljbpbcfaa", sum := "f88ac7efde5f68d8344c863c03a9fe32a70b24755aebe17394733600ba720fd9", func := "foolscap/foolscaplaw16.HoldOnce", spec := "holdOnce", unfollowed := true, recurses := true, apart := false }
def HoldOnceSaid : Prop := holdOnceRow.holds Try.pinned (OpenSpec.ofChange holdOnceSpec)

/-- ITS FALSE NEIGHBOUR: 'it returns false'. Refute it at one input. -/
def holdOnceWrong : ChangeSpec := { name := "holdOnce", fn := fun _ => fun
  | [d] => { results := [.lit (.bool false)], args := [d] }
  | _ => none }
def HoldOnceWrongFalsely : Prop := holdOnceRow.holds Try.pinned (OpenSpec.ofChange holdOnceWrong)

/-- 'foolscaplaw16.HoldReady': WHATEVER THE INPUT: true; the input reads as it did. -/
def holdReadySpec : ChangeSpec := { name := "holdReady", fn := fun _ => fun
  | [d1, d2, d3] => { results := [.lit (.bool true)], args := [d1, d2, d3] }
  | _ => none }
def holdReadyRow : OpenClaim := { program := "ytpkdhmljbpbcfaa", sum := "f88ac7efde5f68d8344c863c03a9fe32a70b24755aebe17394733600ba720fd9", func := "foolscap/foolscaplaw16.HoldReady", spec := "holdReady", unfollowed := true, recurses := true, apart := false }
def HoldReadySaid : Prop := holdReadyRow.holds Try.pinned (OpenSpec.ofChange holdReadySpec)

/-- ITS FALSE NEIGHBOUR: 'it returns false'. Refute it at one input. -/
def holdReadyWrong : ChangeSpec := { name := "holdReady", fn := fun _ => fun
  | [d1, d2, d3] => { results := [.lit (.bool false)], args := [d1, d2, d3] }
  | _ => none }
def HoldReadyWrongFalsely : Prop := holdReadyRow.holds Try.pinned (OpenSpec.ofChange holdReadyWrong)

/-- 'foolscaplaw16.HoldPlays': WHATEVER THE INPUT: true; the input reads as it did. -/
def holdPlaysSpec : ChangeSpec := { name := "holdPlays", fn := fun _ => fun
  | [d1, d2] => { results := [.lit (.bool true)], args := [d1, d2] }
  | _ => none }
def holdPlaysRow : OpenClaim := { program := "ytpkdhmljbpbcfaa", sum := "f88ac7efde5f68d8344c863c03a9fe32a70b24755aebe17394733600ba720fd9", func := "foolscap/foolscaplaw16.HoldPlays", spec := "holdPlays", unfollowed := true, recurses := true, apart := false }
def HoldPlaysSaid : Prop := holdPlaysRow.holds Try.pinned (OpenSpec.ofChange holdPlaysSpec)

/-- ITS FALSE NEIGHBOUR: 'it returns false'. Refute it at one input. -/
def holdPlaysWrong : ChangeSpec := { name := "holdPlays", fn := fun _ => fun
  | [d1, d2] => { results := [.lit (.bool false)], args := [d1, d2] }
  | _ => none }
def HoldPlaysWrongFalsely : Prop := holdPlaysRow.holds Try.pinned (OpenSpec.ofChange holdPlaysWrong)

/-- 'foolscaplaw16.HoldFull': WHATEVER THE INPUT: true; the input reads as it did. -/
def holdFullSpec : ChangeSpec := { name := "holdFull", fn := fun _ => fun
  | [d1, d2, d3] => { results := [.lit (.bool true)], args := [d1, d2, d3] }
  | _ => none }
def holdFullRow : OpenClaim := { program := "ytpkdhmljbpbcfaa", sum := "f88ac7efde5f68d8344c863c03a9fe32a70b24755aebe17394733600ba720fd9", func := "foolscap/foolscaplaw16.HoldFull", spec := "holdFull", unfollowed := true, recurses := true, apart := false }
def HoldFullSaid : Prop := holdFullRow.holds Try.pinned (OpenSpec.ofChange holdFullSpec)

/-- ITS FALSE NEIGHBOUR: 'it returns false'. Refute it at one input. -/
def holdFullWrong : ChangeSpec := { name := "holdFull", fn := fun _ => fun
  | [d1, d2, d3] => { results := [.lit (.bool false)], args := [d1, d2, d3] }
  | _ => none }
def HoldFullWrongFalsely : Prop := holdFullRow.holds Try.pinned (OpenSpec.ofChange holdFullWrong)

/-- 'foolscaplaw16.HoldOrder': WHATEVER THE INPUT: true; the input reads as it did. -/
def holdOrderSpec : ChangeSpec := { name := "holdOrder", fn := fun _ => fun
  | [d1, d2] => { results := [.lit (.bool true)], args := [d1, d2] }
  | _ => none }
def holdOrderRow : OpenClaim := { program := "ytpkdhmljbpbcfaa", sum := "f88ac7efde5f68d8344c863c03a9fe32a70b24755aebe17394733600ba720fd9", func := "foolscap/foolscaplaw16.HoldOrder", spec := "holdOrder", unfollowed := true, recurses := true, apart := false }
def HoldOrderSaid : Prop := holdOrderRow.holds Try.pinned (OpenSpec.ofChange holdOrderSpec)

/-- ITS FALSE NEIGHBOUR: 'it returns false'. Refute it at one input. -/
def holdOrderWrong : ChangeSpec := { name := "holdOrder", fn := fun _ => fun
  | [d1, d2] => { results := [.lit (.bool false)], args := [d1, d2] }
  | _ => none }
def HoldOrderWrongFalsely : Prop := holdOrderRow.holds Try.pinned (OpenSpec.ofChange holdOrderWrong)

/-- 'foolscaplaw16.HoldDrops': WHATEVER THE INPUT: true; the input reads as it did. -/
def holdDropsSpec : ChangeSpec := { name := "holdDrops", fn := fun _ => fun
  | [d1, d2] => { results := [.lit (.bool true)], args := [d1, d2] }
  | _ => none }
def holdDropsRow : OpenClaim := { program := "ytpkdhmljbpbcfaa", sum := "f88ac7efde5f68d8344c863c03a9fe32a70b24755aebe17394733600ba720fd9", func := "foolscap/foolscaplaw16.HoldDrops", spec := "holdDrops", unfollowed := true, recurses := true, apart := false }
def HoldDropsSaid : Prop := holdDropsRow.holds Try.pinned (OpenSpec.ofChange holdDropsSpec)

/-- ITS FALSE NEIGHBOUR: 'it returns false'. Refute it at one input. -/
def holdDropsWrong : ChangeSpec := { name := "holdDrops", fn := fun _ => fun
  | [d1, d2] => { results := [.lit (.bool false)], args := [d1, d2] }
  | _ => none }
def HoldDropsWrongFalsely : Prop := holdDropsRow.holds Try.pinned (OpenSpec.ofChange holdDropsWrong)

/- THE SECOND FORM. 'bulk': how many values and letters a reading holds, each counted each time it is reached (what is shared counts as often as it is met; a slice's spare places count too). A statement '..UptoSaid' is the law's where the arguments, and the package variables that the reading takes, are together of bulk at most 1048576: NARROWER than '..Said'. Prove '..Said' where nothing that the law and all that it calls make is longer than what came in: it says more and counts as full. Else prove '..UptoSaid'. A law counts once. -/
mutual
def uptoBulk {H : Type} : DataW H → Nat
  | .lit (.string bytes) => bytes.length + 1
  | .lit _ => 1
  | .nil => 1
  | .ptr d => uptoBulk d + 1
  | .slice elems spare => uptoBulkAll elems + uptoBulkAll spare + 1
  | .agg parts => uptoBulkAll parts + 1
  | .iface _ d => uptoBulk d + 1
  | .map entries => uptoBulkEntries entries + 1
  | .held _ => 1
def uptoBulkAll {H : Type} : List (DataW H) → Nat
  | [] => 0
  | d :: r => uptoBulk d + uptoBulkAll r
def uptoBulkEntries {H : Type} : List (Lit × DataW H) → Nat
  | [] => 0
  | x :: r => uptoBulkEntry x + uptoBulkEntries r
def uptoBulkEntry {H : Type} : Lit × DataW H → Nat
  | (.string bytes, d) => bytes.length + uptoBulk d + 1
  | (_, d) => uptoBulk d + 1
 end
def uptoSmall : (H : Type) → List (DataW H) → Bool := fun _ ds => decide (uptoBulkAll ds ≤ 1048576)
def OpenSpec.upto (s : _root_.Go.ChangeSpec) : _root_.Go.OpenSpec := { _root_.Go.OpenSpec.ofChange s with cond := some uptoSmall }

/-- 'foolscaplaw16.HoldOnce', WHERE WHAT IT READS IS OF BULK AT MOST 1048576: true; the input reads as it did. -/
def holdOnceUptoRow : OpenClaim := { program := "ytpkdhmljbpbcfaa", sum := "f88ac7efde5f68d8344c863c03a9fe32a70b24755aebe17394733600ba720fd9", func := "foolscap/foolscaplaw16.HoldOnce", spec := "holdOnce", unfollowed := true, recurses := true, apart := false, narrowed := true }
def HoldOnceUptoSaid : Prop := holdOnceUptoRow.holds Try.pinned (OpenSpec.upto holdOnceSpec)

/-- 'foolscaplaw16.HoldReady', WHERE WHAT IT READS IS OF BULK AT MOST 1048576: true; the input reads as it did. -/
def holdReadyUptoRow : OpenClaim := { program := "ytpkdhmljbpbcfaa", sum := "f88ac7efde5f68d8344c863c03a9fe32a70b24755aebe17394733600ba720fd9", func := "foolscap/foolscaplaw16.HoldReady", spec := "holdReady", unfollowed := true, recurses := true, apart := false, narrowed := true }
def HoldReadyUptoSaid : Prop := holdReadyUptoRow.holds Try.pinned (OpenSpec.upto holdReadySpec)

/-- 'foolscaplaw16.HoldPlays', WHERE WHAT IT READS IS OF BULK AT MOST 1048576: true; the input reads as it did. -/
def holdPlaysUptoRow : OpenClaim := { program := "ytpkdhmljbpbcfaa", sum := "f88ac7efde5f68d8344c863c03a9fe32a70b24755aebe17394733600ba720fd9", func := "foolscap/foolscaplaw16.HoldPlays", spec := "holdPlays", unfollowed := true, recurses := true, apart := false, narrowed := true }
def HoldPlaysUptoSaid : Prop := holdPlaysUptoRow.holds Try.pinned (OpenSpec.upto holdPlaysSpec)

/-- 'foolscaplaw16.HoldFull', WHERE WHAT IT READS IS OF BULK AT MOST 1048576: true; the input reads as it did. -/
def holdFullUptoRow : OpenClaim := { program := "ytpkdhmljbpbcfaa", sum := "f88ac7efde5f68d8344c863c03a9fe32a70b24755aebe17394733600ba720fd9", func := "foolscap/foolscaplaw16.HoldFull", spec := "holdFull", unfollowed := true, recurses := true, apart := false, narrowed := true }
def HoldFullUptoSaid : Prop := holdFullUptoRow.holds Try.pinned (OpenSpec.upto holdFullSpec)

/-- 'foolscaplaw16.HoldOrder', WHERE WHAT IT READS IS OF BULK AT MOST 1048576: true; the input reads as it did. -/
def holdOrderUptoRow : OpenClaim := { program := "ytpkdhmljbpbcfaa", sum := "f88ac7efde5f68d8344c863c03a9fe32a70b24755aebe17394733600ba720fd9", func := "foolscap/foolscaplaw16.HoldOrder", spec := "holdOrder", unfollowed := true, recurses := true, apart := false, narrowed := true }
def HoldOrderUptoSaid : Prop := holdOrderUptoRow.holds Try.pinned (OpenSpec.upto holdOrderSpec)

/-- 'foolscaplaw16.HoldDrops', WHERE WHAT IT READS IS OF BULK AT MOST 1048576: true; the input reads as it did. -/
def holdDropsUptoRow : OpenClaim := { program := "ytpkdhmljbpbcfaa", sum := "f88ac7efde5f68d8344c863c03a9fe32a70b24755aebe17394733600ba720fd9", func := "foolscap/foolscaplaw16.HoldDrops", spec := "holdDrops", unfollowed := true, recurses := true, apart := false, narrowed := true }
def HoldDropsUptoSaid : Prop := holdDropsUptoRow.holds Try.pinned (OpenSpec.upto holdDropsSpec)

end Rows
end Go.Proofs.Ytpkdhmljbpbcfaa
