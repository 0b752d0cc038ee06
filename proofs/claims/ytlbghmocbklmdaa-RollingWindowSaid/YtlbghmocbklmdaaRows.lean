/-
  No cell of these rows narrows 'for every input' (looked for: loops, veiled, ifaces, maps, wideKeys, modest, calm, conditions, laid).
  DERIVED. THE GIVEN ROWS OF THIS SEAT. 7 by the template 'for every input the law returns true; each argument reads behind the call as it read before'; 0 by the template 'total and deterministic' (their statements: YtlbghmocbklmdaaTotals.lean).
  GIVEN WITH THE SEED: the statements are not yours to turn. If you find one false, say at which input.
  Laid BY PROGRAM, IN A SANDBOX (cutbox-rows.mjs): the forced cells as the released guide's own fill.sh prints them over the translation ad04fe3020f00393… (all of the seat's roots in one cut). By AI agents, Wed Nov 11 2026. No macro, syntax, notation, axiom, sorry.
-/
import Derived.Test.YtlbghmocbklmdaaChecked
import GoSem.Claim
import GoSem.ClaimJoined
import GoSem.ClaimMapViews
import Derived.JoinedTies
import Derived.KernelRfl
namespace Go.Proofs.Ytlbghmocbklmdaa
/- THE CELL 'sum', in the pinned program and in every row, IS THE sha256 OF THE DUMP (.gsa) THAT YtlbghmocbklmdaaProg.lean LOADS. Nothing in Lean hashes anything: it is a label: what it is worth is what the hold of that sum in a sandbox is worth. -/
noncomputable def Try.pinned : Pinned := { name := "ytlbghmocbklmdaa", sum := "ad04fe3020f00393c6c484847a3409d624a2ff5cfb1d0454808ef8731503c876", checked := Try.checked }
namespace Rows
def none {H : Type} : Left H := { results := [], args := [] }

/-- 'compactorlaw05.RollingHashes': WHATEVER THE INPUT: true; the input reads as it did. -/
def rollingHashesSpec : ChangeSpec := { name := "rollingHashes", fn := fun _ => fun
  | [d1, d2] => { results := [.lit (.bool true)], args := [d1, d2] }
  | _ => none }
def rollingHashesRow : OpenClaim := { program := "ytlbghmocbklmdaa", sum := "ad04fe3020f00393c6c484847a3409d624a2ff5cfb1d0454808ef8731503c876", func := "compactor/compactorlaw05.RollingHashes", spec := "rollingHashes", unfollowed := true, recurses := true, apart := false }
def RollingHashesSaid : Prop := rollingHashesRow.holds Try.pinned (OpenSpec.ofChange rollingHashesSpec)

/-- ITS FALSE NEIGHBOUR: 'it returns false'. Refute it at one input. -/
def rollingHashesWrong : ChangeSpec := { name := "rollingHashes", fn := fun _ => fun
  | [d1, d2] => { results := [.lit (.bool false)], args := [d1, d2] }
  | _ => none }
def RollingHashesWrongFalsely : Prop := rollingHashesRow.holds Try.pinned (OpenSpec.ofChange rollingHashesWrong)

/-- 'compactorlaw05.RollingRolls': WHATEVER THE INPUT: true; the input reads as it did. -/
def rollingRollsSpec : ChangeSpec := { name := "rollingRolls", fn := fun _ => fun
  | [d1, d2] => { results := [.lit (.bool true)], args := [d1, d2] }
  | _ => none }
def rollingRollsRow : OpenClaim := { program := "ytlbghmocbklmdaa", sum := "ad04fe3020f00393c6c484847a3409d624a2ff5cfb1d0454808ef8731503c876", func := "compactor/compactorlaw05.RollingRolls", spec := "rollingRolls", unfollowed := true, recurses := true, apart := false }
def RollingRollsSaid : Prop := rollingRollsRow.holds Try.pinned (OpenSpec.ofChange rollingRollsSpec)

/-- ITS FALSE NEIGHBOUR: 'it returns false'. Refute it at one input. -/
def rollingRollsWrong : ChangeSpec := { name := "rollingRolls", fn := fun _ => fun
  | [d1, d2] => { results := [.lit (.bool false)], args := [d1, d2] }
  | _ => none }
def RollingRollsWrongFalsely : Prop := rollingRollsRow.holds Try.pinned (OpenSpec.ofChange rollingRollsWrong)

/-- 'compactorlaw05.RollingPlaces': WHATEVER THE INPUT: true; the input reads as it did. -/
def rollingPlacesSpec : ChangeSpec := { name := "rollingPlaces", fn := fun _ => fun
  | [d1, d2, d3] => { results := [.lit (.bool true)], args := [d1, d2, d3] }
  | _ => none }
def rollingPlacesRow : OpenClaim := { program := "ytlbghmocbklmdaa", sum := "ad04fe3020f00393c6c484847a3409d624a2ff5cfb1d0454808ef8731503c876", func := "compactor/compactorlaw05.RollingPlaces", spec := "rollingPlaces", unfollowed := true, recurses := true, apart := false }
def RollingPlacesSaid : Prop := rollingPlacesRow.holds Try.pinned (OpenSpec.ofChange rollingPlacesSpec)

/-- ITS FALSE NEIGHBOUR: 'it returns false'. Refute it at one input. -/
def rollingPlacesWrong : ChangeSpec := { name := "rollingPlaces", fn := fun _ => fun
  | [d1, d2, d3] => { results := [.lit (.bool false)], args := [d1, d2, d3] }
  | _ => none }
def RollingPlacesWrongFalsely : Prop := rollingPlacesRow.holds Try.pinned (OpenSpec.ofChange rollingPlacesWrong)

/-- 'compactorlaw05.RollingThins': WHATEVER THE INPUT: true; the input reads as it did. -/
def rollingThinsSpec : ChangeSpec := { name := "rollingThins", fn := fun _ => fun
  | [d1, d2, d3] => { results := [.lit (.bool true)], args := [d1, d2, d3] }
  | _ => none }
def rollingThinsRow : OpenClaim := { program := "ytlbghmocbklmdaa", sum := "ad04fe3020f00393c6c484847a3409d624a2ff5cfb1d0454808ef8731503c876", func := "compactor/compactorlaw05.RollingThins", spec := "rollingThins", unfollowed := true, recurses := true, apart := false }
def RollingThinsSaid : Prop := rollingThinsRow.holds Try.pinned (OpenSpec.ofChange rollingThinsSpec)

/-- ITS FALSE NEIGHBOUR: 'it returns false'. Refute it at one input. -/
def rollingThinsWrong : ChangeSpec := { name := "rollingThins", fn := fun _ => fun
  | [d1, d2, d3] => { results := [.lit (.bool false)], args := [d1, d2, d3] }
  | _ => none }
def RollingThinsWrongFalsely : Prop := rollingThinsRow.holds Try.pinned (OpenSpec.ofChange rollingThinsWrong)

/-- 'compactorlaw05.RollingWindow': WHATEVER THE INPUT: true; the input reads as it did. -/
def rollingWindowSpec : ChangeSpec := { name := "rollingWindow", fn := fun _ => fun
  | [d1, d2, d3] => { results := [.lit (.bool true)], args := [d1, d2, d3] }
  | _ => none }
def rollingWindowRow : OpenClaim := { program := "ytlbghmocbklmdaa", sum := "ad04fe3020f00393c6c484847a3409d624a2ff5cfb1d0454808ef8731503c876", func := "compactor/compactorlaw05.RollingWindow", spec := "rollingWindow", unfollowed := true, recurses := true, apart := false }
def RollingWindowSaid : Prop := rollingWindowRow.holds Try.pinned (OpenSpec.ofChange rollingWindowSpec)

/-- ITS FALSE NEIGHBOUR: 'it returns false'. Refute it at one input. -/
def rollingWindowWrong : ChangeSpec := { name := "rollingWindow", fn := fun _ => fun
  | [d1, d2, d3] => { results := [.lit (.bool false)], args := [d1, d2, d3] }
  | _ => none }
def RollingWindowWrongFalsely : Prop := rollingWindowRow.holds Try.pinned (OpenSpec.ofChange rollingWindowWrong)

/-- 'compactorlaw05.RollingJoins': WHATEVER THE INPUT: true; the input reads as it did. -/
def rollingJoinsSpec : ChangeSpec := { name := "rollingJoins", fn := fun _ => fun
  | [d1, d2] => { results := [.lit (.bool true)], args := [d1, d2] }
  | _ => none }
def rollingJoinsRow : OpenClaim := { program := "ytlbghmocbklmdaa", sum := "ad04fe3020f00393c6c484847a3409d624a2ff5cfb1d0454808ef8731503c876", func := "compactor/compactorlaw05.RollingJoins", spec := "rollingJoins", unfollowed := true, recurses := true, apart := false }
def RollingJoinsSaid : Prop := rollingJoinsRow.holds Try.pinned (OpenSpec.ofChange rollingJoinsSpec)

/-- ITS FALSE NEIGHBOUR: 'it returns false'. Refute it at one input. -/
def rollingJoinsWrong : ChangeSpec := { name := "rollingJoins", fn := fun _ => fun
  | [d1, d2] => { results := [.lit (.bool false)], args := [d1, d2] }
  | _ => none }
def RollingJoinsWrongFalsely : Prop := rollingJoinsRow.holds Try.pinned (OpenSpec.ofChange rollingJoinsWrong)

/-- 'compactorlaw05.RollingFinds': WHATEVER THE INPUT: true; the input reads as it did. -/
def rollingFindsSpec : ChangeSpec := { name := "rollingFinds", fn := fun _ => fun
  | [d1, d2, d3] => { results := [.lit (.bool true)], args := [d1, d2, d3] }
  | _ => none }
def rollingFindsRow : OpenClaim := { program := "ytlbghmocbklmdaa", sum := "ad04fe3020f00393c6c484847a3409d624a2ff5cfb1d0454808ef8731503c876", func := "compactor/compactorlaw05.RollingFinds", spec := "rollingFinds", unfollowed := true, recurses := true, apart := false }
def RollingFindsSaid : Prop := rollingFindsRow.holds Try.pinned (OpenSpec.ofChange rollingFindsSpec)

/-- ITS FALSE NEIGHBOUR: 'it returns false'. Refute it at one input. -/
def rollingFindsWrong : ChangeSpec := { name := "rollingFinds", fn := fun _ => fun
  | [d1, d2, d3] => { results := [.lit (.bool false)], args := [d1, d2, d3] }
  | _ => none }
def RollingFindsWrongFalsely : Prop := rollingFindsRow.holds Try.pinned (OpenSpec.ofChange rollingFindsWrong)

/- THE SECOND FORM. 'bulk': how many values and letters a reading holds, each counted each time it is reached (what is shared counts as often as it is met; a slice's spare places count too). A statement '..UptoSaid' is the law's where the arguments, and the package variables that the reading takes, are together of bulk at most 1048576: NARROWER than '..Said'. Prove '..Said' where nothing that the law and all that it calls make is longer than what came in: it says more and counts as full. Else prove '..UptoSaid'. A law counts once. -/
mutual
def uptoBulk {H : Type} : DataW H → Nat
  | .lit (.string bytes) => bytes.length + 1
  | .lit _ => 1
  | .nil => 1
  | .ptr d => uptoBulk d + 1
  | .slice elems spare => uptoBulkAll elems + uptoBulkAll spare + 1
  | .agg parts => uptoBulkAll parts + 1
  | .iface _ d => uptoBulk d + 1
  | .map entries => uptoBulkEntries entries + 1
  | .held _ => 1
def uptoBulkAll {H : Type} : List (DataW H) → Nat
  | [] => 0
  | d :: r => uptoBulk d + uptoBulkAll r
def uptoBulkEntries {H : Type} : List (Lit × DataW H) → Nat
  | [] => 0
  | x :: r => uptoBulkEntry x + uptoBulkEntries r
def uptoBulkEntry {H : Type} : Lit × DataW H → Nat
  | (.string bytes, d) => bytes.length + uptoBulk d + 1
  | (_, d) => uptoBulk d + 1
 end
def uptoSmall : (H : Type) → List (DataW H) → Bool := fun _ ds => decide (uptoBulkAll ds ≤ 1048576)
def OpenSpec.upto (s : _root_.Go.ChangeSpec) : _root_.Go.OpenSpec := { _root_.Go.OpenSpec.ofChange s with cond := some uptoSmall }

/-- 'compactorlaw05.RollingHashes', WHERE WHAT IT READS IS OF BULK AT MOST 1048576: true; the input reads as it did. -/
def rollingHashesUptoRow : OpenClaim := { program := "ytlbghmocbklmdaa", sum := "ad04fe3020f00393c6c484847a3409d624a2ff5cfb1d0454808ef8731503c876", func := "compactor/compactorlaw05.RollingHashes", spec := "rollingHashes", unfollowed := true, recurses := true, apart := false, narrowed := true }
def RollingHashesUptoSaid : Prop := rollingHashesUptoRow.holds Try.pinned (OpenSpec.upto rollingHashesSpec)

/-- 'compactorlaw05.RollingRolls', WHERE WHAT IT READS IS OF BULK AT MOST 1048576: true; the input reads as it did. -/
def rollingRollsUptoRow : OpenClaim := { program := "ytlbghmocbklmdaa", sum := "ad04fe3020f00393c6c484847a3409d624a2ff5cfb1d0454808ef8731503c876", func := "compactor/compactorlaw05.RollingRolls", spec := "rollingRolls", unfollowed := true, recurses := true, apart := false, narrowed := true }
def RollingRollsUptoSaid : Prop := rollingRollsUptoRow.holds Try.pinned (OpenSpec.upto rollingRollsSpec)

/-- 'compactorlaw05.RollingPlaces', WHERE WHAT IT READS IS OF BULK AT MOST 1048576: true; the input reads as it did. -/
def rollingPlacesUptoRow : OpenClaim := { program := "ytlbghmocbklmdaa", sum := "ad04fe3020f00393c6c484847a3409d624a2ff5cfb1d0454808ef8731503c876", func := "compactor/compactorlaw05.RollingPlaces", spec := "rollingPlaces", unfollowed := true, recurses := true, apart := false, narrowed := true }
def RollingPlacesUptoSaid : Prop := rollingPlacesUptoRow.holds Try.pinned (OpenSpec.upto rollingPlacesSpec)

/-- 'compactorlaw05.RollingThins', WHERE WHAT IT READS IS OF BULK AT MOST 1048576: true; the input reads as it did. -/
def rollingThinsUptoRow : OpenClaim := { program := "ytlbghmocbklmdaa", sum := "ad04fe3020f00393c6c484847a3409d624a2ff5cfb1d0454808ef8731503c876", func := "compactor/compactorlaw05.RollingThins", spec := "rollingThins", unfollowed := true, recurses := true, apart := false, narrowed := true }
def RollingThinsUptoSaid : Prop := rollingThinsUptoRow.holds Try.pinned (OpenSpec.upto rollingThinsSpec)

/-- 'compactorlaw05.RollingWindow', WHERE WHAT IT READS IS OF BULK AT MOST 1048576: true; the input reads as it did. -/
def rollingWindowUptoRow : OpenClaim := { program := "ytlbghmocbklmdaa", sum := "ad04fe3020f00393c6c484847a3409d624a2ff5cfb1d0454808ef8731503c876", func := "compactor/compactorlaw05.RollingWindow", spec := "rollingWindow", unfollowed := true, recurses := true, apart := false, narrowed := true }
def RollingWindowUptoSaid : Prop := rollingWindowUptoRow.holds Try.pinned (OpenSpec.upto rollingWindowSpec)

/-- 'compactorlaw05.RollingJoins', WHERE WHAT IT READS IS OF BULK AT MOST 1048576: true; the input reads as it did. -/
def rollingJoinsUptoRow : OpenClaim := { program := "ytlbghmocbklmdaa", sum := "ad04fe3020f00393c6c484847a3409d624a2ff5cfb1d0454808ef8731503c876", func := "compactor/compactorlaw05.RollingJoins", spec := "rollingJoins", unfollowed := true, recurses := true, apart := false, narrowed := true }
def RollingJoinsUptoSaid : Prop := rollingJoinsUptoRow.holds Try.pinned (OpenSpec.upto rollingJoinsSpec)

/-- 'compactorlaw05.RollingFinds', WHERE WHAT IT READS IS OF BULK AT MOST 1048576: true; the input reads as it did. -/
def rollingFindsUptoRow : OpenClaim := { program := "ytlbghmocbklmdaa", sum := "ad04fe3020f00393c6c484847a3409d624a2ff5cfb1d0454808ef8731503c876", func := "compactor/compactorlaw05.RollingFinds", spec := "rollingFinds", unfollowed := true, recurses := true, apart := false, narrowed := true }
def RollingFindsUptoSaid : Prop := rollingFindsUptoRow.holds Try.pinned (OpenSpec.upto rollingFindsSpec)

end Rows
end Go.Proofs.Ytlbghmocbklmdaa
