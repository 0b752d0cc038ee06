/-
  No cell of these rows narrows 'for every input' (looked for: loops, veiled, ifaces, maps, wideKeys, modest, calm, conditions, laid).
  DERIVED. THE GIVEN ROWS OF THIS SEAT. 7 by the template 'for every input the law returns true; each argument reads behind the call as it read before'; 0 by the template 'total and deterministic' (their statements: YthcagaklinkkpaaTotals.lean).
  GIVEN WITH THE SEED: the statements are not yours to turn. If you find one false, say at which input.
  Laid BY PROGRAM, IN A SANDBOX (cutbox-rows.mjs): the forced cells as the released guide's own fill.sh prints them over the translation 576e54d982f8b553… (all of the seat's roots in one cut). By AI agents, Wed Nov 11 2026. No macro, syntax, notation, axiom, sorry.
-/
import Derived.Test.YthcagaklinkkpaaChecked
import GoSem.Claim
import GoSem.ClaimJoined
import GoSem.ClaimMapViews
import Derived.JoinedTies
import Derived.KernelRfl
namespace Go.Proofs.Ythcagaklinkkpaa
/- THE CELL 'sum', in the pinned program and in every row, IS THE sha256 OF THE DUMP (.gsa) THAT YthcagaklinkkpaaProg.lean LOADS. Nothing in Lean hashes anything: it is a label: what it is worth is what the hold of that sum in a sandbox is worth. -/
noncomputable def Try.pinned : Pinned := { name := "ythcagaklinkkpaa", sum := "576e54d982f8b5536565334d51cdc484656f0609f49342341d0fb85e0930e775", checked := Try.checked }
namespace Rows
def none {H : Type} : Left H := { results := [], args := [] }

/-- 'compactorlaw40.CallsForward': WHATEVER THE INPUT: true; the input reads as it did. -/
def callsForwardSpec : ChangeSpec := { name := "callsForward", fn := fun _ => fun
  | [d] => { results := [.lit (.bool true)], args := [d] }
  | _ => none }
def callsForwardRow : OpenClaim := { program := "ythcagaklinkkpaa", sum := "576e54d982f8b5536565334d51cdc484656f0609f49342341d0fb85e0930e775", func := "compactor/compactorlaw40.CallsForward", spec := "callsForward", unfollowed := true, recurses := true, apart := false }
def CallsForwardSaid : Prop := callsForwardRow.holds Try.pinned (OpenSpec.ofChange callsForwardSpec)

/-- ITS FALSE NEIGHBOUR: 'it returns false'. Refute it at one input. -/
def callsForwardWrong : ChangeSpec := { name := "callsForward", fn := fun _ => fun
  | [d] => { results := [.lit (.bool false)], args := [d] }
  | _ => none }
def CallsForwardWrongFalsely : Prop := callsForwardRow.holds Try.pinned (OpenSpec.ofChange callsForwardWrong)

/-- 'compactorlaw40.CallsFinds': WHATEVER THE INPUT: true; the input reads as it did. -/
def callsFindsSpec : ChangeSpec := { name := "callsFinds", fn := fun _ => fun
  | [d] => { results := [.lit (.bool true)], args := [d] }
  | _ => none }
def callsFindsRow : OpenClaim := { program := "ythcagaklinkkpaa", sum := "576e54d982f8b5536565334d51cdc484656f0609f49342341d0fb85e0930e775", func := "compactor/compactorlaw40.CallsFinds", spec := "callsFinds", unfollowed := true, recurses := true, apart := false }
def CallsFindsSaid : Prop := callsFindsRow.holds Try.pinned (OpenSpec.ofChange callsFindsSpec)

/-- ITS FALSE NEIGHBOUR: 'it returns false'. Refute it at one input. -/
def callsFindsWrong : ChangeSpec := { name := "callsFinds", fn := fun _ => fun
  | [d] => { results := [.lit (.bool false)], args := [d] }
  | _ => none }
def CallsFindsWrongFalsely : Prop := callsFindsRow.holds Try.pinned (OpenSpec.ofChange callsFindsWrong)

/-- 'compactorlaw40.CallsBackward': WHATEVER THE INPUT: true; the input reads as it did. -/
def callsBackwardSpec : ChangeSpec := { name := "callsBackward", fn := fun _ => fun
  | [d] => { results := [.lit (.bool true)], args := [d] }
  | _ => none }
def callsBackwardRow : OpenClaim := { program := "ythcagaklinkkpaa", sum := "576e54d982f8b5536565334d51cdc484656f0609f49342341d0fb85e0930e775", func := "compactor/compactorlaw40.CallsBackward", spec := "callsBackward", unfollowed := true, recurses := true, apart := false }
def CallsBackwardSaid : Prop := callsBackwardRow.holds Try.pinned (OpenSpec.ofChange callsBackwardSpec)

/-- ITS FALSE NEIGHBOUR: 'it returns false'. Refute it at one input. -/
def callsBackwardWrong : ChangeSpec := { name := "callsBackward", fn := fun _ => fun
  | [d] => { results := [.lit (.bool false)], args := [d] }
  | _ => none }
def CallsBackwardWrongFalsely : Prop := callsBackwardRow.holds Try.pinned (OpenSpec.ofChange callsBackwardWrong)

/-- 'compactorlaw40.CallsInverts': WHATEVER THE INPUT: true; the input reads as it did. -/
def callsInvertsSpec : ChangeSpec := { name := "callsInverts", fn := fun _ => fun
  | [d] => { results := [.lit (.bool true)], args := [d] }
  | _ => none }
def callsInvertsRow : OpenClaim := { program := "ythcagaklinkkpaa", sum := "576e54d982f8b5536565334d51cdc484656f0609f49342341d0fb85e0930e775", func := "compactor/compactorlaw40.CallsInverts", spec := "callsInverts", unfollowed := true, recurses := true, apart := false }
def CallsInvertsSaid : Prop := callsInvertsRow.holds Try.pinned (OpenSpec.ofChange callsInvertsSpec)

/-- ITS FALSE NEIGHBOUR: 'it returns false'. Refute it at one input. -/
def callsInvertsWrong : ChangeSpec := { name := "callsInverts", fn := fun _ => fun
  | [d] => { results := [.lit (.bool false)], args := [d] }
  | _ => none }
def CallsInvertsWrongFalsely : Prop := callsInvertsRow.holds Try.pinned (OpenSpec.ofChange callsInvertsWrong)

/-- 'compactorlaw40.CallsKeeps': WHATEVER THE INPUT: true; the input reads as it did. -/
def callsKeepsSpec : ChangeSpec := { name := "callsKeeps", fn := fun _ => fun
  | [d] => { results := [.lit (.bool true)], args := [d] }
  | _ => none }
def callsKeepsRow : OpenClaim := { program := "ythcagaklinkkpaa", sum := "576e54d982f8b5536565334d51cdc484656f0609f49342341d0fb85e0930e775", func := "compactor/compactorlaw40.CallsKeeps", spec := "callsKeeps", unfollowed := true, recurses := true, apart := false }
def CallsKeepsSaid : Prop := callsKeepsRow.holds Try.pinned (OpenSpec.ofChange callsKeepsSpec)

/-- ITS FALSE NEIGHBOUR: 'it returns false'. Refute it at one input. -/
def callsKeepsWrong : ChangeSpec := { name := "callsKeeps", fn := fun _ => fun
  | [d] => { results := [.lit (.bool false)], args := [d] }
  | _ => none }
def CallsKeepsWrongFalsely : Prop := callsKeepsRow.holds Try.pinned (OpenSpec.ofChange callsKeepsWrong)

/-- 'compactorlaw40.CallsMeets': WHATEVER THE INPUT: true; the input reads as it did. -/
def callsMeetsSpec : ChangeSpec := { name := "callsMeets", fn := fun _ => fun
  | [d1, d2] => { results := [.lit (.bool true)], args := [d1, d2] }
  | _ => none }
def callsMeetsRow : OpenClaim := { program := "ythcagaklinkkpaa", sum := "576e54d982f8b5536565334d51cdc484656f0609f49342341d0fb85e0930e775", func := "compactor/compactorlaw40.CallsMeets", spec := "callsMeets", unfollowed := true, recurses := true, apart := false }
def CallsMeetsSaid : Prop := callsMeetsRow.holds Try.pinned (OpenSpec.ofChange callsMeetsSpec)

/-- ITS FALSE NEIGHBOUR: 'it returns false'. Refute it at one input. -/
def callsMeetsWrong : ChangeSpec := { name := "callsMeets", fn := fun _ => fun
  | [d1, d2] => { results := [.lit (.bool false)], args := [d1, d2] }
  | _ => none }
def CallsMeetsWrongFalsely : Prop := callsMeetsRow.holds Try.pinned (OpenSpec.ofChange callsMeetsWrong)

/-- 'compactorlaw40.CallsParts': WHATEVER THE INPUT: true; the input reads as it did. -/
def callsPartsSpec : ChangeSpec := { name := "callsParts", fn := fun _ => fun
  | [d1, d2] => { results := [.lit (.bool true)], args := [d1, d2] }
  | _ => none }
def callsPartsRow : OpenClaim := { program := "ythcagaklinkkpaa", sum := "576e54d982f8b5536565334d51cdc484656f0609f49342341d0fb85e0930e775", func := "compactor/compactorlaw40.CallsParts", spec := "callsParts", unfollowed := true, recurses := true, apart := false }
def CallsPartsSaid : Prop := callsPartsRow.holds Try.pinned (OpenSpec.ofChange callsPartsSpec)

/-- ITS FALSE NEIGHBOUR: 'it returns false'. Refute it at one input. -/
def callsPartsWrong : ChangeSpec := { name := "callsParts", fn := fun _ => fun
  | [d1, d2] => { results := [.lit (.bool false)], args := [d1, d2] }
  | _ => none }
def CallsPartsWrongFalsely : Prop := callsPartsRow.holds Try.pinned (OpenSpec.ofChange callsPartsWrong)

/- THE SECOND FORM. 'bulk': how many values and letters a reading holds, each counted each time it is reached (what is shared counts as often as it is met; a slice's spare places count too). A statement '..UptoSaid' is the law's where the arguments, and the package variables that the reading takes, are together of bulk at most 1048576: NARROWER than '..Said'. Prove '..Said' where nothing that the law and all that it calls make is longer than what came in: it says more and counts as full. Else prove '..UptoSaid'. A law counts once. -/
mutual
def uptoBulk {H : Type} : DataW H → Nat
  | .lit (.string bytes) => bytes.length + 1
  | .lit _ => 1
  | .nil => 1
  | .ptr d => uptoBulk d + 1
  | .slice elems spare => uptoBulkAll elems + uptoBulkAll spare + 1
  | .agg parts => uptoBulkAll parts + 1
  | .iface _ d => uptoBulk d + 1
  | .map entries => uptoBulkEntries entries + 1
  | .held _ => 1
def uptoBulkAll {H : Type} : List (DataW H) → Nat
  | [] => 0
  | d :: r => uptoBulk d + uptoBulkAll r
def uptoBulkEntries {H : Type} : List (Lit × DataW H) → Nat
  | [] => 0
  | x :: r => uptoBulkEntry x + uptoBulkEntries r
def uptoBulkEntry {H : Type} : Lit × DataW H → Nat
  | (.string bytes, d) => bytes.length + uptoBulk d + 1
  | (_, d) => uptoBulk d + 1
 end
def uptoSmall : (H : Type) → List (DataW H) → Bool := fun _ ds => decide (uptoBulkAll ds ≤ 1048576)
def OpenSpec.upto (s : _root_.Go.ChangeSpec) : _root_.Go.OpenSpec := { _root_.Go.OpenSpec.ofChange s with cond := some uptoSmall }

/-- 'compactorlaw40.CallsForward', WHERE WHAT IT READS IS OF BULK AT MOST 1048576: true; the input reads as it did. -/
def callsForwardUptoRow : OpenClaim := { program := "ythcagaklinkkpaa", sum := "576e54d982f8b5536565334d51cdc484656f0609f49342341d0fb85e0930e775", func := "compactor/compactorlaw40.CallsForward", spec := "callsForward", unfollowed := true, recurses := true, apart := false, narrowed := true }
def CallsForwardUptoSaid : Prop := callsForwardUptoRow.holds Try.pinned (OpenSpec.upto callsForwardSpec)

/-- 'compactorlaw40.CallsFinds', WHERE WHAT IT READS IS OF BULK AT MOST 1048576: true; the input reads as it did. -/
def callsFindsUptoRow : OpenClaim := { program := "ythcagaklinkkpaa", sum := "576e54d982f8b5536565334d51cdc484656f0609f49342341d0fb85e0930e775", func := "compactor/compactorlaw40.CallsFinds", spec := "callsFinds", unfollowed := true, recurses := true, apart := false, narrowed := true }
def CallsFindsUptoSaid : Prop := callsFindsUptoRow.holds Try.pinned (OpenSpec.upto callsFindsSpec)

/-- 'compactorlaw40.CallsBackward', WHERE WHAT IT READS IS OF BULK AT MOST 1048576: true; the input reads as it did. -/
def callsBackwardUptoRow : OpenClaim := { program := "ythcagaklinkkpaa", sum := "576e54d982f8b5536565334d51cdc484656f0609f49342341d0fb85e0930e775", func := "compactor/compactorlaw40.CallsBackward", spec := "callsBackward", unfollowed := true, recurses := true, apart := false, narrowed := true }
def CallsBackwardUptoSaid : Prop := callsBackwardUptoRow.holds Try.pinned (OpenSpec.upto callsBackwardSpec)

/-- 'compactorlaw40.CallsInverts', WHERE WHAT IT READS IS OF BULK AT MOST 1048576: true; the input reads as it did. -/
def callsInvertsUptoRow : OpenClaim := { program := "ythcagaklinkkpaa", sum := "576e54d982f8b5536565334d51cdc484656f0609f49342341d0fb85e0930e775", func := "compactor/compactorlaw40.CallsInverts", spec := "callsInverts", unfollowed := true, recurses := true, apart := false, narrowed := true }
def CallsInvertsUptoSaid : Prop := callsInvertsUptoRow.holds Try.pinned (OpenSpec.upto callsInvertsSpec)

/-- 'compactorlaw40.CallsKeeps', WHERE WHAT IT READS IS OF BULK AT MOST 1048576: true; the input reads as it did. -/
def callsKeepsUptoRow : OpenClaim := { program := "ythcagaklinkkpaa", sum := "576e54d982f8b5536565334d51cdc484656f0609f49342341d0fb85e0930e775", func := "compactor/compactorlaw40.CallsKeeps", spec := "callsKeeps", unfollowed := true, recurses := true, apart := false, narrowed := true }
def CallsKeepsUptoSaid : Prop := callsKeepsUptoRow.holds Try.pinned (OpenSpec.upto callsKeepsSpec)

/-- 'compactorlaw40.CallsMeets', WHERE WHAT IT READS IS OF BULK AT MOST 1048576: true; the input reads as it did. -/
def callsMeetsUptoRow : OpenClaim := { program := "ythcagaklinkkpaa", sum := "576e54d982f8b5536565334d51cdc484656f0609f49342341d0fb85e0930e775", func := "compactor/compactorlaw40.CallsMeets", spec := "callsMeets", unfollowed := true, recurses := true, apart := false, narrowed := true }
def CallsMeetsUptoSaid : Prop := callsMeetsUptoRow.holds Try.pinned (OpenSpec.upto callsMeetsSpec)

/-- 'compactorlaw40.CallsParts', WHERE WHAT IT READS IS OF BULK AT MOST 1048576: true; the input reads as it did. -/
def callsPartsUptoRow : OpenClaim := { program := "ythcagaklinkkpaa", sum := "576e54d982f8b5536565334d51cdc484656f0609f49342341d0fb85e0930e775", func := "compactor/compactorlaw40.CallsParts", spec := "callsParts", unfollowed := true, recurses := true, apart := false, narrowed := true }
def CallsPartsUptoSaid : Prop := callsPartsUptoRow.holds Try.pinned (OpenSpec.upto callsPartsSpec)

end Rows
end Go.Proofs.Ythcagaklinkkpaa
