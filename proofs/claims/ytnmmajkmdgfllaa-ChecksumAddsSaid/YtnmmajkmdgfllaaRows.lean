/-
  No cell of these rows narrows 'for every input' (looked for: loops, veiled, ifaces, maps, wideKeys, modest, calm, conditions, laid).
  DERIVED. THE GIVEN ROWS OF THIS SEAT. 6 by the template 'for every input the law returns true; each argument reads behind the call as it read before'; 0 by the template 'total and deterministic' (their statements: YtnmmajkmdgfllaaTotals.lean).
  GIVEN WITH THE SEED: the statements are not yours to turn. If you find one false, say at which input.
  Laid BY PROGRAM, IN A SANDBOX (cutbox-rows.mjs): the forced cells as the released guide's own fill.sh prints them over the translation b5ac328a81ce0661… (all of the seat's roots in one cut). By AI agents, Wed Nov 11 2026. No macro, syntax, notation, axiom, sorry.
-/
import Derived.Test.YtnmmajkmdgfllaaChecked
import GoSem.Claim
import GoSem.ClaimJoined
import GoSem.ClaimMapViews
import Derived.JoinedTies
import Derived.KernelRfl
namespace Go.Proofs.Ytnmmajkmdgfllaa
/- THE CELL 'sum', in the pinned program and in every row, IS THE sha256 OF THE DUMP (.gsa) THAT YtnmmajkmdgfllaaProg.lean LOADS. Nothing in Lean hashes anything: it is a label: what it is worth is what the hold of that sum in a sandbox is worth. -/
noncomputable def Try.pinned : Pinned := { name := "ytnmmajkmdgfllaa", sum := "b5ac328a81ce0661e0db2e81c3f406e1a3e4ecaaabc0bce1b068d406c795c78f", checked := Try.checked }
namespace Rows
def none {H : Type} : Left H := { results := [], args := [] }

/-- 'compactorlaw03.ChecksumCombines': WHATEVER THE INPUT: true; the input reads as it did. -/
def checksumCombinesSpec : ChangeSpec := { name := "checksumCombines", fn := fun _ => fun
  | [d1, d2, d3] => { results := [.lit (.bool true)], args := [d1, d2, d3] }
  | _ => none }
def checksumCombinesRow : OpenClaim := { program := "ytnmmajkmdgfllaa", sum := "b5ac328a81ce0661e0db2e81c3f406e1a3e4ecaaabc0bce1b068d406c795c78f", func := "compactor/compactorlaw03.ChecksumCombines", spec := "checksumCombines", unfollowed := true, recurses := true, apart := false }
def ChecksumCombinesSaid : Prop := checksumCombinesRow.holds Try.pinned (OpenSpec.ofChange checksumCombinesSpec)

/-- ITS FALSE NEIGHBOUR: 'it returns false'. Refute it at one input. -/
def checksumCombinesWrong : ChangeSpec := { name := "checksumCombines", fn := fun _ => fun
  | [d1, d2, d3] => { results := [.lit (.bool false)], args := [d1, d2, d3] }
  | _ => none }
def ChecksumCombinesWrongFalsely : Prop := checksumCombinesRow.holds Try.pinned (OpenSpec.ofChange checksumCombinesWrong)

/-- 'compactorlaw03.ChecksumJoins': WHATEVER THE INPUT: true; the input reads as it did. -/
def checksumJoinsSpec : ChangeSpec := { name := "checksumJoins", fn := fun _ => fun
  | [d1, d2] => { results := [.lit (.bool true)], args := [d1, d2] }
  | _ => none }
def checksumJoinsRow : OpenClaim := { program := "ytnmmajkmdgfllaa", sum := "b5ac328a81ce0661e0db2e81c3f406e1a3e4ecaaabc0bce1b068d406c795c78f", func := "compactor/compactorlaw03.ChecksumJoins", spec := "checksumJoins", unfollowed := true, recurses := true, apart := false }
def ChecksumJoinsSaid : Prop := checksumJoinsRow.holds Try.pinned (OpenSpec.ofChange checksumJoinsSpec)

/-- ITS FALSE NEIGHBOUR: 'it returns false'. Refute it at one input. -/
def checksumJoinsWrong : ChangeSpec := { name := "checksumJoins", fn := fun _ => fun
  | [d1, d2] => { results := [.lit (.bool false)], args := [d1, d2] }
  | _ => none }
def ChecksumJoinsWrongFalsely : Prop := checksumJoinsRow.holds Try.pinned (OpenSpec.ofChange checksumJoinsWrong)

/-- 'compactorlaw03.ChecksumDetects': WHATEVER THE INPUT: true; the input reads as it did. -/
def checksumDetectsSpec : ChangeSpec := { name := "checksumDetects", fn := fun _ => fun
  | [d1, d2, d3] => { results := [.lit (.bool true)], args := [d1, d2, d3] }
  | _ => none }
def checksumDetectsRow : OpenClaim := { program := "ytnmmajkmdgfllaa", sum := "b5ac328a81ce0661e0db2e81c3f406e1a3e4ecaaabc0bce1b068d406c795c78f", func := "compactor/compactorlaw03.ChecksumDetects", spec := "checksumDetects", unfollowed := true, recurses := true, apart := false }
def ChecksumDetectsSaid : Prop := checksumDetectsRow.holds Try.pinned (OpenSpec.ofChange checksumDetectsSpec)

/-- ITS FALSE NEIGHBOUR: 'it returns false'. Refute it at one input. -/
def checksumDetectsWrong : ChangeSpec := { name := "checksumDetects", fn := fun _ => fun
  | [d1, d2, d3] => { results := [.lit (.bool false)], args := [d1, d2, d3] }
  | _ => none }
def ChecksumDetectsWrongFalsely : Prop := checksumDetectsRow.holds Try.pinned (OpenSpec.ofChange checksumDetectsWrong)

/-- 'compactorlaw03.ChecksumAdds': WHATEVER THE INPUT: true; the input reads as it did. -/
def checksumAddsSpec : ChangeSpec := { name := "checksumAdds", fn := fun _ => fun
  | [d1, d2, d3] => { results := [.lit (.bool true)], args := [d1, d2, d3] }
  | _ => none }
def checksumAddsRow : OpenClaim := { program := "ytnmmajkmdgfllaa", sum := "b5ac328a81ce0661e0db2e81c3f406e1a3e4ecaaabc0bce1b068d406c795c78f", func := "compactor/compactorlaw03.ChecksumAdds", spec := "checksumAdds", unfollowed := true, recurses := true, apart := false }
def ChecksumAddsSaid : Prop := checksumAddsRow.holds Try.pinned (OpenSpec.ofChange checksumAddsSpec)

/-- ITS FALSE NEIGHBOUR: 'it returns false'. Refute it at one input. -/
def checksumAddsWrong : ChangeSpec := { name := "checksumAdds", fn := fun _ => fun
  | [d1, d2, d3] => { results := [.lit (.bool false)], args := [d1, d2, d3] }
  | _ => none }
def ChecksumAddsWrongFalsely : Prop := checksumAddsRow.holds Try.pinned (OpenSpec.ofChange checksumAddsWrong)

/-- 'compactorlaw03.ChecksumSeals': WHATEVER THE INPUT: true; the input reads as it did. -/
def checksumSealsSpec : ChangeSpec := { name := "checksumSeals", fn := fun _ => fun
  | [d] => { results := [.lit (.bool true)], args := [d] }
  | _ => none }
def checksumSealsRow : OpenClaim := { program := "ytnmmajkmdgfllaa", sum := "b5ac328a81ce0661e0db2e81c3f406e1a3e4ecaaabc0bce1b068d406c795c78f", func := "compactor/compactorlaw03.ChecksumSeals", spec := "checksumSeals", unfollowed := true, recurses := true, apart := false }
def ChecksumSealsSaid : Prop := checksumSealsRow.holds Try.pinned (OpenSpec.ofChange checksumSealsSpec)

/-- ITS FALSE NEIGHBOUR: 'it returns false'. Refute it at one input. -/
def checksumSealsWrong : ChangeSpec := { name := "checksumSeals", fn := fun _ => fun
  | [d] => { results := [.lit (.bool false)], args := [d] }
  | _ => none }
def ChecksumSealsWrongFalsely : Prop := checksumSealsRow.holds Try.pinned (OpenSpec.ofChange checksumSealsWrong)

/-- 'compactorlaw03.ChecksumOpens': WHATEVER THE INPUT: true; the input reads as it did. -/
def checksumOpensSpec : ChangeSpec := { name := "checksumOpens", fn := fun _ => fun
  | [d1, d2, d3] => { results := [.lit (.bool true)], args := [d1, d2, d3] }
  | _ => none }
def checksumOpensRow : OpenClaim := { program := "ytnmmajkmdgfllaa", sum := "b5ac328a81ce0661e0db2e81c3f406e1a3e4ecaaabc0bce1b068d406c795c78f", func := "compactor/compactorlaw03.ChecksumOpens", spec := "checksumOpens", unfollowed := true, recurses := true, apart := false }
def ChecksumOpensSaid : Prop := checksumOpensRow.holds Try.pinned (OpenSpec.ofChange checksumOpensSpec)

/-- ITS FALSE NEIGHBOUR: 'it returns false'. Refute it at one input. -/
def checksumOpensWrong : ChangeSpec := { name := "checksumOpens", fn := fun _ => fun
  | [d1, d2, d3] => { results := [.lit (.bool false)], args := [d1, d2, d3] }
  | _ => none }
def ChecksumOpensWrongFalsely : Prop := checksumOpensRow.holds Try.pinned (OpenSpec.ofChange checksumOpensWrong)

/- THE SECOND FORM. 'bulk': how many values and letters a reading holds, each counted each time it is reached (what is shared counts as often as it is met; a slice's spare places count too). A statement '..UptoSaid' is the law's where the arguments, and the package variables that the reading takes, are together of bulk at most 1048576: NARROWER than '..Said'. Prove '..Said' where nothing that the law and all that it calls make is longer than what came in: it says more and counts as full. Else prove '..UptoSaid'. A law counts once. -/
mutual
def uptoBulk {H : Type} : DataW H → Nat
  | .lit (.string bytes) => bytes.length + 1
  | .lit _ => 1
  | .nil => 1
  | .ptr d => uptoBulk d + 1
  | .slice elems spare => uptoBulkAll elems + uptoBulkAll spare + 1
  | .agg parts => uptoBulkAll parts + 1
  | .iface _ d => uptoBulk d + 1
  | .map entries => uptoBulkEntries entries + 1
  | .held _ => 1
def uptoBulkAll {H : Type} : List (DataW H) → Nat
  | [] => 0
  | d :: r => uptoBulk d + uptoBulkAll r
def uptoBulkEntries {H : Type} : List (Lit × DataW H) → Nat
  | [] => 0
  | x :: r => uptoBulkEntry x + uptoBulkEntries r
def uptoBulkEntry {H : Type} : Lit × DataW H → Nat
  | (.string bytes, d) => bytes.length + uptoBulk d + 1
  | (_, d) => uptoBulk d + 1
 end
def uptoSmall : (H : Type) → List (DataW H) → Bool := fun _ ds => decide (uptoBulkAll ds ≤ 1048576)
def OpenSpec.upto (s : _root_.Go.ChangeSpec) : _root_.Go.OpenSpec := { _root_.Go.OpenSpec.ofChange s with cond := some uptoSmall }

/-- 'compactorlaw03.ChecksumCombines', WHERE WHAT IT READS IS OF BULK AT MOST 1048576: true; the input reads as it did. -/
def checksumCombinesUptoRow : OpenClaim := { program := "ytnmmajkmdgfllaa", sum := "b5ac328a81ce0661e0db2e81c3f406e1a3e4ecaaabc0bce1b068d406c795c78f", func := "compactor/compactorlaw03.ChecksumCombines", spec := "checksumCombines", unfollowed := true, recurses := true, apart := false, narrowed := true }
def ChecksumCombinesUptoSaid : Prop := checksumCombinesUptoRow.holds Try.pinned (OpenSpec.upto checksumCombinesSpec)

/-- 'compactorlaw03.ChecksumJoins', WHERE WHAT IT READS IS OF BULK AT MOST 1048576: true; the input reads as it did. -/
def checksumJoinsUptoRow : OpenClaim := { program := "ytnmmajkmdgfllaa", sum := "b5ac328a81ce0661e0db2e81c3f406e1a3e4ecaaabc0bce1b068d406c795c78f", func := "compactor/compactorlaw03.ChecksumJoins", spec := "checksumJoins", unfollowed := true, recurses := true, apart := false, narrowed := true }
def ChecksumJoinsUptoSaid : Prop := checksumJoinsUptoRow.holds Try.pinned (OpenSpec.upto checksumJoinsSpec)

/-- 'compactorlaw03.ChecksumDetects', WHERE WHAT IT READS IS OF BULK AT MOST 1048576: true; the input reads as it did. -/
def checksumDetectsUptoRow : OpenClaim := { program := "ytnmmajkmdgfllaa", sum := "b5ac328a81ce0661e0db2e81c3f406e1a3e4ecaaabc0bce1b068d406c795c78f", func := "compactor/compactorlaw03.ChecksumDetects", spec := "checksumDetects", unfollowed := true, recurses := true, apart := false, narrowed := true }
def ChecksumDetectsUptoSaid : Prop := checksumDetectsUptoRow.holds Try.pinned (OpenSpec.upto checksumDetectsSpec)

/-- 'compactorlaw03.ChecksumAdds', WHERE WHAT IT READS IS OF BULK AT MOST 1048576: true; the input reads as it did. -/
def checksumAddsUptoRow : OpenClaim := { program := "ytnmmajkmdgfllaa", sum := "b5ac328a81ce0661e0db2e81c3f406e1a3e4ecaaabc0bce1b068d406c795c78f", func := "compactor/compactorlaw03.ChecksumAdds", spec := "checksumAdds", unfollowed := true, recurses := true, apart := false, narrowed := true }
def ChecksumAddsUptoSaid : Prop := checksumAddsUptoRow.holds Try.pinned (OpenSpec.upto checksumAddsSpec)

/-- 'compactorlaw03.ChecksumSeals', WHERE WHAT IT READS IS OF BULK AT MOST 1048576: true; the input reads as it did. -/
def checksumSealsUptoRow : OpenClaim := { program := "ytnmmajkmdgfllaa", sum := "b5ac328a81ce0661e0db2e81c3f406e1a3e4ecaaabc0bce1b068d406c795c78f", func := "compactor/compactorlaw03.ChecksumSeals", spec := "checksumSeals", unfollowed := true, recurses := true, apart := false, narrowed := true }
def ChecksumSealsUptoSaid : Prop := checksumSealsUptoRow.holds Try.pinned (OpenSpec.upto checksumSealsSpec)

/-- 'compactorlaw03.ChecksumOpens', WHERE WHAT IT READS IS OF BULK AT MOST 1048576: true; the input reads as it did. -/
def checksumOpensUptoRow : OpenClaim := { program := "ytnmmajkmdgfllaa", sum := "b5ac328a81ce0661e0db2e81c3f406e1a3e4ecaaabc0bce1b068d406c795c78f", func := "compactor/compactorlaw03.ChecksumOpens", spec := "checksumOpens", unfollowed := true, recurses := true, apart := false, narrowed := true }
def ChecksumOpensUptoSaid : Prop := checksumOpensUptoRow.holds Try.pinned (OpenSpec.upto checksumOpensSpec)

end Rows
end Go.Proofs.Ytnmmajkmdgfllaa
