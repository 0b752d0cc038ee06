/-
  No cell of these rows narrows 'for every input' (looked for: loops, veiled, ifaces, maps, wideKeys, modest, calm, conditions, laid).
  DERIVED. THE GIVEN ROWS OF THIS SEAT. 7 by the template 'for every input the law returns true; each argument reads behind the call as it read before'; 0 by the template 'total and deterministic' (their statements: YtmbngfhhegbomaaTotals.lean).
  GIVEN WITH THE SEED: the statements are not yours to turn. If you find one false, say at which input.
  Laid BY PROGRAM, IN A SANDBOX (cutbox-rows.mjs): the forced cells as the released guide's own fill.sh prints them over the translation b5ffcc8ab2578ce6… (all of the seat's roots in one cut). By AI agents, Wed Nov 11 2026. No macro, syntax, notation, axiom, sorry.
-/
import Derived.Test.YtmbngfhhegbomaaChecked
import GoSem.Claim
import GoSem.ClaimJoined
import GoSem.ClaimMapViews
import Derived.JoinedTies
import Derived.KernelRfl
namespace Go.Proofs.Ytmbngfhhegbomaa
/- THE CELL 'sum', in the pinned program and in every row, IS THE sha256 OF THE DUMP (.gsa) THAT YtmbngfhhegbomaaProg.lean LOADS. Nothing in Lean hashes anything: it is a label: what it is worth is what the hold of that sum in a sandbox is worth. -/
noncomputable def Try.pinned : Pinned := { name := "ytmbngfhhegbomaa", sum := "b5ffcc8ab2578ce6ea7d06209f1e2a259c0baea175f765c224c7db94c4b8bb53", checked := Try.checked }
namespace Rows
def none {H : Type} : Left H := { results := [], args := [] }

/-- 'compactorlaw38.DeltaAdds': WHATEVER THE INPUT: true; the input reads as it did. -/
def deltaAddsSpec : ChangeSpec := { name := "deltaAdds", fn := fun _ => fun
  | [d1, d2, d3] => { results := [.lit (.bool true)], args := [d1, d2, d3] }
  | _ => none }
def deltaAddsRow : OpenClaim := { program := "ytmbngfhhegbomaa", sum := "b5ffcc8ab2578ce6ea7d06209f1e2a259c0baea175f765c224c7db94c4b8bb53", func := "compactor/compactorlaw38.DeltaAdds", spec := "deltaAdds", unfollowed := true, recurses := true, apart := false }
def DeltaAddsSaid : Prop := deltaAddsRow.holds Try.pinned (OpenSpec.ofChange deltaAddsSpec)

/-- ITS FALSE NEIGHBOUR: 'it returns false'. Refute it at one input. -/
def deltaAddsWrong : ChangeSpec := { name := "deltaAdds", fn := fun _ => fun
  | [d1, d2, d3] => { results := [.lit (.bool false)], args := [d1, d2, d3] }
  | _ => none }
def DeltaAddsWrongFalsely : Prop := deltaAddsRow.holds Try.pinned (OpenSpec.ofChange deltaAddsWrong)

/-- 'compactorlaw38.DeltaSums': WHATEVER THE INPUT: true; the input reads as it did. -/
def deltaSumsSpec : ChangeSpec := { name := "deltaSums", fn := fun _ => fun
  | [d1, d2, d3] => { results := [.lit (.bool true)], args := [d1, d2, d3] }
  | _ => none }
def deltaSumsRow : OpenClaim := { program := "ytmbngfhhegbomaa", sum := "b5ffcc8ab2578ce6ea7d06209f1e2a259c0baea175f765c224c7db94c4b8bb53", func := "compactor/compactorlaw38.DeltaSums", spec := "deltaSums", unfollowed := true, recurses := true, apart := false }
def DeltaSumsSaid : Prop := deltaSumsRow.holds Try.pinned (OpenSpec.ofChange deltaSumsSpec)

/-- ITS FALSE NEIGHBOUR: 'it returns false'. Refute it at one input. -/
def deltaSumsWrong : ChangeSpec := { name := "deltaSums", fn := fun _ => fun
  | [d1, d2, d3] => { results := [.lit (.bool false)], args := [d1, d2, d3] }
  | _ => none }
def DeltaSumsWrongFalsely : Prop := deltaSumsRow.holds Try.pinned (OpenSpec.ofChange deltaSumsWrong)

/-- 'compactorlaw38.DeltaWeighs': WHATEVER THE INPUT: true; the input reads as it did. -/
def deltaWeighsSpec : ChangeSpec := { name := "deltaWeighs", fn := fun _ => fun
  | [d1, d2] => { results := [.lit (.bool true)], args := [d1, d2] }
  | _ => none }
def deltaWeighsRow : OpenClaim := { program := "ytmbngfhhegbomaa", sum := "b5ffcc8ab2578ce6ea7d06209f1e2a259c0baea175f765c224c7db94c4b8bb53", func := "compactor/compactorlaw38.DeltaWeighs", spec := "deltaWeighs", unfollowed := true, recurses := true, apart := false }
def DeltaWeighsSaid : Prop := deltaWeighsRow.holds Try.pinned (OpenSpec.ofChange deltaWeighsSpec)

/-- ITS FALSE NEIGHBOUR: 'it returns false'. Refute it at one input. -/
def deltaWeighsWrong : ChangeSpec := { name := "deltaWeighs", fn := fun _ => fun
  | [d1, d2] => { results := [.lit (.bool false)], args := [d1, d2] }
  | _ => none }
def DeltaWeighsWrongFalsely : Prop := deltaWeighsRow.holds Try.pinned (OpenSpec.ofChange deltaWeighsWrong)

/-- 'compactorlaw38.DeltaInverts': WHATEVER THE INPUT: true; the input reads as it did. -/
def deltaInvertsSpec : ChangeSpec := { name := "deltaInverts", fn := fun _ => fun
  | [d1, d2, d3] => { results := [.lit (.bool true)], args := [d1, d2, d3] }
  | _ => none }
def deltaInvertsRow : OpenClaim := { program := "ytmbngfhhegbomaa", sum := "b5ffcc8ab2578ce6ea7d06209f1e2a259c0baea175f765c224c7db94c4b8bb53", func := "compactor/compactorlaw38.DeltaInverts", spec := "deltaInverts", unfollowed := true, recurses := true, apart := false }
def DeltaInvertsSaid : Prop := deltaInvertsRow.holds Try.pinned (OpenSpec.ofChange deltaInvertsSpec)

/-- ITS FALSE NEIGHBOUR: 'it returns false'. Refute it at one input. -/
def deltaInvertsWrong : ChangeSpec := { name := "deltaInverts", fn := fun _ => fun
  | [d1, d2, d3] => { results := [.lit (.bool false)], args := [d1, d2, d3] }
  | _ => none }
def DeltaInvertsWrongFalsely : Prop := deltaInvertsRow.holds Try.pinned (OpenSpec.ofChange deltaInvertsWrong)

/-- 'compactorlaw38.DeltaTables': WHATEVER THE INPUT: true; the input reads as it did. -/
def deltaTablesSpec : ChangeSpec := { name := "deltaTables", fn := fun _ => fun
  | [d1, d2, d3] => { results := [.lit (.bool true)], args := [d1, d2, d3] }
  | _ => none }
def deltaTablesRow : OpenClaim := { program := "ytmbngfhhegbomaa", sum := "b5ffcc8ab2578ce6ea7d06209f1e2a259c0baea175f765c224c7db94c4b8bb53", func := "compactor/compactorlaw38.DeltaTables", spec := "deltaTables", unfollowed := true, recurses := true, apart := false }
def DeltaTablesSaid : Prop := deltaTablesRow.holds Try.pinned (OpenSpec.ofChange deltaTablesSpec)

/-- ITS FALSE NEIGHBOUR: 'it returns false'. Refute it at one input. -/
def deltaTablesWrong : ChangeSpec := { name := "deltaTables", fn := fun _ => fun
  | [d1, d2, d3] => { results := [.lit (.bool false)], args := [d1, d2, d3] }
  | _ => none }
def DeltaTablesWrongFalsely : Prop := deltaTablesRow.holds Try.pinned (OpenSpec.ofChange deltaTablesWrong)

/-- 'compactorlaw38.DeltaSubtracts': WHATEVER THE INPUT: true; the input reads as it did. -/
def deltaSubtractsSpec : ChangeSpec := { name := "deltaSubtracts", fn := fun _ => fun
  | [d1, d2] => { results := [.lit (.bool true)], args := [d1, d2] }
  | _ => none }
def deltaSubtractsRow : OpenClaim := { program := "ytmbngfhhegbomaa", sum := "b5ffcc8ab2578ce6ea7d06209f1e2a259c0baea175f765c224c7db94c4b8bb53", func := "compactor/compactorlaw38.DeltaSubtracts", spec := "deltaSubtracts", unfollowed := true, recurses := true, apart := false }
def DeltaSubtractsSaid : Prop := deltaSubtractsRow.holds Try.pinned (OpenSpec.ofChange deltaSubtractsSpec)

/-- ITS FALSE NEIGHBOUR: 'it returns false'. Refute it at one input. -/
def deltaSubtractsWrong : ChangeSpec := { name := "deltaSubtracts", fn := fun _ => fun
  | [d1, d2] => { results := [.lit (.bool false)], args := [d1, d2] }
  | _ => none }
def DeltaSubtractsWrongFalsely : Prop := deltaSubtractsRow.holds Try.pinned (OpenSpec.ofChange deltaSubtractsWrong)

/-- 'compactorlaw38.DeltaOrders': WHATEVER THE INPUT: true; the input reads as it did. -/
def deltaOrdersSpec : ChangeSpec := { name := "deltaOrders", fn := fun _ => fun
  | [d1, d2, d3] => { results := [.lit (.bool true)], args := [d1, d2, d3] }
  | _ => none }
def deltaOrdersRow : OpenClaim := { program := "ytmbngfhhegbomaa", sum := "b5ffcc8ab2578ce6ea7d06209f1e2a259c0baea175f765c224c7db94c4b8bb53", func := "compactor/compactorlaw38.DeltaOrders", spec := "deltaOrders", unfollowed := true, recurses := true, apart := false }
def DeltaOrdersSaid : Prop := deltaOrdersRow.holds Try.pinned (OpenSpec.ofChange deltaOrdersSpec)

/-- ITS FALSE NEIGHBOUR: 'it returns false'. Refute it at one input. -/
def deltaOrdersWrong : ChangeSpec := { name := "deltaOrders", fn := fun _ => fun
  | [d1, d2, d3] => { results := [.lit (.bool false)], args := [d1, d2, d3] }
  | _ => none }
def DeltaOrdersWrongFalsely : Prop := deltaOrdersRow.holds Try.pinned (OpenSpec.ofChange deltaOrdersWrong)

/- THE SECOND FORM. 'bulk': how many values and letters a reading holds, each counted each time it is reached (what is shared counts as often as it is met; a slice's spare places count too). A statement '..UptoSaid' is the law's where the arguments, and the package variables that the reading takes, are together of bulk at most 1048576: NARROWER than '..Said'. Prove '..Said' where nothing that the law and all that it calls make is longer than what came in: it says more and counts as full. Else prove '..UptoSaid'. A law counts once. -/
mutual
def uptoBulk {H : Type} : DataW H → Nat
  | .lit (.string bytes) => bytes.length + 1
  | .lit _ => 1
  | .nil => 1
  | .ptr d => uptoBulk d + 1
  | .slice elems spare => uptoBulkAll elems + uptoBulkAll spare + 1
  | .agg parts => uptoBulkAll parts + 1
  | .iface _ d => uptoBulk d + 1
  | .map entries => uptoBulkEntries entries + 1
  | .held _ => 1
def uptoBulkAll {H : Type} : List (DataW H) → Nat
  | [] => 0
  | d :: r => uptoBulk d + uptoBulkAll r
def uptoBulkEntries {H : Type} : List (Lit × DataW H) → Nat
  | [] => 0
  | x :: r => uptoBulkEntry x + uptoBulkEntries r
def uptoBulkEntry {H : Type} : Lit × DataW H → Nat
  | (.string bytes, d) => bytes.length + uptoBulk d + 1
  | (_, d) => uptoBulk d + 1
 end
def uptoSmall : (H : Type) → List (DataW H) → Bool := fun _ ds => decide (uptoBulkAll ds ≤ 1048576)
def OpenSpec.upto (s : _root_.Go.ChangeSpec) : _root_.Go.OpenSpec := { _root_.Go.OpenSpec.ofChange s with cond := some uptoSmall }

/-- 'compactorlaw38.DeltaAdds', WHERE WHAT IT READS IS OF BULK AT MOST 1048576: true; the input reads as it did. -/
def deltaAddsUptoRow : OpenClaim := { program := "ytmbngfhhegbomaa", sum := "b5ffcc8ab2578ce6ea7d06209f1e2a259c0baea175f765c224c7db94c4b8bb53", func := "compactor/compactorlaw38.DeltaAdds", spec := "deltaAdds", unfollowed := true, recurses := true, apart := false, narrowed := true }
def DeltaAddsUptoSaid : Prop := deltaAddsUptoRow.holds Try.pinned (OpenSpec.upto deltaAddsSpec)

/-- 'compactorlaw38.DeltaSums', WHERE WHAT IT READS IS OF BULK AT MOST 1048576: true; the input reads as it did. -/
def deltaSumsUptoRow : OpenClaim := { program := "ytmbngfhhegbomaa", sum := "b5ffcc8ab2578ce6ea7d06209f1e2a259c0baea175f765c224c7db94c4b8bb53", func := "compactor/compactorlaw38.DeltaSums", spec := "deltaSums", unfollowed := true, recurses := true, apart := false, narrowed := true }
def DeltaSumsUptoSaid : Prop := deltaSumsUptoRow.holds Try.pinned (OpenSpec.upto deltaSumsSpec)

/-- 'compactorlaw38.DeltaWeighs', WHERE WHAT IT READS IS OF BULK AT MOST 1048576: true; the input reads as it did. -/
def deltaWeighsUptoRow : OpenClaim := { program := "ytmbngfhhegbomaa", sum := "b5ffcc8ab2578ce6ea7d06209f1e2a259c0baea175f765c224c7db94c4b8bb53", func := "compactor/compactorlaw38.DeltaWeighs", spec := "deltaWeighs", unfollowed := true, recurses := true, apart := false, narrowed := true }
def DeltaWeighsUptoSaid : Prop := deltaWeighsUptoRow.holds Try.pinned (OpenSpec.upto deltaWeighsSpec)

/-- 'compactorlaw38.DeltaInverts', WHERE WHAT IT READS IS OF BULK AT MOST 1048576: true; the input reads as it did. -/
def deltaInvertsUptoRow : OpenClaim := { program := "ytmbngfhhegbomaa", sum := "b5ffcc8ab2578ce6ea7d06209f1e2a259c0baea175f765c224c7db94c4b8bb53", func := "compactor/compactorlaw38.DeltaInverts", spec := "deltaInverts", unfollowed := true, recurses := true, apart := false, narrowed := true }
def DeltaInvertsUptoSaid : Prop := deltaInvertsUptoRow.holds Try.pinned (OpenSpec.upto deltaInvertsSpec)

/-- 'compactorlaw38.DeltaTables', WHERE WHAT IT READS IS OF BULK AT MOST 1048576: true; the input reads as it did. -/
def deltaTablesUptoRow : OpenClaim := { program := "ytmbngfhhegbomaa", sum := "b5ffcc8ab2578ce6ea7d06209f1e2a259c0baea175f765c224c7db94c4b8bb53", func := "compactor/compactorlaw38.DeltaTables", spec := "deltaTables", unfollowed := true, recurses := true, apart := false, narrowed := true }
def DeltaTablesUptoSaid : Prop := deltaTablesUptoRow.holds Try.pinned (OpenSpec.upto deltaTablesSpec)

/-- 'compactorlaw38.DeltaSubtracts', WHERE WHAT IT READS IS OF BULK AT MOST 1048576: true; the input reads as it did. -/
def deltaSubtractsUptoRow : OpenClaim := { program := "ytmbngfhhegbomaa", sum := "b5ffcc8ab2578ce6ea7d06209f1e2a259c0baea175f765c224c7db94c4b8bb53", func := "compactor/compactorlaw38.DeltaSubtracts", spec := "deltaSubtracts", unfollowed := true, recurses := true, apart := false, narrowed := true }
def DeltaSubtractsUptoSaid : Prop := deltaSubtractsUptoRow.holds Try.pinned (OpenSpec.upto deltaSubtractsSpec)

/-- 'compactorlaw38.DeltaOrders', WHERE WHAT IT READS IS OF BULK AT MOST 1048576: true; the input reads as it did. -/
def deltaOrdersUptoRow : OpenClaim := { program := "ytmbngfhhegbomaa", sum := "b5ffcc8ab2578ce6ea7d06209f1e2a259c0baea175f765c224c7db94c4b8bb53", func := "compactor/compactorlaw38.DeltaOrders", spec := "deltaOrders", unfollowed := true, recurses := true, apart := false, narrowed := true }
def DeltaOrdersUptoSaid : Prop := deltaOrdersUptoRow.holds Try.pinned (OpenSpec.upto deltaOrdersSpec)

end Rows
end Go.Proofs.Ytmbngfhhegbomaa
