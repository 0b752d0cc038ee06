/-
  No cell of these rows narrows 'for every input' (looked for: loops, veiled, ifaces, maps, wideKeys, modest, calm, conditions, laid).
  DERIVED. THE GIVEN ROWS OF THIS SEAT. 8 by the template 'for every input the law returns true; each argument reads behind the call as it read before'; 0 by the template 'total and deterministic' (their statements: YtgaifkjdaldmnaaTotals.lean).
  GIVEN WITH THE SEED: the statements are not yours to turn. If you find one false, say at which input.
  Laid BY PROGRAM, IN A SANDBOX (cutbox-rows.mjs): the forced cells as the released guide's own fill.sh prints them over the translation 2eac9d86adfae06a… (all of the seat's roots in one cut). By AI agents, Wed Nov 11 2026. No macro, syntax, notation, axiom, sorry.
-/
import Derived.Test.YtgaifkjdaldmnaaChecked
import GoSem.Claim
import GoSem.ClaimJoined
import GoSem.ClaimMapViews
import Derived.JoinedTies
import Derived.KernelRfl
namespace Go.Proofs.Ytgaifkjdaldmnaa
/- THE CELL 'sum', in the pinned program and in every row, IS THE sha256 OF THE DUMP (.gsa) THAT YtgaifkjdaldmnaaProg.lean LOADS. Nothing in Lean hashes anything: it is a label: what it is worth is what the hold of that sum in a sandbox is worth. -/
noncomputable def Try.pinned : Pinned := { name := "ytgaifkjdaldmnaa", sum := "2eac9d86adfae06af88fcae1dd19dd5371221666e60f139ed74aa6c32d06e470", checked := Try.checked }
namespace Rows
def none {H : Type} : Left H := { results := [], args := [] }

/-- 'compactorlaw34.RecencyCodes': WHATEVER THE INPUT: true; the input reads as it did. -/
def recencyCodesSpec : ChangeSpec := { name := "recencyCodes", fn := fun _ => fun
  | [d] => { results := [.lit (.bool true)], args := [d] }
  | _ => none }
def recencyCodesRow : OpenClaim := { program := "ytgaifkjdaldmnaa", sum := "2eac9d86adfae06af88fcae1dd19dd5371221666e60f139ed74aa6c32d06e470", func := "compactor/compactorlaw34.RecencyCodes", spec := "recencyCodes", unfollowed := true, recurses := true, apart := false }
def RecencyCodesSaid : Prop := recencyCodesRow.holds Try.pinned (OpenSpec.ofChange recencyCodesSpec)

/-- ITS FALSE NEIGHBOUR: 'it returns false'. Refute it at one input. -/
def recencyCodesWrong : ChangeSpec := { name := "recencyCodes", fn := fun _ => fun
  | [d] => { results := [.lit (.bool false)], args := [d] }
  | _ => none }
def RecencyCodesWrongFalsely : Prop := recencyCodesRow.holds Try.pinned (OpenSpec.ofChange recencyCodesWrong)

/-- 'compactorlaw34.RecencyShortens': WHATEVER THE INPUT: true; the input reads as it did. -/
def recencyShortensSpec : ChangeSpec := { name := "recencyShortens", fn := fun _ => fun
  | [d1, d2, d3] => { results := [.lit (.bool true)], args := [d1, d2, d3] }
  | _ => none }
def recencyShortensRow : OpenClaim := { program := "ytgaifkjdaldmnaa", sum := "2eac9d86adfae06af88fcae1dd19dd5371221666e60f139ed74aa6c32d06e470", func := "compactor/compactorlaw34.RecencyShortens", spec := "recencyShortens", unfollowed := true, recurses := true, apart := false }
def RecencyShortensSaid : Prop := recencyShortensRow.holds Try.pinned (OpenSpec.ofChange recencyShortensSpec)

/-- ITS FALSE NEIGHBOUR: 'it returns false'. Refute it at one input. -/
def recencyShortensWrong : ChangeSpec := { name := "recencyShortens", fn := fun _ => fun
  | [d1, d2, d3] => { results := [.lit (.bool false)], args := [d1, d2, d3] }
  | _ => none }
def RecencyShortensWrongFalsely : Prop := recencyShortensRow.holds Try.pinned (OpenSpec.ofChange recencyShortensWrong)

/-- 'compactorlaw34.RecencyLists': WHATEVER THE INPUT: true; the input reads as it did. -/
def recencyListsSpec : ChangeSpec := { name := "recencyLists", fn := fun _ => fun
  | [d1, d2] => { results := [.lit (.bool true)], args := [d1, d2] }
  | _ => none }
def recencyListsRow : OpenClaim := { program := "ytgaifkjdaldmnaa", sum := "2eac9d86adfae06af88fcae1dd19dd5371221666e60f139ed74aa6c32d06e470", func := "compactor/compactorlaw34.RecencyLists", spec := "recencyLists", unfollowed := true, recurses := true, apart := false }
def RecencyListsSaid : Prop := recencyListsRow.holds Try.pinned (OpenSpec.ofChange recencyListsSpec)

/-- ITS FALSE NEIGHBOUR: 'it returns false'. Refute it at one input. -/
def recencyListsWrong : ChangeSpec := { name := "recencyLists", fn := fun _ => fun
  | [d1, d2] => { results := [.lit (.bool false)], args := [d1, d2] }
  | _ => none }
def RecencyListsWrongFalsely : Prop := recencyListsRow.holds Try.pinned (OpenSpec.ofChange recencyListsWrong)

/-- 'compactorlaw34.RecencyForwards': WHATEVER THE INPUT: true; the input reads as it did. -/
def recencyForwardsSpec : ChangeSpec := { name := "recencyForwards", fn := fun _ => fun
  | [d] => { results := [.lit (.bool true)], args := [d] }
  | _ => none }
def recencyForwardsRow : OpenClaim := { program := "ytgaifkjdaldmnaa", sum := "2eac9d86adfae06af88fcae1dd19dd5371221666e60f139ed74aa6c32d06e470", func := "compactor/compactorlaw34.RecencyForwards", spec := "recencyForwards", unfollowed := true, recurses := true, apart := false }
def RecencyForwardsSaid : Prop := recencyForwardsRow.holds Try.pinned (OpenSpec.ofChange recencyForwardsSpec)

/-- ITS FALSE NEIGHBOUR: 'it returns false'. Refute it at one input. -/
def recencyForwardsWrong : ChangeSpec := { name := "recencyForwards", fn := fun _ => fun
  | [d] => { results := [.lit (.bool false)], args := [d] }
  | _ => none }
def RecencyForwardsWrongFalsely : Prop := recencyForwardsRow.holds Try.pinned (OpenSpec.ofChange recencyForwardsWrong)

/-- 'compactorlaw34.RecencyReturns': WHATEVER THE INPUT: true; the input reads as it did. -/
def recencyReturnsSpec : ChangeSpec := { name := "recencyReturns", fn := fun _ => fun
  | [d] => { results := [.lit (.bool true)], args := [d] }
  | _ => none }
def recencyReturnsRow : OpenClaim := { program := "ytgaifkjdaldmnaa", sum := "2eac9d86adfae06af88fcae1dd19dd5371221666e60f139ed74aa6c32d06e470", func := "compactor/compactorlaw34.RecencyReturns", spec := "recencyReturns", unfollowed := true, recurses := true, apart := false }
def RecencyReturnsSaid : Prop := recencyReturnsRow.holds Try.pinned (OpenSpec.ofChange recencyReturnsSpec)

/-- ITS FALSE NEIGHBOUR: 'it returns false'. Refute it at one input. -/
def recencyReturnsWrong : ChangeSpec := { name := "recencyReturns", fn := fun _ => fun
  | [d] => { results := [.lit (.bool false)], args := [d] }
  | _ => none }
def RecencyReturnsWrongFalsely : Prop := recencyReturnsRow.holds Try.pinned (OpenSpec.ofChange recencyReturnsWrong)

/-- 'compactorlaw34.RecencyCounts': WHATEVER THE INPUT: true; the input reads as it did. -/
def recencyCountsSpec : ChangeSpec := { name := "recencyCounts", fn := fun _ => fun
  | [d] => { results := [.lit (.bool true)], args := [d] }
  | _ => none }
def recencyCountsRow : OpenClaim := { program := "ytgaifkjdaldmnaa", sum := "2eac9d86adfae06af88fcae1dd19dd5371221666e60f139ed74aa6c32d06e470", func := "compactor/compactorlaw34.RecencyCounts", spec := "recencyCounts", unfollowed := true, recurses := true, apart := false }
def RecencyCountsSaid : Prop := recencyCountsRow.holds Try.pinned (OpenSpec.ofChange recencyCountsSpec)

/-- ITS FALSE NEIGHBOUR: 'it returns false'. Refute it at one input. -/
def recencyCountsWrong : ChangeSpec := { name := "recencyCounts", fn := fun _ => fun
  | [d] => { results := [.lit (.bool false)], args := [d] }
  | _ => none }
def RecencyCountsWrongFalsely : Prop := recencyCountsRow.holds Try.pinned (OpenSpec.ofChange recencyCountsWrong)

/-- 'compactorlaw34.RecencyExpands': WHATEVER THE INPUT: true; the input reads as it did. -/
def recencyExpandsSpec : ChangeSpec := { name := "recencyExpands", fn := fun _ => fun
  | [d] => { results := [.lit (.bool true)], args := [d] }
  | _ => none }
def recencyExpandsRow : OpenClaim := { program := "ytgaifkjdaldmnaa", sum := "2eac9d86adfae06af88fcae1dd19dd5371221666e60f139ed74aa6c32d06e470", func := "compactor/compactorlaw34.RecencyExpands", spec := "recencyExpands", unfollowed := true, recurses := true, apart := false }
def RecencyExpandsSaid : Prop := recencyExpandsRow.holds Try.pinned (OpenSpec.ofChange recencyExpandsSpec)

/-- ITS FALSE NEIGHBOUR: 'it returns false'. Refute it at one input. -/
def recencyExpandsWrong : ChangeSpec := { name := "recencyExpands", fn := fun _ => fun
  | [d] => { results := [.lit (.bool false)], args := [d] }
  | _ => none }
def RecencyExpandsWrongFalsely : Prop := recencyExpandsRow.holds Try.pinned (OpenSpec.ofChange recencyExpandsWrong)

/-- 'compactorlaw34.RecencyInverts': WHATEVER THE INPUT: true; the input reads as it did. -/
def recencyInvertsSpec : ChangeSpec := { name := "recencyInverts", fn := fun _ => fun
  | [d] => { results := [.lit (.bool true)], args := [d] }
  | _ => none }
def recencyInvertsRow : OpenClaim := { program := "ytgaifkjdaldmnaa", sum := "2eac9d86adfae06af88fcae1dd19dd5371221666e60f139ed74aa6c32d06e470", func := "compactor/compactorlaw34.RecencyInverts", spec := "recencyInverts", unfollowed := true, recurses := true, apart := false }
def RecencyInvertsSaid : Prop := recencyInvertsRow.holds Try.pinned (OpenSpec.ofChange recencyInvertsSpec)

/-- ITS FALSE NEIGHBOUR: 'it returns false'. Refute it at one input. -/
def recencyInvertsWrong : ChangeSpec := { name := "recencyInverts", fn := fun _ => fun
  | [d] => { results := [.lit (.bool false)], args := [d] }
  | _ => none }
def RecencyInvertsWrongFalsely : Prop := recencyInvertsRow.holds Try.pinned (OpenSpec.ofChange recencyInvertsWrong)

/- THE SECOND FORM. 'bulk': how many values and letters a reading holds, each counted each time it is reached (what is shared counts as often as it is met; a slice's spare places count too). A statement '..UptoSaid' is the law's where the arguments, and the package variables that the reading takes, are together of bulk at most 1048576: NARROWER than '..Said'. Prove '..Said' where nothing that the law and all that it calls make is longer than what came in: it says more and counts as full. Else prove '..UptoSaid'. A law counts once. -/
mutual
def uptoBulk {H : Type} : DataW H → Nat
  | .lit (.string bytes) => bytes.length + 1
  | .lit _ => 1
  | .nil => 1
  | .ptr d => uptoBulk d + 1
  | .slice elems spare => uptoBulkAll elems + uptoBulkAll spare + 1
  | .agg parts => uptoBulkAll parts + 1
  | .iface _ d => uptoBulk d + 1
  | .map entries => uptoBulkEntries entries + 1
  | .held _ => 1
def uptoBulkAll {H : Type} : List (DataW H) → Nat
  | [] => 0
  | d :: r => uptoBulk d + uptoBulkAll r
def uptoBulkEntries {H : Type} : List (Lit × DataW H) → Nat
  | [] => 0
  | x :: r => uptoBulkEntry x + uptoBulkEntries r
def uptoBulkEntry {H : Type} : Lit × DataW H → Nat
  | (.string bytes, d) => bytes.length + uptoBulk d + 1
  | (_, d) => uptoBulk d + 1
 end
def uptoSmall : (H : Type) → List (DataW H) → Bool := fun _ ds => decide (uptoBulkAll ds ≤ 1048576)
def OpenSpec.upto (s : _root_.Go.ChangeSpec) : _root_.Go.OpenSpec := { _root_.Go.OpenSpec.ofChange s with cond := some uptoSmall }

/-- 'compactorlaw34.RecencyCodes', WHERE WHAT IT READS IS OF BULK AT MOST 1048576: true; the input reads as it did. -/
def recencyCodesUptoRow : OpenClaim := { program := "ytgaifkjdaldmnaa", sum := "2eac9d86adfae06af88fcae1dd19dd5371221666e60f139ed74aa6c32d06e470", func := "compactor/compactorlaw34.RecencyCodes", spec := "recencyCodes", unfollowed := true, recurses := true, apart := false, narrowed := true }
def RecencyCodesUptoSaid : Prop := recencyCodesUptoRow.holds Try.pinned (OpenSpec.upto recencyCodesSpec)

/-- 'compactorlaw34.RecencyShortens', WHERE WHAT IT READS IS OF BULK AT MOST 1048576: true; the input reads as it did. -/
def recencyShortensUptoRow : OpenClaim := { program := "ytgaifkjdaldmnaa", sum := "2eac9d86adfae06af88fcae1dd19dd5371221666e60f139ed74aa6c32d06e470", func := "compactor/compactorlaw34.RecencyShortens", spec := "recencyShortens", unfollowed := true, recurses := true, apart := false, narrowed := true }
def RecencyShortensUptoSaid : Prop := recencyShortensUptoRow.holds Try.pinned (OpenSpec.upto recencyShortensSpec)

/-- 'compactorlaw34.RecencyLists', WHERE WHAT IT READS IS OF BULK AT MOST 1048576: true; the input reads as it did. -/
def recencyListsUptoRow : OpenClaim := { program := "ytgaifkjdaldmnaa", sum := "2eac9d86adfae06af88fcae1dd19dd5371221666e60f139ed74aa6c32d06e470", func := "compactor/compactorlaw34.RecencyLists", spec := "recencyLists", unfollowed := true, recurses := true, apart := false, narrowed := true }
def RecencyListsUptoSaid : Prop := recencyListsUptoRow.holds Try.pinned (OpenSpec.upto recencyListsSpec)

/-- 'compactorlaw34.RecencyForwards', WHERE WHAT IT READS IS OF BULK AT MOST 1048576: true; the input reads as it did. -/
def recencyForwardsUptoRow : OpenClaim := { program := "ytgaifkjdaldmnaa", sum := "2eac9d86adfae06af88fcae1dd19dd5371221666e60f139ed74aa6c32d06e470", func := "compactor/compactorlaw34.RecencyForwards", spec := "recencyForwards", unfollowed := true, recurses := true, apart := false, narrowed := true }
def RecencyForwardsUptoSaid : Prop := recencyForwardsUptoRow.holds Try.pinned (OpenSpec.upto recencyForwardsSpec)

/-- 'compactorlaw34.RecencyReturns', WHERE WHAT IT READS IS OF BULK AT MOST 1048576: true; the input reads as it did. -/
def recencyReturnsUptoRow : OpenClaim := { program := "ytgaifkjdaldmnaa", sum := "2eac9d86adfae06af88fcae1dd19dd5371221666e60f139ed74aa6c32d06e470", func := "compactor/compactorlaw34.RecencyReturns", spec := "recencyReturns", unfollowed := true, recurses := true, apart := false, narrowed := true }
def RecencyReturnsUptoSaid : Prop := recencyReturnsUptoRow.holds Try.pinned (OpenSpec.upto recencyReturnsSpec)

/-- 'compactorlaw34.RecencyCounts', WHERE WHAT IT READS IS OF BULK AT MOST 1048576: true; the input reads as it did. -/
def recencyCountsUptoRow : OpenClaim := { program := "ytgaifkjdaldmnaa", sum := "2eac9d86adfae06af88fcae1dd19dd5371221666e60f139ed74aa6c32d06e470", func := "compactor/compactorlaw34.RecencyCounts", spec := "recencyCounts", unfollowed := true, recurses := true, apart := false, narrowed := true }
def RecencyCountsUptoSaid : Prop := recencyCountsUptoRow.holds Try.pinned (OpenSpec.upto recencyCountsSpec)

/-- 'compactorlaw34.RecencyExpands', WHERE WHAT IT READS IS OF BULK AT MOST 1048576: true; the input reads as it did. -/
def recencyExpandsUptoRow : OpenClaim := { program := "ytgaifkjdaldmnaa", sum := "2eac9d86adfae06af88fcae1dd19dd5371221666e60f139ed74aa6c32d06e470", func := "compactor/compactorlaw34.RecencyExpands", spec := "recencyExpands", unfollowed := true, recurses := true, apart := false, narrowed := true }
def RecencyExpandsUptoSaid : Prop := recencyExpandsUptoRow.holds Try.pinned (OpenSpec.upto recencyExpandsSpec)

/-- 'compactorlaw34.RecencyInverts', WHERE WHAT IT READS IS OF BULK AT MOST 1048576: true; the input reads as it did. -/
def recencyInvertsUptoRow : OpenClaim := { program := "ytgaifkjdaldmnaa", sum := "2eac9d86adfae06af88fcae1dd19dd5371221666e60f139ed74aa6c32d06e470", func := "compactor/compactorlaw34.RecencyInverts", spec := "recencyInverts", unfollowed := true, recurses := true, apart := false, narrowed := true }
def RecencyInvertsUptoSaid : Prop := recencyInvertsUptoRow.holds Try.pinned (OpenSpec.upto recencyInvertsSpec)

end Rows
end Go.Proofs.Ytgaifkjdaldmnaa
