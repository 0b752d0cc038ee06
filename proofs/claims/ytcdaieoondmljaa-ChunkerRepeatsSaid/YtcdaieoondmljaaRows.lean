/-
  No cell of these rows narrows 'for every input' (looked for: loops, veiled, ifaces, maps, wideKeys, modest, calm, conditions, laid).
  DERIVED. THE GIVEN ROWS OF THIS SEAT. 8 by the template 'for every input the law returns true; each argument reads behind the call as it read before'; 0 by the template 'total and deterministic' (their statements: YtcdaieoondmljaaTotals.lean).
  GIVEN WITH THE SEED: the statements are not yours to turn. If you find one false, say at which input.
  Laid BY PROGRAM, IN A SANDBOX (cutbox-rows.mjs): the forced cells as the released guide's own fill.sh prints them over the translation 0da04251815f9680… (all of the seat's roots in one cut). By AI agents, Wed Nov 11 2026. No macro, syntax, notation, axiom, sorry.
-/
import Derived.Test.YtcdaieoondmljaaChecked
import GoSem.Claim
import GoSem.ClaimJoined
import GoSem.ClaimMapViews
import Derived.JoinedTies
import Derived.KernelRfl
namespace Go.Proofs.Ytcdaieoondmljaa
/- THE CELL 'sum', in the pinned program and in every row, IS THE sha256 OF THE DUMP (.gsa) THAT YtcdaieoondmljaaProg.lean LOADS. Nothing in Lean hashes anything: it is a label: what it is worth is what the hold of that sum in a sandbox is worth. -/
noncomputable def Try.pinned : Pinned := { name := "ytcdaieoondmljaa", sum := "0da04251815f96800a291a4448d7f3426fb8d1400e31635afd49bedab94625f0", checked := Try.checked }
namespace Rows
def none {H : Type} : Left H := { results := [], args := [] }

/-- 'compactorlaw45.ChunkerSplits': WHATEVER THE INPUT: true; the input reads as it did. -/
def chunkerSplitsSpec : ChangeSpec := { name := "chunkerSplits", fn := fun _ => fun
  | [d1, d2] => { results := [.lit (.bool true)], args := [d1, d2] }
  | _ => none }
def chunkerSplitsRow : OpenClaim := { program := "ytcdaieoondmljaa", sum := "0da04251815f96800a291a4448d7f3426fb8d1400e31635afd49bedab94625f0", func := "compactor/compactorlaw45.ChunkerSplits", spec := "chunkerSplits", unfollowed := true, recurses := true, apart := false }
def ChunkerSplitsSaid : Prop := chunkerSplitsRow.holds Try.pinned (OpenSpec.ofChange chunkerSplitsSpec)

/-- ITS FALSE NEIGHBOUR: 'it returns false'. Refute it at one input. -/
def chunkerSplitsWrong : ChangeSpec := { name := "chunkerSplits", fn := fun _ => fun
  | [d1, d2] => { results := [.lit (.bool false)], args := [d1, d2] }
  | _ => none }
def ChunkerSplitsWrongFalsely : Prop := chunkerSplitsRow.holds Try.pinned (OpenSpec.ofChange chunkerSplitsWrong)

/-- 'compactorlaw45.ChunkerCovers': WHATEVER THE INPUT: true; the input reads as it did. -/
def chunkerCoversSpec : ChangeSpec := { name := "chunkerCovers", fn := fun _ => fun
  | [d1, d2] => { results := [.lit (.bool true)], args := [d1, d2] }
  | _ => none }
def chunkerCoversRow : OpenClaim := { program := "ytcdaieoondmljaa", sum := "0da04251815f96800a291a4448d7f3426fb8d1400e31635afd49bedab94625f0", func := "compactor/compactorlaw45.ChunkerCovers", spec := "chunkerCovers", unfollowed := true, recurses := true, apart := false }
def ChunkerCoversSaid : Prop := chunkerCoversRow.holds Try.pinned (OpenSpec.ofChange chunkerCoversSpec)

/-- ITS FALSE NEIGHBOUR: 'it returns false'. Refute it at one input. -/
def chunkerCoversWrong : ChangeSpec := { name := "chunkerCovers", fn := fun _ => fun
  | [d1, d2] => { results := [.lit (.bool false)], args := [d1, d2] }
  | _ => none }
def ChunkerCoversWrongFalsely : Prop := chunkerCoversRow.holds Try.pinned (OpenSpec.ofChange chunkerCoversWrong)

/-- 'compactorlaw45.ChunkerCuts': WHATEVER THE INPUT: true; the input reads as it did. -/
def chunkerCutsSpec : ChangeSpec := { name := "chunkerCuts", fn := fun _ => fun
  | [d1, d2] => { results := [.lit (.bool true)], args := [d1, d2] }
  | _ => none }
def chunkerCutsRow : OpenClaim := { program := "ytcdaieoondmljaa", sum := "0da04251815f96800a291a4448d7f3426fb8d1400e31635afd49bedab94625f0", func := "compactor/compactorlaw45.ChunkerCuts", spec := "chunkerCuts", unfollowed := true, recurses := true, apart := false }
def ChunkerCutsSaid : Prop := chunkerCutsRow.holds Try.pinned (OpenSpec.ofChange chunkerCutsSpec)

/-- ITS FALSE NEIGHBOUR: 'it returns false'. Refute it at one input. -/
def chunkerCutsWrong : ChangeSpec := { name := "chunkerCuts", fn := fun _ => fun
  | [d1, d2] => { results := [.lit (.bool false)], args := [d1, d2] }
  | _ => none }
def ChunkerCutsWrongFalsely : Prop := chunkerCutsRow.holds Try.pinned (OpenSpec.ofChange chunkerCutsWrong)

/-- 'compactorlaw45.ChunkerNext': WHATEVER THE INPUT: true; the input reads as it did. -/
def chunkerNextSpec : ChangeSpec := { name := "chunkerNext", fn := fun _ => fun
  | [d1, d2, d3] => { results := [.lit (.bool true)], args := [d1, d2, d3] }
  | _ => none }
def chunkerNextRow : OpenClaim := { program := "ytcdaieoondmljaa", sum := "0da04251815f96800a291a4448d7f3426fb8d1400e31635afd49bedab94625f0", func := "compactor/compactorlaw45.ChunkerNext", spec := "chunkerNext", unfollowed := true, recurses := true, apart := false }
def ChunkerNextSaid : Prop := chunkerNextRow.holds Try.pinned (OpenSpec.ofChange chunkerNextSpec)

/-- ITS FALSE NEIGHBOUR: 'it returns false'. Refute it at one input. -/
def chunkerNextWrong : ChangeSpec := { name := "chunkerNext", fn := fun _ => fun
  | [d1, d2, d3] => { results := [.lit (.bool false)], args := [d1, d2, d3] }
  | _ => none }
def ChunkerNextWrongFalsely : Prop := chunkerNextRow.holds Try.pinned (OpenSpec.ofChange chunkerNextWrong)

/-- 'compactorlaw45.ChunkerShares': WHATEVER THE INPUT: true; the input reads as it did. -/
def chunkerSharesSpec : ChangeSpec := { name := "chunkerShares", fn := fun _ => fun
  | [d1, d2, d3] => { results := [.lit (.bool true)], args := [d1, d2, d3] }
  | _ => none }
def chunkerSharesRow : OpenClaim := { program := "ytcdaieoondmljaa", sum := "0da04251815f96800a291a4448d7f3426fb8d1400e31635afd49bedab94625f0", func := "compactor/compactorlaw45.ChunkerShares", spec := "chunkerShares", unfollowed := true, recurses := true, apart := false }
def ChunkerSharesSaid : Prop := chunkerSharesRow.holds Try.pinned (OpenSpec.ofChange chunkerSharesSpec)

/-- ITS FALSE NEIGHBOUR: 'it returns false'. Refute it at one input. -/
def chunkerSharesWrong : ChangeSpec := { name := "chunkerShares", fn := fun _ => fun
  | [d1, d2, d3] => { results := [.lit (.bool false)], args := [d1, d2, d3] }
  | _ => none }
def ChunkerSharesWrongFalsely : Prop := chunkerSharesRow.holds Try.pinned (OpenSpec.ofChange chunkerSharesWrong)

/-- 'compactorlaw45.ChunkerAppends': WHATEVER THE INPUT: true; the input reads as it did. -/
def chunkerAppendsSpec : ChangeSpec := { name := "chunkerAppends", fn := fun _ => fun
  | [d1, d2, d3] => { results := [.lit (.bool true)], args := [d1, d2, d3] }
  | _ => none }
def chunkerAppendsRow : OpenClaim := { program := "ytcdaieoondmljaa", sum := "0da04251815f96800a291a4448d7f3426fb8d1400e31635afd49bedab94625f0", func := "compactor/compactorlaw45.ChunkerAppends", spec := "chunkerAppends", unfollowed := true, recurses := true, apart := false }
def ChunkerAppendsSaid : Prop := chunkerAppendsRow.holds Try.pinned (OpenSpec.ofChange chunkerAppendsSpec)

/-- ITS FALSE NEIGHBOUR: 'it returns false'. Refute it at one input. -/
def chunkerAppendsWrong : ChangeSpec := { name := "chunkerAppends", fn := fun _ => fun
  | [d1, d2, d3] => { results := [.lit (.bool false)], args := [d1, d2, d3] }
  | _ => none }
def ChunkerAppendsWrongFalsely : Prop := chunkerAppendsRow.holds Try.pinned (OpenSpec.ofChange chunkerAppendsWrong)

/-- 'compactorlaw45.ChunkerMeets': WHATEVER THE INPUT: true; the input reads as it did. -/
def chunkerMeetsSpec : ChangeSpec := { name := "chunkerMeets", fn := fun _ => fun
  | [d1, d2, d3] => { results := [.lit (.bool true)], args := [d1, d2, d3] }
  | _ => none }
def chunkerMeetsRow : OpenClaim := { program := "ytcdaieoondmljaa", sum := "0da04251815f96800a291a4448d7f3426fb8d1400e31635afd49bedab94625f0", func := "compactor/compactorlaw45.ChunkerMeets", spec := "chunkerMeets", unfollowed := true, recurses := true, apart := false }
def ChunkerMeetsSaid : Prop := chunkerMeetsRow.holds Try.pinned (OpenSpec.ofChange chunkerMeetsSpec)

/-- ITS FALSE NEIGHBOUR: 'it returns false'. Refute it at one input. -/
def chunkerMeetsWrong : ChangeSpec := { name := "chunkerMeets", fn := fun _ => fun
  | [d1, d2, d3] => { results := [.lit (.bool false)], args := [d1, d2, d3] }
  | _ => none }
def ChunkerMeetsWrongFalsely : Prop := chunkerMeetsRow.holds Try.pinned (OpenSpec.ofChange chunkerMeetsWrong)

/-- 'compactorlaw45.ChunkerRepeats': WHATEVER THE INPUT: true; the input reads as it did. -/
def chunkerRepeatsSpec : ChangeSpec := { name := "chunkerRepeats", fn := fun _ => fun
  | [d1, d2] => { results := [.lit (.bool true)], args := [d1, d2] }
  | _ => none }
def chunkerRepeatsRow : OpenClaim := { program := "ytcdaieoondmljaa", sum := "0da04251815f96800a291a4448d7f3426fb8d1400e31635afd49bedab94625f0", func := "compactor/compactorlaw45.ChunkerRepeats", spec := "chunkerRepeats", unfollowed := true, recurses := true, apart := false }
def ChunkerRepeatsSaid : Prop := chunkerRepeatsRow.holds Try.pinned (OpenSpec.ofChange chunkerRepeatsSpec)

/-- ITS FALSE NEIGHBOUR: 'it returns false'. Refute it at one input. -/
def chunkerRepeatsWrong : ChangeSpec := { name := "chunkerRepeats", fn := fun _ => fun
  | [d1, d2] => { results := [.lit (.bool false)], args := [d1, d2] }
  | _ => none }
def ChunkerRepeatsWrongFalsely : Prop := chunkerRepeatsRow.holds Try.pinned (OpenSpec.ofChange chunkerRepeatsWrong)

/- THE SECOND FORM. 'bulk': how many values and letters a reading holds, each counted each time it is reached (what is shared counts as often as it is met; a slice's spare places count too). A statement '..UptoSaid' is the law's where the arguments, and the package variables that the reading takes, are together of bulk at most 1048576: NARROWER than '..Said'. Prove '..Said' where nothing that the law and all that it calls make is longer than what came in: it says more and counts as full. Else prove '..UptoSaid'. A law counts once. -/
mutual
def uptoBulk {H : Type} : DataW H → Nat
  | .lit (.string bytes) => bytes.length + 1
  | .lit _ => 1
  | .nil => 1
  | .ptr d => uptoBulk d + 1
  | .slice elems spare => uptoBulkAll elems + uptoBulkAll spare + 1
  | .agg parts => uptoBulkAll parts + 1
  | .iface _ d => uptoBulk d + 1
  | .map entries => uptoBulkEntries entries + 1
  | .held _ => 1
def uptoBulkAll {H : Type} : List (DataW H) → Nat
  | [] => 0
  | d :: r => uptoBulk d + uptoBulkAll r
def uptoBulkEntries {H : Type} : List (Lit × DataW H) → Nat
  | [] => 0
  | x :: r => uptoBulkEntry x + uptoBulkEntries r
def uptoBulkEntry {H : Type} : Lit × DataW H → Nat
  | (.string bytes, d) => bytes.length + uptoBulk d + 1
  | (_, d) => uptoBulk d + 1
 end
def uptoSmall : (H : Type) → List (DataW H) → Bool := fun _ ds => decide (uptoBulkAll ds ≤ 1048576)
def OpenSpec.upto (s : _root_.Go.ChangeSpec) : _root_.Go.OpenSpec := { _root_.Go.OpenSpec.ofChange s with cond := some uptoSmall }

/-- 'compactorlaw45.ChunkerSplits', WHERE WHAT IT READS IS OF BULK AT MOST 1048576: true; the input reads as it did. -/
def chunkerSplitsUptoRow : OpenClaim := { program := "ytcdaieoondmljaa", sum := "0da04251815f96800a291a4448d7f3426fb8d1400e31635afd49bedab94625f0", func := "compactor/compactorlaw45.ChunkerSplits", spec := "chunkerSplits", unfollowed := true, recurses := true, apart := false, narrowed := true }
def ChunkerSplitsUptoSaid : Prop := chunkerSplitsUptoRow.holds Try.pinned (OpenSpec.upto chunkerSplitsSpec)

/-- 'compactorlaw45.ChunkerCovers', WHERE WHAT IT READS IS OF BULK AT MOST 1048576: true; the input reads as it did. -/
def chunkerCoversUptoRow : OpenClaim := { program := "ytcdaieoondmljaa", sum := "0da04251815f96800a291a4448d7f3426fb8d1400e31635afd49bedab94625f0", func := "compactor/compactorlaw45.ChunkerCovers", spec := "chunkerCovers", unfollowed := true, recurses := true, apart := false, narrowed := true }
def ChunkerCoversUptoSaid : Prop := chunkerCoversUptoRow.holds Try.pinned (OpenSpec.upto chunkerCoversSpec)

/-- 'compactorlaw45.ChunkerCuts', WHERE WHAT IT READS IS OF BULK AT MOST 1048576: true; the input reads as it did. -/
def chunkerCutsUptoRow : OpenClaim := { program := "ytcdaieoondmljaa", sum := "0da04251815f96800a291a4448d7f3426fb8d1400e31635afd49bedab94625f0", func := "compactor/compactorlaw45.ChunkerCuts", spec := "chunkerCuts", unfollowed := true, recurses := true, apart := false, narrowed := true }
def ChunkerCutsUptoSaid : Prop := chunkerCutsUptoRow.holds Try.pinned (OpenSpec.upto chunkerCutsSpec)

/-- 'compactorlaw45.ChunkerNext', WHERE WHAT IT READS IS OF BULK AT MOST 1048576: true; the input reads as it did. -/
def chunkerNextUptoRow : OpenClaim := { program := "ytcdaieoondmljaa", sum := "0da04251815f96800a291a4448d7f3426fb8d1400e31635afd49bedab94625f0", func := "compactor/compactorlaw45.ChunkerNext", spec := "chunkerNext", unfollowed := true, recurses := true, apart := false, narrowed := true }
def ChunkerNextUptoSaid : Prop := chunkerNextUptoRow.holds Try.pinned (OpenSpec.upto chunkerNextSpec)

/-- 'compactorlaw45.ChunkerShares', WHERE WHAT IT READS IS OF BULK AT MOST 1048576: true; the input reads as it did. -/
def chunkerSharesUptoRow : OpenClaim := { program := "ytcdaieoondmljaa", sum := "0da04251815f96800a291a4448d7f3426fb8d1400e31635afd49bedab94625f0", func := "compactor/compactorlaw45.ChunkerShares", spec := "chunkerShares", unfollowed := true, recurses := true, apart := false, narrowed := true }
def ChunkerSharesUptoSaid : Prop := chunkerSharesUptoRow.holds Try.pinned (OpenSpec.upto chunkerSharesSpec)

/-- 'compactorlaw45.ChunkerAppends', WHERE WHAT IT READS IS OF BULK AT MOST 1048576: true; the input reads as it did. -/
def chunkerAppendsUptoRow : OpenClaim := { program := "ytcdaieoondmljaa", sum := "0da04251815f96800a291a4448d7f3426fb8d1400e31635afd49bedab94625f0", func := "compactor/compactorlaw45.ChunkerAppends", spec := "chunkerAppends", unfollowed := true, recurses := true, apart := false, narrowed := true }
def ChunkerAppendsUptoSaid : Prop := chunkerAppendsUptoRow.holds Try.pinned (OpenSpec.upto chunkerAppendsSpec)

/-- 'compactorlaw45.ChunkerMeets', WHERE WHAT IT READS IS OF BULK AT MOST 1048576: true; the input reads as it did. -/
def chunkerMeetsUptoRow : OpenClaim := { program := "ytcdaieoondmljaa", sum := "0da04251815f96800a291a4448d7f3426fb8d1400e31635afd49bedab94625f0", func := "compactor/compactorlaw45.ChunkerMeets", spec := "chunkerMeets", unfollowed := true, recurses := true, apart := false, narrowed := true }
def ChunkerMeetsUptoSaid : Prop := chunkerMeetsUptoRow.holds Try.pinned (OpenSpec.upto chunkerMeetsSpec)

/-- 'compactorlaw45.ChunkerRepeats', WHERE WHAT IT READS IS OF BULK AT MOST 1048576: true; the input reads as it did. -/
def chunkerRepeatsUptoRow : OpenClaim := { program := "ytcdaieoondmljaa", sum := "0da04251815f96800a291a4448d7f3426fb8d1400e31635afd49bedab94625f0", func := "compactor/compactorlaw45.ChunkerRepeats", spec := "chunkerRepeats", unfollowed := true, recurses := true, apart := false, narrowed := true }
def ChunkerRepeatsUptoSaid : Prop := chunkerRepeatsUptoRow.holds Try.pinned (OpenSpec.upto chunkerRepeatsSpec)

end Rows
end Go.Proofs.Ytcdaieoondmljaa
