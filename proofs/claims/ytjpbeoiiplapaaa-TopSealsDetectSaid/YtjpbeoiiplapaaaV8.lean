import Derived.Test.YtjpbeoiiplapaaaV7
import Derived.Deep.RegionWith
import Derived.Deep.RegionHeld3
import Derived.Sort.AtCall
namespace Go.Proofs.Ytjpbeoiiplapaaa.C
set_option linter.unusedVariables false
open Go Go.RowKit Go.Shelf Go.Proofs.Ytjpbeoiiplapaaa Go.Proofs.Ytjpbeoiiplapaaa.W Go.Proofs.Ytjpbeoiiplapaaa.M Go.Proofs.Ytjpbeoiiplapaaa.B

theorem crc_changes {b : List UInt8} {i : Nat} {d0 d1 d2 d3 : UInt8} (hi : i + 4 ≤ b.length) (hd : ¬ (d0 = 0 ∧ d1 = 0 ∧ d2 = 0 ∧ d3 = 0)) : crc (chg b i [d0, d1, d2, d3] 4) ≠ crc b := by
  intro e
  apply hd
  rw [chg_delta hi] at e
  unfold crc upd at e
  have e2 := congrArg (~~~ ·) e
  simp only [BitVec.not_not] at e2
  exact detects _ b i hi e2

theorem four_of (ds : List UInt8) (h : ds.length = 4) : ∃ d0 d1 d2 d3, ds = [d0, d1, d2, d3] := by
  rcases ds with _ | ⟨d0, _ | ⟨d1, _ | ⟨d2, _ | ⟨d3, _ | ⟨d4, r⟩⟩⟩⟩⟩
  all_goals simp at h
  exact ⟨d0, d1, d2, d3, rfl⟩

end Go.Proofs.Ytjpbeoiiplapaaa.C
