/- slices.Equal at ints, of equal lists (for ChunkerMeets). -/
import Derived.Test.YtcdaieoondmljaaT11
import Derived.Test.YtcdaieoondmljaaSS
namespace Go.Proofs.Ytcdaieoondmljaa.H
set_option linter.unusedVariables false
open Go Go.RowKit Go.Proofs.Ytcdaieoondmljaa Go.Proofs.Ytcdaieoondmljaa.W Go.Proofs.Ytcdaieoondmljaa.M

set_option maxRecDepth 100000 in
theorem equalN_ok (A A' : Option Addr) (c c' n : Nat) (l : List Nat) (hl : l.length = n) (hn : n ≤ 65537) (w : World) (B B' : Nat) (h : Sl i64 w B A l) (h' : Sl i64 w B' A' l) :
    Calls Try.prog 26 #[.slice A n c, .slice A' n c'] w fun e w' => e = .returned (.bool true) ∧ Below w.heap.size w w' := by
  have HL := Lib.hid hl
  clear hl
  go_enter Try.func26, Try.ntmps26
  go_wp2
  go_loopw [13] (fun i W => ∃ k : Nat, k ≤ n ∧ i = .int .i64 (k : Int) ∧ Below w.heap.size w W ∧ (∀ p : Addr, W.cell? p = w.cell? p)) (fun i _ => n - (intOf i).toNat)
  case atStart => exact ⟨0, Nat.zero_le _, rfl, Below.refl _ _, fun _ => rfl⟩
  case round =>
    obtain ⟨k, hk, rfl, hB, hW⟩ := hrel
    by_cases hlt : k < n
    · obtain ⟨b, o, x, rfl, _, hx, hcx⟩ := h.at_ (j := k) (by rw [HL.out]; exact hlt)
      obtain ⟨b', o', y, rfl, _, hy, hcy⟩ := h'.at_ (j := k) (by rw [HL.out]; exact hlt)
      obtain rfl : x = y := by rw [hx] at hy; injection hy
      rw [← hW] at hcx hcy
      replace hcx : wr.cell? ⟨b, o + k, none⟩ = some (.int .i64 (x : Int)) := hcx
      replace hcy : wr.cell? ⟨b', o' + k, none⟩ = some (.int .i64 (x : Int)) := hcy
      have HW : Hid (∀ p : Addr, wr.cell? p = w.cell? p) := Lib.hid hW
      clear hx hy hW
      go_wp2_with fail
      go_quiet (fail)
      go_wp2
      go_roundw
      case rel => exact ⟨k + 1, by omega, by go_num, below_drewN hB _, HW.out⟩
      case measure => simp [intOf]; omega
    · obtain rfl : k = n := by omega
      go_wp2
      go_ret
      exact ⟨rfl, hB⟩
end Go.Proofs.Ytcdaieoondmljaa.H
