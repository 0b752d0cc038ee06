/- parse.common, the iterator of choices. -/
import Derived.RangeFuncNested
import Derived.RangeFuncBound
import Derived.RangeFuncCalls
import Derived.RangeFuncLeaves
import Derived.RangeFuncBox
import Derived.RangeFuncWrites
import Derived.Shelf.Abstract
import Derived.Shelf.RegionOpen
import Derived.OwnWalkIn
import Derived.TacticsInMore
import Derived.LoopNIn
import Derived.LoopIn
import Derived.Test.YtfahfbkkgcekgaaY3
namespace Go.Proofs.Ytfahfbkkgcekgaa.H
set_option linter.unusedVariables false
open Go Go.RowKit Go.Shelf Go.Proofs.Ytfahfbkkgcekgaa Go.Proofs.Ytfahfbkkgcekgaa.W Go.Proofs.Ytfahfbkkgcekgaa.M

theorem below_drewN {B : Nat} {a w : World} (h : Below B a w) (n : Nat) : Below B a (w.drewN n) := by
  induction n with
  | zero => exact h
  | succ n ih => exact ih.drew

set_option maxRecDepth 100000 in
set_option maxHeartbeats 2000000 in
theorem common_ok (b : Bs) (N : Nat) (hN : b.length = N) (hN6 : N ≤ 65536) (A : Option Addr) (c a d : Nat) (hd1 : 1 ≤ d) (hda : d ≤ a) (ha : a < N) (m : Nat) (hm : com b a d = m) (w : World) (B : Nat) (hS : Sl u8 w B A b) :
    Calls Try.prog 41 #[.slice A N c, .int .i64 (a : Int), .int .i64 (d : Int)] w fun e w' => e = .returned (.int .i64 (m : Int)) ∧ Below w.heap.size w w' ∧ w.heap.size ≤ w'.heap.size := by
  have HN := Lib.hid hN
  have HM : Hid (comG b a d (256 - 0) 0 = m) := Lib.hid hm
  clear hm hN
  go_enter Try.func41, Try.ntmps41
  go_wp2
  go_loopw [7] (fun nv wm => ∃ n : Nat, n ≤ 255 ∧ a + n ≤ N ∧ nv = .int .i64 (n : Int) ∧ Hid (comG b a d (256 - n) n = m) ∧ (∀ p : Addr, wm.cell? p = w.cell? p) ∧ Below w.heap.size w wm) (fun nv _ => 255 - (intOf nv).toNat)
  case atStart => exact ⟨0, by omega, by omega, rfl, HM, fun _ => rfl, Below.refl _ _⟩
  case round =>
    obtain ⟨n, h1, h2, rfl, hC, hW, hB⟩ := hrel
    have HW := Lib.hid hW
    by_cases g1 : n < 255
    · by_cases g2 : a + n < N
      · obtain ⟨b0, q0, x, rfl, _, hx, hcx⟩ := hS.byte (j := a + n) (by rw [HN.out]; exact g2)
        obtain ⟨b1, q1, y, e1, _, hy, hcy⟩ := hS.byte (j := a + n - d) (by rw [HN.out]; omega)
        cases e1
        rw [← hW] at hcx hcy
        have HX := Lib.hid hx
        have HY := Lib.hid hy
        obtain ⟨s, hs⟩ : ∃ s, a + n = s := ⟨_, rfl⟩
        obtain ⟨r, hr⟩ : ∃ r, s - d = r := ⟨_, rfl⟩
        have z1 : (a : Int) + (n : Int) = (s : Int) := by omega
        have z2 : (s : Int) - (d : Int) = (r : Int) := by omega
        have z3 : IntKind.i64.wrap (s : Int) = (s : Int) := by rw [IntKind.wrap_i64]; omega
        have z4 : IntKind.i64.wrap (r : Int) = (r : Int) := by rw [IntKind.wrap_i64]; omega
        have hsN : s < N := by omega
        have hrN : r < N := by omega
        have d1 : decide ((n : Int) < 255) = true := decide_eq_true (by omega)
        have d2 : decide ((s : Int) < (N : Int)) = true := decide_eq_true (by omega)
        have hs2 : s - d = r := hr
        rw [hs] at hcx hcy
        rw [hr] at hcy
        replace hcx : wr.cell? ⟨b0, q0 + s, none⟩ = some (.int .u8 (x.toNat : Int)) := hcx
        replace hcy : wr.cell? ⟨b0, q0 + r, none⟩ = some (.int .u8 (y.toNat : Int)) := hcy
        have HS := Lib.hid hs
        have HR := Lib.hid hr
        clear hx hy hW hs hr hs2
        by_cases hxy : x = y
        · have hnx : Hid (comG b a d (256 - (n + 1)) (n + 1) = m) := Lib.hid (by
            rw [← comG_step h1 ⟨g1, by rw [HN.out]; exact g2, by rw [HX.out, HY.out, hxy]⟩]; exact hC.out)
          clear HX HY HS HR
          subst hxy
          go_wp2_with fail
          go_quiet (fail)
          go_wp2
          go_roundw
          case rel => exact ⟨n + 1, by omega, by omega, by go_num, hnx, HW.out, below_drewN hB _⟩
          case measure => simp [intOf]; omega
        · have hnm : Hid (n = m) := Lib.hid (by
            rw [← hC.out, comG_stop h1 (fun h => hxy (by
              have h3 := h.2.2
              rw [HX.out, HY.out] at h3
              injection h3))])
          have hxn : ¬ (x.toNat : Int) = (y.toNat : Int) := fun e => hxy (UInt8.toNat_inj.1 (by omega))
          clear HX HY HS HR
          go_wp2_with fail
          go_quiet (fail)
          go_wp2
          go_ret
          exact ⟨congrArg (fun k : Nat => Ending.returned (.int .i64 (k : Int))) hnm.out, below_drewN hB _, (below_drewN hB _).size⟩
      · have hnm : Hid (n = m) := Lib.hid (by rw [← hC.out, comG_stop h1 (fun h => g2 (by have := h.2.1; rw [HN.out] at this; exact this))])
        obtain ⟨s, hs⟩ : ∃ s, a + n = s := ⟨_, rfl⟩
        have z1 : (a : Int) + (n : Int) = (s : Int) := by omega
        have z3 : IntKind.i64.wrap (s : Int) = (s : Int) := by rw [IntKind.wrap_i64]; omega
        have d1 : decide ((n : Int) < 255) = true := decide_eq_true (by omega)
        have d2 : decide ((s : Int) < (N : Int)) = false := decide_eq_false (by omega)
        have d3 : decide (s < N) = false := decide_eq_false (by omega)
        clear hs g2
        go_wp2_with fail
        go_quiet (fail)
        go_wp2
        go_ret
        exact ⟨congrArg (fun k : Nat => Ending.returned (.int .i64 (k : Int))) hnm.out, below_drewN hB _, (below_drewN hB _).size⟩
    · have hnm : Hid (n = m) := Lib.hid (by rw [← hC.out, comG_stop h1 (fun h => g1 h.1)])
      have d1 : decide ((n : Int) < 255) = false := decide_eq_false (by omega)
      go_wp2_with fail
      go_quiet (fail)
      go_wp2
      go_ret
      exact ⟨congrArg (fun k : Nat => Ending.returned (.int .i64 (k : Int))) hnm.out, below_drewN hB _, (below_drewN hB _).size⟩
end Go.Proofs.Ytfahfbkkgcekgaa.H
