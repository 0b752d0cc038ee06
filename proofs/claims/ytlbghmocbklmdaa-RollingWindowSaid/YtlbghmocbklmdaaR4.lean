/- Same of two equal states; Clone. -/
import Derived.Test.YtlbghmocbklmdaaR3
import Derived.Test.YtlbghmocbklmdaaAppend
namespace Go.Proofs.Ytlbghmocbklmdaa.H
set_option linter.unusedVariables false
open Go Go.RowKit Go.Proofs.Ytlbghmocbklmdaa Go.Proofs.Ytlbghmocbklmdaa.W Go.Proofs.Ytlbghmocbklmdaa.M

theorem below_drewN {B : Nat} {a w : World} (h : Below B a w) (n : Nat) : Below B a (w.drewN n) := by
  induction n with
  | zero => exact h
  | succ n ih => exact ih.drew

set_option maxRecDepth 100000 in
set_option maxHeartbeats 2000000 in
theorem Same_ok (k : Int) (A A' : Option Addr) (n c c' : Nat) (b : Bs) (hv : R) (hl : b.length = n) (hn : n ≤ 65536) (w : World) (B B' : Nat) (h : Sl u8 w B A b) (h' : Sl u8 w B' A' b) :
    Calls Try.prog 17 #[.agg #[.int .i64 k, .slice A n c, .int .u32 (hv.toNat : Int)], .agg #[.int .i64 k, .slice A' n c', .int .u32 (hv.toNat : Int)]] w fun e w' => e = .returned (.bool true) ∧ Below w.heap.size w w' := by
  have hS := h.lt
  have hS' := h'.lt
  have HL := Lib.hid hl
  clear h h' hl
  have hB0 : Below w.heap.size w ((w.alloc (.cells #[.int .i64 k, .slice A n c, .int .u32 (hv.toNat : Int)] 26)).alloc (.cells #[.int .i64 k, .slice A' n c', .int .u32 (hv.toNat : Int)] 26)) := ((Below.refl _ _).alloc (Nat.le_refl _) _).alloc (by simp) _
  go_enter Try.func17, Try.ntmps17
  go_wp2_with fail
  obtain ⟨w1, hw1⟩ : ∃ w1, (w.alloc (.cells #[.int .i64 k, .slice A n c, .int .u32 (hv.toNat : Int)] 26)).alloc (.cells #[.int .i64 k, .slice A' n c', .int .u32 (hv.toNat : Int)] 26) = w1 := ⟨_, rfl⟩
  have hk : Blk w1 w.heap.size 26 #[.int .i64 k, .slice A n c, .int .u32 (hv.toNat : Int)] := by rw [← hw1]; exact (Blk.new _ _ _).alloc _
  have hk' : Blk w1 (w.heap.size + 1) 26 #[.int .i64 k, .slice A' n c', .int .u32 (hv.toNat : Int)] := by rw [← hw1]; exact Blk.new' (by simp) _ _
  rw [hw1] at hB0 ⊢
  clear hw1
  have hS1 := hS.below hB0
  have hS2 := hS'.below hB0
  clear hS hS'
  go_loopw [5] (fun iv wm => ∃ i : Nat, i ≤ n ∧ iv = .int .i64 (i : Int) ∧ (∀ a : Addr, wm.cell? a = w1.cell? a) ∧ Below w.heap.size w wm) (fun iv _ => n - (intOf iv).toNat)
  case atStart => exact ⟨0, Nat.zero_le _, rfl, fun _ => rfl, hB0⟩
  case round =>
    obtain ⟨i, hi, rfl, hW, hB⟩ := hrel
    have HW := Lib.hid hW
    have k1 : wr.cell? ⟨w.heap.size, 1, none⟩ = some (.slice A n c) := by rw [hW]; exact hk.cell 1
    have k2 : wr.cell? ⟨w.heap.size + 1, 1, none⟩ = some (.slice A' n c') := by rw [hW]; exact hk'.cell 1
    by_cases hlt : i < n
    · obtain ⟨b0, q0, x, rfl, _, hx, hcx⟩ := hS1.byte (j := i) (by rw [HL.out]; exact hlt)
      obtain ⟨b1, q1, y, rfl, _, hy, hcy⟩ := hS2.byte (j := i) (by rw [HL.out]; exact hlt)
      obtain rfl : x = y := by rw [hx] at hy; injection hy
      rw [← hW] at hcx hcy
      have hxl := lt256 x
      clear hx hy hW
      go_wp2_with fail
      go_quiet (fail)
      go_wp2
      go_roundw
      case rel => exact ⟨i + 1, by omega, by go_num, HW.out, below_drewN hB _⟩
      case measure => simp [intOf]; omega
    · obtain rfl : i = n := by omega
      clear hW
      go_wp2
      go_ret
      exact ⟨rfl, hB⟩
end Go.Proofs.Ytlbghmocbklmdaa.H
