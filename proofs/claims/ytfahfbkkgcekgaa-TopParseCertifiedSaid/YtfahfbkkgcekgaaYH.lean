/- bits: Check, tape.one, places, Read at whole bytes. -/
import Derived.Test.YtfahfbkkgcekgaaYG
namespace Go.Proofs.Ytfahfbkkgcekgaa.H
set_option linter.unusedVariables false
set_option linter.unusedSimpArgs false
open Go Go.RowKit Go.Shelf Go.Proofs.Ytfahfbkkgcekgaa Go.Proofs.Ytfahfbkkgcekgaa.W Go.Proofs.Ytfahfbkkgcekgaa.M
attribute [local go_sem] Oper.semAt_some

set_option maxRecDepth 100000 in
theorem bcheck_ok (A : Option Addr) (L c K : Nat) (hK : K = 8 * L) (hL : L ≤ 65536) (w : World) :
    Calls Try.prog 52 #[.agg #[.slice A L c, .int .i64 (K : Int)]] w fun e w' => e = .returned (.int .i64 0) ∧ Below w.heap.size w w' := by
  have hB0 : Below w.heap.size w (w.alloc (.cells #[.slice A L c, .int .i64 (K : Int)] 53)) := (Below.refl _ _).alloc (Nat.le_refl _) _
  have hb : Blk (w.alloc (.cells #[.slice A L c, .int .i64 (K : Int)] 53)) w.heap.size 53 #[.slice A L c, .int .i64 (K : Int)] := Blk.new _ _ _
  have c0 := hb.cell 0
  have c1 := hb.cell 1
  have v1 : ¬ (K : Int) < 0 := by omega
  have v2 : ¬ (524288 : Int) < (K : Int) := by omega
  have v3 : IntKind.i64.wrap ((K : Int) + 7) = (K : Int) + 7 := by rw [IntKind.wrap_i64]; omega
  have v4 : Int.tdiv ((K : Int) + 7) 8 = (L : Int) := by
    have : (K : Int) + 7 = ((K + 7 : Nat) : Int) := by omega
    rw [this]
    show (((K + 7) / 8 : Nat) : Int) = _
    omega
  have v5 : Int.tmod (K : Int) 8 = 0 := by
    show (((K % 8 : Nat)) : Int) = 0
    omega
  have v6 : IntKind.i64.wrap (L : Int) = (L : Int) := by rw [IntKind.wrap_i64]; omega
  clear hb hK
  go_enter Try.func52, Try.ntmps52
  go_wp2_with fail
  go_quiet (fail)
  go_wp2
  go_ret
  exact ⟨rfl, below_drewN hB0 _⟩
theorem and_bit (y r : Nat) (hy : y < 256) (hr : r < 8) : bits BinOp.and IntKind.u8 (y : Int) (128 / 2 ^ r) = (((y.testBit (7 - r)).toNat * 2 ^ (7 - r) : Nat) : Int) := by
  have e : (128 : Int) / 2 ^ r = ((2 ^ (7 - r) : Nat) : Int) := by
    have : r = 0 ∨ r = 1 ∨ r = 2 ∨ r = 3 ∨ r = 4 ∨ r = 5 ∨ r = 6 ∨ r = 7 := by omega
    rcases this with rfl | rfl | rfl | rfl | rfl | rfl | rfl | rfl <;> decide
  have hp : 2 ^ (7 - r) ≤ 2 ^ 7 := Nat.pow_le_pow_right (by decide) (by omega)
  rw [e, u8_and_nat _ _ hy (by omega)]
  congr 1
  apply Nat.eq_of_testBit_eq
  intro k
  rw [Nat.testBit_and, Nat.testBit_two_pow]
  cases hx : y.testBit (7 - r) with
  | false =>
    simp
    intro h e; rw [← e, hx] at h; cases h
  | true =>
    simp [Nat.testBit_two_pow]
    intro e; rw [← e]; exact hx
set_option maxRecDepth 100000 in
theorem one_ok (T : Nat) (A : Option Addr) (L c K i : Nat) (D : Bs) (hD : D.length = L) (hK : K = 8 * L) (hL : L ≤ 65536) (hi : i < K) (x : Bool) (hx : bitD D i = x) (w : World) (hT : Blk w T 95 #[.slice A L c, .int .i64 (K : Int)]) (hS : Sl u8 w w.heap.size A D) :
    Calls Try.prog 56 #[.pointer (some ⟨T, 0, none⟩), .int .i64 (i : Int)] w fun e w' => e = .returned (.bool x) ∧ Below w.heap.size w w' := by
  obtain ⟨q, hq⟩ : ∃ q, i / 8 = q := ⟨_, rfl⟩
  obtain ⟨r, hr⟩ : ∃ r, i % 8 = r := ⟨_, rfl⟩
  have v1 : Int.tdiv (i : Int) 8 = (q : Int) := by rw [← hq]; rfl
  have v2 : Int.tmod (i : Int) 8 = (r : Int) := by rw [← hr]; rfl
  have v3 : IntKind.i64.wrap (q : Int) = (q : Int) := by rw [IntKind.wrap_i64]; omega
  have v4 : IntKind.i64.wrap (r : Int) = (r : Int) := by rw [IntKind.wrap_i64]; omega
  have v5 : (q : Int) < (L : Int) := by omega
  obtain ⟨b0, q0, y, rfl, _, hy, hcy⟩ := hS.byte (j := q) (by omega)
  replace hcy : w.cell? ⟨b0, q0 + q, none⟩ = some (.int .u8 (y.toNat : Int)) := hcy
  have c0 := hT.cell 0
  obtain ⟨m, hm⟩ : ∃ m, bits BinOp.and IntKind.u8 (y.toNat : Int) (128 / 2 ^ r) = m := ⟨_, rfl⟩
  have hmx : Hid ((m != 0) = x) := Lib.hid (by
    rw [← hm, and_bit _ _ (by have := y.toNat_lt; omega) (by omega), ← hx]
    unfold bitD
    rw [hq, hr, List.getD_eq_getElem?_getD, hy]
    show _ = y.toNat.testBit (7 - r)
    cases y.toNat.testBit (7 - r) with
    | false => simp
    | true =>
      have : 0 < 2 ^ (7 - r) := Nat.pow_pos (by decide)
      rw [show true.toNat = 1 from rfl, Nat.one_mul]
      show ((((2 ^ (7 - r) : Nat) : Int)) != 0) = true
      rw [bne_iff_ne]
      intro e
      exact absurd (Int.ofNat_eq_zero.1 e) (by omega))
  have hr8 : r < 8 := by omega
  clear hx hy hq hr hT hS
  go_enter Try.func56, Try.ntmps56
  go_wp2_with fail
  go_quiet (fail)
  go_wp2
  go_ret
  exact ⟨by rw [← hmx.out]; rfl, below_drewN (Below.refl _ _) _⟩
end Go.Proofs.Ytfahfbkkgcekgaa.H
