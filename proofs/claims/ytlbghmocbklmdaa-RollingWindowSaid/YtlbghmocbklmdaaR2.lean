/- roller's closure where the window is full; Hash; the reference's Hash. -/
import Derived.Test.YtlbghmocbklmdaaR1
import Derived.Deep.QuietTactic
import Derived.BigQuiet
import Derived.Below
namespace Go.Proofs.Ytlbghmocbklmdaa.H
set_option linter.unusedVariables false
open Go Go.RowKit Go.Proofs.Ytlbghmocbklmdaa Go.Proofs.Ytlbghmocbklmdaa.W Go.Proofs.Ytlbghmocbklmdaa.M

set_option maxRecDepth 100000 in
theorem roll_full (h : R) (x y : UInt8) (g k : Nat) (hk : k < 1000) (a : R) (ha : rot h 1 ^^^ val x ^^^ rot (val y) k = a) (w : World) (hg : w.cell? ⟨g, 0, none⟩ = some (.int .i64 (k : Int))) :
    Calls Try.prog 34 #[.int .u32 (h.toNat : Int), .int .u8 (x.toNat : Int), .bool true, .int .u8 (y.toNat : Int), .pointer (some ⟨g, 0, none⟩)] w fun e w' => e = .returned (.int .u32 (a.toNat : Int)) ∧ ∃ m, w' = w.drewN m := by
  have C1 : Hid (∀ W, Calls Try.prog 35 #[.int .u32 (h.toNat : Int), .int .i64 1] W fun e w' => e = .returned (.int .u32 ((rot h 1).toNat : Int)) ∧ w' = W) := Lib.hid fun W => Rot_ok h 1 (by decide) W
  have C2 : Hid (∀ W, Calls Try.prog 35 #[.int .u32 ((val y).toNat : Int), .int .i64 (k : Int)] W fun e w' => e = .returned (.int .u32 ((rot (val y) k).toNat : Int)) ∧ w' = W) := Lib.hid fun W => Rot_ok (val y) k hk W
  have hx := bits_xor (rot h 1) (val x)
  obtain ⟨q, hq⟩ : ∃ q, rot h 1 ^^^ val x = q := ⟨_, rfl⟩
  rw [hq] at hx ha
  have hx2 := bits_xor q (rot (val y) k)
  rw [ha] at hx2
  clear hq
  go_enter Try.func34, Try.ntmps34
  go_wp2_with (first
    | (go_at_call 35; refine (C1.out _).mono ?_; rintro e w1 ⟨rfl, rfl⟩)
    | (go_at_call 13; refine (Value_ok x _).mono ?_; rintro e w1 ⟨rfl, rfl⟩))
  go_quiet (first
    | (go_at_call 13; exact Calls.quiet_of_same (Value_ok y _))
    | (go_at_call 35; exact Calls.quiet_of_same (C2.out _)))
  go_wp2
  go_ret
  exact ⟨rfl, _, rfl⟩

/-- The closure that roller hands back. -/
def rollV (g : Nat) : Value := .func (.func 34) #[] #[.pointer (some ⟨g, 0, none⟩)]
set_option maxRecDepth 100000 in
theorem roller_ok (k : Int) (w : World) : Calls Try.prog 28 #[.int .i64 k] w fun e w' => e = .returned (.func (.func 34) #[] #[.pointer (some ⟨w.heap.size, 0, none⟩)]) ∧ w' = w.alloc (.cells #[.int .i64 k] 3) := by
  go_enter Try.func28, Try.ntmps28
  go_wp2
  go_ret
  exact ⟨rfl, rfl⟩

theorem hsh_take {b : Bs} {i : Nat} {x : UInt8} (hx : b[i]? = some x) : rot (hsh (b.take i)) 1 ^^^ val x = hsh (b.take (i + 1)) := by
  rw [List.take_add_one, hx]
  exact (hsh_snoc _ _).symm
set_option maxRecDepth 100000 in
set_option maxHeartbeats 1000000 in
theorem Hash_ok (A : Option Addr) (c n : Nat) (b : Bs) (hl : b.length = n) (hn : n ≤ 65536) (w : World) (B : Nat) (h : Sl u8 w B A b) :
    Calls Try.prog 15 #[.slice A n c] w fun e w' => e = .returned (.int .u32 ((hsh b).toNat : Int)) ∧ Below w.heap.size w w' := by
  have HL := Lib.hid hl
  have hS := h.lt
  have HS : Hid (∀ O, Sl u8 (w.alloc O) w.heap.size A b) := Lib.hid fun O => hS.alloc (Nat.le_refl _) O
  have HB : Hid (∀ O, Below w.heap.size w (w.alloc O)) := Lib.hid fun O => (Below.refl _ _).alloc (Nat.le_refl _) O
  clear h hl hS
  go_enter Try.func15, Try.ntmps15
  go_wp2_with (go_at_call 28; refine (roller_ok 0 _).mono ?_; rintro e w1 ⟨rfl, rfl⟩)
  have hS := HS.out (.cells #[.int .i64 0] 3)
  have hB := HB.out (.cells #[.int .i64 0] 3)
  obtain ⟨w1, hw1⟩ : ∃ w1, w.alloc (.cells #[.int .i64 0] 3) = w1 := ⟨_, rfl⟩
  rw [hw1] at hS hB ⊢
  clear hw1 HS HB
  go_loop [4, 6, 10] (fun hv _ iv => ∃ i : Nat, i ≤ n ∧ iv = .int .i64 (i : Int) ∧ hv = .int .u32 ((hsh (b.take i)).toNat : Int)) (fun _ _ iv => n - (intOf iv).toNat)
  case atStart => exact ⟨0, Nat.zero_le _, rfl, rfl⟩
  case round =>
    obtain ⟨i, hi, rfl, rfl⟩ := hrel
    by_cases hlt : i < n
    · obtain ⟨b0, q0, x, rfl, _, hx, hcx⟩ := hS.byte (j := i) (by rw [HL.out]; exact hlt)
      have C : Hid (∀ W g, Calls Try.prog 34 #[.int .u32 ((hsh (b.take i)).toNat : Int), .int .u8 (x.toNat : Int), .bool false, .int .u8 0, .pointer (some ⟨g, 0, none⟩)] W fun e w' => e = .returned (.int .u32 ((hsh (b.take (i + 1))).toNat : Int)) ∧ w' = W) := Lib.hid fun W g => roll_not _ x 0 g _ (hsh_take hx) W
      clear hx
      go_wp2_with (go_at_call 34; refine (C.out _ _).mono ?_; rintro e w2 ⟨rfl, rfl⟩)
      go_round
      case rel => exact ⟨i + 1, by omega, by go_num, rfl⟩
      case measure => simp [intOf]; omega
    · obtain rfl : i = n := by omega
      have hT : Hid (b.take i = b) := Lib.hid (List.take_of_length_le (by rw [HL.out]; exact Nat.le_refl _))
      go_wp2
      go_ret
      exact ⟨by rw [hT.out]; rfl, hB⟩

theorem rh_next {b : Bs} {i : Nat} {x : UInt8} {h : R} (hx : b[i]? = some x) (hh : h ^^^ rh (b.drop i) = rh b) {n k : Nat} (hn : b.length = n) (hk : n - 1 - i = k) {a : R} (ha : h ^^^ rot (val x) k = a) : a ^^^ rh (b.drop (i + 1)) = rh b := by
  subst hn hk
  have hi := (List.getElem?_eq_some_iff.1 hx).1
  obtain ⟨_, rfl⟩ := List.getElem?_eq_some_iff.1 hx
  rw [List.drop_eq_getElem_cons hi] at hh
  rw [← hh, ← ha]
  show _ = h ^^^ (rot (val b[i]) (b.drop (i + 1)).length ^^^ rh (b.drop (i + 1)))
  rw [List.length_drop, show b.length - (i + 1) = b.length - 1 - i by omega, BitVec.xor_assoc]
set_option maxRecDepth 100000 in
set_option maxHeartbeats 1000000 in
theorem rHash_ok (A : Option Addr) (c n : Nat) (b : Bs) (hl : b.length = n) (hn : n ≤ 900) (w : World) (B : Nat) (h : Sl u8 w B A b) :
    Calls Try.prog 16 #[.slice A n c] w fun e w' => e = .returned (.int .u32 ((hsh b).toNat : Int)) ∧ w' = w := by
  have HL := Lib.hid hl
  have hS := h
  clear h hl
  go_enter Try.func16, Try.ntmps16
  go_wp2
  go_loop [3, 4] (fun hv iv => ∃ (i : Nat) (h : R), i ≤ n ∧ iv = .int .i64 (i : Int) ∧ hv = .int .u32 (h.toNat : Int) ∧ Hid (h ^^^ rh (b.drop i) = rh b)) (fun _ iv => n - (intOf iv).toNat)
  case atStart => exact ⟨0, 0#32, Nat.zero_le _, rfl, rfl, Lib.hid (by simp)⟩
  case round =>
    obtain ⟨i, h, hi, rfl, rfl, hh⟩ := hrel
    by_cases hlt : i < n
    · obtain ⟨b0, q0, x, rfl, _, hx, hcx⟩ := hS.byte (j := i) (by rw [HL.out]; exact hlt)
      obtain ⟨k, hk⟩ : ∃ k, n - 1 - i = k := ⟨_, rfl⟩
      have hki : (n : Int) - 1 - (i : Int) = (k : Int) := by omega
      have hk9 : k < 1000 := by omega
      obtain ⟨a, ha⟩ : ∃ a, h ^^^ rot (val x) k = a := ⟨_, rfl⟩
      have hxa := bits_xor h (rot (val x) k)
      rw [ha] at hxa
      have HH := Lib.hid (rh_next hx hh.out HL.out hk ha)
      have C1 : Hid (∀ W, Calls Try.prog 14 #[.int .u8 (x.toNat : Int)] W fun e w' => e = .returned (.int .u32 ((val x).toNat : Int)) ∧ w' = W) := Lib.hid fun W => rValue_ok x W
      have C2 : Hid (∀ W, Calls Try.prog 29 #[.int .u32 ((val x).toNat : Int), .int .i64 (k : Int)] W fun e w' => e = .returned (.int .u32 ((rot (val x) k).toNat : Int)) ∧ w' = W) := Lib.hid fun W => rRot_ok (val x) k hk9 W
      clear hx hk ha
      go_wp2_with (first
        | (go_at_call 14; refine (C1.out _).mono ?_; rintro e w2 ⟨rfl, rfl⟩)
        | (go_at_call 29; refine (C2.out _).mono ?_; rintro e w3 ⟨rfl, rfl⟩))
      go_round
      case rel => exact ⟨i + 1, a, by omega, by go_num, rfl, HH⟩
      case measure => simp [intOf]; omega
    · obtain rfl : i = n := by omega
      have hT : Hid (hsh b = h) := Lib.hid (by
        have := hh.out
        rw [List.drop_of_length_le (by rw [HL.out]; exact Nat.le_refl _)] at this
        rw [hsh_rh, ← this]; show h ^^^ 0#32 = h; simp)
      go_wp2
      go_ret
      exact ⟨by rw [hT.out]; rfl, rfl⟩
end Go.Proofs.Ytlbghmocbklmdaa.H
