/- rolling.Value, bits.RotateLeft32, the reference's Value and Rotate. -/
import Derived.Test.YtcdaieoondmljaaChecked
import Derived.Test.YtcdaieoondmljaaWords
import Derived.Test.YtcdaieoondmljaaM05
import Derived.WalkKit
import Derived.OwnWalk
import Derived.WalkSpells
import Derived.WalkLawsBesides
import Derived.Lib.Hide
namespace Go.Proofs.Ytcdaieoondmljaa.H
set_option linter.unusedVariables false
open Go Go.RowKit Go.Proofs.Ytcdaieoondmljaa Go.Proofs.Ytcdaieoondmljaa.W Go.Proofs.Ytcdaieoondmljaa.M

def ru (x : R) : Value := .int .u32 (x.toNat : Int)
theorem wrap_u32 (n : Int) (h0 : 0 ≤ n) (h1 : n < 4294967296) : IntKind.u32.wrap n = n := by
  simp [IntKind.wrap, IntKind.signed, IntKind.bits]; omega
theorem wrap_mod (n : Nat) : IntKind.u32.wrap (n : Int) = ((n % 4294967296 : Nat) : Int) := by
  simp [IntKind.wrap, IntKind.signed, IntKind.bits]
theorem ofInt_r (r : R) : BitVec.ofInt 32 (r.toNat : Int) = r := by
  rw [BitVec.ofInt_natCast]; simp
theorem bits_xor (a b : R) : bits .xor .u32 (a.toNat : Int) (b.toNat : Int) = ((a ^^^ b).toNat : Int) := by
  show IntKind.u32.wrap ((BitVec.ofInt 32 (a.toNat : Int) ^^^ BitVec.ofInt 32 (b.toNat : Int)).toNat : Int) = _
  rw [ofInt_r, ofInt_r]
  have := (a ^^^ b).isLt
  exact wrap_u32 _ (by omega) (by omega)
theorem bits_or (a b : R) : bits .or .u32 (a.toNat : Int) (b.toNat : Int) = ((a ||| b).toNat : Int) := by
  show IntKind.u32.wrap ((BitVec.ofInt 32 (a.toNat : Int) ||| BitVec.ofInt 32 (b.toNat : Int)).toNat : Int) = _
  rw [ofInt_r, ofInt_r]
  have := (a ||| b).isLt
  exact wrap_u32 _ (by omega) (by omega)
theorem bits_and (a b : R) : bits .and .u32 (a.toNat : Int) (b.toNat : Int) = ((a &&& b).toNat : Int) := by
  show IntKind.u32.wrap ((BitVec.ofInt 32 (a.toNat : Int) &&& BitVec.ofInt 32 (b.toNat : Int)).toNat : Int) = _
  rw [ofInt_r, ofInt_r]
  have := (a &&& b).isLt
  exact wrap_u32 _ (by omega) (by omega)

theorem ext_toNat (b : UInt8) : (ext b).toNat = b.toNat := by
  unfold ext
  have := b.toNat_lt
  rw [BitVec.toNat_setWidth]
  show b.toNat % 2 ^ 32 = _
  omega
theorem val1_num (b : UInt8) : ((b.toNat : Int) + 1) % 4294967296 * 2654435769 % 4294967296 = ((val1 b).toNat : Int) := by
  have e : (val1 b).toNat = (b.toNat + 1) % 4294967296 * 2654435769 % 4294967296 := by
    unfold val1
    rw [BitVec.toNat_mul, BitVec.toNat_add, ext_toNat]; rfl
  omega
theorem val2_num (x : R) : bits .xor .u32 (x.toNat : Int) ((x.toNat : Int) / 32768) * 2246822519 % 4294967296 = ((val2 x).toNat : Int) := by
  have h : (x.toNat : Int) / (32768 : Int) = ((x >>> 15).toNat : Int) := by
    rw [BitVec.toNat_ushiftRight, Nat.shiftRight_eq_div_pow]; omega
  have e : (val2 x).toNat = (x ^^^ (x >>> 15)).toNat * 2246822519 % 4294967296 := by
    unfold val2
    rw [BitVec.toNat_mul]; rfl
  rw [h, bits_xor]
  omega
theorem val3_num (z : R) : bits .xor .u32 (z.toNat : Int) ((z.toNat : Int) / 8192) = ((val3 z).toNat : Int) := by
  have h : (z.toNat : Int) / (8192 : Int) = ((z >>> 13).toNat : Int) := by
    rw [BitVec.toNat_ushiftRight, Nat.shiftRight_eq_div_pow]; omega
  rw [h, bits_xor]; rfl

set_option maxRecDepth 100000 in
theorem Value_ok (b : UInt8) (w : World) : Calls Try.prog 49 #[.int .u8 (b.toNat : Int)] w fun e w' => e = .returned (.int .u32 ((val b).toNat : Int)) ∧ w' = w := by
  have h1 := val1_num b
  have h2 := val2_num (val1 b)
  have h3 := val3_num (val2 (val1 b))
  go_enter Try.func49, Try.ntmps49
  go_wp2
  go_ret
  exact ⟨rfl, rfl⟩
set_option maxRecDepth 100000 in
theorem rValue_ok (b : UInt8) (w : World) : Calls Try.prog 27 #[.int .u8 (b.toNat : Int)] w fun e w' => e = .returned (.int .u32 ((val b).toNat : Int)) ∧ w' = w := by
  have h1 := val1_num b
  have h2 := val2_num (val1 b)
  have h3 := val3_num (val2 (val1 b))
  go_enter Try.func27, Try.ntmps27
  go_wp2
  go_ret
  exact ⟨rfl, rfl⟩
theorem and31 (k : Nat) (hk : k < 1000) : bits .and .u64 (k : Int) 31 = ((k % 32 : Nat) : Int) := by
  show IntKind.u64.wrap ((BitVec.ofInt 64 (k : Int) &&& BitVec.ofInt 64 ((31 : Nat) : Int)).toNat : Int) = _
  rw [BitVec.ofInt_natCast, BitVec.ofInt_natCast, BitVec.toNat_and, BitVec.toNat_ofNat, BitVec.toNat_ofNat, Nat.mod_eq_of_lt (show k < 2 ^ 64 by omega), show 31 % 2 ^ 64 = 2 ^ 5 - 1 from rfl, Nat.and_two_pow_sub_one_eq_mod]
  simp [IntKind.wrap, IntKind.signed, IntKind.bits]; omega
theorem rot_num (x : R) (m : Nat) : bits .or .u32 ((x.toNat : Int) * 2 ^ (m % 32) % 4294967296) ((x.toNat : Int) / 2 ^ (32 - m % 32)) = ((rot x m).toNat : Int) := by
  have h1 : (x.toNat : Int) * 2 ^ (m % 32) % 4294967296 = ((x <<< (m % 32)).toNat : Int) := by
    rw [BitVec.toNat_shiftLeft, Nat.shiftLeft_eq]; simp
  have h2 : (x.toNat : Int) / 2 ^ (32 - m % 32) = ((x >>> (32 - m % 32)).toNat : Int) := by
    rw [BitVec.toNat_ushiftRight, Nat.shiftRight_eq_div_pow]; simp
  rw [h1, h2, bits_or]
  unfold rot
  rw [BitVec.rotateLeft_def]
set_option maxRecDepth 100000 in
theorem Rot_ok (x : R) (k : Nat) (hk : k < 1000) (w : World) : Calls Try.prog 48 #[.int .u32 (x.toNat : Int), .int .i64 (k : Int)] w fun e w' => e = .returned (.int .u32 ((rot x k).toNat : Int)) ∧ w' = w := by
  have hb := and31 k hk
  have hr := rot_num x k
  go_enter Try.func48, Try.ntmps48
  go_wp2
  go_ret
  exact ⟨by rw [← hr]; rfl, rfl⟩
set_option maxRecDepth 100000 in
theorem rRot_ok (x : R) (k : Nat) (hk : k < 1000) (w : World) : Calls Try.prog 28 #[.int .u32 (x.toNat : Int), .int .i64 (k : Int)] w fun e w' => e = .returned (.int .u32 ((rot x k).toNat : Int)) ∧ w' = w := by
  have hr := rot_num x k
  go_enter Try.func28, Try.ntmps28
  by_cases h0 : k % 32 = 0
  · have h0' : ((k : Int) % 32 == 0) = true := by rw [beq_iff_eq]; omega
    have hx : rot x k = x := by rw [← rot_mod, h0, rot_zero]
    clear h0
    go_wp2
    go_ret
    exact ⟨by rw [hx]; rfl, rfl⟩
  · have h0' : ((k : Int) % 32 == 0) = false := by rw [beq_eq_false_iff_ne]; omega
    clear h0
    go_wp2
    go_ret
    exact ⟨by rw [← hr]; rfl, rfl⟩

set_option maxRecDepth 100000 in
/-- A call of roller(n)'s closure, not full. -/
theorem roll_not (h : R) (x y : UInt8) (g : Nat) (a : R) (ha : rot h 1 ^^^ val x = a) (w : World) : Calls Try.prog 47 #[.int .u32 (h.toNat : Int), .int .u8 (x.toNat : Int), .bool false, .int .u8 (y.toNat : Int), .pointer (some ⟨g, 0, none⟩)] w fun e w' => e = .returned (.int .u32 (a.toNat : Int)) ∧ w' = w := by
  have C1 : Hid (∀ W, Calls Try.prog 48 #[.int .u32 (h.toNat : Int), .int .i64 1] W fun e w' => e = .returned (.int .u32 ((rot h 1).toNat : Int)) ∧ w' = W) := Lib.hid fun W => Rot_ok h 1 (by decide) W
  have hx := bits_xor (rot h 1) (val x)
  rw [ha] at hx
  go_enter Try.func47, Try.ntmps47
  go_wp2_with (first
    | (go_at_call 48; refine (C1.out _).mono ?_; rintro e w1 ⟨rfl, rfl⟩)
    | (go_at_call 49; refine (Value_ok x _).mono ?_; rintro e w1 ⟨rfl, rfl⟩))
  go_ret
  exact ⟨rfl, rfl⟩
end Go.Proofs.Ytcdaieoondmljaa.H
