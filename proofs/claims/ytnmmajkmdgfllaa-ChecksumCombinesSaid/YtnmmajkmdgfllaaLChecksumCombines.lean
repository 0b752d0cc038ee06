import Derived.Test.YtnmmajkmdgfllaaC6
namespace Go.Proofs.Ytnmmajkmdgfllaa.C
set_option linter.unusedVariables false
open Go Go.RowKit Go.Shelf Go.Proofs.Ytnmmajkmdgfllaa Go.Proofs.Ytnmmajkmdgfllaa.W Go.Proofs.Ytnmmajkmdgfllaa.M Go.Proofs.Ytnmmajkmdgfllaa.B

theorem refCombine_ok (a b : Int) (n : Int) (a' b' : R) (ha : (a'.toNat : Int) = a) (hb : (b'.toNat : Int) = b) (v : Int) (hv : ((combZ a' b' n).toNat : Int) = v) (w : World) :
    Calls Try.prog 11 #[.int .u32 a, .int .u32 b, .int .i64 n] w fun e w' => e = .returned (.int .u32 v) ∧ w = w' := by
  subst ha; subst hb; subst hv; exact refCombine_any a' b' n w

set_option maxRecDepth 100000 in
theorem combines_walk (a b : Nat) (z : Int) (w : World) (ha : a ≤ 4294967295) (hb : b ≤ 4294967295) (h0 : -9223372036854775808 ≤ z) (h1 : z ≤ 9223372036854775807) :
    Calls Try.prog 3 #[.int .u32 (a : Int), .int .u32 (b : Int), .int .i64 z] w fun e w' => e = .returned (.bool true) ∧ Below w.heap.size w w' := by
  obtain ⟨v, hv⟩ : ∃ v : Int, ((combZ (BitVec.ofNat 32 a) (BitVec.ofNat 32 b) z).toNat : Int) = v := ⟨_, rfl⟩
  have ea : (((BitVec.ofNat 32 a).toNat : Nat) : Int) = a := by rw [BitVec.toNat_ofNat]; omega
  have eb : (((BitVec.ofNat 32 b).toNat : Nat) : Int) = b := by rw [BitVec.toNat_ofNat]; omega
  have C1 := Lib.hid fun W => combine_ok a b z _ _ ea eb v hv W
  have C2 := Lib.hid fun W => refCombine_ok a b z _ _ ea eb v hv W
  clear hv ea eb ha hb
  by_cases h5 : z > 5000
  · by_cases h6 : z ≤ 65536
    · go_enter Try.func3, Try.ntmps3
      go_wp2_with (go_at_call 9; refine (awake_any _).mono ?_; rintro e w1 ⟨rfl, hb1⟩)
      go_ret
      exact ⟨rfl, hb1⟩
    · go_enter Try.func3, Try.ntmps3
      go_wp2_with (first
        | (go_at_call 9; refine (awake_any _).mono ?_; rintro e w1 ⟨rfl, hb1⟩)
        | (go_at_call 10; refine (C1.out _).mono ?_; rintro e w2 ⟨rfl, hb2⟩)
        | (go_at_call 11; refine (C2.out _).mono ?_; rintro e w3 ⟨rfl, rfl⟩))
      go_ret
      exact ⟨by simp, bs hb1 hb2⟩
  · go_enter Try.func3, Try.ntmps3
    go_wp2_with (first
      | (go_at_call 9; refine (awake_any _).mono ?_; rintro e w1 ⟨rfl, hb1⟩)
      | (go_at_call 10; refine (C1.out _).mono ?_; rintro e w2 ⟨rfl, hb2⟩)
      | (go_at_call 11; refine (C2.out _).mono ?_; rintro e w3 ⟨rfl, rfl⟩))
    go_ret
    exact ⟨by simp, bs hb1 hb2⟩
end Go.Proofs.Ytnmmajkmdgfllaa.C
