import Derived.Test.YthcagaklinkkpaaChecked
import Derived.Test.YthcagaklinkkpaaB40
import Derived.Test.YthcagaklinkkpaaM40
namespace Go.Proofs.Ythcagaklinkkpaa.E
set_option linter.unusedVariables false
open Go Go.RowKit Go.Proofs.Ythcagaklinkkpaa Go.Proofs.Ythcagaklinkkpaa.W Go.Proofs.Ythcagaklinkkpaa.M Go.Proofs.Ythcagaklinkkpaa.B

theorem isOpcode_any (A : Option Addr) (c : Nat) (b : List UInt8) (i : Nat) (hi : i < b.length) (hn : b.length ≤ 9223372036854775000) (w : World) (B : Nat) (h : Sl u8 w B A b) :
    Calls Try.prog 30 #[.slice A b.length c, .int .i64 (i : Int)] w fun e w' => e = .returned (.bool (isOp b i)) ∧ w = w' := by
  obtain ⟨bl, o, x, rfl, _, hx, hcx⟩ := h.byte hi
  have hat : at_ b i = x := by unfold at_; rw [hx]; rfl
  have HI : Hid (isOp b i = ((x == 232 || x == 233) && decide (i + 5 ≤ b.length))) := Lib.hid (by unfold isOp; rw [hat])
  clear hat hx
  by_cases h5 : i + 5 ≤ b.length
  · have HD : Hid (decide (i + 5 ≤ b.length) = true) := Lib.hid (by simpa using h5)
    by_cases h1 : x = 232
    · have hr : isOp b i = true := by rw [HI.out, HD.out, h1]; rfl
      rw [hr]
      subst h1
      have hcx : w.cell? ⟨bl, o + i, none⟩ = some (.int .u8 232) := hcx
      go_enter Try.func30, Try.ntmps30
      go_wp2
      go_ret
      first
        | exact ⟨rfl, rfl⟩
        | (refine ⟨?_, rfl⟩; show Ending.returned (.bool (decide ((i : Int) + 5 ≤ (b.length : Int)))) = _; exact ret_bool (by simp; omega))
        | (refine ⟨?_, rfl⟩; show Ending.returned (.bool (decide ((i : Int) + 4 < (b.length : Int)))) = _; exact ret_bool (by simp; omega))
    · have n1 : ((x.toNat : Int) == 232) = false := by rw [beq_eq_false_iff_ne]; intro e; exact h1 (UInt8.toNat_inj.1 (by simpa using (show x.toNat = 232 by omega)))
      by_cases h2 : x = 233
      · have hr : isOp b i = true := by rw [HI.out, HD.out, h2]; rfl
        rw [hr]
        subst h2
        have hcx : w.cell? ⟨bl, o + i, none⟩ = some (.int .u8 233) := hcx
        go_enter Try.func30, Try.ntmps30
        go_wp2
        go_ret
        first
          | exact ⟨rfl, rfl⟩
          | (refine ⟨?_, rfl⟩; show Ending.returned (.bool (decide ((i : Int) + 5 ≤ (b.length : Int)))) = _; exact ret_bool (by simp; omega))
          | (refine ⟨?_, rfl⟩; show Ending.returned (.bool (decide ((i : Int) + 4 < (b.length : Int)))) = _; exact ret_bool (by simp; omega))
      · have n2 : ((x.toNat : Int) == 233) = false := by rw [beq_eq_false_iff_ne]; intro e; exact h2 (UInt8.toNat_inj.1 (by simpa using (show x.toNat = 233 by omega)))
        have hr : isOp b i = false := by rw [HI.out]; simp [h1, h2]
        rw [hr]
        clear h1 h2
        go_enter Try.func30, Try.ntmps30
        go_wp2
        go_ret
        first
          | exact ⟨rfl, rfl⟩
          | (refine ⟨?_, rfl⟩; show Ending.returned (.bool (decide ((i : Int) + 5 ≤ (b.length : Int)))) = _; exact ret_bool (by simp; omega))
          | (refine ⟨?_, rfl⟩; show Ending.returned (.bool (decide ((i : Int) + 4 < (b.length : Int)))) = _; exact ret_bool (by simp; omega))
  · have hr : isOp b i = false := by rw [HI.out]; simp; omega
    rw [hr]
    by_cases h1 : x = 232
    · subst h1
      have hcx : w.cell? ⟨bl, o + i, none⟩ = some (.int .u8 232) := hcx
      go_enter Try.func30, Try.ntmps30
      go_wp2
      go_ret
      first
        | exact ⟨rfl, rfl⟩
        | (refine ⟨?_, rfl⟩; show Ending.returned (.bool (decide ((i : Int) + 5 ≤ (b.length : Int)))) = _; exact ret_bool (by simp; omega))
        | (refine ⟨?_, rfl⟩; show Ending.returned (.bool (decide ((i : Int) + 4 < (b.length : Int)))) = _; exact ret_bool (by simp; omega))
    · have n1 : ((x.toNat : Int) == 232) = false := by rw [beq_eq_false_iff_ne]; intro e; exact h1 (UInt8.toNat_inj.1 (by simpa using (show x.toNat = 232 by omega)))
      by_cases h2 : x = 233
      · subst h2
        have hcx : w.cell? ⟨bl, o + i, none⟩ = some (.int .u8 233) := hcx
        go_enter Try.func30, Try.ntmps30
        go_wp2
        go_ret
        first
          | exact ⟨rfl, rfl⟩
          | (refine ⟨?_, rfl⟩; show Ending.returned (.bool (decide ((i : Int) + 5 ≤ (b.length : Int)))) = _; exact ret_bool (by simp; omega))
          | (refine ⟨?_, rfl⟩; show Ending.returned (.bool (decide ((i : Int) + 4 < (b.length : Int)))) = _; exact ret_bool (by simp; omega))
      · have n2 : ((x.toNat : Int) == 233) = false := by rw [beq_eq_false_iff_ne]; intro e; exact h2 (UInt8.toNat_inj.1 (by simpa using (show x.toNat = 233 by omega)))
        clear h1 h2
        go_enter Try.func30, Try.ntmps30
        go_wp2
        go_ret
        first
          | exact ⟨rfl, rfl⟩
          | (refine ⟨?_, rfl⟩; show Ending.returned (.bool (decide ((i : Int) + 5 ≤ (b.length : Int)))) = _; exact ret_bool (by simp; omega))
          | (refine ⟨?_, rfl⟩; show Ending.returned (.bool (decide ((i : Int) + 4 < (b.length : Int)))) = _; exact ret_bool (by simp; omega))

theorem is_any (A : Option Addr) (c : Nat) (b : List UInt8) (i : Nat) (hi : i < b.length) (hn : b.length ≤ 9223372036854775000) (w : World) (B : Nat) (h : Sl u8 w B A b) :
    Calls Try.prog 26 #[.slice A b.length c, .int .i64 (i : Int)] w fun e w' => e = .returned (.bool (isOp b i)) ∧ w = w' := by
  obtain ⟨bl, o, x, rfl, _, hx, hcx⟩ := h.byte hi
  have hat : at_ b i = x := by unfold at_; rw [hx]; rfl
  have HI : Hid (isOp b i = ((x == 232 || x == 233) && decide (i + 5 ≤ b.length))) := Lib.hid (by unfold isOp; rw [hat])
  clear hat hx
  by_cases h5 : i + 5 ≤ b.length
  · have HD : Hid (decide (i + 5 ≤ b.length) = true) := Lib.hid (by simpa using h5)
    by_cases h1 : x = 232
    · have hr : isOp b i = true := by rw [HI.out, HD.out, h1]; rfl
      rw [hr]
      subst h1
      have hcx : w.cell? ⟨bl, o + i, none⟩ = some (.int .u8 232) := hcx
      go_enter Try.func26, Try.ntmps26
      go_wp2
      go_ret
      first
        | exact ⟨rfl, rfl⟩
        | (refine ⟨?_, rfl⟩; show Ending.returned (.bool (decide ((i : Int) + 5 ≤ (b.length : Int)))) = _; exact ret_bool (by simp; omega))
        | (refine ⟨?_, rfl⟩; show Ending.returned (.bool (decide ((i : Int) + 4 < (b.length : Int)))) = _; exact ret_bool (by simp; omega))
    · have n1 : ((x.toNat : Int) == 232) = false := by rw [beq_eq_false_iff_ne]; intro e; exact h1 (UInt8.toNat_inj.1 (by simpa using (show x.toNat = 232 by omega)))
      by_cases h2 : x = 233
      · have hr : isOp b i = true := by rw [HI.out, HD.out, h2]; rfl
        rw [hr]
        subst h2
        have hcx : w.cell? ⟨bl, o + i, none⟩ = some (.int .u8 233) := hcx
        go_enter Try.func26, Try.ntmps26
        go_wp2
        go_ret
        first
          | exact ⟨rfl, rfl⟩
          | (refine ⟨?_, rfl⟩; show Ending.returned (.bool (decide ((i : Int) + 5 ≤ (b.length : Int)))) = _; exact ret_bool (by simp; omega))
          | (refine ⟨?_, rfl⟩; show Ending.returned (.bool (decide ((i : Int) + 4 < (b.length : Int)))) = _; exact ret_bool (by simp; omega))
      · have n2 : ((x.toNat : Int) == 233) = false := by rw [beq_eq_false_iff_ne]; intro e; exact h2 (UInt8.toNat_inj.1 (by simpa using (show x.toNat = 233 by omega)))
        have hr : isOp b i = false := by rw [HI.out]; simp [h1, h2]
        rw [hr]
        clear h1 h2
        go_enter Try.func26, Try.ntmps26
        go_wp2
        go_ret
        first
          | exact ⟨rfl, rfl⟩
          | (refine ⟨?_, rfl⟩; show Ending.returned (.bool (decide ((i : Int) + 5 ≤ (b.length : Int)))) = _; exact ret_bool (by simp; omega))
          | (refine ⟨?_, rfl⟩; show Ending.returned (.bool (decide ((i : Int) + 4 < (b.length : Int)))) = _; exact ret_bool (by simp; omega))
  · have hr : isOp b i = false := by rw [HI.out]; simp; omega
    rw [hr]
    by_cases h1 : x = 232
    · subst h1
      have hcx : w.cell? ⟨bl, o + i, none⟩ = some (.int .u8 232) := hcx
      go_enter Try.func26, Try.ntmps26
      go_wp2
      go_ret
      first
        | exact ⟨rfl, rfl⟩
        | (refine ⟨?_, rfl⟩; show Ending.returned (.bool (decide ((i : Int) + 5 ≤ (b.length : Int)))) = _; exact ret_bool (by simp; omega))
        | (refine ⟨?_, rfl⟩; show Ending.returned (.bool (decide ((i : Int) + 4 < (b.length : Int)))) = _; exact ret_bool (by simp; omega))
    · have n1 : ((x.toNat : Int) == 232) = false := by rw [beq_eq_false_iff_ne]; intro e; exact h1 (UInt8.toNat_inj.1 (by simpa using (show x.toNat = 232 by omega)))
      by_cases h2 : x = 233
      · subst h2
        have hcx : w.cell? ⟨bl, o + i, none⟩ = some (.int .u8 233) := hcx
        go_enter Try.func26, Try.ntmps26
        go_wp2
        go_ret
        first
          | exact ⟨rfl, rfl⟩
          | (refine ⟨?_, rfl⟩; show Ending.returned (.bool (decide ((i : Int) + 5 ≤ (b.length : Int)))) = _; exact ret_bool (by simp; omega))
          | (refine ⟨?_, rfl⟩; show Ending.returned (.bool (decide ((i : Int) + 4 < (b.length : Int)))) = _; exact ret_bool (by simp; omega))
      · have n2 : ((x.toNat : Int) == 233) = false := by rw [beq_eq_false_iff_ne]; intro e; exact h2 (UInt8.toNat_inj.1 (by simpa using (show x.toNat = 233 by omega)))
        clear h1 h2
        go_enter Try.func26, Try.ntmps26
        go_wp2
        go_ret
        first
          | exact ⟨rfl, rfl⟩
          | (refine ⟨?_, rfl⟩; show Ending.returned (.bool (decide ((i : Int) + 5 ≤ (b.length : Int)))) = _; exact ret_bool (by simp; omega))
          | (refine ⟨?_, rfl⟩; show Ending.returned (.bool (decide ((i : Int) + 4 < (b.length : Int)))) = _; exact ret_bool (by simp; omega))

end Go.Proofs.Ythcagaklinkkpaa.E
