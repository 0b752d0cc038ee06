/- The reference's digits and Runs. -/
import Derived.Test.YtgaifkjdaldmnaaF9
namespace Go.Proofs.Ytgaifkjdaldmnaa.F
set_option linter.unusedVariables false
open Go Go.RowKit Go.Proofs.Ytgaifkjdaldmnaa Go.Proofs.Ytgaifkjdaldmnaa.W Go.Proofs.Ytgaifkjdaldmnaa.M Go.Proofs.Ytgaifkjdaldmnaa.B

theorem code_drop_run {b : Bs} {i : Nat} (hz : 0 < lead (b.drop i)) : code (b.drop i) = dig (lead (b.drop i)) ++ code (b.drop (i + lead (b.drop i))) := by
  have h := lead_split (b.drop i)
  have hd := lead_drop (b.drop i)
  rw [List.drop_drop] at h hd
  conv => lhs; rw [h]
  rw [code_run _ hz _ hd]
theorem code_drop_other {b : Bs} {i : Nat} {x : UInt8} (h : b[i]? = some x) (hx : x ≠ 0) : code (b.drop i) = enc x ++ code (b.drop (i + 1)) := by
  rw [drop_cons h, code_other hx]

set_option maxRecDepth 100000 in
theorem digits_any (N : Nat) (hN : N ≤ 65536) (w : World) : Calls Try.prog 26 #[.int .i64 (N : Int)] w fun e w' => ∃ A' c', e = .returned (.slice A' (dig N).length c') ∧ w'.ownsRow w.heap.size 5 1 (.slice A' (dig N).length c') (dig N).length ((dig N).map u8) ∧ Below w.heap.size w w' := by
  obtain ⟨i0, hi, hz0, hz1, hz2⟩ := info_parts info5
  have hdl := dig_length N
  go_enter Try.func26, Try.ntmps26
  go_wp2
  go_loopw [0, 3] (fun mv v wm => ∃ (m : Nat) (acc : Bs) (k : Nat) (A' : Option Addr) (c' : Nat), mv = .int .i64 (m : Int) ∧ m ≤ 65536 ∧ v = .slice A' k c' ∧ Hid (acc.length = k) ∧ k ≤ 65536 ∧ Hid (dig N = acc ++ dig m) ∧ wm.ownsRow w.heap.size 5 1 (.slice A' k c') k (acc.map u8) ∧ Below w.heap.size w wm) (fun mv _ _ => (intOf mv).toNat)
  case atStart => exact ⟨N, [], 0, none, 0, rfl, hN, rfl, Lib.hid rfl, by omega, Lib.hid rfl, World.ownsRow_nil _ _ _ _, Below.refl _ _⟩
  case round =>
    obtain ⟨m, acc, k, A', c', rfl, hm, rfl, hk, hk2, hd, hown, hB⟩ := hrel
    by_cases hlt : 0 < m
    · have hlt' : (0 : Int) < m := by omega
      by_cases ho : m % 2 = 1
      · have hds := Lib.hid (dig_odd ho)
        have hk3 : k + 1 ≤ 65536 := by
          have h1 := congrArg List.length hd.out
          rw [hds.out, List.length_append, List.length_cons, hk.out] at h1
          omega
        have ho1 : (m : Int) % 2 = 1 := by omega
        have HO := Lib.hid ho
        clear ho
        go_wp2_with (at_builtin; refine wpList_append_at _ u8_one' rfl _ _ 22 rfl w.heap.size 5 i0 (.int .u8 0) 1 Try.underlying22 hi hz0 hz1 hz2 rfl (.slice A' k c') k _ rfl (hown.alloc _) _ _ 1 [0] 1 rfl (Sl.of_new rfl rfl) rfl (by unfold maxLen; omega) (by omega) (by have := hB.size; simp; omega) ?_; intro v4 w4 o4 g4 _; have hB4 := (hB.alloc hB.size _).grown g4 (by have := hB.size; simp; omega) (fun j hj => (hown.lt j hj).1))
        obtain ⟨A4, c4, rfl, _, _⟩ := own_form o4
        go_roundw
        case rel => exact ⟨(m - 1) / 2, acc ++ [0], k + 1, A4, c4, by go_num, by omega, rfl, Lib.hid (by rw [List.length_append, hk.out]; rfl), hk3, Lib.hid (by rw [hd.out, hds.out]; simp), by rw [List.map_append]; exact o4, hB4⟩
        case measure => simp [intOf]; omega
      · have hds := Lib.hid (dig_even (by omega) ho)
        have hk3 : k + 1 ≤ 65536 := by
          have h1 := congrArg List.length hd.out
          rw [hds.out, List.length_append, List.length_cons, hk.out] at h1
          omega
        have ho1 : ((m : Int) % 2 == 1) = false := by rw [beq_eq_false_iff_ne]; omega
        have hm2 : 2 ≤ m := by omega
        clear ho
        go_wp2_with (at_builtin; refine wpList_append_at _ u8_one' rfl _ _ 22 rfl w.heap.size 5 i0 (.int .u8 0) 1 Try.underlying22 hi hz0 hz1 hz2 rfl (.slice A' k c') k _ rfl (hown.alloc _) _ _ 1 [1] 1 rfl (Sl.of_new rfl rfl) rfl (by unfold maxLen; omega) (by omega) (by have := hB.size; simp; omega) ?_; intro v4 w4 o4 g4 _; have hB4 := (hB.alloc hB.size _).grown g4 (by have := hB.size; simp; omega) (fun j hj => (hown.lt j hj).1))
        obtain ⟨A4, c4, rfl, _, _⟩ := own_form o4
        go_roundw
        case rel => exact ⟨(m - 2) / 2, acc ++ [1], k + 1, A4, c4, by go_num, by omega, rfl, Lib.hid (by rw [List.length_append, hk.out]; rfl), hk3, Lib.hid (by rw [hd.out, hds.out]; simp), by rw [List.map_append]; exact o4, hB4⟩
        case measure => simp [intOf]; omega
    · obtain rfl : m = 0 := by omega
      have hall : Hid (dig N = acc) := Lib.hid (by rw [hd.out, dig_zero, List.append_nil])
      have hkl := hk.out
      subst hkl
      go_wp2
      go_ret
      rw [hall.out]
      exact ⟨A', c', rfl, hown, hB⟩
end Go.Proofs.Ytgaifkjdaldmnaa.F
