/- The reference's Runs. -/
import Derived.Test.YtgaifkjdaldmnaaG1
namespace Go.Proofs.Ytgaifkjdaldmnaa.F
set_option linter.unusedVariables false
open Go Go.RowKit Go.Proofs.Ytgaifkjdaldmnaa Go.Proofs.Ytgaifkjdaldmnaa.W Go.Proofs.Ytgaifkjdaldmnaa.M Go.Proofs.Ytgaifkjdaldmnaa.B

set_option maxRecDepth 100000 in
set_option maxHeartbeats 4000000 in
theorem rRuns_ok (A : Option Addr) (c N : Nat) (b : Bs) (hlb : b.length = N) (hn : N ≤ 32768) (w : World) (B : Nat) (h : Sl u8 w B A b) :
    Calls Try.prog 13 #[.slice A N c] w fun e w' => ∃ A' c', e = .returned (.tuple #[.slice A' (code b).length c', .int .i64 0]) ∧
      w'.ownsRow w.heap.size 5 1 (.slice A' (code b).length c') (code b).length ((code b).map u8) ∧ Below w.heap.size w w' := by
  obtain ⟨i0, hi, hz0, hz1, hz2⟩ := info_parts info5
  have hSl := h.lt
  have HL := Lib.hid hlb
  have hcl : (code b).length ≤ 65536 := by have := code_length b; omega
  obtain ⟨M, hM⟩ : ∃ M, (code b).length = M := ⟨_, rfl⟩
  have HM := Lib.hid hM
  rw [hM] at hcl ⊢
  clear h hlb hM
  go_enter Try.func13, Try.ntmps13
  go_wp2
  go_loopw [4, 5, 6] (fun v iv _ wm => ∃ (i : Nat) (acc : Bs) (k : Nat) (A' : Option Addr) (c' : Nat), i ≤ N ∧ iv = .int .i64 (i : Int) ∧ v = .slice A' k c' ∧ Hid (acc.length = k) ∧ k ≤ M ∧ Hid (code b = acc ++ code (b.drop i)) ∧ wm.ownsRow w.heap.size 5 1 (.slice A' k c') k (acc.map u8) ∧ Below w.heap.size w wm) (fun _ iv _ _ => N - (intOf iv).toNat)
  case atStart => exact ⟨0, [], 0, none, 0, by omega, rfl, rfl, Lib.hid rfl, by omega, Lib.hid rfl, World.ownsRow_nil _ _ _ _, Below.refl _ _⟩
  case round =>
    obtain ⟨wo, rfl⟩ : ∃ wo : World, wo = wr := ⟨_, rfl⟩
    obtain ⟨i, acc, k, A', c', hiN, rfl, rfl, hk, hkM, hd, hown, hB⟩ := hrel
    by_cases hlt : i < N
    · have hSw := hSl.below hB
      obtain ⟨bl, o, hAe, hbl, hcs⟩ := hSw.open_ (by rw [HL.out]; omega)
      have hget : ∀ j, j < N → b[j]? = some (b.getD j 0) := fun j hj => by
        have : j < b.length := by rw [HL.out]; exact hj
        simp [List.getD, this]
      have HG := Lib.hid hget
      have HC : Hid (∀ j, j < N → wo.cell? ⟨bl, o + j, none⟩ = some (.int .u8 ((b.getD j 0).toNat : Int))) := Lib.hid fun j hj => hcs j _ (hget j hj)
      subst hAe
      obtain ⟨z, hz⟩ : ∃ z, z = lead (b.drop i) := ⟨_, rfl⟩
      have hzl : i + z ≤ N := by have := lead_le (b.drop i); rw [← hz, List.length_drop, HL.out] at this; omega
      have HZ : Hid (∀ j, j < z → b.getD (i + j) 0 = 0) := Lib.hid fun j hj => by
        have := lead_zero (r := b.drop i) (j := j) (by omega)
        rw [List.getElem?_drop] at this
        simp [List.getD, this]
      have HZ2 : Hid (i + z < N → b.getD (i + z) 0 ≠ 0) := Lib.hid fun hj => by
        have h1 := HG.out _ hj
        exact lead_stop (r := b.drop i) (by rw [← hz, List.getElem?_drop]; exact h1)
      have HR : Hid (0 < z → code (b.drop i) = dig z ++ code (b.drop (i + z))) := Lib.hid fun h0 => by rw [hz] at h0 ⊢; exact code_drop_run h0
      clear hz hcs hget
      go_wp2
      go_loop [6] (fun mv => ∃ j : Nat, j ≤ z ∧ mv = .int .i64 (j : Int)) (fun mv => N - (intOf mv).toNat)
      case atStart => exact ⟨0, Nat.zero_le _, rfl⟩
      case round =>
        obtain ⟨j, hj, rfl⟩ := hrel
        by_cases hjm : j < z
        · have hcj := HC.out (i + j) (by omega)
          rw [HZ.out j hjm] at hcj
          replace hcj : wo.cell? ⟨bl, o + (i + j), none⟩ = some (.int .u8 0) := hcj
          have hlt2 : (i : Int) + (j : Int) < (N : Int) := by omega
          go_wp2
          go_round
          case rel => exact ⟨j + 1, by omega, by go_num⟩
          case measure => simp [intOf]; omega
        · obtain rfl : j = z := by omega
          by_cases hend : i + j < N
          · have hcj := HC.out (i + j) hend
            have hnz := HZ2.out hend
            obtain ⟨y, hyy⟩ : ∃ y, y = b.getD (i + j) 0 := ⟨_, rfl⟩
            have hby : b[i + j]? = some y := by rw [hyy]; exact HG.out _ hend
            rw [← hyy] at hcj hnz
            have hne : ((y.toNat : Int) == 0) = false := by rw [beq_eq_false_iff_ne]; intro e; exact hnz (UInt8.toNat_inj.1 (by simpa using (show y.toNat = 0 by omega)))
            have hlt2 : (i : Int) + (j : Int) < (N : Int) := by omega
            clear hyy
            by_cases hj0 : 0 < j
            · have hj0' : (0 : Int) < j := by omega
              clear hby hnz
              obtain ⟨D, hD⟩ : ∃ D, (dig j).length = D := ⟨_, rfl⟩
              have HD := Lib.hid hD
              have C := digits_any j (by omega) wo
              rw [hD] at C
              have C := Lib.hid C
              have hd2 := Lib.hid (HR.out hj0)
              have hkl : k + D ≤ M := by
                have h1 := congrArg List.length hd.out
                rw [hd2.out, List.length_append, List.length_append, hk.out, HM.out, hD] at h1
                omega
              clear hD
              go_wp2_with (first
                | (go_at_call 26; refine C.out.mono ?_; rintro e w3 ⟨A3, c3, rfl, o3, hb3⟩; have hB3 := bsa hB hB.size hb3; have hown3 := own_later hown hb3; have t3 := Sl.of_own o3)
                | (at_builtin; refine wpList_append_sl _ u8_one' rfl _ _ 22 rfl w.heap.size 5 i0 (.int .u8 0) 1 Try.underlying22 hi hz0 hz1 hz2 rfl (.slice A' k c') k _ rfl hown3 _ A3 c3 (dig j) D rfl t3 HD.out (by unfold maxLen; omega) (by omega) hB3.size ?_; intro v4 w4 o4 g4; have hB4 := hB3.grown g4 hB3.size (fun q hq => (hown3.lt q hq).1)))
              obtain ⟨A4, c4, rfl, _, _⟩ := own_form o4
              go_roundw
              case rel => exact ⟨i + j, acc ++ dig j, k + D, A4, c4, by omega, by go_num, rfl, Lib.hid (by rw [List.length_append, hk.out, HD.out]), hkl, Lib.hid (by rw [hd.out, hd2.out]; simp), by rw [List.map_append]; exact o4, hB4⟩
              case measure => simp [intOf]; omega
            · obtain rfl : j = 0 := by omega
              rw [Nat.add_zero] at hby hcj
              have hd2 := Lib.hid (code_drop_other hby hnz)
              have h256 := lt256 y
              have hkl : k + (enc y).length ≤ M := by
                have h1 := congrArg List.length hd.out
                rw [hd2.out, List.length_append, List.length_append, hk.out, HM.out] at h1
                omega
              rw [enc_length] at hkl
              by_cases h4 : 254 ≤ y
              · rw [if_pos h4] at hkl
                have he : Hid (enc y = [255, y - 254]) := Lib.hid (by unfold enc; rw [if_pos h4])
                have hge : (254 : Int) ≤ (y.toNat : Int) := by have := UInt8.le_iff_toNat_le.1 h4; have h5 : (254 : UInt8).toNat = 254 := rfl; omega
                have HS : Hid (((y - 254).toNat : Int) = (y.toNat : Int) - 254) := Lib.hid (by rw [UInt8.toNat_sub_of_le _ _ h4]; have h5 : (254 : UInt8).toNat = 254 := rfl; omega)
                clear h4 hby hnz
                go_wp2_with (at_builtin; refine wpList_append_at _ u8_one' rfl _ _ 22 rfl w.heap.size 5 i0 (.int .u8 0) 1 Try.underlying22 hi hz0 hz1 hz2 rfl (.slice A' k c') k _ rfl (hown.alloc _) _ _ 2 [255, y - 254] 2 rfl (Sl.of_new rfl (by rw [List.map_cons, List.map_cons, List.map_nil, W.u8_def, W.u8_def, HS.out]; rfl)) rfl (by unfold maxLen; omega) (by omega) (by have := hB.size; simp; omega) ?_; intro v4 w4 o4 g4 _; have hB4 := (hB.alloc hB.size _).grown g4 (by have := hB.size; simp; omega) (fun q hq => (hown.lt q hq).1))
                obtain ⟨A4, c4, rfl, _, _⟩ := own_form o4
                go_roundw
                case rel => exact ⟨i + 1, acc ++ [255, y - 254], k + 2, A4, c4, by omega, by go_num, rfl, Lib.hid (by rw [List.length_append, hk.out]; rfl), hkl, Lib.hid (by rw [hd.out, hd2.out, he.out]; simp), by rw [List.map_append]; exact o4, hB4⟩
                case measure => simp [intOf]; omega
              · rw [if_neg h4] at hkl
                have he : Hid (enc y = [y + 1]) := Lib.hid (by unfold enc; rw [if_neg h4])
                have hlt4 : (y.toNat : Int) < 254 := by
                  have h5 : ¬ (254 ≤ y.toNat) := fun e => h4 (UInt8.le_iff_toNat_le.2 e)
                  omega
                have HS : Hid (((y + 1).toNat : Int) = (y.toNat : Int) + 1) := Lib.hid (by rw [UInt8.toNat_add]; have h5 : (1 : UInt8).toNat = 1 := rfl; omega)
                clear h4 hby hnz
                go_wp2_with (at_builtin; refine wpList_append_at _ u8_one' rfl _ _ 22 rfl w.heap.size 5 i0 (.int .u8 0) 1 Try.underlying22 hi hz0 hz1 hz2 rfl (.slice A' k c') k _ rfl (hown.alloc _) _ _ 1 [y + 1] 1 rfl (Sl.of_new rfl (by rw [List.map_cons, List.map_nil, W.u8_def, HS.out])) rfl (by unfold maxLen; omega) (by omega) (by have := hB.size; simp; omega) ?_; intro v4 w4 o4 g4 _; have hB4 := (hB.alloc hB.size _).grown g4 (by have := hB.size; simp; omega) (fun q hq => (hown.lt q hq).1))
                obtain ⟨A4, c4, rfl, _, _⟩ := own_form o4
                go_roundw
                case rel => exact ⟨i + 1, acc ++ [y + 1], k + 1, A4, c4, by omega, by go_num, rfl, Lib.hid (by rw [List.length_append, hk.out]; rfl), hkl, Lib.hid (by rw [hd.out, hd2.out, he.out]; simp), by rw [List.map_append]; exact o4, hB4⟩
                case measure => simp [intOf]; omega
          · have hlt2 : decide ((i : Int) + (j : Int) < (N : Int)) = false := by rw [decide_eq_false_iff_not]; omega
            have hj0 : 0 < j := by omega
            have hj0' : (0 : Int) < j := by omega
            obtain ⟨D, hD⟩ : ∃ D, (dig j).length = D := ⟨_, rfl⟩
            have HD := Lib.hid hD
            have C := digits_any j (by omega) wo
            rw [hD] at C
            have C := Lib.hid C
            have hd2 := Lib.hid (HR.out hj0)
            have hkl : k + D ≤ M := by
              have h1 := congrArg List.length hd.out
              rw [hd2.out, List.length_append, List.length_append, hk.out, HM.out, hD] at h1
              omega
            clear hD
            go_wp2_with (first
              | (go_at_call 26; refine C.out.mono ?_; rintro e w3 ⟨A3, c3, rfl, o3, hb3⟩; have hB3 := bsa hB hB.size hb3; have hown3 := own_later hown hb3; have t3 := Sl.of_own o3)
              | (at_builtin; refine wpList_append_sl _ u8_one' rfl _ _ 22 rfl w.heap.size 5 i0 (.int .u8 0) 1 Try.underlying22 hi hz0 hz1 hz2 rfl (.slice A' k c') k _ rfl hown3 _ A3 c3 (dig j) D rfl t3 HD.out (by unfold maxLen; omega) (by omega) hB3.size ?_; intro v4 w4 o4 g4; have hB4 := hB3.grown g4 hB3.size (fun q hq => (hown3.lt q hq).1)))
            obtain ⟨A4, c4, rfl, _, _⟩ := own_form o4
            go_roundw
            case rel => exact ⟨i + j, acc ++ dig j, k + D, A4, c4, by omega, by go_num, rfl, Lib.hid (by rw [List.length_append, hk.out, HD.out]), hkl, Lib.hid (by rw [hd.out, hd2.out]; simp), by rw [List.map_append]; exact o4, hB4⟩
            case measure => simp [intOf]; omega
    · obtain rfl : i = N := by omega
      have hall : Hid (code b = acc) := Lib.hid (by rw [hd.out, List.drop_of_length_le (by rw [HL.out]; exact Nat.le_refl _), code_nil, List.append_nil])
      have hkl : k = M := by rw [← hk.out, ← HM.out, hall.out]
      subst hkl
      go_wp2
      go_ret2
      rw [hall.out]
      exact ⟨A', c', rfl, hown, hB⟩
end Go.Proofs.Ytgaifkjdaldmnaa.F
