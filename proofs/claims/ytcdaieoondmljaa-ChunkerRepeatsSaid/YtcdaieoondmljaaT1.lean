/- Check in both texts, and check. -/
import Derived.Test.YtcdaieoondmljaaSC
import Derived.Test.YtcdaieoondmljaaM45
import Derived.Deep.RegionHeld3
namespace Go.Proofs.Ytcdaieoondmljaa.H
set_option linter.unusedVariables false
open Go Go.RowKit Go.Proofs.Ytcdaieoondmljaa Go.Proofs.Ytcdaieoondmljaa.W Go.Proofs.Ytcdaieoondmljaa.M

theorem and64 (u v : Nat) (hu : u < 4294967296) (hv : v < 4294967296) : bits .and .i64 (u : Int) (v : Int) = ((u &&& v : Nat) : Int) := by
  show IntKind.i64.wrap ((BitVec.ofInt 64 (u : Int) &&& BitVec.ofInt 64 (v : Int)).toNat : Int) = _
  rw [BitVec.ofInt_natCast, BitVec.ofInt_natCast, BitVec.toNat_and, BitVec.toNat_ofNat, BitVec.toNat_ofNat, Nat.mod_eq_of_lt (show u < 2 ^ 64 by omega), Nat.mod_eq_of_lt (show v < 2 ^ 64 by omega)]
  have : u &&& v ≤ u := Nat.and_le_left
  rw [IntKind.wrap_i64]; omega

theorem chk_cases (le us mo wi : Int) : ((wi < 1) ∧ chkC le us mo wi = 2) ∨ (¬ wi < 1 ∧ 64 < wi ∧ chkC le us mo wi = 2) ∨ (¬ wi < 1 ∧ ¬ 64 < wi ∧ le < wi ∧ chkC le us mo wi = 2) ∨
    (¬ wi < 1 ∧ ¬ 64 < wi ∧ ¬ le < wi ∧ mo < le ∧ chkC le us mo wi = 2) ∨ (¬ wi < 1 ∧ ¬ 64 < wi ∧ ¬ le < wi ∧ ¬ mo < le ∧ 65536 < mo ∧ chkC le us mo wi = 2) ∨
    (¬ wi < 1 ∧ ¬ 64 < wi ∧ ¬ le < wi ∧ ¬ mo < le ∧ ¬ 65536 < mo ∧ chkC le us mo wi = if isPow us = true then 0 else 1) := by
  unfold chkC
  by_cases h1 : wi < 1
  · exact .inl ⟨h1, if_pos (.inl h1)⟩
  · by_cases h2 : 64 < wi
    · exact .inr (.inl ⟨h1, h2, if_pos (.inr (.inl h2))⟩)
    · by_cases h3 : le < wi
      · exact .inr (.inr (.inl ⟨h1, h2, h3, if_pos (.inr (.inr (.inl h3)))⟩))
      · by_cases h4 : mo < le
        · exact .inr (.inr (.inr (.inl ⟨h1, h2, h3, h4, if_pos (.inr (.inr (.inr (.inl h4))))⟩)))
        · by_cases h5 : 65536 < mo
          · exact .inr (.inr (.inr (.inr (.inl ⟨h1, h2, h3, h4, h5, if_pos (.inr (.inr (.inr (.inr h5))))⟩))))
          · refine .inr (.inr (.inr (.inr (.inr ⟨h1, h2, h3, h4, h5, if_neg ?_⟩))))
            rintro (h | h | h | h | h) <;> contradiction
theorem pow_cases (us : Int) : (us < 2 ∧ isPow us = false) ∨ (¬ us < 2 ∧ 32768 < us ∧ isPow us = false) ∨ (¬ us < 2 ∧ ¬ 32768 < us ∧ (bits .and .i64 us (us - 1) == 0) = isPow us) := by
  by_cases h1 : us < 2
  · exact .inl ⟨h1, Bool.eq_false_iff.2 fun h => by have := isPow_bd h; omega⟩
  · by_cases h2 : 32768 < us
    · exact .inr (.inl ⟨h1, h2, Bool.eq_false_iff.2 fun h => by have := isPow_bd h; omega⟩)
    · refine .inr (.inr ⟨h1, h2, ?_⟩)
      obtain ⟨u, rfl⟩ := Int.eq_ofNat_of_zero_le (show 0 ≤ us by omega)
      have e : ((u : Int) - 1) = ((u - 1 : Nat) : Int) := by omega
      rw [e, and64 u (u - 1) (by omega) (by omega), Bool.eq_iff_iff, beq_iff_eq, ← land_pow (by omega) (by omega)]
      omega

set_option maxRecDepth 100000 in
set_option maxHeartbeats 4000000 in
theorem Check_ok (le us mo wi : Int) (w : World) : Calls Try.prog 15 #[.agg #[.int .i64 le, .int .i64 us, .int .i64 mo, .int .i64 wi]] w fun e w' => e = .returned (.int .i64 (chkC le us mo wi)) ∧ Below w.heap.size w w' := by
  have hb : Below w.heap.size w (w.alloc (.cells #[.int .i64 le, .int .i64 us, .int .i64 mo, .int .i64 wi] 23)) := (Below.refl _ _).alloc (Nat.le_refl _) _
  rcases chk_cases le us mo wi with ⟨h1, hk⟩ | ⟨h1, h2, hk⟩ | ⟨h1, h2, h3, hk⟩ | ⟨h1, h2, h3, h4, hk⟩ | ⟨h1, h2, h3, h4, h5, hk⟩ | ⟨h1, h2, h3, h4, h5, hk⟩
  · rw [hk]; clear hk
    go_enter Try.func15, Try.ntmps15
    go_wp2
    go_ret
    exact ⟨rfl, hb⟩
  · rw [hk]; clear hk
    go_enter Try.func15, Try.ntmps15
    go_wp2
    go_ret
    exact ⟨rfl, hb⟩
  · rw [hk]; clear hk
    go_enter Try.func15, Try.ntmps15
    go_wp2
    go_ret
    exact ⟨rfl, hb⟩
  · rw [hk]; clear hk
    go_enter Try.func15, Try.ntmps15
    go_wp2
    go_ret
    exact ⟨rfl, hb⟩
  · rw [hk]; clear hk
    go_enter Try.func15, Try.ntmps15
    go_wp2
    go_ret
    exact ⟨rfl, hb⟩
  · rw [hk]; clear hk
    rcases pow_cases us with ⟨g1, gp⟩ | ⟨g1, g2, gp⟩ | ⟨g1, g2, gp⟩
    · rw [gp]
      go_enter Try.func15, Try.ntmps15
      go_wp2
      go_ret
      exact ⟨rfl, hb⟩
    · rw [gp]
      go_enter Try.func15, Try.ntmps15
      go_wp2
      go_ret
      exact ⟨rfl, hb⟩
    · rw [← gp]
      obtain ⟨q, hq⟩ : ∃ q, bits .and .i64 us (us - 1) = q := ⟨_, rfl⟩
      rw [hq]
      clear gp
      by_cases hq0 : q = 0
      · subst hq0
        go_enter Try.func15, Try.ntmps15
        go_wp2
        go_ret
        exact ⟨rfl, hb⟩
      · have hq1 : (q == 0) = false := by rw [beq_eq_false_iff_ne]; exact hq0
        rw [hq1]
        go_enter Try.func15, Try.ntmps15
        go_wp2
        go_ret
        exact ⟨rfl, hb⟩

set_option maxRecDepth 100000 in
set_option maxHeartbeats 4000000 in
theorem rCheck_ok (le us mo wi : Int) (w : World) : Calls Try.prog 20 #[.agg #[.int .i64 le, .int .i64 us, .int .i64 mo, .int .i64 wi]] w fun e w' => e = .returned (.int .i64 (chkC le us mo wi)) ∧ Below w.heap.size w w' := by
  have hb : Below w.heap.size w (w.alloc (.cells #[.int .i64 le, .int .i64 us, .int .i64 mo, .int .i64 wi] 23)) := (Below.refl _ _).alloc (Nat.le_refl _) _
  rcases chk_cases le us mo wi with ⟨h1, hk⟩ | ⟨h1, h2, hk⟩ | ⟨h1, h2, h3, hk⟩ | ⟨h1, h2, h3, h4, hk⟩ | ⟨h1, h2, h3, h4, h5, hk⟩ | ⟨h1, h2, h3, h4, h5, hk⟩
  · rw [hk]; clear hk
    go_enter Try.func20, Try.ntmps20
    go_wp2
    go_ret
    exact ⟨rfl, hb⟩
  · rw [hk]; clear hk
    go_enter Try.func20, Try.ntmps20
    go_wp2
    go_ret
    exact ⟨rfl, hb⟩
  · rw [hk]; clear hk
    go_enter Try.func20, Try.ntmps20
    go_wp2
    go_ret
    exact ⟨rfl, hb⟩
  · rw [hk]; clear hk
    go_enter Try.func20, Try.ntmps20
    go_wp2
    go_ret
    exact ⟨rfl, hb⟩
  · rw [hk]; clear hk
    go_enter Try.func20, Try.ntmps20
    go_wp2
    go_ret
    exact ⟨rfl, hb⟩
  · rw [hk]; clear hk
    have HP := Lib.hid (isPow_iff (u := us))
    obtain ⟨t, ht⟩ : ∃ t, isPow us = t := ⟨_, rfl⟩
    have HT := Lib.hid ht
    rw [ht]
    clear ht
    obtain ⟨r, hr⟩ : ∃ r : Int, (if t = true then (0 : Int) else 1) = r := ⟨_, rfl⟩
    have HRR := Lib.hid hr
    rw [hr]
    clear hr
    go_enter Try.func20, Try.ntmps20
    go_wp2
    go_loop [3] (fun pv => ∃ p : Nat, 2 ≤ p ∧ p ≤ 65536 ∧ pv = .int .i64 (p : Int) ∧ Hid (∃ j, j ≤ 15 ∧ p = 2 ^ (j + 1) ∧ ∀ i, i < j → us ≠ ((2 ^ (i + 1) : Nat) : Int))) (fun pv => 65537 - (intOf pv).toNat)
    case atStart => exact ⟨2, by omega, by omega, rfl, Lib.hid ⟨0, by omega, rfl, fun i hi => by omega⟩⟩
    case round =>
      obtain ⟨p, hp1, hp2, rfl, hj⟩ := hrel
      by_cases hlt : p ≤ 32768
      · have hlt' : (p : Int) ≤ 32768 := by omega
        by_cases hup : us = (p : Int)
        · have HTT : Hid (t = true) := Lib.hid (by
            obtain ⟨j, hj1, hj2, _⟩ := hj.out
            rw [← HT.out, HP.out]
            refine ⟨j, ?_, by rw [hup, hj2]⟩
            rcases Nat.lt_or_ge j 15 with h | h
            · exact h
            · have : 2 ^ 16 ≤ 2 ^ (j + 1) := Nat.pow_le_pow_right (by decide) (by omega)
              have e : (2 : Nat) ^ 16 = 65536 := rfl
              omega)
          have hup' : (us == (p : Int)) = true := by rw [beq_iff_eq]; exact hup
          clear hup
          go_wp2
          go_ret
          exact ⟨ret_int (by rw [← HRR.out, HTT.out]; rfl), hb⟩
        · have HJ : Hid (∃ j, j ≤ 15 ∧ 2 * p = 2 ^ (j + 1) ∧ ∀ i, i < j → us ≠ ((2 ^ (i + 1) : Nat) : Int)) := Lib.hid (by
            obtain ⟨j, hj1, hj2, hj3⟩ := hj.out
            refine ⟨j + 1, ?_, by rw [hj2, Nat.pow_succ 2 (j + 1)]; omega, fun i hi => ?_⟩
            · rcases Nat.lt_or_ge j 15 with h | h
              · omega
              · have : 2 ^ 16 ≤ 2 ^ (j + 1) := Nat.pow_le_pow_right (by decide) (by omega)
                have e : (2 : Nat) ^ 16 = 65536 := rfl
                omega
            · by_cases hij : i < j
              · exact hj3 i hij
              · obtain rfl : i = j := by omega
                rw [← hj2]; exact hup)
          have hup' : (us == (p : Int)) = false := by rw [beq_eq_false_iff_ne]; exact hup
          clear hup
          go_wp2
          go_round
          case rel => exact ⟨2 * p, by omega, by omega, by go_num, HJ⟩
          case measure => simp [intOf]; omega
      · have hlt' : ¬ (p : Int) ≤ 32768 := by omega
        have HTF : Hid (t = false) := Lib.hid (by
          obtain ⟨j, hj1, hj2, hj3⟩ := hj.out
          rw [← HT.out]
          refine Bool.eq_false_iff.2 fun h => ?_
          obtain ⟨i, hi, e⟩ := HP.out.1 h
          refine hj3 i ?_ e
          rcases Nat.lt_or_ge j 15 with h | h
          · have : 2 ^ (j + 1) ≤ 2 ^ 15 := Nat.pow_le_pow_right (by decide) (by omega)
            have e : (2 : Nat) ^ 15 = 32768 := rfl
            omega
          · omega)
        go_wp2
        go_ret
        exact ⟨ret_int (by rw [← HRR.out, HTF.out]; rfl), hb⟩
end Go.Proofs.Ytcdaieoondmljaa.H
