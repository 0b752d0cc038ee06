import Derived.Test.YtlbghmocbklmdaaRA
namespace Go.Proofs.Ytlbghmocbklmdaa.H
set_option linter.unusedVariables false
open Go Go.RowKit Go.Proofs.Ytlbghmocbklmdaa Go.Proofs.Ytlbghmocbklmdaa.W Go.Proofs.Ytlbghmocbklmdaa.M

theorem u32_of (x : Nat) (hx : x ≤ 4294967295) : ∃ m : R, m.toNat = x := ⟨BitVec.ofNat 32 x, by rw [BitVec.toNat_ofNat]; omega⟩
set_option maxRecDepth 100000 in
set_option maxHeartbeats 2000000 in
theorem places_walk (A : Option Addr) (c : Nat) (b : List UInt8) (z : Int) (x : Nat) (w : World) (h : Sl u8 w w.heap.size A b) (hc : b.length ≤ c) (hm : c ≤ maxLen) (hz1 : -9223372036854775808 ≤ z) (hz2 : z ≤ 9223372036854775807) (hx : x ≤ 4294967295) :
    Calls Try.prog 5 #[.slice A b.length c, .int .i64 z, .int .u32 (x : Int)] w fun e w' => e = .returned (.bool true) ∧ Below w.heap.size w w' := by
  have hmx : b.length ≤ 9223372036854775807 := by unfold maxLen at hm; omega
  obtain ⟨m, rfl⟩ := u32_of x hx
  obtain ⟨n, hn⟩ : ∃ n, b.length = n := ⟨_, rfl⟩
  rw [hn] at hc hmx ⊢
  have HN := Lib.hid hn
  clear hm hn hx
  by_cases h5 : n > 300
  · go_enter Try.func5, Try.ntmps5
    go_wp2_with (go_at_call 10; refine (awake_any _).mono ?_; rintro e w1 ⟨rfl, hb1⟩)
    go_ret
    exact ⟨rfl, hb1⟩
  · by_cases hz : z < 1 ∨ 64 < z
    · have HZ := Lib.hid hz
      clear hz
      have D1 : Hid (∀ W, Calls Try.prog 22 #[.slice A n c, .int .i64 z, .int .u32 (m.toNat : Int)] W fun e w' => e = .returned (.tuple #[.slice none 0 0, .int .i64 2]) ∧ Below W.heap.size W w') := Lib.hid fun W => Places_bad A n c z _ HZ.out W
      have D2 : Hid (∀ W, Calls Try.prog 23 #[.slice A n c, .int .i64 z, .int .u32 (m.toNat : Int)] W fun e w' => e = .returned (.tuple #[.slice none 0 0, .int .i64 2]) ∧ w' = W) := Lib.hid fun W => rPlaces_bad A n c z _ HZ.out W
      have D3 : Hid (∀ W, Calls Try.prog 24 #[.slice none 0 0, .slice none 0 0] W fun e w' => e = .returned (.bool true) ∧ Below W.heap.size W w') := Lib.hid fun W => equalI_same (l := []) (n := 0) (B := 0) (B' := 0) rfl (by omega) Sl.nil Sl.nil
      go_enter Try.func5, Try.ntmps5
      go_wp2_with (first
        | (go_at_call 22; refine (D1.out _).mono ?_; rintro e w1 ⟨rfl, hb1⟩)
        | (go_at_call 23; refine (D2.out _).mono ?_; rintro e w2 ⟨rfl, rfl⟩)
        | (go_at_call 24; refine (D3.out _).mono ?_; rintro e w3 ⟨rfl, hb3⟩; have hB3 := bsa hb1 hb1.size hb3)
        | (go_at_call 10; refine (awake_any _).mono ?_; rintro e w4 ⟨rfl, hb4⟩; have hB4 := bsa hB3 hB3.size hb4))
      go_ret
      exact ⟨rfl, hB4⟩
    · obtain ⟨k, rfl⟩ := Int.eq_ofNat_of_zero_le (show 0 ≤ z by omega)
      have hk1 : 1 ≤ k := by omega
      have hk2 : k ≤ 64 := by omega
      obtain ⟨L, hL⟩ : ∃ L, places b k m = L := ⟨_, rfl⟩
      obtain ⟨q, hq⟩ : ∃ q, L.length = q := ⟨_, rfl⟩
      have hq6 : q ≤ 65536 := by
        rw [← hq, ← hL]
        have := plc_length m (prs b k)
        have := prs_length b k
        rw [HN.out] at this
        unfold places; omega
      have D1 : Hid (∀ W, Below w.heap.size w W → Calls Try.prog 22 #[.slice A n c, .int .i64 (k : Int), .int .u32 (m.toNat : Int)] W fun e w' => ∃ A' c', e = .returned (.tuple #[.slice A' q c', .int .i64 0]) ∧ Sl i64 w' w'.heap.size A' L ∧ q ≤ c' ∧ c' ≤ maxLen ∧ Below W.heap.size W w') := Lib.hid fun W hW => places_g HN.out (by omega) hk1 hk2 hL hq (h.later hW)
      have D2 : Hid (∀ W, Below w.heap.size w W → Calls Try.prog 23 #[.slice A n c, .int .i64 (k : Int), .int .u32 (m.toNat : Int)] W fun e w' => ∃ A' c', e = .returned (.tuple #[.slice A' q c', .int .i64 0]) ∧ Sl i64 w' w'.heap.size A' L ∧ q ≤ c' ∧ c' ≤ maxLen ∧ Below W.heap.size W w') := Lib.hid fun W hW => rplaces_g HN.out hc (by omega) hk1 hk2 hL hq (h.later hW)
      have D3 : Hid (∀ (W : World) A1 c1 A2 c2, Sl i64 W W.heap.size A1 L → Sl i64 W W.heap.size A2 L → Calls Try.prog 24 #[.slice A1 q c1, .slice A2 q c2] W fun e w' => e = .returned (.bool true) ∧ Below W.heap.size W w') := Lib.hid fun W A1 c1 A2 c2 t1 t2 => equalI_same hq hq6 t1 t2
      clear hL hq hz
      go_enter Try.func5, Try.ntmps5
      go_wp2_with (first
        | (go_at_call 22; refine (D1.out _ (Below.refl _ _)).mono ?_; rintro e w1 ⟨A1, c1, rfl, t1, _, _, hb1⟩)
        | (go_at_call 23; refine (D2.out _ hb1).mono ?_; rintro e w2 ⟨A2, c2, rfl, t2, _, _, hb2⟩; have t1 := t1.later hb2; have hB2 := bsa hb1 hb1.size hb2)
        | (go_at_call 24; refine (D3.out _ _ _ _ _ t1 t2).mono ?_; rintro e w3 ⟨rfl, hb3⟩; have hB3 := bsa hB2 hB2.size hb3)
        | (go_at_call 10; refine (awake_any _).mono ?_; rintro e w4 ⟨rfl, hb4⟩; have hB4 := bsa hB3 hB3.size hb4))
      go_ret
      exact ⟨rfl, hB4⟩
end Go.Proofs.Ytlbghmocbklmdaa.H
