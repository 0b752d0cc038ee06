import Derived.Test.YtlbghmocbklmdaaRA
namespace Go.Proofs.Ytlbghmocbklmdaa.H
set_option linter.unusedVariables false
open Go Go.RowKit Go.Proofs.Ytlbghmocbklmdaa Go.Proofs.Ytlbghmocbklmdaa.W Go.Proofs.Ytlbghmocbklmdaa.M

theorem hash_g {A : Option Addr} {c n : Nat} {b : Bs} {H : R} (hl : b.length = n) (hn : n ≤ 65536) (hH : hsh b = H) {w : World} {B : Nat} (h : Sl u8 w B A b) :
    Calls Try.prog 15 #[.slice A n c] w fun e w' => e = .returned (.int .u32 (H.toNat : Int)) ∧ Below w.heap.size w w' := by
  subst hH; exact Hash_ok A c n b hl hn w B h
theorem rot_one (x : R) : bits .or .u32 ((x.toNat : Int) * 2 % 4294967296) ((x.toNat : Int) / 2147483648) = ((rot x 1).toNat : Int) := rot_num x 1
set_option maxRecDepth 100000 in
set_option maxHeartbeats 2000000 in
theorem joins_walk (A : Option Addr) (c : Nat) (x : List UInt8) (A' : Option Addr) (c' : Nat) (y : List UInt8) (w : World) (h : Sl u8 w w.heap.size A x) (hc : x.length ≤ c) (hm : c ≤ maxLen) (h' : Sl u8 w w.heap.size A' y) (hc' : y.length ≤ c') (hm' : c' ≤ maxLen) :
    Calls Try.prog 8 #[.slice A x.length c, .slice A' y.length c'] w fun e w' => e = .returned (.bool true) ∧ Below w.heap.size w w' := by
  have hmx : x.length ≤ 9223372036854775807 := by unfold maxLen at hm; omega
  have hmy : y.length ≤ 9223372036854775807 := by unfold maxLen at hm'; omega
  clear hm hm'
  by_cases h5 : x.length > 100
  · go_enter Try.func8, Try.ntmps8
    go_wp2_with (go_at_call 10; refine (awake_any _).mono ?_; rintro e w1 ⟨rfl, hb1⟩)
    go_ret
    exact ⟨rfl, hb1⟩
  · by_cases h6 : y.length > 100
    · go_enter Try.func8, Try.ntmps8
      go_wp2_with (go_at_call 10; refine (awake_any _).mono ?_; rintro e w1 ⟨rfl, hb1⟩)
      go_ret
      exact ⟨rfl, hb1⟩
    · obtain ⟨n, hn⟩ : ∃ n, x.length = n := ⟨_, rfl⟩
      obtain ⟨m, hm⟩ : ∃ m, y.length = m := ⟨_, rfl⟩
      rw [hn] at hc hmx h5 ⊢
      rw [hm] at hc' hmy h6 ⊢
      have HN := Lib.hid hn
      have HM := Lib.hid hm
      obtain ⟨p, hp⟩ : ∃ p, m % 32 = p := ⟨_, rfl⟩
      have hpm : (m : Int) % 32 = (p : Int) := by omega
      have hp32 : p < 32 := by omega
      obtain ⟨hx, hhx⟩ : ∃ q, hsh x = q := ⟨_, rfl⟩
      obtain ⟨hy, hhy⟩ : ∃ q, hsh y = q := ⟨_, rfl⟩
      obtain ⟨ha, hha⟩ : ∃ q, hsh (x ++ y) = q := ⟨_, rfl⟩
      have D1 : Hid (∀ W, Below w.heap.size w W → Calls Try.prog 15 #[.slice A n c] W fun e w' => e = .returned (.int .u32 (hx.toNat : Int)) ∧ Below W.heap.size W w') := Lib.hid fun W hW => hash_g HN.out (by omega) hhx (h.later hW)
      have D2 : Hid (∀ W, Below w.heap.size w W → Calls Try.prog 15 #[.slice A' m c'] W fun e w' => e = .returned (.int .u32 (hy.toNat : Int)) ∧ Below W.heap.size W w') := Lib.hid fun W hW => hash_g HM.out (by omega) hhy (h'.later hW)
      have D3 : Hid (∀ (W : World) A2 c2, Sl u8 W W.heap.size A2 (x ++ y) → Calls Try.prog 15 #[.slice A2 (n + m) c2] W fun e w' => e = .returned (.int .u32 (ha.toNat : Int)) ∧ Below W.heap.size W w') := Lib.hid fun W A2 c2 hW => hash_g (by rw [List.length_append, HN.out, HM.out]) (by omega) hha hW
      have D4 : Hid (∀ W, Below w.heap.size w W → Calls Try.prog 26 #[.slice (some ⟨W.heap.size, 0, none⟩) 2 2] (W.alloc (.cells #[.slice A n c, .slice A' m c'] 22)) fun e w' => ∃ A'' c'', e = .returned (.slice A'' (n + m) c'') ∧ Sl u8 w' w'.heap.size A'' (x ++ y) ∧ n + m ≤ c'' ∧ c'' ≤ maxLen ∧ Below W.heap.size W w') :=
        Lib.hid fun W hW => Concat2 HN.out HM.out rfl (by omega) (h.later hW) (h'.later hW)
      have HR : Hid (rot hx p ^^^ hy = ha) := Lib.hid (by rw [← hha, hsh_append, hhx, hhy, HM.out, ← hp, rot_mod])
      clear hn hm hhx hhy hha hp
      go_enter Try.func8, Try.ntmps8
      go_wp2_with (go_at_call 15; refine (D1.out _ (Below.refl _ _)).mono ?_; rintro e w1 ⟨rfl, hb1⟩)
      go_loop [5, 20] (fun hv iv => ∃ i : Nat, i ≤ p ∧ iv = .int .i64 (i : Int) ∧ hv = .int .u32 ((rot hx i).toNat : Int)) (fun _ iv => p - (intOf iv).toNat)
      case atStart => exact ⟨0, Nat.zero_le _, rfl, by rw [rot_zero]⟩
      case round =>
        obtain ⟨i, hi, rfl, rfl⟩ := hrel
        by_cases hlt : i < p
        · have hr1 := rot_one (rot hx i)
          rw [rot_rot] at hr1
          go_wp2
          go_round
          case rel => exact ⟨i + 1, by omega, by go_num, by first | rw [hr1] | rfl⟩
          case measure => simp [intOf]; omega
        · obtain rfl : i = p := by omega
          have hxy := bits_xor (rot hx i) hy
          rw [HR.out] at hxy
          go_wp2_with (first
            | (go_at_call 26; refine (D4.out _ hb1).mono ?_; rintro e w2 ⟨A2, c2, rfl, t2, _, _, hb2⟩; have hB2 := bsa hb1 hb1.size hb2)
            | (go_at_call 15; refine (D3.out _ _ _ t2).mono ?_; clear D3; rintro e w3 ⟨rfl, hb3⟩; have hB3 := bsa hB2 hB2.size hb3)
            | (go_at_call 15; refine (D2.out _ hB3).mono ?_; clear D2; rintro e w4 ⟨rfl, hb4⟩; have hB4 := bsa hB3 hB3.size hb4)
            | (go_at_call 10; refine (awake_any _).mono ?_; rintro e w5 ⟨rfl, hb5⟩; have hB5 := bsa hB4 hB4.size hb5))
          go_ret
          exact ⟨rfl, hB5⟩
end Go.Proofs.Ytlbghmocbklmdaa.H
