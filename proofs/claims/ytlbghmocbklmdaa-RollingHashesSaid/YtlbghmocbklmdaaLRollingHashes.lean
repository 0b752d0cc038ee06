import Derived.Test.YtlbghmocbklmdaaLRollingJoins
namespace Go.Proofs.Ytlbghmocbklmdaa.H
set_option linter.unusedVariables false
open Go Go.RowKit Go.Proofs.Ytlbghmocbklmdaa Go.Proofs.Ytlbghmocbklmdaa.W Go.Proofs.Ytlbghmocbklmdaa.M

theorem rhash_g {A : Option Addr} {c n : Nat} {b : Bs} {H : R} (hl : b.length = n) (hn : n ≤ 900) (hH : hsh b = H) {w : World} {B : Nat} (h : Sl u8 w B A b) :
    Calls Try.prog 16 #[.slice A n c] w fun e w' => e = .returned (.int .u32 (H.toNat : Int)) ∧ w' = w := by
  subst hH; exact rHash_ok A c n b hl hn w B h
/-- New in both texts: the state without bytes, or the error. -/
theorem new_both (z : Int) : ∃ k er : Int, ∀ W,
    Calls Try.prog 11 #[.int .i64 z] W (fun e w' => e = .returned (.tuple #[.agg #[.int .i64 k, .slice none 0 0, .int .u32 0], .int .i64 er]) ∧ Below W.heap.size W w') ∧
    Calls Try.prog 12 #[.int .i64 z] W (fun e w' => e = .returned (.tuple #[.agg #[.int .i64 k, .slice none 0 0, .int .u32 0], .int .i64 er]) ∧ Below W.heap.size W w') := by
  by_cases hz : z < 1 ∨ 64 < z
  · exact ⟨0, 2, fun W => ⟨New_bad z hz W, rNew_bad z hz W⟩⟩
  · exact ⟨z, 0, fun W => ⟨New_ok z (by omega) (by omega) W, rNew_ok z (by omega) (by omega) W⟩⟩
set_option maxRecDepth 100000 in
set_option maxHeartbeats 2000000 in
theorem hashes_walk (A : Option Addr) (c : Nat) (b : List UInt8) (z : Int) (w : World) (h : Sl u8 w w.heap.size A b) (hc : b.length ≤ c) (hm : c ≤ maxLen) (hz1 : -9223372036854775808 ≤ z) (hz2 : z ≤ 9223372036854775807) :
    Calls Try.prog 3 #[.slice A b.length c, .int .i64 z] w fun e w' => e = .returned (.bool true) ∧ Below w.heap.size w w' := by
  have hmx : b.length ≤ 9223372036854775807 := by unfold maxLen at hm; omega
  obtain ⟨n, hn⟩ : ∃ n, b.length = n := ⟨_, rfl⟩
  rw [hn] at hc hmx ⊢
  have HN := Lib.hid hn
  clear hm hn
  by_cases h5 : n > 300
  · go_enter Try.func3, Try.ntmps3
    go_wp2_with (go_at_call 10; refine (awake_any _).mono ?_; rintro e w1 ⟨rfl, hb1⟩)
    go_ret
    exact ⟨rfl, hb1⟩
  · obtain ⟨k, er, hnew⟩ := new_both z
    obtain ⟨hx, hhx⟩ : ∃ q, hsh b = q := ⟨_, rfl⟩
    have N1 := Lib.hid fun W => (hnew W).1
    have N2 := Lib.hid fun W => (hnew W).2
    have D1 : Hid (∀ W, Below w.heap.size w W → Calls Try.prog 15 #[.slice A n c] W fun e w' => e = .returned (.int .u32 (hx.toNat : Int)) ∧ Below W.heap.size W w') := Lib.hid fun W hW => hash_g HN.out (by omega) hhx (h.later hW)
    have D2 : Hid (∀ W, Below w.heap.size w W → Calls Try.prog 16 #[.slice A n c] W fun e w' => e = .returned (.int .u32 (hx.toNat : Int)) ∧ w' = W) := Lib.hid fun W hW => rhash_g HN.out (by omega) hhx (h.later hW)
    have D3 : Hid (∀ W, Calls Try.prog 17 #[.agg #[.int .i64 k, .slice none 0 0, .int .u32 0], .agg #[.int .i64 k, .slice none 0 0, .int .u32 0]] W fun e w' => e = .returned (.bool true) ∧ Below W.heap.size W w') := Lib.hid fun W => Same_ok k none none 0 0 0 [] 0#32 rfl (by omega) W 0 0 Sl.nil Sl.nil
    clear hnew hhx
    go_enter Try.func3, Try.ntmps3
    go_wp2_with (first
      | (go_at_call 11; refine (N1.out _).mono ?_; rintro e w1 ⟨rfl, hb1⟩)
      | (go_at_call 12; refine (N2.out _).mono ?_; rintro e w2 ⟨rfl, hb2⟩))
    have hB2 : Below w.heap.size w w2 := bal hb1 hb1.size hb2
    have kA : Blk w2 w1.heap.size 26 #[.int .i64 k, .slice none 0 0, .int .u32 0] := (Blk.new w1 _ _).later hb2
    have kA' : Blk (w2.alloc (.cells #[.int .i64 k, .slice none 0 0, .int .u32 0] 26)) w1.heap.size 26 #[.int .i64 k, .slice none 0 0, .int .u32 0] := kA.alloc _
    have kB : Blk (w2.alloc (.cells #[.int .i64 k, .slice none 0 0, .int .u32 0] 26)) w2.heap.size 26 #[.int .i64 k, .slice none 0 0, .int .u32 0] := Blk.new _ _ _
    have hB3 : Below w.heap.size w (w2.alloc (.cells #[.int .i64 k, .slice none 0 0, .int .u32 0] 26)) := hB2.alloc hB2.size _
    obtain ⟨W3, hW3⟩ : ∃ W3, w2.alloc (.cells #[.int .i64 k, .slice none 0 0, .int .u32 0] 26) = W3 := ⟨_, rfl⟩
    obtain ⟨gA, hgA⟩ : ∃ g, w1.heap.size = g := ⟨_, rfl⟩
    obtain ⟨gB, hgB⟩ : ∃ g, w2.heap.size = g := ⟨_, rfl⟩
    rw [hW3, hgA] at kA'
    rw [hW3, hgB] at kB
    rw [hW3] at hB3
    rw [hW3, hgA, hgB]
    clear kA hW3 hB2 hb2 hb1 hgA hgB N1 N2
    go_loop [27] (fun iv => ∃ i : Nat, i ≤ n ∧ iv = .int .i64 (i : Int)) (fun iv => n - (intOf iv).toNat)
    case atStart => exact ⟨0, Nat.zero_le _, rfl⟩
    case round =>
      obtain ⟨i, hi, rfl⟩ := hrel
      by_cases hlt : i < n
      · obtain ⟨b0, q0, x, rfl, _, hx, hcx⟩ := (h.below hB3).byte (j := i) (by rw [HN.out]; exact hlt)
        have E1 := Lib.hid fun W => Value_ok x W
        have E2 := Lib.hid fun W => rValue_ok x W
        clear hx
        go_wp2_with (first
          | (go_at_call 13; refine (E1.out _).mono ?_; rintro e w4 ⟨rfl, rfl⟩)
          | (go_at_call 14; refine (E2.out _).mono ?_; rintro e w5 ⟨rfl, rfl⟩))
        go_round
        case rel => exact ⟨i + 1, by omega, by go_num⟩
        case measure => simp [intOf]; omega
      · obtain rfl : i = n := by omega
        obtain ⟨a0, a1, a2, _, _, _⟩ := three kA'
        go_wp2_with (first
          | (go_at_call 15; refine (D1.out _ hB3).mono ?_; rintro e w6 ⟨rfl, hb6⟩; have hB6 := bsa hB3 hB3.size hb6; obtain ⟨a0', a1', a2', _, _, _⟩ := three (kA'.later hb6); obtain ⟨b0', b1', b2', _, _, _⟩ := three (kB.later hb6))
          | (go_at_call 16; refine (D2.out _ hB6).mono ?_; rintro e w7 ⟨rfl, rfl⟩)
          | (go_at_call 17; refine (D3.out _).mono ?_; rintro e w8 ⟨rfl, hb8⟩; have hB8 := bsa hB6 hB6.size hb8)
          | (go_at_call 10; refine (awake_any _).mono ?_; rintro e w9 ⟨rfl, hb9⟩; have hB9 := bsa hB8 hB8.size hb9))
        go_ret
        exact ⟨rfl, hB9⟩
end Go.Proofs.Ytlbghmocbklmdaa.H
