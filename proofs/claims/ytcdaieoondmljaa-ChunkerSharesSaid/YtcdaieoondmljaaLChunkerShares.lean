import Derived.Test.YtcdaieoondmljaaU4
namespace Go.Proofs.Ytcdaieoondmljaa.H
set_option linter.unusedVariables false
open Go Go.RowKit Go.Proofs.Ytcdaieoondmljaa Go.Proofs.Ytcdaieoondmljaa.W Go.Proofs.Ytcdaieoondmljaa.M

set_option maxRecDepth 100000 in
set_option maxHeartbeats 2000000 in
theorem shares_walk (le us mo wi : Int) (A : Option Addr) (c : Nat) (a : List UInt8) (A' : Option Addr) (c' : Nat) (b : List UInt8) (w : World) (_h1 : -9223372036854775808 ≤ le) (_h2 : le ≤ 9223372036854775807) (_h3 : -9223372036854775808 ≤ us) (_h4 : us ≤ 9223372036854775807) (_h5 : -9223372036854775808 ≤ mo) (_h6 : mo ≤ 9223372036854775807) (_h7 : -9223372036854775808 ≤ wi) (_h8 : wi ≤ 9223372036854775807)
    (h : Sl u8 w w.heap.size A a) (hc : a.length ≤ c) (hm : c ≤ maxLen) (h' : Sl u8 w w.heap.size A' b) (hc' : b.length ≤ c') (hm' : c' ≤ maxLen) :
    Calls Try.prog 7 #[.agg #[.int .i64 le, .int .i64 us, .int .i64 mo, .int .i64 wi], .slice A a.length c, .slice A' b.length c'] w fun e w' => e = .returned (.bool true) ∧ Below w.heap.size w w' := by
  have hmx : a.length ≤ 9223372036854775807 := by unfold maxLen at hm; omega
  have hmy : b.length ≤ 9223372036854775807 := by unfold maxLen at hm'; omega
  obtain ⟨N, hn⟩ : ∃ n, a.length = n := ⟨_, rfl⟩
  obtain ⟨M, hmm⟩ : ∃ n, b.length = n := ⟨_, rfl⟩
  rw [hn] at hc hmx ⊢
  rw [hmm] at hc' hmy ⊢
  have hB0 : Below w.heap.size w (w.alloc (.cells #[.int .i64 le, .int .i64 us, .int .i64 mo, .int .i64 wi] 23)) := (Below.refl _ _).alloc (Nat.le_refl _) _
  have hk0 : Blk (w.alloc (.cells #[.int .i64 le, .int .i64 us, .int .i64 mo, .int .i64 wi] 23)) w.heap.size 23 #[.int .i64 le, .int .i64 us, .int .i64 mo, .int .i64 wi] := Blk.new _ _ _
  have e0 := hk0.cell 0
  have e1 := hk0.cell 1
  have e2 := hk0.cell 2
  have e3 := hk0.cell 3
  by_cases h5 : N > 200
  · have h5' : decide ((200 : Int) < (N : Int)) = true := by simp; omega
    clear hm hm' hn hmm h5 _h1 _h2 _h3 _h4 _h5 _h6 _h7 _h8
    go_enter Try.func7, Try.ntmps7
    go_wp2_with (go_at_call 11; refine (awake_any _).mono ?_; rintro e w1 ⟨rfl, hb1⟩)
    go_ret
    exact ⟨rfl, bsa hB0 hB0.size hb1⟩
  · have h5' : decide ((200 : Int) < (N : Int)) = false := by simp; omega
    by_cases h6 : M > 200
    · have h6' : decide ((200 : Int) < (M : Int)) = true := by simp; omega
      clear hm hm' hn hmm h5 h6 _h1 _h2 _h3 _h4 _h5 _h6 _h7 _h8
      go_enter Try.func7, Try.ntmps7
      go_wp2_with (go_at_call 11; refine (awake_any _).mono ?_; rintro e w1 ⟨rfl, hb1⟩)
      go_ret
      exact ⟨rfl, bsa hB0 hB0.size hb1⟩
    · have h6' : decide ((200 : Int) < (M : Int)) = false := by simp; omega
      obtain ⟨S, er, hsp⟩ := shares_both le us mo wi A c N a hn hc (by omega) A' c' M b hmm hc' (by omega)
      have D1 : Hid (∀ W, Below w.heap.size w W → ShareAt le us mo wi 21 A N c A' M c' S er W) := Lib.hid fun W hW => (hsp W (h.later hW) (h'.later hW)).1
      have D2 : Hid (∀ W, Below w.heap.size w W → ShareAt le us mo wi 22 A N c A' M c' S er W) := Lib.hid fun W hW => (hsp W (h.later hW) (h'.later hW)).2
      clear hm hm' hn hmm h5 h6 _h1 _h2 _h3 _h4 _h5 _h6 _h7 _h8 hsp
      go_enter Try.func7, Try.ntmps7
      go_wp2_with (first
        | (go_at_call 21; refine (D1.out _ hB0).mono ?_; clear D1; rintro e w1 ⟨rfl, hb1⟩; have hB1 := bsa hB0 hB0.size hb1; have hk1 := hk0.later hb1; have d0 := hk1.cell 0; have d1 := hk1.cell 1; have d2 := hk1.cell 2; have d3 := hk1.cell 3)
        | (go_at_call 22; refine (D2.out _ hB1).mono ?_; clear D2; rintro e w2 ⟨rfl, hb2⟩; have hB2 := bsa hB1 hB1.size hb2)
        | (go_at_call 11; refine (awake_any _).mono ?_; rintro e w4 ⟨rfl, hb4⟩; have hB4 := bsa hB2 hB2.size hb4))
      go_ret
      exact ⟨rfl, hB4⟩
end Go.Proofs.Ytcdaieoondmljaa.H
