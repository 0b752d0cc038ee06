import Derived.Test.YtlbghmocbklmdaaLRollingThins
namespace Go.Proofs.Ytlbghmocbklmdaa.H
set_option linter.unusedVariables false
open Go Go.RowKit Go.Proofs.Ytlbghmocbklmdaa Go.Proofs.Ytlbghmocbklmdaa.W Go.Proofs.Ytlbghmocbklmdaa.M

theorem win_mid (a b c : Bs) {k i : Nat} (h1 : k ≤ i) (h2 : i ≤ b.length) : win (a ++ b ++ c) k (a.length + i) = win b k i := by
  unfold win
  rw [List.append_assoc, show a.length + i - k = a.length + (i - k) by omega, List.take_length_add_append, List.drop_length_add_append, List.take_append_of_le_length h2]
theorem places_mid (a b c : Bs) {k i : Nat} (m : R) (h1 : k ≤ i) (h2 : i ≤ b.length) : i ∈ places b k m ↔ a.length + i ∈ places (a ++ b ++ c) k m := by
  rw [mem_places, mem_places, win_mid a b c h1 h2]
  simp only [List.length_append]
  constructor
  · rintro ⟨_, _, h⟩; exact ⟨by omega, by omega, h⟩
  · rintro ⟨_, _, h⟩; exact ⟨h1, h2, h⟩

set_option maxRecDepth 100000 in
set_option maxHeartbeats 4000000 in
theorem finds_walk (A : Option Addr) (c : Nat) (a : List UInt8) (A' : Option Addr) (c' : Nat) (b : List UInt8) (A'' : Option Addr) (c'' : Nat) (d : List UInt8) (u : UInt8) (x : Nat) (w : World) (h : Sl u8 w w.heap.size A a) (hc : a.length ≤ c) (hm : c ≤ maxLen)
    (h' : Sl u8 w w.heap.size A' b) (hc' : b.length ≤ c') (hm' : c' ≤ maxLen) (h'' : Sl u8 w w.heap.size A'' d) (hc'' : d.length ≤ c'') (hm'' : c'' ≤ maxLen) (hx : x ≤ 4294967295) :
    Calls Try.prog 9 #[.agg #[.slice A a.length c, .slice A' b.length c', .slice A'' d.length c''], .int .u8 (u.toNat : Int), .int .u32 (x : Int)] w fun e w' => e = .returned (.bool true) ∧ Below w.heap.size w w' := by
  have hx1 : a.length ≤ 9223372036854775807 := by unfold maxLen at hm; omega
  have hx2 : b.length ≤ 9223372036854775807 := by unfold maxLen at hm'; omega
  have hx3 : d.length ≤ 9223372036854775807 := by unfold maxLen at hm''; omega
  obtain ⟨m, rfl⟩ := u32_of x hx
  obtain ⟨p, hp⟩ : ∃ n, a.length = n := ⟨_, rfl⟩
  obtain ⟨n, hn⟩ : ∃ n, b.length = n := ⟨_, rfl⟩
  obtain ⟨q, hq⟩ : ∃ n, d.length = n := ⟨_, rfl⟩
  rw [hp] at hc hx1 ⊢
  rw [hn] at hc' hx2 ⊢
  rw [hq] at hc'' hx3 ⊢
  have HP := Lib.hid hp
  have HN := Lib.hid hn
  have HQ := Lib.hid hq
  have hul := lt256 u
  have hu0 := ge0 u
  obtain ⟨k, hk⟩ : ∃ k : Nat, u.toNat % 20 + 1 = k := ⟨_, rfl⟩
  have hku : (u.toNat : Int) % 20 + 1 = (k : Int) := by omega
  have hk1 : 1 ≤ k := by omega
  have hk2 : k ≤ 64 := by omega
  have hB0 : Below w.heap.size w (w.alloc (.cells #[.slice A p c, .slice A' n c', .slice A'' q c''] 55)) := (Below.refl _ _).alloc (Nat.le_refl _) _
  have hbk : Blk (w.alloc (.cells #[.slice A p c, .slice A' n c', .slice A'' q c''] 55)) w.heap.size 55 #[.slice A p c, .slice A' n c', .slice A'' q c''] := Blk.new _ _ _
  have b0 := hbk.cell 0
  have b1 := hbk.cell 1
  have b2 := hbk.cell 2
  clear hm hm' hm'' hp hn hq hx hk
  by_cases h5 : p > 60 ∨ n > 60 ∨ q > 60
  · have hd : p > 60 ∨ (¬ p > 60 ∧ n > 60) ∨ (¬ p > 60 ∧ ¬ n > 60 ∧ q > 60) := by omega
    clear h5
    go_enter Try.func9, Try.ntmps9
    go_wp2_with fail
    go_quiet (fail)
    rcases hd with g1 | ⟨g1, g2⟩ | ⟨g1, g2, g3⟩
    all_goals
      go_wp2_with (go_at_call 10; refine (awake_any _).mono ?_; rintro e w1 ⟨rfl, hb1⟩)
      go_ret
      exact ⟨rfl, bsa (below_drewN hB0 _) (below_drewN hB0 _).size hb1⟩
  · have g1 : ¬ p > 60 := by omega
    have g2 : ¬ n > 60 := by omega
    have g3 : ¬ q > 60 := by omega
    obtain ⟨r, hr⟩ : ∃ r, p + n + q = r := ⟨_, rfl⟩
    obtain ⟨L1, hL1⟩ : ∃ L, places b k m = L := ⟨_, rfl⟩
    obtain ⟨n1, hn1⟩ : ∃ n, L1.length = n := ⟨_, rfl⟩
    obtain ⟨L2, hL2⟩ : ∃ L, places (a ++ b ++ d) k m = L := ⟨_, rfl⟩
    obtain ⟨n2, hn2⟩ : ∃ n, L2.length = n := ⟨_, rfl⟩
    have hq1 : n1 ≤ 65536 := by have := places_length_le b k m; rw [hL1, hn1, HN.out] at this; omega
    have hq2 : n2 ≤ 65536 := by
      have := places_length_le (a ++ b ++ d) k m
      rw [hL2, hn2, List.length_append, List.length_append, HN.out, HP.out, HQ.out] at this; omega
    have HI : Hid (∀ i, k ≤ i → i ≤ n → (i ∈ L1 ↔ p + i ∈ L2)) := Lib.hid fun i h1 h2 => by
      rw [← hL1, ← hL2, ← HP.out]; exact places_mid a b d m h1 (by rw [HN.out]; exact h2)
    have D1 : Hid (∀ W, Below w.heap.size w W → Calls Try.prog 22 #[.slice A' n c', .int .i64 (k : Int), .int .u32 (m.toNat : Int)] W fun e w' => ∃ A' c', e = .returned (.tuple #[.slice A' n1 c', .int .i64 0]) ∧ Sl i64 w' w'.heap.size A' L1 ∧ n1 ≤ c' ∧ c' ≤ maxLen ∧ Below W.heap.size W w') := Lib.hid fun W hW => places_g HN.out (by omega) hk1 hk2 hL1 hn1 (h'.later hW)
    have D2 : Hid (∀ (W : World) A2 c2, Sl u8 W W.heap.size A2 (a ++ b ++ d) → Calls Try.prog 22 #[.slice A2 r c2, .int .i64 (k : Int), .int .u32 (m.toNat : Int)] W fun e w' => ∃ A' c', e = .returned (.tuple #[.slice A' n2 c', .int .i64 0]) ∧ Sl i64 w' w'.heap.size A' L2 ∧ n2 ≤ c' ∧ c' ≤ maxLen ∧ Below W.heap.size W w') := Lib.hid fun W A2 c2 hW => places_g (by rw [List.length_append, List.length_append, HP.out, HN.out, HQ.out, hr]) (by omega) hk1 hk2 hL2 hn2 hW
    have D3 : Hid (∀ W, Below w.heap.size w W → Calls Try.prog 26 #[.slice (some ⟨W.heap.size, 0, none⟩) 3 3] (W.alloc (.cells #[.slice A p c, .slice A' n c', .slice A'' q c''] 22)) fun e w' => ∃ A'' c'', e = .returned (.slice A'' r c'') ∧ Sl u8 w' w'.heap.size A'' (a ++ b ++ d) ∧ r ≤ c'' ∧ c'' ≤ maxLen ∧ Below W.heap.size W w') :=
      Lib.hid fun W hW => Concat3 HP.out HN.out HQ.out hr (by omega) (h.later hW) (h'.later hW) (h''.later hW)
    have HN1 := Lib.hid hn1
    have HN2 := Lib.hid hn2
    clear h5 hL1 hn1 hL2 hn2 hr
    go_enter Try.func9, Try.ntmps9
    go_wp2_with fail
    go_quiet (fail)
    have hW0 := below_drewN hB0 nq
    obtain ⟨W0, hW0e⟩ : ∃ W0, (w.alloc (.cells #[.slice A p c, .slice A' n c', .slice A'' q c''] 55)).drewN nq = W0 := ⟨_, rfl⟩
    rw [hW0e] at hW0 ⊢
    clear hW0e hB0 hbk b0 b1 b2
    go_wp2_with (first
      | (go_at_call 22; refine (D1.out _ hW0).mono ?_; clear D1; rintro e w1 ⟨A1, c1, rfl, t1, _, _, hb1⟩; have hB1 := bsa hW0 hW0.size hb1)
      | (go_at_call 26; refine (D3.out _ hB1).mono ?_; clear D3; rintro e w2 ⟨A2, c2, rfl, t2, _, _, hb2⟩; have hB2 := bsa hB1 hB1.size hb2; have t1 := t1.later hb2)
      | (go_at_call 22; refine (D2.out _ _ _ t2).mono ?_; clear D2; rintro e w3 ⟨A3, c3, rfl, t3, _, _, hb3⟩; have hB3 := bsa hB2 hB2.size hb3; have t1 := t1.later hb3))
    go_loop [15] (fun iv => ∃ i : Nat, k ≤ i ∧ (i ≤ n + 1 ∨ i = k) ∧ iv = .int .i64 (i : Int)) (fun iv => n + 1 - (intOf iv).toNat)
    case atStart => exact ⟨k, Nat.le_refl _, .inr rfl, rfl⟩
    case round =>
      obtain ⟨i, hki, hii, rfl⟩ := hrel
      by_cases hlt : i ≤ n
      · have hlt' : (i : Int) ≤ (n : Int) := by omega
        obtain ⟨s, hs⟩ : ∃ s, p + i = s := ⟨_, rfl⟩
        have hpi : (p : Int) + (i : Int) = (s : Int) := by omega
        have hs6 : s ≤ 1000 := by omega
        have hsw : IntKind.i64.wrap (s : Int) = (s : Int) := by rw [IntKind.wrap_i64]; omega
        have C1 : Hid (Calls Try.prog 25 #[.slice A1 n1 c1, .int .i64 (i : Int)] w3 fun e w' => e = .returned (.bool (decide (i ∈ L1))) ∧ w' = w3) := Lib.hid (containsI_ok A1 c1 n1 L1 i HN1.out hq1 _ (by simp) w3 _ t1)
        have C2 : Hid (Calls Try.prog 25 #[.slice A3 n2 c3, .int .i64 (s : Int)] w3 fun e w' => e = .returned (.bool (decide (i ∈ L1))) ∧ w' = w3) := Lib.hid (containsI_ok A3 c3 n2 L2 s HN2.out hq2 _ (by rw [decide_eq_true_eq, ← hs]; exact HI.out i hki hlt) w3 _ t3)
        obtain ⟨t, ht⟩ : ∃ t, decide (i ∈ L1) = t := ⟨_, rfl⟩
        rw [ht] at C1 C2
        clear hii ht hs
        go_wp2_with (first
          | (go_at_call 25; refine (C1.out).mono ?_; clear C1; rintro e w4 ⟨rfl, rfl⟩)
          | (go_at_call 25; refine (C2.out).mono ?_; clear C2; rintro e w5 ⟨rfl, rfl⟩))
        go_round
        case rel => exact ⟨i + 1, by omega, by omega, by go_num⟩
        case measure => simp [intOf]; omega
      · have hlt' : ¬ (i : Int) ≤ (n : Int) := by omega
        go_wp2_with (go_at_call 10; refine (awake_any _).mono ?_; rintro e w5 ⟨rfl, hb5⟩)
        go_ret
        exact ⟨rfl, bsa hB3 hB3.size hb5⟩
end Go.Proofs.Ytlbghmocbklmdaa.H
