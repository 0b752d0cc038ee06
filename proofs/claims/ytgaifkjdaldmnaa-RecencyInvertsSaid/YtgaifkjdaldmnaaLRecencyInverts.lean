import Derived.Test.YtgaifkjdaldmnaaLRecencyExpands
namespace Go.Proofs.Ytgaifkjdaldmnaa.F
set_option linter.unusedVariables false
open Go Go.RowKit Go.Proofs.Ytgaifkjdaldmnaa Go.Proofs.Ytgaifkjdaldmnaa.W Go.Proofs.Ytgaifkjdaldmnaa.M Go.Proofs.Ytgaifkjdaldmnaa.B

set_option maxRecDepth 100000 in
set_option maxHeartbeats 4000000 in
theorem inverts_walk (A : Option Addr) (c : Nat) (b : Bs) (w : World) (h : Sl u8 w w.heap.size A b) (hc : b.length ≤ c) (hm : c ≤ maxLen) :
    Calls Try.prog 10 #[.slice A b.length c] w fun e w' => e = .returned (.bool true) ∧ Below w.heap.size w w' := by
  have hm' : b.length ≤ 9223372036854775807 := by unfold maxLen at hm; omega
  obtain ⟨n, hn⟩ : ∃ n, b.length = n := ⟨_, rfl⟩
  rw [hn] at hm' hc ⊢
  by_cases h4 : n > 1000
  · have h4' : (1000 : Int) < n := by omega
    clear hn h4 hc hm h
    go_enter Try.func10, Try.ntmps10
    go_wp2_with (go_at_call 11; refine (awake_any _).mono ?_; rintro e w4 ⟨rfl, hb4⟩)
    go_ret
    exact ⟨rfl, hb4⟩
  · have h4' : decide ((1000 : Int) < n) = false := by rw [decide_eq_false_iff_not]; omega
    have hn4 : n ≤ 32768 := by omega
    obtain ⟨X, hX⟩ : ∃ X, code b = X := ⟨_, rfl⟩
    obtain ⟨x, hx⟩ : ∃ x, X.length = x := ⟨_, rfl⟩
    have hx2 : x ≤ 2 * n := by have := code_length b; rw [hX, hx, hn] at this; exact this
    have hxn : x ≤ 65536 := by omega
    have hEX : Ex [] X (b, 0) := by rw [← hX]; have := expand_code b [] (by rw [hn, List.length_nil]; omega); simpa using this
    have D1 := Lib.hid (runs_g (c := c) hn hn4 hX hx h)
    have D2 : Hid (∀ W A c, Sl u8 W W.heap.size A X → x ≤ c → c ≤ maxLen → Gives 22 A x c W b n 0) := Lib.hid fun W A c hs h1 h2 => expand_g hx hxn h1 h2 hEX hn hs
    have E1 : Hid (∀ (W : World) A' c', Below w.heap.size w W → Sl u8 W W.heap.size A' b → Calls Try.prog 14 #[.slice A' n c', .slice A n c] W fun e w' => e = .returned (.bool true) ∧ W = w') := Lib.hid fun W A' c' hW h' => equal_same hn h' (h.below hW)
    obtain ⟨⟨Z, er⟩, hE⟩ := ex_total b []
    obtain ⟨m, hmZ⟩ : ∃ m, Z.length = m := ⟨_, rfl⟩
    have D3 : Hid (∀ W, Below w.heap.size w W → Gives 22 A n c W Z m er) := Lib.hid fun W hW => expand_g hn (by omega) hc hm hE hmZ (h.below hW)
    have hx2' : ¬ (2 * (n : Int) < (x : Int)) := by omega
    by_cases her : er = 0
    · subst her
      by_cases h3 : 3000 < m
      · have h3' : (3000 : Int) < m := by omega
        clear hE hmZ hn h4 hc hm h hm' hX hx hEX hx2 h3
        go_enter Try.func10, Try.ntmps10
        go_wp2_with (first
          | (go_at_call 12; refine D1.out.mono ?_; clear D1; rintro e w1 ⟨A1, c1, rfl, t1, hc1, hc1', hb⟩; have HC1 := Lib.hid hc1; have HC1' := Lib.hid hc1'; clear hc1 hc1')
          | (go_at_call 22; refine (D2.out _ _ _ t1 HC1.out HC1'.out).mono ?_; clear D2; rintro e w2 ⟨A2, c2, rfl, t2, _, _, hb2⟩; have hb := bsa hb hb.size hb2; clear hb2)
          | (go_at_call 14; refine (E1.out _ _ _ hb t2).mono ?_; clear t2; rintro e w3 ⟨rfl, rfl⟩)
          | (go_at_call 22; refine (D3.out _ hb).mono ?_; clear D3; rintro e w4 ⟨A4, c4, rfl, t4, _, _, hb4⟩; have hb := bsa hb hb.size hb4; clear hb4)
          | (go_at_call 11; refine (awake_any _).mono ?_; rintro e w8 ⟨rfl, hb8⟩; have hb := bsa hb hb.size hb8; clear hb8))
        go_ret
        exact ⟨rfl, hb⟩
      · have h3' : decide ((3000 : Int) < m) = false := by rw [decide_eq_false_iff_not]; omega
        have hcz : code Z = b := by
          obtain ⟨z', hz, hc'⟩ := code_expand hE Z rfl
          rw [List.nil_append] at hz
          rw [hz]; exact hc'
        have D4 : Hid (∀ W A c, Sl u8 W W.heap.size A Z → Gives 12 A m c W b n 0) := Lib.hid fun W A c hs => runs_g hmZ (by omega) hcz hn hs
        clear hE hmZ hn h4 hc hm h hm' hX hx hEX hx2 h3 hcz
        go_enter Try.func10, Try.ntmps10
        go_wp2_with (first
          | (go_at_call 12; refine D1.out.mono ?_; clear D1; rintro e w1 ⟨A1, c1, rfl, t1, hc1, hc1', hb⟩; have HC1 := Lib.hid hc1; have HC1' := Lib.hid hc1'; clear hc1 hc1')
          | (go_at_call 22; refine (D2.out _ _ _ t1 HC1.out HC1'.out).mono ?_; clear D2; rintro e w2 ⟨A2, c2, rfl, t2, _, _, hb2⟩; have hb := bsa hb hb.size hb2; clear hb2)
          | (go_at_call 14; refine (E1.out _ _ _ hb t2).mono ?_; clear t2; rintro e w3 ⟨rfl, rfl⟩)
          | (go_at_call 22; refine (D3.out _ hb).mono ?_; clear D3; rintro e w4 ⟨A4, c4, rfl, t4, _, _, hb4⟩; have hb := bsa hb hb.size hb4; clear hb4)
          | (go_at_call 12; refine (D4.out _ _ _ t4).mono ?_; clear D4; rintro e w5 ⟨A5, c5, rfl, t5, _, _, hb5⟩; have hb := bsa hb hb.size hb5; clear hb5)
          | (go_at_call 14; refine (E1.out _ _ _ hb t5).mono ?_; clear t5; rintro e w6 ⟨rfl, rfl⟩)
          | (go_at_call 11; refine (awake_any _).mono ?_; rintro e w8 ⟨rfl, hb8⟩; have hb := bsa hb hb.size hb8; clear hb8))
        go_ret
        exact ⟨rfl, hb⟩
    · have her' : (er != 0) = true := by simpa using her
      clear hE hmZ hn h4 hc hm h hm' hX hx hEX hx2 her
      go_enter Try.func10, Try.ntmps10
      go_wp2_with (first
        | (go_at_call 12; refine D1.out.mono ?_; clear D1; rintro e w1 ⟨A1, c1, rfl, t1, hc1, hc1', hb⟩; have HC1 := Lib.hid hc1; have HC1' := Lib.hid hc1'; clear hc1 hc1')
        | (go_at_call 22; refine (D2.out _ _ _ t1 HC1.out HC1'.out).mono ?_; clear D2; rintro e w2 ⟨A2, c2, rfl, t2, _, _, hb2⟩; have hb := bsa hb hb.size hb2; clear hb2)
        | (go_at_call 14; refine (E1.out _ _ _ hb t2).mono ?_; clear t2; rintro e w3 ⟨rfl, rfl⟩)
        | (go_at_call 22; refine (D3.out _ hb).mono ?_; clear D3; rintro e w4 ⟨A4, c4, rfl, t4, _, _, hb4⟩; have hb := bsa hb hb.size hb4; clear hb4)
        | (go_at_call 11; refine (awake_any _).mono ?_; rintro e w8 ⟨rfl, hb8⟩; have hb := bsa hb hb.size hb8; clear hb8))
      go_ret
      exact ⟨rfl, hb⟩
end Go.Proofs.Ytgaifkjdaldmnaa.F
