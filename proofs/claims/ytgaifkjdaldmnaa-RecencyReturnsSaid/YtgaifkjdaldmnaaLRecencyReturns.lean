import Derived.Test.YtgaifkjdaldmnaaF9
namespace Go.Proofs.Ytgaifkjdaldmnaa.F
set_option linter.unusedVariables false
open Go Go.RowKit Go.Proofs.Ytgaifkjdaldmnaa Go.Proofs.Ytgaifkjdaldmnaa.W Go.Proofs.Ytgaifkjdaldmnaa.M Go.Proofs.Ytgaifkjdaldmnaa.B

set_option maxRecDepth 100000 in
set_option maxHeartbeats 2000000 in
theorem returns_walk (A : Option Addr) (c : Nat) (b : Bs) (w : World) (h : Sl u8 w w.heap.size A b) (hc : b.length ≤ c) (hm : c ≤ maxLen) :
    Calls Try.prog 7 #[.slice A b.length c] w fun e w' => e = .returned (.bool true) ∧ Below w.heap.size w w' := by
  have hm' : b.length ≤ 9223372036854775807 := by unfold maxLen at hm; omega
  obtain ⟨n, hn⟩ : ∃ n, b.length = n := ⟨_, rfl⟩
  rw [hn] at hm' ⊢
  by_cases h4 : n > 300
  · have h4' : (300 : Int) < n := by omega
    clear hn h4 hc hm h
    go_enter Try.func7, Try.ntmps7
    go_wp2_with (go_at_call 11; refine (awake_any _).mono ?_; rintro e w4 ⟨rfl, hb4⟩)
    go_ret
    exact ⟨rfl, hb4⟩
  · have h4' : decide ((300 : Int) < n) = false := by rw [decide_eq_false_iff_not]; omega
    have hn4 : n ≤ 65536 := by omega
    obtain ⟨X, hX⟩ : ∃ X, fwd fresh b = X := ⟨_, rfl⟩
    obtain ⟨Y, hY⟩ : ∃ Y, inv fresh b = Y := ⟨_, rfl⟩
    have D1 := Lib.hid (forward_g (c := c) hn hn4 hX h)
    have D2 : Hid (∀ W A c, Sl u8 W W.heap.size A X → Gives 18 A n c W b n 0) := Lib.hid fun W A c hs => inverse_g (by rw [← hX, fwd_length, hn]) hn4 (by rw [← hX]; exact inv_fwd fresh_full b) hs
    have D3 : Hid (∀ W, Below w.heap.size w W → Gives 18 A n c W Y n 0) := Lib.hid fun W hW => inverse_g hn hn4 hY (h.below hW)
    have D4 : Hid (∀ W A c, Sl u8 W W.heap.size A Y → Gives 16 A n c W b n 0) := Lib.hid fun W A c hs => forward_g (by rw [← hY, inv_length, hn]) hn4 (by rw [← hY]; exact fwd_inv fresh_full b) hs
    have E : Hid (∀ W A' c', Below w.heap.size w W → Sl u8 W W.heap.size A' b → Calls Try.prog 14 #[.slice A' n c', .slice A n c] W fun e w' => e = .returned (.bool true) ∧ W = w') := Lib.hid fun W A' c' hW hs => equal_same hn hs (h.below hW)
    clear hX hY hn h4 hc hm h hm'
    go_enter Try.func7, Try.ntmps7
    go_wp2_with (first
      | (go_at_call 16; refine D1.out.mono ?_; clear D1; rintro e w1 ⟨A1, c1, rfl, t1, _, _, hb⟩)
      | (go_at_call 18; refine (D2.out _ _ _ t1).mono ?_; clear D2; rintro e w2 ⟨A2, c2, rfl, t2, _, _, hb2⟩; have hb := bsa hb hb.size hb2; clear hb2)
      | (go_at_call 18; refine (D3.out _ hb).mono ?_; clear D3; rintro e w3 ⟨A3, c3, rfl, t3, _, _, hb3⟩; have t2 := t2.later hb3; have hb := bsa hb hb.size hb3; clear hb3)
      | (go_at_call 16; refine (D4.out _ _ _ t3).mono ?_; clear D4; rintro e w4 ⟨A4, c4, rfl, t4, _, _, hb4⟩; have t2 := t2.later hb4; have hb := bsa hb hb.size hb4; clear hb4)
      | (go_at_call 14; refine (E.out _ _ _ hb t2).mono ?_; clear t2; rintro e w5 ⟨rfl, rfl⟩)
      | (go_at_call 14; refine (E.out _ _ _ hb t4).mono ?_; clear t4; rintro e w6 ⟨rfl, rfl⟩)
      | (go_at_call 11; refine (awake_any _).mono ?_; rintro e w7 ⟨rfl, hb7⟩; have hb := bsa hb hb.size hb7; clear hb7))
    go_ret
    exact ⟨rfl, hb⟩
end Go.Proofs.Ytgaifkjdaldmnaa.F
