import Derived.Test.YtgaifkjdaldmnaaF9
namespace Go.Proofs.Ytgaifkjdaldmnaa.F
set_option linter.unusedVariables false
open Go Go.RowKit Go.Proofs.Ytgaifkjdaldmnaa Go.Proofs.Ytgaifkjdaldmnaa.W Go.Proofs.Ytgaifkjdaldmnaa.M Go.Proofs.Ytgaifkjdaldmnaa.B

set_option maxRecDepth 100000 in
set_option maxHeartbeats 2000000 in
theorem forwards_walk (A : Option Addr) (c : Nat) (b : Bs) (w : World) (h : Sl u8 w w.heap.size A b) (hc : b.length ≤ c) (hm : c ≤ maxLen) :
    Calls Try.prog 6 #[.slice A b.length c] w fun e w' => e = .returned (.bool true) ∧ Below w.heap.size w w' := by
  have hm' : b.length ≤ 9223372036854775807 := by unfold maxLen at hm; omega
  obtain ⟨n, hn⟩ : ∃ n, b.length = n := ⟨_, rfl⟩
  rw [hn] at hm' ⊢
  by_cases h4 : n > 300
  · have h4' : (300 : Int) < n := by omega
    clear hn h4 hc hm h
    go_enter Try.func6, Try.ntmps6
    go_wp2_with (go_at_call 11; refine (awake_any _).mono ?_; rintro e w4 ⟨rfl, hb4⟩)
    go_ret
    exact ⟨rfl, hb4⟩
  · have h4' : decide ((300 : Int) < n) = false := by rw [decide_eq_false_iff_not]; omega
    have hn4 : n ≤ 65536 := by omega
    obtain ⟨X, hX⟩ : ∃ X, fwd fresh b = X := ⟨_, rfl⟩
    obtain ⟨Y, hY⟩ : ∃ Y, inv fresh b = Y := ⟨_, rfl⟩
    obtain ⟨Z, hZ⟩ : ∃ Z, fin fresh b = Z := ⟨_, rfl⟩
    have D1 := Lib.hid (forward_g (c := c) hn hn4 hX h)
    have D2 : Hid (∀ W, Below w.heap.size w W → Gives 17 A n c W X n 0) := Lib.hid fun W hW => rforward_g hn hn4 hX (h.below hW)
    have D3 : Hid (∀ W, Below w.heap.size w W → Gives 18 A n c W Y n 0) := Lib.hid fun W hW => inverse_g hn hn4 hY (h.below hW)
    have D4 : Hid (∀ W, Below w.heap.size w W → Gives 19 A n c W Y n 0) := Lib.hid fun W hW => rinverse_g hn hn4 hY (h.below hW)
    have D5 : Hid (∀ W, Below w.heap.size w W → Gives 15 A n c W Z 256 0) := Lib.hid fun W hW => front_g hn hn4 hZ (h.below hW)
    have D6 : Hid (∀ W, Below w.heap.size w W → Gives 20 A n c W Z 256 0) := Lib.hid fun W hW => rfront_g hn hn4 hZ (h.below hW)
    have E1 : Hid (∀ (W : World) A c A' c', Sl u8 W W.heap.size A X → Sl u8 W W.heap.size A' X → Calls Try.prog 14 #[.slice A n c, .slice A' n c'] W fun e w' => e = .returned (.bool true) ∧ W = w') := Lib.hid fun W A c A' c' h h' => equal_same (by rw [← hX, fwd_length, hn]) h h'
    have E2 : Hid (∀ (W : World) A c A' c', Sl u8 W W.heap.size A Y → Sl u8 W W.heap.size A' Y → Calls Try.prog 14 #[.slice A n c, .slice A' n c'] W fun e w' => e = .returned (.bool true) ∧ W = w') := Lib.hid fun W A c A' c' h h' => equal_same (by rw [← hY, inv_length, hn]) h h'
    have E3 : Hid (∀ (W : World) A c A' c', Sl u8 W W.heap.size A Z → Sl u8 W W.heap.size A' Z → Calls Try.prog 14 #[.slice A 256 c, .slice A' 256 c'] W fun e w' => e = .returned (.bool true) ∧ W = w') := Lib.hid fun W A c A' c' h h' => equal_same (by rw [← hZ]; exact (fresh_full.fin b).len) h h'
    clear hX hY hZ hn h4 hc hm h hm'
    go_enter Try.func6, Try.ntmps6
    go_wp2_with (first
      | (go_at_call 16; refine D1.out.mono ?_; clear D1; rintro e w1 ⟨A1, c1, rfl, t1, _, _, hb⟩)
      | (go_at_call 17; refine (D2.out _ hb).mono ?_; clear D2; rintro e w2 ⟨A2, c2, rfl, t2, _, _, hb2⟩; have t1 := t1.later hb2; have hb := bsa hb hb.size hb2; clear hb2)
      | (go_at_call 18; refine (D3.out _ hb).mono ?_; clear D3; rintro e w3 ⟨A3, c3, rfl, t3, _, _, hb3⟩; have t1 := t1.later hb3; have t2 := t2.later hb3; have hb := bsa hb hb.size hb3; clear hb3)
      | (go_at_call 19; refine (D4.out _ hb).mono ?_; clear D4; rintro e w4 ⟨A4, c4, rfl, t4, _, _, hb4⟩; have t1 := t1.later hb4; have t2 := t2.later hb4; have t3 := t3.later hb4; have hb := bsa hb hb.size hb4; clear hb4)
      | (go_at_call 15; refine (D5.out _ hb).mono ?_; clear D5; rintro e w5 ⟨A5, c5, rfl, t5, _, _, hb5⟩; have t1 := t1.later hb5; have t2 := t2.later hb5; have t3 := t3.later hb5; have t4 := t4.later hb5; have hb := bsa hb hb.size hb5; clear hb5)
      | (go_at_call 20; refine (D6.out _ hb).mono ?_; clear D6; rintro e w6 ⟨A6, c6, rfl, t6, _, _, hb6⟩; have t1 := t1.later hb6; have t2 := t2.later hb6; have t3 := t3.later hb6; have t4 := t4.later hb6; have t5 := t5.later hb6; have hb := bsa hb hb.size hb6; clear hb6)
      | (go_at_call 14; refine (E1.out _ _ _ _ _ t1 t2).mono ?_; clear E1; rintro e w7 ⟨rfl, rfl⟩)
      | (go_at_call 14; refine (E2.out _ _ _ _ _ t3 t4).mono ?_; clear E2; rintro e w7 ⟨rfl, rfl⟩)
      | (go_at_call 14; refine (E3.out _ _ _ _ _ t5 t6).mono ?_; clear E3; rintro e w7 ⟨rfl, rfl⟩)
      | (go_at_call 11; refine (awake_any _).mono ?_; rintro e w8 ⟨rfl, hb8⟩; have hb := bsa hb hb.size hb8; clear hb8))
    go_ret
    exact ⟨rfl, hb⟩
end Go.Proofs.Ytgaifkjdaldmnaa.F
