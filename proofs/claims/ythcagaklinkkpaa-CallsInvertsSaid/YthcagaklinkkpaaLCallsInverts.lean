import Derived.Test.YthcagaklinkkpaaLCallsForward
namespace Go.Proofs.Ythcagaklinkkpaa.E
set_option linter.unusedVariables false
open Go Go.RowKit Go.Shelf Go.Proofs.Ythcagaklinkkpaa Go.Proofs.Ythcagaklinkkpaa.W Go.Proofs.Ythcagaklinkkpaa.M Go.Proofs.Ythcagaklinkkpaa.B

set_option maxRecDepth 100000 in
set_option maxHeartbeats 1000000 in
theorem inverts_walk (A : Option Addr) (c : Nat) (b : Bs) (w : World) (h : Sl u8 w w.heap.size A b) (hc : b.length ≤ c) (hm : c ≤ maxLen) :
    Calls Try.prog 6 #[.slice A b.length c] w fun e w' => e = .returned (.bool true) ∧ Below w.heap.size w w' := by
  have hm' : b.length ≤ 9223372036854775807 := by unfold maxLen at hm; omega
  by_cases h4 : b.length > 400
  · obtain ⟨n, hn⟩ : ∃ n, n = b.length := ⟨_, rfl⟩
    rw [← hn] at h4 hm' ⊢
    have h4' : (400 : Int) < n := by omega
    clear hn h4 hc hm h
    go_enter Try.func6, Try.ntmps6
    go_wp2_with (go_at_call 11; refine (awake_any _).mono ?_; rintro e w4 ⟨rfl, hb4⟩)
    go_ret
    exact ⟨rfl, hb4⟩
  · obtain ⟨n, hn⟩ : ∃ n, n = b.length := ⟨_, rfl⟩
    rw [← hn] at h4 hm' ⊢
    have HN := Lib.hid hn.symm
    have h4' : decide ((400 : Int) < n) = false := by rw [decide_eq_false_iff_not]; omega
    have hn4 : n ≤ 65536 := by omega
    obtain ⟨X, hX⟩ : ∃ X, trans 1 b = X := ⟨_, rfl⟩
    obtain ⟨Y, hY⟩ : ∃ Y, trans (-1) b = Y := ⟨_, rfl⟩
    have D1 := Lib.hid (forward_g (c := c) HN.out hn4 hX h)
    have D2 : Hid (∀ W A c, Sl u8 W W.heap.size A X → Gives 18 A n c W b n 0) := Lib.hid fun W A c hs => inverse_g (by rw [← hX, trans_length, HN.out]) hn4 (by rw [← hX]; exact trans_back 1 b) hs
    have D3 : Hid (∀ W, Below w.heap.size w W → Gives 18 A n c W Y n 0) := Lib.hid fun W hW => inverse_g HN.out hn4 hY (h.below hW)
    have D4 : Hid (∀ W A c, Sl u8 W W.heap.size A Y → Gives 12 A n c W b n 0) := Lib.hid fun W A c hs => forward_g (by rw [← hY, trans_length, HN.out]) hn4 (by rw [← hY]; exact trans_back (-1) b) hs
    have E : Hid (∀ W A' c', Below w.heap.size w W → Sl u8 W W.heap.size A' b → Calls Try.prog 14 #[.slice A' n c', .slice A n c] W fun e w' => e = .returned (.bool true) ∧ W = w') := Lib.hid fun W A' c' hW hs => equal_same HN.out hs (h.below hW)
    clear hX hY hn h4 hc hm h hm'
    go_enter Try.func6, Try.ntmps6
    go_wp2_with (first
      | (go_at_call 12; refine D1.out.mono ?_; clear D1; rintro e w1 ⟨A1, c1, rfl, t1, _, _, hb1⟩)
      | (go_at_call 18; refine (D2.out _ _ _ t1).mono ?_; clear D2; rintro e w2 ⟨A2, c2, rfl, t2, _, _, hb2⟩; have hb2 := bsa hb1 hb1.size hb2)
      | (go_at_call 18; refine (D3.out _ hb2).mono ?_; clear D3; rintro e w3 ⟨A3, c3, rfl, t3, _, _, hb3⟩; have t2 := t2.later hb3; have hb3 := bsa hb2 hb2.size hb3)
      | (go_at_call 12; refine (D4.out _ _ _ t3).mono ?_; clear D4; rintro e w4 ⟨A4, c4, rfl, t4, _, _, hb4⟩; have t2 := t2.later hb4; have hb4 := bsa hb3 hb3.size hb4)
      | (go_at_call 14; refine (E.out _ _ _ hb4 t2).mono ?_; clear t2; rintro e w5 ⟨rfl, rfl⟩)
      | (go_at_call 14; refine (E.out _ _ _ hb4 t4).mono ?_; clear t4; rintro e w6 ⟨rfl, rfl⟩)
      | (go_at_call 11; refine (awake_any _).mono ?_; rintro e w7 ⟨rfl, hb7⟩; have hb7 := bsa hb4 hb4.size hb7))
    go_ret
    exact ⟨rfl, hb7⟩
end Go.Proofs.Ythcagaklinkkpaa.E
