import Derived.Test.YtgaifkjdaldmnaaG2
namespace Go.Proofs.Ytgaifkjdaldmnaa.F
set_option linter.unusedVariables false
open Go Go.RowKit Go.Proofs.Ytgaifkjdaldmnaa Go.Proofs.Ytgaifkjdaldmnaa.W Go.Proofs.Ytgaifkjdaldmnaa.M Go.Proofs.Ytgaifkjdaldmnaa.B

theorem rruns_g {A : Option Addr} {c n m : Nat} {b t : Bs} (hl : b.length = n) (hn : n ≤ 32768) (ht : code b = t) (hm : t.length = m) {w : World} {B : Nat} (h : Sl u8 w B A b) : Gives 13 A n c w t m 0 := by
  subst ht hm; exact Gives.of (rRuns_ok A c n b hl hn w B h)

set_option maxRecDepth 100000 in
set_option maxHeartbeats 2000000 in
theorem codes_walk (A : Option Addr) (c : Nat) (b : Bs) (w : World) (h : Sl u8 w w.heap.size A b) (hc : b.length ≤ c) (hm : c ≤ maxLen) :
    Calls Try.prog 3 #[.slice A b.length c] w fun e w' => e = .returned (.bool true) ∧ Below w.heap.size w w' := by
  have hm' : b.length ≤ 9223372036854775807 := by unfold maxLen at hm; omega
  obtain ⟨n, hn⟩ : ∃ n, b.length = n := ⟨_, rfl⟩
  rw [hn] at hm' ⊢
  by_cases h4 : n > 2000
  · have h4' : (2000 : Int) < n := by omega
    clear hn h4 hc hm h
    go_enter Try.func3, Try.ntmps3
    go_wp2_with (go_at_call 11; refine (awake_any _).mono ?_; rintro e w4 ⟨rfl, hb4⟩)
    go_ret
    exact ⟨rfl, hb4⟩
  · have h4' : decide ((2000 : Int) < n) = false := by rw [decide_eq_false_iff_not]; omega
    have hn4 : n ≤ 32768 := by omega
    obtain ⟨X, hX⟩ : ∃ X, code b = X := ⟨_, rfl⟩
    obtain ⟨m, hmX⟩ : ∃ m, X.length = m := ⟨_, rfl⟩
    have D1 := Lib.hid (runs_g (c := c) hn hn4 hX hmX h)
    have D2 : Hid (∀ W, Below w.heap.size w W → Gives 13 A n c W X m 0) := Lib.hid fun W hW => rruns_g hn hn4 hX hmX (h.below hW)
    have E1 : Hid (∀ (W : World) A c A' c', Sl u8 W W.heap.size A X → Sl u8 W W.heap.size A' X → Calls Try.prog 14 #[.slice A m c, .slice A' m c'] W fun e w' => e = .returned (.bool true) ∧ W = w') := Lib.hid fun W A c A' c' h h' => equal_same hmX h h'
    clear hX hmX hn h4 hc hm h hm'
    go_enter Try.func3, Try.ntmps3
    go_wp2_with (first
      | (go_at_call 12; refine D1.out.mono ?_; clear D1; rintro e w1 ⟨A1, c1, rfl, t1, _, _, hb⟩)
      | (go_at_call 13; refine (D2.out _ hb).mono ?_; clear D2; rintro e w2 ⟨A2, c2, rfl, t2, _, _, hb2⟩; have t1 := t1.later hb2; have hb := bsa hb hb.size hb2; clear hb2)
      | (go_at_call 14; refine (E1.out _ _ _ _ _ t1 t2).mono ?_; clear E1; rintro e w7 ⟨rfl, rfl⟩)
      | (go_at_call 11; refine (awake_any _).mono ?_; rintro e w8 ⟨rfl, hb8⟩; have hb := bsa hb hb.size hb8; clear hb8))
    go_ret
    exact ⟨rfl, hb⟩
end Go.Proofs.Ytgaifkjdaldmnaa.F
