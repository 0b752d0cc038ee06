import Derived.Test.YthcagaklinkkpaaE9
namespace Go.Proofs.Ythcagaklinkkpaa.E
set_option linter.unusedVariables false
open Go Go.RowKit Go.Shelf Go.Proofs.Ythcagaklinkkpaa Go.Proofs.Ythcagaklinkkpaa.W Go.Proofs.Ythcagaklinkkpaa.M Go.Proofs.Ythcagaklinkkpaa.B

def sh (n : Nat) : Bool := decide (n ≤ 400) || (decide (65536 < n) && decide (n < 65545))
theorem short_any (A : Option Addr) (c n : Nat) (hn : n ≤ 9223372036854775807) (w : World) :
    Calls Try.prog 10 #[.slice A n c] w fun e w' => e = .returned (.bool (sh n)) ∧ w = w' := by
  by_cases h1 : n ≤ 400
  · have hr : sh n = true := by unfold sh; rw [decide_eq_true h1]; rfl
    have h1' : (n : Int) ≤ 400 := by omega
    rw [hr]
    clear hr h1
    go_enter Try.func10, Try.ntmps10
    go_wp2
    go_ret
    exact ⟨rfl, rfl⟩
  · by_cases h2 : 65536 < n
    · by_cases h3 : n < 65545
      · have hr : sh n = true := by unfold sh; rw [decide_eq_false h1, decide_eq_true h2, decide_eq_true h3]; rfl
        have h2' : (65536 : Int) < n := by omega
        have h3' : (n : Int) < 65545 := by omega
        have h1' : decide ((n : Int) ≤ 400) = false := by rw [decide_eq_false_iff_not]; omega
        rw [hr]
        clear hr h1 h2 h3
        go_enter Try.func10, Try.ntmps10
        go_wp2
        go_ret
        exact ⟨rfl, rfl⟩
      · have hr : sh n = false := by unfold sh; rw [decide_eq_false h1, decide_eq_true h2, decide_eq_false h3]; rfl
        have h2' : (65536 : Int) < n := by omega
        have h3' : decide ((n : Int) < 65545) = false := by rw [decide_eq_false_iff_not]; omega
        have h1' : decide ((n : Int) ≤ 400) = false := by rw [decide_eq_false_iff_not]; omega
        rw [hr]
        clear hr h1 h2 h3
        go_enter Try.func10, Try.ntmps10
        go_wp2
        go_ret
        exact ⟨rfl, rfl⟩
    · have hr : sh n = false := by unfold sh; rw [decide_eq_false h1, decide_eq_false h2]; rfl
      have h2' : decide ((65536 : Int) < n) = false := by rw [decide_eq_false_iff_not]; omega
      have h1' : decide ((n : Int) ≤ 400) = false := by rw [decide_eq_false_iff_not]; omega
      rw [hr]
      clear hr h1 h2
      go_enter Try.func10, Try.ntmps10
      go_wp2
      go_ret
      exact ⟨rfl, rfl⟩
theorem sh_le {n : Nat} (h : sh n = true) : n ≤ 65544 := by
  unfold sh at h
  simp only [Bool.or_eq_true, Bool.and_eq_true, decide_eq_true_eq] at h
  omega
theorem bsa {B : Nat} {w w1 w2 : World} (h : Below B w w1) (hb : B ≤ w1.heap.size) (h2 : Below w1.heap.size w1 w2) : Below B w w2 := h.trans (h2.mono hb)

set_option maxRecDepth 100000 in
set_option maxHeartbeats 1000000 in
theorem forward_walk (A : Option Addr) (c : Nat) (b : Bs) (w : World) (h : Sl u8 w w.heap.size A b) (hc : b.length ≤ c) (hm : c ≤ maxLen) :
    Calls Try.prog 3 #[.slice A b.length c] w fun e w' => e = .returned (.bool true) ∧ Below w.heap.size w w' := by
  have hm' : b.length ≤ 9223372036854775807 := by unfold maxLen at hm; omega
  have CS := Lib.hid (short_any A c b.length hm' w)
  cases hs : sh b.length with
  | false =>
    rw [hs] at CS
    clear hs h hc hm
    obtain ⟨n, hn⟩ : ∃ n, n = b.length := ⟨_, rfl⟩
    rw [← hn] at CS ⊢
    clear hn
    go_enter Try.func3, Try.ntmps3
    go_wp2_with (first
      | (go_at_call 10; refine CS.out.mono ?_; rintro e w0 ⟨rfl, rfl⟩)
      | (go_at_call 11; refine (awake_any _).mono ?_; rintro e w4 ⟨rfl, hb4⟩))
    go_ret
    exact ⟨rfl, hb4⟩
  | true =>
    rw [hs] at CS
    have hle := sh_le hs
    obtain ⟨T, hT⟩ : ∃ T, T = outT 1 b := ⟨_, rfl⟩
    have D1 := Lib.hid (Gives.of (f := 12) (m := T.length) (by rw [hT]) (Forward_any A c b (by omega) w _ h))
    have D2 : Hid (∀ W, Below w.heap.size w W → Gives 13 A b.length c W T T.length (siteErr b.length)) := Lib.hid fun W hW => by
      have := Gives.of (f := 13) (m := T.length) (by rw [hT]) (refForward_any A c b (by omega) W _ (h.below hW))
      rwa [← hT] at this
    rw [← hT] at D1
    obtain ⟨n, hn⟩ : ∃ n, n = b.length := ⟨_, rfl⟩
    obtain ⟨m, hm'⟩ : ∃ m, m = T.length := ⟨_, rfl⟩
    have HM := Lib.hid hm'
    obtain ⟨er, her⟩ : ∃ er, er = siteErr b.length := ⟨_, rfl⟩
    rw [← her] at D1 D2
    rw [← hn] at CS D1 D2 ⊢
    rw [← hm'] at D1 D2
    clear hT hn hm' her hs h hc hm hle
    go_enter Try.func3, Try.ntmps3
    go_wp2_with (first
      | (go_at_call 10; refine CS.out.mono ?_; rintro e w0 ⟨rfl, rfl⟩)
      | (go_at_call 12; refine D1.out.mono ?_; rintro e w1 ⟨A1, c1, rfl, t1, _, _, hb1⟩)
      | (go_at_call 13; refine (D2.out _ hb1).mono ?_; rintro e w2 ⟨A2, c2, rfl, t2, _, _, hb2⟩; have t1 := t1.later hb2; have hb2 := bsa hb1 hb1.size hb2)
      | (go_at_call 14; refine (equal_same HM.out.symm t1 t2).mono ?_; rintro e w3 ⟨rfl, rfl⟩)
      | (go_at_call 11; refine (awake_any _).mono ?_; rintro e w4 ⟨rfl, hb4⟩; have hb4 := bsa hb2 hb2.size hb4))
    go_ret
    exact ⟨rfl, hb4⟩
end Go.Proofs.Ythcagaklinkkpaa.E
