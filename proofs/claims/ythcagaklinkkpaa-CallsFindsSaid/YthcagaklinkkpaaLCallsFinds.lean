import Derived.Test.YthcagaklinkkpaaLCallsForward
namespace Go.Proofs.Ythcagaklinkkpaa.E
set_option linter.unusedVariables false
open Go Go.RowKit Go.Shelf Go.Proofs.Ythcagaklinkkpaa Go.Proofs.Ythcagaklinkkpaa.W Go.Proofs.Ythcagaklinkkpaa.M Go.Proofs.Ythcagaklinkkpaa.B

set_option maxRecDepth 100000 in
set_option maxHeartbeats 1000000 in
theorem finds_walk (A : Option Addr) (c : Nat) (b : Bs) (w : World) (h : Sl u8 w w.heap.size A b) (hc : b.length ≤ c) (hm : c ≤ maxLen) :
    Calls Try.prog 4 #[.slice A b.length c] w fun e w' => e = .returned (.bool true) ∧ Below w.heap.size w w' := by
  have hm' : b.length ≤ 9223372036854775807 := by unfold maxLen at hm; omega
  have CS := Lib.hid (short_any A c b.length hm' w)
  cases hs : sh b.length with
  | false =>
    rw [hs] at CS
    clear hs h hc hm
    obtain ⟨n, hn⟩ : ∃ n, n = b.length := ⟨_, rfl⟩
    rw [← hn] at CS ⊢
    clear hn
    go_enter Try.func4, Try.ntmps4
    go_wp2_with (first
      | (go_at_call 10; refine CS.out.mono ?_; rintro e w0 ⟨rfl, rfl⟩)
      | (go_at_call 11; refine (awake_any _).mono ?_; rintro e w4 ⟨rfl, hb4⟩))
    go_ret
    exact ⟨rfl, hb4⟩
  | true =>
    rw [hs] at CS
    have hle := sh_le hs
    obtain ⟨T, hT⟩ : ∃ T, T = siteOut b := ⟨_, rfl⟩
    have D1 := Lib.hid (GivesI.of (f := 15) (m := T.length) (by rw [hT]) (Sites_any A c b (by omega) w _ h))
    have D2 : Hid (∀ W, Below w.heap.size w W → GivesI 16 A b.length c W T T.length (siteErr b.length)) := Lib.hid fun W hW => by
      have := GivesI.of (f := 16) (m := T.length) (by rw [hT]) (refSites_any A c b (by omega) W _ (h.below hW))
      rwa [← hT] at this
    rw [← hT] at D1
    obtain ⟨n, hn⟩ : ∃ n, n = b.length := ⟨_, rfl⟩
    obtain ⟨m, hm'⟩ : ∃ m, m = T.length := ⟨_, rfl⟩
    have HM := Lib.hid hm'
    have HL : Hid (m ≤ 65544) := Lib.hid (by rw [hm', hT]; unfold siteOut; split; simp; exact Nat.le_trans (scan_le b) hle)
    obtain ⟨er, her⟩ : ∃ er, er = siteErr b.length := ⟨_, rfl⟩
    rw [← her] at D1 D2
    rw [← hn] at CS D1 D2 ⊢
    rw [← hm'] at D1 D2
    clear hT hn hm' her hs h hc hm hle
    go_enter Try.func4, Try.ntmps4
    go_wp2_with (first
      | (go_at_call 10; refine CS.out.mono ?_; rintro e w0 ⟨rfl, rfl⟩)
      | (go_at_call 15; refine D1.out.mono ?_; rintro e w1 ⟨A1, c1, rfl, t1, _, _, hb1⟩)
      | (go_at_call 16; refine (D2.out _ hb1).mono ?_; rintro e w2 ⟨A2, c2, rfl, t2, _, _, hb2⟩; have t1 := t1.later hb2; have hb2 := bsa hb1 hb1.size hb2)
      | (go_at_call 17; refine (equalI_same HM.out.symm (by have := HL.out; omega) t1 t2).mono ?_; rintro e w3 ⟨rfl, hb3⟩; have hb3 := bsa hb2 hb2.size hb3)
      | (go_at_call 11; refine (awake_any _).mono ?_; rintro e w4 ⟨rfl, hb4⟩; have hb4 := bsa hb3 hb3.size hb4))
    go_ret
    exact ⟨rfl, hb4⟩
end Go.Proofs.Ythcagaklinkkpaa.E
