import Derived.Test.YtgaifkjdaldmnaaG5
namespace Go.Proofs.Ytgaifkjdaldmnaa.F
set_option linter.unusedVariables false
open Go Go.RowKit Go.Proofs.Ytgaifkjdaldmnaa Go.Proofs.Ytgaifkjdaldmnaa.W Go.Proofs.Ytgaifkjdaldmnaa.M Go.Proofs.Ytgaifkjdaldmnaa.B

theorem ex_total (l : Bs) : ∀ out, ∃ res, Ex out l res := by
  induction h : l.length using Nat.strongRecOn generalizing l with
  | ind n ih =>
    intro out
    rcases hn : next out l with res | ⟨o', l'⟩
    · exact ⟨res, .stop hn⟩
    · obtain ⟨V, u, _, _, hl⟩ := next_code hn
      have hlt : l'.length < n := by
        rw [← h, hl, List.length_append, List.length_append, enc_length]
        split <;> omega
      obtain ⟨res, hr⟩ := ih _ hlt l' rfl o'
      exact ⟨res, .go hn hr⟩
theorem expand_g {A : Option Addr} {c n m : Nat} {b z : Bs} {er : Int} (hl : b.length = n) (hn : n ≤ 65536) (hc : n ≤ c) (hcm : c ≤ maxLen) (hE : Ex [] b (z, er)) (hm : z.length = m) {w : World} {B : Nat} (h : Sl u8 w B A b) : Gives 22 A n c w z m er := by
  refine Gives.of ((Expand_ok A c n b hl hn hc hcm w B h).mono ?_)
  rintro e w' ⟨z', er', m', A', c', hE', hm', _, he, ho, hb⟩
  have := hE.det hE'
  injection this with e1 e2
  subst e1 e2
  obtain rfl : m' = m := by omega
  exact ⟨A', c', he, ho, hb⟩
theorem rexpand_g {A : Option Addr} {c n m : Nat} {b z : Bs} {er : Int} (hl : b.length = n) (hn : n ≤ 65536) (hE : Ex [] b (z, er)) (hm : z.length = m) {w : World} {B : Nat} (h : Sl u8 w B A b) : Gives 23 A n c w z m er := by
  refine Gives.of ((rExpand_ok A c n b hl hn w B h).mono ?_)
  rintro e w' ⟨z', er', m', A', c', hE', hm', _, he, ho, hb⟩
  have := hE.det hE'
  injection this with e1 e2
  subst e1 e2
  obtain rfl : m' = m := by omega
  exact ⟨A', c', he, ho, hb⟩

set_option maxRecDepth 100000 in
set_option maxHeartbeats 2000000 in
theorem expands_walk (A : Option Addr) (c : Nat) (b : Bs) (w : World) (h : Sl u8 w w.heap.size A b) (hc : b.length ≤ c) (hm : c ≤ maxLen) :
    Calls Try.prog 9 #[.slice A b.length c] w fun e w' => e = .returned (.bool true) ∧ Below w.heap.size w w' := by
  have hm' : b.length ≤ 9223372036854775807 := by unfold maxLen at hm; omega
  obtain ⟨n, hn⟩ : ∃ n, b.length = n := ⟨_, rfl⟩
  rw [hn] at hm' hc ⊢
  by_cases h4 : n > 400
  · have h4' : (400 : Int) < n := by omega
    clear hn h4 hc hm h
    go_enter Try.func9, Try.ntmps9
    go_wp2_with (go_at_call 11; refine (awake_any _).mono ?_; rintro e w4 ⟨rfl, hb4⟩)
    go_ret
    exact ⟨rfl, hb4⟩
  · have h4' : decide ((400 : Int) < n) = false := by rw [decide_eq_false_iff_not]; omega
    have hn4 : n ≤ 65536 := by omega
    obtain ⟨⟨Z, er⟩, hE⟩ := ex_total b []
    obtain ⟨m, hmZ⟩ : ∃ m, Z.length = m := ⟨_, rfl⟩
    have D1 := Lib.hid (expand_g (c := c) hn hn4 hc hm hE hmZ h)
    have D2 : Hid (∀ W, Below w.heap.size w W → Gives 23 A n c W Z m er) := Lib.hid fun W hW => rexpand_g hn hn4 hE hmZ (h.below hW)
    have E1 : Hid (∀ (W : World) A c A' c', Sl u8 W W.heap.size A Z → Sl u8 W W.heap.size A' Z → Calls Try.prog 14 #[.slice A m c, .slice A' m c'] W fun e w' => e = .returned (.bool true) ∧ W = w') := Lib.hid fun W A c A' c' h h' => equal_same hmZ h h'
    clear hE hmZ hn h4 hc hm h hm'
    go_enter Try.func9, Try.ntmps9
    go_wp2_with (first
      | (go_at_call 22; refine D1.out.mono ?_; clear D1; rintro e w1 ⟨A1, c1, rfl, t1, _, _, hb⟩)
      | (go_at_call 23; refine (D2.out _ hb).mono ?_; clear D2; rintro e w2 ⟨A2, c2, rfl, t2, _, _, hb2⟩; have t1 := t1.later hb2; have hb := bsa hb hb.size hb2; clear hb2)
      | (go_at_call 14; refine (E1.out _ _ _ _ _ t1 t2).mono ?_; clear E1; rintro e w7 ⟨rfl, rfl⟩)
      | (go_at_call 11; refine (awake_any _).mono ?_; rintro e w8 ⟨rfl, hb8⟩; have hb := bsa hb hb.size hb8; clear hb8))
    go_ret
    exact ⟨rfl, hb⟩
end Go.Proofs.Ytgaifkjdaldmnaa.F
