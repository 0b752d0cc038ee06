import Derived.Test.YtnmmajkmdgfllaaC6
namespace Go.Proofs.Ytnmmajkmdgfllaa.C
set_option linter.unusedVariables false
open Go Go.RowKit Go.Shelf Go.Proofs.Ytnmmajkmdgfllaa Go.Proofs.Ytnmmajkmdgfllaa.W Go.Proofs.Ytnmmajkmdgfllaa.M Go.Proofs.Ytnmmajkmdgfllaa.B

theorem sl_chain' {w2 w3 w4 w5 w6 : World} {base n c : Nat} {A : Option Addr} {l : List UInt8} (h : w2.ownsRow base 5 1 (.slice A n c) n (l.map u8)) (h3 : Below w2.heap.size w2 w3) (h4 : Below w3.heap.size w3 w4) (h5 : Below w4.heap.size w4 w5) (h6 : Below w5.heap.size w5 w6) : Sl u8 w6 w6.heap.size A l :=
  ((((Sl.of_own h).later h3).later h4).later h5).later h6
theorem sl_chain {w1 w2 w3 w4 w5 w6 : World} {base n c : Nat} {A : Option Addr} {l : List UInt8} (h : w1.ownsRow base 5 1 (.slice A n c) n (l.map u8)) (h2 : Below w1.heap.size w1 w2) (h3 : Below w2.heap.size w2 w3) (h4 : Below w3.heap.size w3 w4) (h5 : Below w4.heap.size w4 w5) (h6 : Below w5.heap.size w5 w6) : Sl u8 w6 w6.heap.size A l :=
  (((((Sl.of_own h).later h2).later h3).later h4).later h5).later h6
theorem opened_length (l : List UInt8) : (opened l).1.length ≤ l.length := by
  unfold opened
  split
  · simp
  · split
    · simp
    · split
      · simp
      · simp

set_option maxRecDepth 100000 in
set_option maxHeartbeats 1000000 in
theorem seals_walk (A : Option Addr) (c : Nat) (l : List UInt8) (w : World) (h : Sl u8 w w.heap.size A l) (hc : l.length ≤ c) (hm : c ≤ 140737488351232) :
    Calls Try.prog 7 #[.slice A l.length c] w fun e w' => e = .returned (.bool true) ∧ Below w.heap.size w w' := by
  obtain ⟨E, hE⟩ : ∃ E, (opened l).2 = E := ⟨_, rfl⟩
  have HE := Lib.hid hE
  have HL := Lib.hid (opened_length l)
  clear hE
  by_cases h5 : l.length > 5000
  · by_cases h6 : l.length ≤ 65536
    · go_enter Try.func7, Try.ntmps7
      go_wp2_with (go_at_call 9; refine (awake_any _).mono ?_; rintro e w1 ⟨rfl, hb1⟩)
      go_ret
      exact ⟨rfl, hb1⟩
    · clear h5
      go_enter Try.func7, Try.ntmps7
      go_wp2_with (first
        | (go_at_call 15; refine (open_any _ _ _ l rfl hc (by omega) _ _ h).mono ?_; rintro e w1 ⟨A1, N1, c1, rfl, hl1, hown1, hb1⟩; rw [HE.out])
        | (go_at_call 16; refine (refOpen_any _ _ _ l rfl hc (by omega) _ _ (h.below hb1)).mono ?_; rintro e w2 ⟨A2, N2, c2, rfl, hl2, hown2, hb2⟩; rw [HE.out]; have hB2 := bs hb1 hb2)
        | (go_at_call 9; refine (awake_any _).mono ?_; rintro e w3 ⟨rfl, hb3⟩; have hB3 := bs hB2 hb3)
        | (go_at_call 18; refine (seal_sl _ _ _ _ l rfl rfl (by omega) _ _ (h.below hB3)).mono ?_; rintro e w4 ⟨A4, c4, rfl, s4, _, _, hb4⟩; have hB4 := bs hB3 hb4)
        | (go_at_call 19; refine (refSeal_sl _ _ _ _ l rfl rfl (by omega) _ _ (h.below hB4)).mono ?_; rintro e w5 ⟨A5, c5, rfl, s5, _, _, hb5⟩; have hB5 := bs hB4 hb5; have D1 := Lib.hid (same_ok A4 A5 c4 c5 (l.length + 4) (l.length + 4) (sealed l) (sealed l) w5 _ _ (s4.below hb5) s5 (sealed_length l) (sealed_length l) (by omega) (by omega) true (by simp)))
        | (go_at_call 17; refine D1.out.mono ?_; clear D1; rintro e w6 ⟨rfl, hb6⟩; have hB6 := bs hB5 hb6; have D2 := Lib.hid (same_ok A1 A2 c1 c2 N1 N2 (opened l).1 (opened l).1 w6 _ _ (sl_chain hown1 hb2 hb3 hb4 hb5 hb6) (sl_chain' hown2 hb3 hb4 hb5 hb6) hl1 hl2 (by have := HL.out; omega) (by have := HL.out; omega) true (by simp)))
        | (go_at_call 17; refine D2.out.mono ?_; clear D2; rintro e w7 ⟨rfl, hb7⟩))
      go_ret
      exact ⟨by simp, bs hB6 hb7⟩
  · skip
    go_enter Try.func7, Try.ntmps7
    go_wp2_with (first
      | (go_at_call 15; refine (open_any _ _ _ l rfl hc (by omega) _ _ h).mono ?_; rintro e w1 ⟨A1, N1, c1, rfl, hl1, hown1, hb1⟩; rw [HE.out])
      | (go_at_call 16; refine (refOpen_any _ _ _ l rfl hc (by omega) _ _ (h.below hb1)).mono ?_; rintro e w2 ⟨A2, N2, c2, rfl, hl2, hown2, hb2⟩; rw [HE.out]; have hB2 := bs hb1 hb2)
      | (go_at_call 9; refine (awake_any _).mono ?_; rintro e w3 ⟨rfl, hb3⟩; have hB3 := bs hB2 hb3)
      | (go_at_call 18; refine (seal_sl _ _ _ _ l rfl rfl (by omega) _ _ (h.below hB3)).mono ?_; rintro e w4 ⟨A4, c4, rfl, s4, _, _, hb4⟩; have hB4 := bs hB3 hb4)
      | (go_at_call 19; refine (refSeal_sl _ _ _ _ l rfl rfl (by omega) _ _ (h.below hB4)).mono ?_; rintro e w5 ⟨A5, c5, rfl, s5, _, _, hb5⟩; have hB5 := bs hB4 hb5; have D1 := Lib.hid (same_ok A4 A5 c4 c5 (l.length + 4) (l.length + 4) (sealed l) (sealed l) w5 _ _ (s4.below hb5) s5 (sealed_length l) (sealed_length l) (by omega) (by omega) true (by simp)))
      | (go_at_call 17; refine D1.out.mono ?_; clear D1; rintro e w6 ⟨rfl, hb6⟩; have hB6 := bs hB5 hb6; have D2 := Lib.hid (same_ok A1 A2 c1 c2 N1 N2 (opened l).1 (opened l).1 w6 _ _ (sl_chain hown1 hb2 hb3 hb4 hb5 hb6) (sl_chain' hown2 hb3 hb4 hb5 hb6) hl1 hl2 (by have := HL.out; omega) (by have := HL.out; omega) true (by simp)))
      | (go_at_call 17; refine D2.out.mono ?_; clear D2; rintro e w7 ⟨rfl, hb7⟩))
    go_ret
    exact ⟨by simp, bs hB6 hb7⟩
end Go.Proofs.Ytnmmajkmdgfllaa.C
