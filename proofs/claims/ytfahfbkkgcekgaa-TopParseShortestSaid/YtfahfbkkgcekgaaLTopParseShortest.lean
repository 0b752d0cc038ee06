/- TopParseShortest: no factorization is cheaper, or has a shorter encoding, than the optimal one. -/
import Derived.Test.YtfahfbkkgcekgaaYP
namespace Go.Proofs.Ytfahfbkkgcekgaa.H
set_option linter.unusedVariables false
set_option linter.unusedSimpArgs false
open Go Go.RowKit Go.Proofs.Ytfahfbkkgcekgaa Go.Proofs.Ytfahfbkkgcekgaa.W Go.Proofs.Ytfahfbkkgcekgaa.M

theorem cost_most {b : Bs} : ∀ {l : List Tok} {a : Nat}, Fac b a l → cost l ≤ 51 * l.length
  | [], _, _ => Nat.le_refl _
  | t :: l, a, h => by
    have h1 := cost_most h.2
    have h2 := (price_le (okAt_right h.1).1).1
    rw [cost_cons, List.length_cons]; omega
/-- What the numbers are to each other. -/
theorem shorts {b : Bs} {N : Nat} (hN : b.length = N) (hN6 : N ≤ 60) {l : List Tok} (hF : Fac b 0 l) {C n L S : Nat} {D D' : Bs} (hC : cost l = C) (hn : cost (opt b 0) = n) (hD : BR D (encB l)) (hD' : BR D' (encB (opt b 0))) (hL : D.length = L) (hS : D'.length = S) (hle : n ≤ C) :
    S ≤ L ∧ C ≤ 8 * L ∧ 8 * L ≤ C + 7 ∧ L ≤ 65536 ∧ S ≤ 65536 ∧ C ≤ 65536 := by
  have h1 := hD.1
  have h2 := hD'.1
  rw [encB_length, hC, hL] at h1
  rw [encB_length, hn, hS] at h2
  have h3 := cost_most hF
  have h4 := fac_len hF
  rw [hC] at h3
  omega
set_option maxRecDepth 100000 in
set_option maxHeartbeats 4000000 in
theorem shortest_walk (A : Option Addr) (c : Nat) (b : List UInt8) (A' : Option Addr) (c' : Nat) (ps : List UInt8) (w : World) (hS : Sl u8 w w.heap.size A b) (hc : b.length ≤ c) (hm : c ≤ maxLen) (hS' : Sl u8 w w.heap.size A' ps) (hc' : ps.length ≤ c') (hm' : c' ≤ maxLen) :
    Calls Try.prog 3 #[.slice A b.length c, .slice A' ps.length c'] w fun e w' => e = .returned (.bool true) ∧ Below w.heap.size w w' := by
  obtain ⟨N, hN⟩ : ∃ N, b.length = N := ⟨_, rfl⟩
  obtain ⟨p, hp⟩ : ∃ p, ps.length = p := ⟨_, rfl⟩
  rw [hN, hp]
  have CP := Lib.hid (fun W => parsed_ok W)
  by_cases h6 : N ≤ 60 ∧ p ≤ 60
  · obtain ⟨hN6, hp6⟩ := h6
    have v1 : ¬ (60 : Int) < (N : Int) := by omega
    have v2 : ¬ (60 : Int) < (p : Int) := by omega
    have CF := Lib.hid (caseFactor_ok b ps N p hN hN6 hp hp6 A A' c c' w hS hS')
    have COST := Lib.hid (fun A c n l (hl : l.length = n) (hF : Fac b 0 l) C (hC : cost l = C) W h => Cost_ok b N hN (by omega) A n c l hl hF C hC W h)
    have ENC := Lib.hid (fun A c n l (hl : l.length = n) (hF : Fac b 0 l) W h => Encode_ok b N hN hN6 A n c l hl hF W h)
    have EXP := Lib.hid (fun A c n l (hl : l.length = n) (hF : Fac b 0 l) W h => Expand_ok b N hN (by omega) A n c l hl hF W h)
    obtain ⟨ob, hob⟩ : ∃ ob, opt b 0 = ob := ⟨_, rfl⟩
    obtain ⟨k, hk⟩ : ∃ k, ob.length = k := ⟨_, rfl⟩
    obtain ⟨n, hn⟩ : ∃ n, pot b 0 = n := ⟨_, rfl⟩
    have OPT := Lib.hid (fun W h => Optimal_ok b N hN (by omega) A c ob k n hob hk hn W h)
    have FW := Lib.hid (fun W h => Forward_ok b N hN hN6 A c W h)
    have INV := Lib.hid (fun A c L D h1 h2 l hF h3 W h => Inverse_ok b N hN hN6 A c L D h1 h2 l hF h3 W h)
    have EQ := Lib.hid (fun A A' c c' W B B' h h' => equal_same (A := A) (A' := A') (c := c) (c' := c') (n := N) (l := b) hN (w := W) (B := B) (B' := B') h h')
    have hof := opt_fac b
    have SH := Lib.hid (fun l (hF : Fac b 0 l) C L S D D' hC hD hD' hL hS hle => shorts (l := l) (C := C) (n := n) (L := L) (S := S) (D := D) (D' := D') hN hN6 hF hC (by rw [hof.2, hn]) hD hD' hL hS hle)
    rw [hob, hn] at hof
    rw [hob] at FW SH
    have HOF := Lib.hid hof
    have LEAST := Lib.hid (fun l hF => pot_least b l 0 hF)
    rw [hn] at LEAST
    have HK := Lib.hid hk
    have HS := Lib.hid hS
    clear hof hk hn hob hN hp hS hS' hc hc' hm hm'
    go_enter Try.func3, Try.ntmps3
    go_wp2_with (first
      | (go_at_call 5; refine (CP.out _).mono ?_; rintro e wA ⟨rfl, hbA⟩; have hBA := bsa hB9 hbA)
      | (go_at_call 13; refine (EQ.out _ _ _ _ _ _ _ hE9q hS9).mono ?_; rintro e wB ⟨rfl, rfl⟩)
      | (go_at_call 13; refine (EQ.out _ _ _ _ _ _ _ hE8q hS9).mono ?_; rintro e wB ⟨rfl, rfl⟩; have hE9q := hE9)
      | (go_at_call 13; refine (EQ.out _ _ _ _ _ _ _ hE4' hS9).mono ?_; rintro e wB ⟨rfl, rfl⟩; have hE8q := hE8')
      | (go_at_call 12; refine (INV.out _ _ _ _ HL.out (by omega) _ HFL.out HBR.out _ ((((((hD3.later hb4).later hb5).later hb6).later hb7).later hb8))).mono ?_; rintro e w9 ⟨A9, c9, rfl, hE9, _, _, hb9⟩; have hB9 := bsa hB8 hb9; have hS9 := HS.out.later hB9; have hE8' := hE8.later hb9; have hE4' := (((((hE4.later hb5).later hb6).later hb7).later hb8).later hb9))
      | (go_at_call 12; refine (INV.out _ _ _ _ HS7.out (by omega) _ HOF.out.1 HBR7.out _ hD7).mono ?_; rintro e w8 ⟨A8, c8, rfl, hE8, _, _, hb8⟩; have hB8 := bsa hB7 hb8)
      | (go_at_call 11; refine (FW.out _ (HS.out.later hB6)).mono ?_; rintro e w7 ⟨A7, c7, D7, rfl, hD7, hbr7, _, _, hb7⟩; have hB7 := bsa hB6 hb7; obtain ⟨S, hS7⟩ : ∃ S, D7.length = S := ⟨_, rfl⟩; rw [hS7]; have q1 := SH.out _ HFL.out _ _ _ _ _ HC.out HBR.out hbr7 HL.out hS7 hnC; have HBR7 := Lib.hid hbr7; have HS7 := Lib.hid hS7; clear hbr7 hS7; obtain ⟨q1, q2, q3, q4, q5, q6⟩ := q1)
      | (go_at_call 7; refine (COST.out _ _ _ _ HK.out HOF.out.1 n HOF.out.2 _ hT5).mono ?_; rintro e w6 ⟨rfl, hb6⟩; have hB6 := bsa hB5 hb6)
      | (go_at_call 10; refine (OPT.out _ (HS.out.later hB4)).mono ?_; rintro e w5 ⟨A5, c5, rfl, hT5, _, _, hb5⟩; have hB5 := bsa hB4 hb5)
      | (go_at_call 9; refine (EXP.out _ _ _ _ HLL.out HFL.out _ ((hT1.later hb2).later hb3)).mono ?_; rintro e w4 ⟨A4, c4, rfl, hE4, _, _, hb4⟩; have hB4 := bsa hB3 hb4)
      | (go_at_call 8; refine (ENC.out _ _ _ _ HLL.out HFL.out _ (hT1.later hb2)).mono ?_; rintro e w3 ⟨A3, c3, D, rfl, hD3, hbr, _, _, hb3⟩; have hB3 := bsa hB2 hb3; obtain ⟨L, hL⟩ : ∃ L, D.length = L := ⟨_, rfl⟩; rw [hL]; have HBR := Lib.hid hbr; have HL := Lib.hid hL; clear hbr hL)
      | (go_at_call 7; refine (COST.out _ _ _ _ HLL.out HFL.out _ HC.out _ hT1).mono ?_; rintro e w2 ⟨rfl, hb2⟩; have hB2 := bsa hb1 hb2)
      | (go_at_call 6; refine CF.out.mono ?_; rintro e w1 ⟨A1, c1, k1, l, rfl, hl, hF, hT1, _, _, hb1⟩; obtain ⟨C, hC⟩ : ∃ C, cost l = C := ⟨_, rfl⟩; have hnC := LEAST.out l hF; rw [hC] at hnC; have HLL := Lib.hid hl; have HFL := Lib.hid hF; have HC := Lib.hid hC; clear hl hF hC))
    go_ret
    exact ⟨rfl, hBA⟩
  · clear hS hS'
    have hb0 := Below.refl w.heap.size w
    by_cases h1 : N ≤ 60
    · have v1 : ¬ (60 : Int) < (N : Int) := by omega
      have v2 : (60 : Int) < (p : Int) := by omega
      go_enter Try.func3, Try.ntmps3
      go_wp2_with (go_at_call 5; refine (CP.out _).mono ?_; rintro e wA ⟨rfl, hbA⟩)
      go_ret
      exact ⟨rfl, hbA⟩
    · have v1 : (60 : Int) < (N : Int) := by omega
      go_enter Try.func3, Try.ntmps3
      go_wp2_with (go_at_call 5; refine (CP.out _).mono ?_; rintro e wA ⟨rfl, hbA⟩)
      go_ret
      exact ⟨rfl, hbA⟩
end Go.Proofs.Ytfahfbkkgcekgaa.H
