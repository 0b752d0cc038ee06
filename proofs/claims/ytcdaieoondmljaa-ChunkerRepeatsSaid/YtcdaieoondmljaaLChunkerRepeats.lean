import Derived.Test.YtcdaieoondmljaaU5
import Derived.Deep.RegionHeld3
namespace Go.Proofs.Ytcdaieoondmljaa.H
set_option linter.unusedVariables false
open Go Go.RowKit Go.Proofs.Ytcdaieoondmljaa Go.Proofs.Ytcdaieoondmljaa.W Go.Proofs.Ytcdaieoondmljaa.M

set_option maxRecDepth 100000 in
set_option maxHeartbeats 4000000 in
theorem repeats_walk (le us mo wi : Int) (A : Option Addr) (c : Nat) (b : List UInt8) (w : World) (_h1 : -9223372036854775808 ≤ le) (_h2 : le ≤ 9223372036854775807) (_h3 : -9223372036854775808 ≤ us) (_h4 : us ≤ 9223372036854775807) (_h5 : -9223372036854775808 ≤ mo) (_h6 : mo ≤ 9223372036854775807) (_h7 : -9223372036854775808 ≤ wi) (_h8 : wi ≤ 9223372036854775807)
    (h : Sl u8 w w.heap.size A b) (hc : b.length ≤ c) (hm : c ≤ maxLen) :
    Calls Try.prog 10 #[.agg #[.int .i64 le, .int .i64 us, .int .i64 mo, .int .i64 wi], .slice A b.length c] w fun e w' => e = .returned (.bool true) ∧ Below w.heap.size w w' := by
  have hmx : b.length ≤ 9223372036854775807 := by unfold maxLen at hm; omega
  obtain ⟨N, hn⟩ : ∃ n, b.length = n := ⟨_, rfl⟩
  rw [hn] at hc hmx ⊢
  have hB0 : Below w.heap.size w (w.alloc (.cells #[.int .i64 le, .int .i64 us, .int .i64 mo, .int .i64 wi] 23)) := (Below.refl _ _).alloc (Nat.le_refl _) _
  have hk0 : Blk (w.alloc (.cells #[.int .i64 le, .int .i64 us, .int .i64 mo, .int .i64 wi] 23)) w.heap.size 23 #[.int .i64 le, .int .i64 us, .int .i64 mo, .int .i64 wi] := Blk.new _ _ _
  obtain ⟨ck, hck⟩ : ∃ ck, chkC le us mo wi = ck := ⟨_, rfl⟩
  have E1 : Hid (∀ W, Calls Try.prog 15 #[.agg #[.int .i64 le, .int .i64 us, .int .i64 mo, .int .i64 wi]] W fun e w' => e = .returned (.int .i64 ck) ∧ Below W.heap.size W w') := Lib.hid fun W => by rw [← hck]; exact Check_ok le us mo wi W
  have e0 := hk0.cell 0
  have e1 := hk0.cell 1
  have e2 := hk0.cell 2
  have e3 := hk0.cell 3
  by_cases h5 : N > 120
  · have h5' : decide ((120 : Int) < (N : Int)) = true := by simp; omega
    clear hm hn h5 _h1 _h2 _h3 _h4 _h5 _h6 _h7 _h8 hck
    go_enter Try.func10, Try.ntmps10
    go_wp2_with (go_at_call 11; refine (awake_any _).mono ?_; rintro e w1 ⟨rfl, hb1⟩)
    go_ret
    exact ⟨rfl, bsa hB0 hB0.size hb1⟩
  · have h5' : decide ((120 : Int) < (N : Int)) = false := by simp; omega
    by_cases hck0 : ck = 0
    · subst hck0
      obtain ⟨le', us', mo', wi', rfl, rfl, rfl, rfl, hg⟩ := chk_nat hck
      obtain ⟨q1, q2, q3⟩ := repeats_law hg b N hn
      have hl2 : (b ++ b).length = 2 * N := by rw [List.length_append, hn]; omega
      have hfl := frs_len hg b
      rw [hn] at hfl
      have S1 : Hid (∀ W, Below w.heap.size w W → ShareAt le' us' mo' wi' 21 A N c A N c N 0 W) := Lib.hid fun W hW => share_ok hg hck hn hc (by omega) hn hc (by omega) q1 (h.later hW) (h.later hW)
      obtain ⟨S, hS⟩ : ∃ S, shr b (b ++ b) (frs' le' us' mo' wi' b) (frs' le' us' mo' wi' (b ++ b)) = S := ⟨_, rfl⟩
      have S2 : Hid (∀ W A3 c3, Below w.heap.size w W → Sl u8 W W.heap.size A3 (b ++ b) → 2 * N ≤ c3 → ShareAt le' us' mo' wi' 21 A N c A3 (2 * N) c3 S 0 W) := Lib.hid fun W A3 c3 hW h3 hc3 => share_ok hg hck hn hc (by omega) hl2 hc3 (by omega) hS (h.later hW) h3
      rw [hS] at q2 q3
      obtain ⟨l, hl⟩ : ∃ l, frs' le' us' mo' wi' b = l := ⟨_, rfl⟩
      rw [hl] at q3 hfl
      obtain ⟨n, hln⟩ : ∃ n, l.length = n := ⟨_, rfl⟩
      rw [hln] at q3 hfl
      have D1 : Hid (∀ W, Below w.heap.size w W → Splits le' us' mo' wi' 12 A N c l n 0 W) := Lib.hid fun W hW => Split_ok hg hck A c N b hn (by omega) l n (by rw [← hl]; unfold frs'; rw [hn]) hln W _ (h.later hW)
      have D2 : Hid (∀ (W : World) (g : Nat), g = W.heap.size → Below w.heap.size w W → Calls Try.prog 23 #[.slice (some ⟨g, 0, none⟩) 2 2] (W.alloc (.cells #[.slice A N c, .slice A N c] 24)) fun e w' => ∃ A'' c'', e = .returned (.slice A'' (2 * N) c'') ∧ Sl u8 w' w'.heap.size A'' (b ++ b) ∧ 2 * N ≤ c'' ∧ c'' ≤ maxLen ∧ Below W.heap.size W w') := Lib.hid fun W g hgW hW => by
        subst hgW; exact Concat2 hn hn (by omega) (by omega) (h.later hW) (h.later hW)
      have HLN := Lib.hid hln
      have Q3 := Lib.hid q3
      clear hm hn _h1 _h2 _h3 _h4 _h5 _h6 _h7 _h8 hck hl hln hg hl2 q1 q3 hS h
      go_enter Try.func10, Try.ntmps10
      go_wp2_with (first
        | (go_at_call 15; refine (E1.out _).mono ?_; rintro e w1 ⟨rfl, hb1⟩; have hB1 := bsa hB0 hB0.size hb1; have hk1 := hk0.later hb1; have d0 := hk1.cell 0; have d1 := hk1.cell 1; have d2 := hk1.cell 2; have d3 := hk1.cell 3)
        | (go_at_call 21; refine (S1.out _ hB1).mono ?_; clear S1; rintro e w2 ⟨rfl, hb2⟩; have hB2 := bsa hB1 hB1.size hb2; have hk2 := hk1.later hb2; have f0 := hk2.cell 0; have f1 := hk2.cell 1; have f2 := hk2.cell 2; have f3 := hk2.cell 3)
        | (go_at_call 12; refine (D1.out _ hB2).mono ?_; clear D1; rintro e w3 ⟨A3, c3, rfl, t3, hc3, hb3⟩; have hB3 := bsa hB2 hB2.size hb3; have hk3 := hk2.later hb3))
      have hH : Below w3.heap.size w3 w3.drew := (Below.refl _ _).drew
      have KEEP : Hid (∀ W, Below w3.heap.size w3 W → (W.cell? ⟨w.heap.size, 0, none⟩ = some (.int .i64 (le' : Int)) ∧ W.cell? ⟨w.heap.size, 1, none⟩ = some (.int .i64 (us' : Int)) ∧ W.cell? ⟨w.heap.size, 2, none⟩ = some (.int .i64 (mo' : Int)) ∧ W.cell? ⟨w.heap.size, 3, none⟩ = some (.int .i64 (wi' : Int)))) := Lib.hid fun W hW => ⟨(hk3.later hW).cell 0, (hk3.later hW).cell 1, (hk3.later hW).cell 2, (hk3.later hW).cell 3⟩
      have HT3 := Lib.hid t3
      clear hk3 hk2 hk1 hk0 d0 d1 d2 d3 e0 e1 e2 e3 f0 f1 f2 f3 hB1 hB0 hB2 hb1 hb2 hb3 E1 t3
      go_region_held3 (fun W => W.cell? ⟨w.heap.size, 0, none⟩ = some (.int .i64 (le' : Int)) ∧ W.cell? ⟨w.heap.size, 1, none⟩ = some (.int .i64 (us' : Int)) ∧ W.cell? ⟨w.heap.size, 2, none⟩ = some (.int .i64 (mo' : Int)) ∧ W.cell? ⟨w.heap.size, 3, none⟩ = some (.int .i64 (wi' : Int)))
        (first | exact KEEP.out _ hH | exact KEEP.out _ (hH.alloc hH.size _))
        (first
        | (go_at_call 23; refine (D2.out _ _ (by simp) (bsa hB3 hB3.size hH)).mono ?_; rintro e w4 ⟨A4, c4, rfl, t4, hc4, _, hb4⟩; have hH := bsa hH hH.size hb4)
        | (go_at_call 21; refine (S2.out _ _ _ (bsa hB3 hB3.size hH) t4 hc4).mono ?_; rintro e w5 ⟨rfl, hb5⟩; have hH := bsa hH hH.size hb5))
      have hB5 := bsa hB3 hB3.size hH
      have t5 := SlE.later HT3.out hH
      clear KEEP D2 S2 HT3 hH hb4 hb5 t4 hB3
      by_cases h0 : n = 0
      · have hn0 : ((n : Int) == 0) = true := by rw [beq_iff_eq]; omega
        clear Q3 t5 h0
        go_wp2_with (go_at_call 11; refine (awake_any _).mono ?_; rintro e w9 ⟨rfl, hb9⟩)
        go_ret
        exact ⟨rfl, bsa hB5 hB5.size hb9⟩
      · obtain ⟨x, hx, hx1, hx2⟩ := Q3.out h0
        obtain ⟨k, hk⟩ : ∃ k, n - 1 = k := ⟨_, rfl⟩
        rw [hk] at hx
        obtain ⟨b0, o0, x', rfl, _, hx', g0, g1⟩ := t5.at_ (i := k) (by rw [HLN.out]; omega)
        obtain rfl : x = x' := by rw [hx] at hx'; injection hx'
        obtain ⟨y1, y2⟩ := x
        replace g1 : w5.cell? ⟨b0, o0 + k * 2 + 1, none⟩ = some (.int .i64 (y2 : Int)) := g1
        replace hx1 : y2 ≤ N := hx1
        replace hx2 : N - y2 ≤ S := hx2
        have hn0 : ((n : Int) == 0) = false := by rw [beq_eq_false_iff_ne]; omega
        have hn1 : IntKind.i64.wrap ((n : Int) - 1) = (k : Int) := by rw [IntKind.wrap_i64]; omega
        have hn2 : (n : Int) - 1 = (k : Int) := by omega
        have hn3 : IntKind.i64.wrap (k : Int) = (k : Int) := by rw [IntKind.wrap_i64]; omega
        have hk0 : (0 : Int) ≤ (k : Int) := by omega
        have hkn : (k : Int) < (n : Int) := by omega
        have hw1 : IntKind.i64.wrap ((N : Int) - (y2 : Int)) = (N : Int) - (y2 : Int) := by rw [IntKind.wrap_i64]; omega
        have hw2 : IntKind.i64.wrap (2 * (N : Int)) = 2 * (N : Int) := by rw [IntKind.wrap_i64]; omega
        have hc1 : decide ((N : Int) - (y2 : Int) ≤ (S : Int)) = true := by rw [decide_eq_true_iff]; omega
        have hc2 : decide ((S : Int) ≤ 2 * (N : Int)) = true := by rw [decide_eq_true_iff]; omega
        clear Q3 t5 h0 hx hx' hx1 hx2 HLN
        go_wp2_with (go_at_call 11; refine (awake_any _).mono ?_; rintro e w9 ⟨rfl, hb9⟩)
        go_ret
        exact ⟨rfl, bsa hB5 hB5.size hb9⟩
    · have hck1 : (ck == 0) = false := by rw [beq_eq_false_iff_ne]; exact hck0
      clear hm hn h5 _h1 _h2 _h3 _h4 _h5 _h6 _h7 _h8 hck hck0
      go_enter Try.func10, Try.ntmps10
      go_wp2_with (first
        | (go_at_call 15; refine (E1.out _).mono ?_; rintro e w1 ⟨rfl, hb1⟩; have hB1 := bsa hB0 hB0.size hb1)
        | (go_at_call 11; refine (awake_any _).mono ?_; rintro e w2 ⟨rfl, hb2⟩; have hB2 := bsa hB1 hB1.size hb2))
      go_ret
      exact ⟨rfl, hB2⟩
end Go.Proofs.Ytcdaieoondmljaa.H
