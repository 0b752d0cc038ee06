import Derived.Test.YtlbghmocbklmdaaLRollingJoins
import Derived.Deep.RegionHeld3
namespace Go.Proofs.Ytlbghmocbklmdaa.H
set_option linter.unusedVariables false
open Go Go.RowKit Go.Proofs.Ytlbghmocbklmdaa Go.Proofs.Ytlbghmocbklmdaa.W Go.Proofs.Ytlbghmocbklmdaa.M

theorem win_len (b : Bs) (k i : Nat) : (win b k i).length ≤ k := by unfold win; rw [List.length_drop, List.length_take]; omega
theorem win_roll {b : Bs} {k i : Nat} {x : UInt8} (hk : 1 ≤ k) (hx : b[i]? = some x) : rollL k (win b k i) x = win b k (i + 1) := by
  have hi := (List.getElem?_eq_some_iff.1 hx).1
  unfold rollL
  by_cases h : i < k
  · have hl : (win b k i).length = i := by unfold win; rw [List.length_drop, List.length_take]; omega
    rw [hl, if_neg (by omega), win_short hx h]
  · obtain ⟨y, hy⟩ : ∃ y, b[i - k]? = some y := ⟨_, List.getElem?_eq_getElem (by omega)⟩
    obtain ⟨r, h1, h2, h3⟩ := win_full hx (by omega) hk hy
    rw [h1, h2, List.length_cons, if_pos (by omega)]; rfl
theorem win_chk {b : Bs} {k i : Nat} (h1 : 1 ≤ k) (h2 : k ≤ 64) : chk (k : Int) (win b k i) (hsh (win b k i)) = 0 := by
  have := win_len b k i
  unfold chk; rw [if_neg (by omega), if_neg (by omega), if_neg (by simp)]

set_option maxRecDepth 100000 in
set_option maxHeartbeats 8000000 in
theorem window_walk (A : Option Addr) (c : Nat) (x : List UInt8) (A' : Option Addr) (c' : Nat) (y : List UInt8) (u : UInt8) (w : World) (h : Sl u8 w w.heap.size A x) (hc : x.length ≤ c) (hm : c ≤ maxLen) (h' : Sl u8 w w.heap.size A' y) (hc' : y.length ≤ c') (hm' : c' ≤ maxLen) :
    Calls Try.prog 7 #[.slice A x.length c, .slice A' y.length c', .int .u8 (u.toNat : Int)] w fun e w' => e = .returned (.bool true) ∧ Below w.heap.size w w' := by
  have hmx : x.length ≤ 9223372036854775807 := by unfold maxLen at hm; omega
  have hmy : y.length ≤ 9223372036854775807 := by unfold maxLen at hm'; omega
  obtain ⟨n, hn⟩ : ∃ n, x.length = n := ⟨_, rfl⟩
  obtain ⟨m, hmm⟩ : ∃ m, y.length = m := ⟨_, rfl⟩
  rw [hn] at hc hmx ⊢
  rw [hmm] at hc' hmy ⊢
  have HN := Lib.hid hn
  have HM := Lib.hid hmm
  have hul := lt256 u
  have hu0 := ge0 u
  obtain ⟨k, hk⟩ : ∃ k : Nat, u.toNat % 64 + 1 = k := ⟨_, rfl⟩
  have hku : (u.toNat : Int) % 64 + 1 = (k : Int) := by omega
  have hk1 : 1 ≤ k := by omega
  have hk2 : k ≤ 64 := by omega
  clear hm hm' hn hmm hk
  by_cases h5 : n > 100 ∨ m > 100
  · have hd : n > 100 ∨ (¬ n > 100 ∧ m > 100) := by omega
    clear h5
    go_enter Try.func7, Try.ntmps7
    rcases hd with g1 | ⟨g1, g2⟩
    all_goals
      go_wp2_with (go_at_call 10; refine (awake_any _).mono ?_; rintro e w1 ⟨rfl, hb1⟩)
      go_ret
      exact ⟨rfl, hb1⟩
  · have g1 : ¬ n > 100 := by omega
    have g2 : ¬ m > 100 := by omega
    obtain ⟨N, hN⟩ : ∃ N, n + m = N := ⟨_, rfl⟩
    obtain ⟨all, hall⟩ : ∃ l, x ++ y = l := ⟨_, rfl⟩
    have HA : Hid (all.length = N) := Lib.hid (by rw [← hall, List.length_append, HN.out, HM.out, hN])
    have hN2 : N ≤ 200 := by omega
    have D1 : Hid (∀ W, Calls Try.prog 11 #[.int .i64 (k : Int)] W fun e w' => e = .returned (.tuple #[.agg #[.int .i64 (k : Int), .slice none 0 0, .int .u32 0], .int .i64 0]) ∧ Below W.heap.size W w') := Lib.hid fun W => New_ok (k : Int) (by omega) (by omega) W
    have D2 : Hid (∀ (W : World) (g : Nat), g = W.heap.size → Below w.heap.size w W → Calls Try.prog 26 #[.slice (some ⟨g, 0, none⟩) 2 2] (W.alloc (.cells #[.slice A n c, .slice A' m c'] 22)) fun e w' => ∃ A'' c'', e = .returned (.slice A'' N c'') ∧ Sl u8 w' w'.heap.size A'' all ∧ N ≤ c'' ∧ c'' ≤ maxLen ∧ Below W.heap.size W w') :=
      Lib.hid fun W g hg hW => by rw [← hall, hg]; exact Concat2 HN.out HM.out hN (by omega) (h.later hW) (h'.later hW)
    clear h5 hN hall
    go_enter Try.func7, Try.ntmps7
    go_wp2_with (first
      | (go_at_call 11; refine (D1.out _).mono ?_; clear D1; rintro e w1 ⟨rfl, hb1⟩; have hB1 := hb1.alloc hb1.size (.cells #[.int .i64 (k : Int), .slice none 0 0, .int .u32 0] 26); have hk1' : Blk (w1.alloc (.cells #[.int .i64 (k : Int), .slice none 0 0, .int .u32 0] 26)) w1.heap.size 26 #[.int .i64 (k : Int), .slice none 0 0, .int .u32 0] := Blk.new _ _ _)
      | (go_at_call 26; refine (D2.out _ _ (by simp) hB1).mono ?_; rintro e w2 ⟨A2, c2, rfl, t2, _, _, hb2⟩; have hB2 := bsa hB1 hB1.size hb2; have hk2' := hk1'.later hb2))
    obtain ⟨B1, hB1e⟩ : ∃ B1, w1.heap.size = B1 := ⟨_, rfl⟩
    have hwB : w.heap.size ≤ B1 := by rw [← hB1e]; exact hb1.size
    rw [hB1e] at hk2' ⊢
    clear hB1e hk1' hb1 hb2 hB1
    go_loopw [39] (fun iv wm => ∃ (i q : Nat) (Ar : Option Addr) (cr : Nat), i ≤ N ∧ iv = .int .i64 (i : Int) ∧ Hid ((win all k i).length = q) ∧ Blk wm B1 26 #[.int .i64 (k : Int), .slice Ar q cr, .int .u32 ((hsh (win all k i)).toNat : Int)] ∧ Sl u8 wm wm.heap.size Ar (win all k i) ∧ q ≤ cr ∧ Sl u8 wm wm.heap.size A2 all ∧ Below w.heap.size w wm) (fun iv _ => N - (intOf iv).toNat)
    case atStart => exact ⟨0, 0, none, 0, Nat.zero_le _, rfl, Lib.hid (by rw [win_zero]; rfl), by rw [win_zero]; exact hk2', by rw [win_zero]; exact Sl.nil, Nat.le_refl _, t2, hB2⟩
    case round =>
      obtain ⟨i, q, Ar, cr, hi, rfl, hq, hkm, hS, hcr, hA, hB⟩ := hrel
      obtain ⟨j0, j1, j2, f0, f1, f2⟩ := three hkm
      by_cases hlt : i < N
      · obtain ⟨b0, q0, z, rfl, _, hz, hcz⟩ := hA.byte (j := i) (by rw [HA.out]; exact hlt)
        obtain ⟨q', hq'⟩ : ∃ q', (win all k (i + 1)).length = q' := ⟨_, rfl⟩
        have C : Hid (Calls Try.prog 18 #[.agg #[.int .i64 (k : Int), .slice Ar q cr, .int .u32 ((hsh (win all k i)).toNat : Int)], .int .u8 (z.toNat : Int)] wr fun e w' => ∃ A' c', e = .returned (.tuple #[.agg #[.int .i64 (k : Int), .slice A' q' c', .int .u32 ((hsh (win all k (i + 1))).toNat : Int)], .int .i64 0]) ∧ Sl u8 w' w'.heap.size A' (win all k (i + 1)) ∧ q' ≤ c' ∧ c' ≤ maxLen ∧ Below wr.heap.size wr w') :=
          Lib.hid (Roll_any k Ar q cr (win all k i) (win all k (i + 1)) _ z (win_chk hk1 hk2) hq.out (win_roll hk1 hz) q' hq' wr _ hS hcr)
        have HQ := Lib.hid hq'
        obtain ⟨H1, hH1⟩ : ∃ H1, hsh (win all k i) = H1 := ⟨_, rfl⟩
        obtain ⟨H2, hH2⟩ : ∃ H2, hsh (win all k (i + 1)) = H2 := ⟨_, rfl⟩
        have HH2 := Lib.hid hH2
        rw [hH1] at j2 C hkm
        rw [hH2] at C
        clear hz hq' hH1 hH2
        go_wp2_with (go_at_call 18; refine C.out.mono ?_; rintro e w5 ⟨A5, c5, rfl, t5, h5, _, hb5⟩; have hk5 := (hkm.later hb5).alloc (.cells #[.int .i64 (k : Int), .slice A5 q' c5, .int .u32 (H2.toNat : Int)] 26); obtain ⟨k0, k1, k2, e0, e1, e2⟩ := three hk5; have hbn : ¬ B1 = w5.heap.size := Nat.ne_of_lt (hkm.later hb5).lt)
        have hB5 := bsa hB hB.size hb5
        go_roundw
        case rel => exact ⟨i + 1, q', A5, c5, by omega, by go_num, HQ, by rw [HH2.out]; exact put3 hk5 _ _ _, (Sl.put3 (t5.alloc (Nat.le_refl _) _) (by intro x e; unfold u8 at e; cases e) hk5 _ _ _).lt, h5, (Sl.put3 ((hA.later hb5).alloc (Nat.le_refl _) _) (by intro x e; unfold u8 at e; cases e) hk5 _ _ _).lt, put3_below (hB5.alloc hB5.size _) hwB _ _ _⟩
        case measure => simp [intOf]; omega
      · obtain rfl : i = N := by omega
        obtain ⟨H1, hH1⟩ : ∃ H1, hsh (win all k i) = H1 := ⟨_, rfl⟩
        rw [hH1] at j2 hkm
        obtain ⟨L, hL⟩ : ∃ L, win all k i = L := ⟨_, rfl⟩
        have HW := Lib.hid hL
        rw [hL] at hH1 hq hS
        have hcase : (∃ p : Nat, (i : Int) - (k : Int) = (p : Int) ∧ 0 < p ∧ i - k = p ∧ k < i) ∨ (i ≤ k ∧ ∃ d : Int, (i : Int) - (k : Int) = d ∧ d ≤ 0 ∧ ¬ 0 < d) := by
          by_cases hki : k < i
          · exact .inl ⟨i - k, by omega, by omega, rfl, hki⟩
          · exact .inr ⟨by omega, _, rfl, by omega, by omega⟩
        have HH1 : Hid (hsh (win all k i) = H1) := Lib.hid (by rw [HW.out]; exact hH1)
        clear hL hH1
        rcases hcase with ⟨p, hp1, hp2, hp3, hp4⟩ | ⟨hp1, d, hp2, hp3, hp4⟩
        · have hp5 : i - p = k := by omega
          have hpi : p ≤ i := by omega
          go_wp2_with (go_at_call 26; refine (D2.out _ _ rfl hB).mono ?_; rintro e w5 ⟨A5, c5, rfl, t5, h5, _, hb5⟩; have hB5 := bsa hB hB.size hb5; have hk5 := hkm.later hb5; have hS5 := hS.later hb5; obtain ⟨b5, o5, rfl, hbl5, hcs5⟩ := t5.open_ (by rw [HA.out]; omega); have hT5 := win_sl (k := k) (i := i) hp3 hbl5 hcs5; rw [HW.out] at hT5; have HT5 := Lib.hid hT5; have hcp : ¬ c5 = p := (by omega); have hcp2 : p ≤ c5 := (by omega); clear hcs5 hT5)
          have hqk : k = q := by rw [← hq.out, ← HW.out, win_length (by omega) (by rw [HA.out]; exact Nat.le_refl _)]
          subst hqk
          have E1 : Hid (∀ W, Below w5.heap.size w5 W → Calls Try.prog 27 #[.slice Ar k cr, .slice (some ⟨b5, o5 + p, none⟩) k (c5 - p)] W fun e w' => e = .returned (.bool true) ∧ Below W.heap.size W w') := Lib.hid fun W hW => equalB_same hq.out (by omega) (hS5.later hW) (HT5.out.later hW)
          have E2 : Hid (∀ W, Below w5.heap.size w5 W → Calls Try.prog 15 #[.slice (some ⟨b5, o5 + p, none⟩) k (c5 - p)] W fun e w' => e = .returned (.int .u32 (H1.toNat : Int)) ∧ Below W.heap.size W w') := Lib.hid fun W hW => hash_g hq.out (by omega) (HW.out ▸ HH1.out) (HT5.out.later hW)
          have E3 : Hid (∀ W, Below w5.heap.size w5 W → Calls Try.prog 20 #[.agg #[.int .i64 (k : Int), .slice Ar k cr, .int .u32 (H1.toNat : Int)]] W fun e w' => e = .returned (.int .i64 0) ∧ Below W.heap.size W w') := Lib.hid fun W hW => by
            have := Check_ok (k : Int) Ar k cr L H1 hq.out W _ (hS5.later hW)
            rw [← HW.out, ← HH1.out, win_chk hk1 hk2, HH1.out] at this
            exact this
          have hH : Below w5.heap.size w5 w5.drew := (Below.refl _ _).drew
          have KEEP : Hid (∀ W, Below w5.heap.size w5 W → (W.cell? ⟨B1, 0, none⟩ = some (.int .i64 (k : Int)) ∧ W.cell? ⟨B1, 1, none⟩ = some (.slice Ar k cr) ∧ W.cell? ⟨B1, 2, none⟩ = some (.int .u32 (H1.toNat : Int)))) := Lib.hid fun W hW => ⟨(hk5.later hW).cell 0, (hk5.later hW).cell 1, (hk5.later hW).cell 2⟩
          clear hkm j0 j1 j2 f0 f1 f2 hA hS t2 hB hb5 hB2 hk2'
          go_region_held3 (fun W => W.cell? ⟨B1, 0, none⟩ = some (.int .i64 (k : Int)) ∧ W.cell? ⟨B1, 1, none⟩ = some (.slice Ar k cr) ∧ W.cell? ⟨B1, 2, none⟩ = some (.int .u32 (H1.toNat : Int))) ((exact KEEP.out _ hH))
            (first
            | (go_at_call 27; refine (E1.out _ hH).mono ?_; rintro e w6 ⟨rfl, hb6⟩; have hH := bsa hH hH.size hb6)
            | (go_at_call 15; refine (E2.out _ hH).mono ?_; rintro e w7 ⟨rfl, hb7⟩; have hH := bsa hH hH.size hb7)
            | (go_at_call 20; refine (E3.out _ hH).mono ?_; rintro e w8 ⟨rfl, hb8⟩; have hH := bsa hH hH.size hb8)
            | (go_at_call 10; refine (awake_any _).mono ?_; rintro e w9 ⟨rfl, hb9⟩; have hH := bsa hH hH.size hb9))
          all_goals go_wp2
          all_goals go_ret
          all_goals exact ⟨rfl, bsa hB5 hB5.size hH⟩
        · go_wp2_with (go_at_call 26; refine (D2.out _ _ rfl hB).mono ?_; rintro e w5 ⟨A5, c5, rfl, t5, h5, _, hb5⟩; have hB5 := bsa hB hB.size hb5; have hk5 := hkm.later hb5; have hS5 := hS.later hb5)
          have hLall : L = all := by
            rw [← HW.out]; unfold win
            rw [show i - k = 0 by omega, List.drop_zero, List.take_of_length_le (by rw [HA.out]; exact Nat.le_refl _)]
          have hqi : i = q := by rw [← hq.out, hLall, HA.out]
          have hT5 : Sl u8 w5 w5.heap.size A5 L := by rw [hLall]; exact t5
          have HT5 := Lib.hid hT5
          clear hT5 hLall
          subst hqi
          have E1 : Hid (∀ W, Below w5.heap.size w5 W → Calls Try.prog 27 #[.slice Ar i cr, .slice A5 i c5] W fun e w' => e = .returned (.bool true) ∧ Below W.heap.size W w') := Lib.hid fun W hW => equalB_same hq.out (by omega) (hS5.later hW) (HT5.out.later hW)
          have E2 : Hid (∀ W, Below w5.heap.size w5 W → Calls Try.prog 15 #[.slice A5 i c5] W fun e w' => e = .returned (.int .u32 (H1.toNat : Int)) ∧ Below W.heap.size W w') := Lib.hid fun W hW => hash_g hq.out (by omega) (HW.out ▸ HH1.out) (HT5.out.later hW)
          have E3 : Hid (∀ W, Below w5.heap.size w5 W → Calls Try.prog 20 #[.agg #[.int .i64 (k : Int), .slice Ar i cr, .int .u32 (H1.toNat : Int)]] W fun e w' => e = .returned (.int .i64 0) ∧ Below W.heap.size W w') := Lib.hid fun W hW => by
            have := Check_ok (k : Int) Ar i cr L H1 hq.out W _ (hS5.later hW)
            rw [← HW.out, ← HH1.out, win_chk hk1 hk2, HH1.out] at this
            exact this
          have hH : Below w5.heap.size w5 w5.drew := (Below.refl _ _).drew
          have KEEP : Hid (∀ W, Below w5.heap.size w5 W → (W.cell? ⟨B1, 0, none⟩ = some (.int .i64 (k : Int)) ∧ W.cell? ⟨B1, 1, none⟩ = some (.slice Ar i cr) ∧ W.cell? ⟨B1, 2, none⟩ = some (.int .u32 (H1.toNat : Int)))) := Lib.hid fun W hW => ⟨(hk5.later hW).cell 0, (hk5.later hW).cell 1, (hk5.later hW).cell 2⟩
          clear hkm j0 j1 j2 f0 f1 f2 hA hS t2 hB hb5 hB2 hk2'
          go_region_held3 (fun W => W.cell? ⟨B1, 0, none⟩ = some (.int .i64 (k : Int)) ∧ W.cell? ⟨B1, 1, none⟩ = some (.slice Ar i cr) ∧ W.cell? ⟨B1, 2, none⟩ = some (.int .u32 (H1.toNat : Int))) ((exact KEEP.out _ hH))
            (first
            | (go_at_call 27; refine (E1.out _ hH).mono ?_; rintro e w6 ⟨rfl, hb6⟩; have hH := bsa hH hH.size hb6)
            | (go_at_call 15; refine (E2.out _ hH).mono ?_; rintro e w7 ⟨rfl, hb7⟩; have hH := bsa hH hH.size hb7)
            | (go_at_call 20; refine (E3.out _ hH).mono ?_; rintro e w8 ⟨rfl, hb8⟩; have hH := bsa hH hH.size hb8)
            | (go_at_call 10; refine (awake_any _).mono ?_; rintro e w9 ⟨rfl, hb9⟩; have hH := bsa hH hH.size hb9))
          all_goals go_wp2
          all_goals go_ret
          all_goals exact ⟨rfl, bsa hB5 hB5.size hH⟩
end Go.Proofs.Ytlbghmocbklmdaa.H
