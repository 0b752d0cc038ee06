import Derived.Test.YtcdaieoondmljaaLChunkerCovers
namespace Go.Proofs.Ytcdaieoondmljaa.H
set_option linter.unusedVariables false
open Go Go.RowKit Go.Proofs.Ytcdaieoondmljaa Go.Proofs.Ytcdaieoondmljaa.W Go.Proofs.Ytcdaieoondmljaa.M

theorem chk_pow {le us mo wi : Int} (h : chkC le us mo wi = 0) : isPow us = true := by
  unfold chkC at h
  split at h
  · cases h
  · split at h
    · assumption
    · cases h
theorem mod_msk {us : Nat} (hp : isPow (us : Int) = true) (h : R) : h.toNat % us = (h &&& msk us).toNat := by
  have hb := isPow_bd hp
  obtain ⟨j, hj, e⟩ := isPow_iff.1 hp
  have e' : us = 2 ^ (j + 1) := Int.ofNat.inj e
  rw [BitVec.toNat_and, msk_nat (by omega), e', Nat.and_two_pow_sub_one_eq_mod]
theorem nxt_none {P : List Nat} {le mo N a k : Nat} (h1 : a + le ≤ k) (h2 : k < nxt P le mo N a) (hs : P.Pairwise (· < ·)) : k ∉ P := fun hk => by
  unfold nxt at h2
  split at h2
  · rename_i p hp
    obtain ⟨h4, l1, l2, e, h5⟩ := List.find?_eq_some_iff_append.1 hp
    rw [e, List.mem_append, List.mem_cons] at hk
    rcases hk with hk | hk | hk
    · have := h5 k hk; simp at this; omega
    · omega
    · rw [e] at hs
      have := List.rel_of_pairwise_cons (List.pairwise_append.1 hs).2.1 hk
      omega
  · rename_i hn
    have := List.find?_eq_none.1 hn k hk
    simp at this; omega
theorem nxt_why {P : List Nat} {le mo N a : Nat} (h1 : nxt P le mo N a < N) (h2 : nxt P le mo N a < a + mo) : nxt P le mo N a ∈ P := by
  cases hf : P.find? (fun p => decide (a + le ≤ p)) with
  | none =>
    have e : nxt P le mo N a = min (a + mo) N := by unfold nxt; rw [hf]
    omega
  | some p =>
    have e : nxt P le mo N a = min p (min (a + mo) N) := by unfold nxt; rw [hf]
    rw [e] at h1 h2 ⊢
    rw [show min p (min (a + mo) N) = p by omega]
    exact List.mem_of_find?_eq_some hf

set_option maxRecDepth 100000 in
set_option maxHeartbeats 2000000 in
theorem possible_ok {le us mo wi : Nat} (hg : Fine le us mo wi) (hp : isPow (us : Int) = true) (A : Option Addr) (c N i : Nat) (b : Bs) (hlb : b.length = N) (hc : N ≤ c) (hlen : N ≤ 65536) (h1 : wi ≤ i) (h2 : i ≤ N) (gb gc : Nat) (t : Bool) (ht : t = true ↔ i ∈ places b wi (msk us)) (w : World) (B : Nat) (h : Sl u8 w B A b)
    (hb : w.cell? ⟨gb, 0, none⟩ = some (.slice A N c)) (c1 : w.cell? ⟨gc, 1, none⟩ = some (.int .i64 (us : Int))) (c3 : w.cell? ⟨gc, 3, none⟩ = some (.int .i64 (wi : Int))) :
    Calls Try.prog 16 #[.int .i64 (i : Int), .pointer (some ⟨gb, 0, none⟩), .pointer (some ⟨gc, 0, none⟩)] w fun e w' => e = .returned (.bool t) ∧ ∃ q, w' = w.drewN q := by
  obtain ⟨g1, g2, g3, g4, g5, g6, g7⟩ := hg
  obtain ⟨bl, o, hAe, hbl, hcs⟩ := h.open_ (by omega)
  obtain ⟨p, hpe⟩ : ∃ p, i - wi = p := ⟨_, rfl⟩
  have hpi2 : IntKind.i64.wrap ((i : Int) - (wi : Int)) = (p : Int) := by rw [show (i : Int) - (wi : Int) = (p : Int) by omega, IntKind.wrap_i64]; omega
  have hpi3 : (i : Int) - (wi : Int) = (p : Int) := by omega
  have hpw : IntKind.i64.wrap (p : Int) = (p : Int) := by rw [IntKind.wrap_i64]; omega
  have hpc : ¬ c = p := by omega
  have hip : i - p = wi := by omega
  have hpp : (p : Int) ≤ (i : Int) := by omega
  have hpp2 : (i : Int) ≤ (c : Int) := by omega
  have hpp3 : (0 : Int) ≤ (p : Int) := by omega
  have hWn := win_sl (k := wi) (i := i) hpe hbl hcs
  obtain ⟨h', hh'⟩ : ∃ h', h' = hsh (win b wi i) := ⟨_, rfl⟩
  have D : Hid (∀ cc W, (∀ q : Addr, W.cell? q = w.cell? q) → Calls Try.prog 17 #[.slice (some ⟨bl, o + p, none⟩) wi cc] W fun e w' => e = .returned (.int .u32 (h'.toNat : Int)) ∧ w' = W) := Lib.hid fun cc W hW => by rw [hh']; exact rHash_ok _ cc wi _ (win_length h1 (by omega)) (by omega) W _ (hWn.keep fun q _ => hW q)
  obtain ⟨z, hz⟩ : ∃ z, h'.toNat % us = z := ⟨_, rfl⟩
  have hmod : Int.tmod (h'.toNat : Int) (us : Int) = (z : Int) := by rw [← hz]; rfl
  have hmod2 : (h'.toNat : Int) % (us : Int) = (z : Int) := by rw [← hz]; rfl
  have hzt : Hid (((z : Int) == 0) = t) := Lib.hid (by
    rw [Bool.eq_iff_iff, ht, mem_places, beq_iff_eq, ← hh']
    rw [mod_msk hp] at hz
    constructor
    · intro e
      exact ⟨h1, by omega, BitVec.eq_of_toNat_eq (by rw [hz]; simpa using (show z = 0 by omega))⟩
    · rintro ⟨_, _, e⟩
      rw [e] at hz
      simp at hz; omega)
  have hzl : z < us := by rw [← hz]; exact Nat.mod_lt _ (by omega)
  have husw : IntKind.u32.wrap (us : Int) = (us : Int) := wrap_u32 _ (by omega) (by omega)
  have hzw : IntKind.u32.wrap (z : Int) = (z : Int) := wrap_u32 _ (by omega) (by omega)
  have hus0 : ((us : Int) == 0) = false := by rw [beq_eq_false_iff_ne]; omega
  have hus1 : ¬ (us : Int) = 0 := by omega
  have hus2 : ¬ us = 0 := by omega
  subst hAe
  clear hcs hh' hz ht hp hWn hpe h
  go_enter Try.func16, Try.ntmps16
  go_wp2_with fail
  go_quiet ((go_at_call 17; exact Calls.quiet_of_same (D.out _ _ (fun _ => rfl))))
  go_wp2
  go_ret
  exact ⟨ret_bool hzt.out, _, rfl⟩

set_option maxRecDepth 100000 in
set_option maxHeartbeats 4000000 in
theorem cuts_walk (le us mo wi : Int) (A : Option Addr) (c : Nat) (b : List UInt8) (w : World) (_h1 : -9223372036854775808 ≤ le) (_h2 : le ≤ 9223372036854775807) (_h3 : -9223372036854775808 ≤ us) (_h4 : us ≤ 9223372036854775807) (_h5 : -9223372036854775808 ≤ mo) (_h6 : mo ≤ 9223372036854775807) (_h7 : -9223372036854775808 ≤ wi) (_h8 : wi ≤ 9223372036854775807)
    (h : Sl u8 w w.heap.size A b) (hc : b.length ≤ c) (hm : c ≤ maxLen) :
    Calls Try.prog 5 #[.agg #[.int .i64 le, .int .i64 us, .int .i64 mo, .int .i64 wi], .slice A b.length c] w fun e w' => e = .returned (.bool true) ∧ Below w.heap.size w w' := by
  have hmx : b.length ≤ 9223372036854775807 := by unfold maxLen at hm; omega
  obtain ⟨N, hn⟩ : ∃ n, b.length = n := ⟨_, rfl⟩
  rw [hn] at hc hmx ⊢
  have hB0 : Below w.heap.size w ((w.alloc (.cells #[.int .i64 le, .int .i64 us, .int .i64 mo, .int .i64 wi] 23)).alloc (.cells #[.slice A N c] 24)) := ((Below.refl _ _).alloc (Nat.le_refl _) _).alloc (by simp) _
  have hk0 : Blk ((w.alloc (.cells #[.int .i64 le, .int .i64 us, .int .i64 mo, .int .i64 wi] 23)).alloc (.cells #[.slice A N c] 24)) w.heap.size 23 #[.int .i64 le, .int .i64 us, .int .i64 mo, .int .i64 wi] := (Blk.new _ _ _).alloc _
  have hq0 : Blk ((w.alloc (.cells #[.int .i64 le, .int .i64 us, .int .i64 mo, .int .i64 wi] 23)).alloc (.cells #[.slice A N c] 24)) (w.heap.size + 1) 24 #[.slice A N c] := Blk.new' (by simp) _ _
  obtain ⟨ck, hck⟩ : ∃ ck, chkC le us mo wi = ck := ⟨_, rfl⟩
  have E1 : Hid (∀ W, Calls Try.prog 15 #[.agg #[.int .i64 le, .int .i64 us, .int .i64 mo, .int .i64 wi]] W fun e w' => e = .returned (.int .i64 ck) ∧ Below W.heap.size W w') := Lib.hid fun W => by rw [← hck]; exact Check_ok le us mo wi W
  by_cases h5 : N > 200
  · clear hm hn _h1 _h2 _h3 _h4 _h5 _h6 _h7 _h8 hck
    go_enter Try.func5, Try.ntmps5
    go_wp2_with (go_at_call 11; refine (awake_any _).mono ?_; rintro e w1 ⟨rfl, hb1⟩)
    go_ret
    exact ⟨rfl, bsa hB0 hB0.size hb1⟩
  · have h5' : decide ((200 : Int) < (N : Int)) = false := by simp; omega
    by_cases hck0 : ck = 0
    · subst hck0
      have hpow := chk_pow hck
      obtain ⟨le', us', mo', wi', rfl, rfl, rfl, rfl, hg⟩ := chk_nat hck
      obtain ⟨P, hP⟩ : ∃ P, places b wi' (msk us') = P := ⟨_, rfl⟩
      have HS : Hid (P.Pairwise (· < ·)) := Lib.hid (by rw [← hP]; exact places_sorted' b wi' _)
      obtain ⟨f, hf⟩ : ∃ f, nxt P le' mo' N = f := ⟨_, rfl⟩
      obtain ⟨l, hl⟩ : ∃ l, frg f N 0 = l := ⟨_, rfl⟩
      obtain ⟨n, hln⟩ : ∃ n, l.length = n := ⟨_, rfl⟩
      have HF : Hid (∀ a, a < N → a < f a) := Lib.hid fun a ha => by rw [← hf]; exact nxt_gt (by have := hg.w1; have := hg.l1; omega) hg.m1 ha
      have HFN : Hid (∀ a, f a ≤ N) := Lib.hid fun a => by rw [← hf]; exact nxt_le
      have HFL : Hid (∀ a, f a < N → a + le' ≤ f a) := Lib.hid fun a ha => by rw [← hf] at ha ⊢; exact nxt_least hg.m1 ha
      have HF0 : Hid (∀ a k, a + le' ≤ k → k < f a → k ∉ P) := Lib.hid fun a k h1 h2 => nxt_none h1 (by rw [hf]; exact h2) HS.out
      have HFW : Hid (∀ a, f a < N → f a < a + mo' → f a ∈ P) := Lib.hid fun a h1 h2 => by rw [← hf] at h1 h2 ⊢; exact nxt_why h1 h2
      have hn6 : n ≤ N := by rw [← hln, ← hl]; exact frg_length f N HF.out N 0 (by omega)
      have D1 : Hid (∀ W, Below w.heap.size w W → Splits le' us' mo' wi' 12 A N c l n 0 W) := Lib.hid fun W hW => Split_ok hg hck A c N b hn (by omega) l n (by rw [hP, hf]; exact hl) hln W _ (h.later hW)
      have D2 : Hid (∀ W i t, Below w.heap.size w W → wi' ≤ i → i ≤ N → (t = true ↔ i ∈ P) → W.cell? ⟨w.heap.size + 1, 0, none⟩ = some (.slice A N c) → W.cell? ⟨w.heap.size, 1, none⟩ = some (.int .i64 (us' : Int)) → W.cell? ⟨w.heap.size, 3, none⟩ = some (.int .i64 (wi' : Int)) →
          Calls Try.prog 16 #[.int .i64 (i : Int), .pointer (some ⟨w.heap.size + 1, 0, none⟩), .pointer (some ⟨w.heap.size, 0, none⟩)] W fun e w' => e = .returned (.bool t) ∧ ∃ q, w' = W.drewN q) := Lib.hid fun W i t hW h1 h2 ht k1 k2 k3 => possible_ok hg hpow A c N i b hn hc (by omega) h1 h2 _ _ t (by rw [hP]; exact ht) W _ (h.later hW) k1 k2 k3
      have HL := Lib.hid hl
      have HLN := Lib.hid hln
      have g1 := hg.m2
      have g2 := hg.m1
      have g3 := hg.l1
      have g4 := hg.w1
      clear hm hn _h1 _h2 _h3 _h4 _h5 _h6 _h7 _h8 hck hf hl hln hg hP hpow
      go_enter Try.func5, Try.ntmps5
      go_wp2_with (first
        | (go_at_call 15; refine (E1.out _).mono ?_; rintro e w1 ⟨rfl, hb1⟩; have hB1 := bsa hB0 hB0.size hb1; have hk1 := hk0.later hb1; have hq1 := hq0.later hb1; have d0 := hk1.cell 0; have d1 := hk1.cell 1; have d2 := hk1.cell 2; have d3 := hk1.cell 3; have d4 := hq1.cell0)
        | (go_at_call 12; refine (D1.out _ hB1).mono ?_; clear D1; rintro e w2 ⟨A2, c2, rfl, t2, _, hb2⟩; have hB2 := bsa hB1 hB1.size hb2; have hk2 := hk1.later hb2; have hq2 := hq1.later hb2))
      clear hk1 hq1 d0 d1 d2 d3 d4 hk0 hq0 hB0 hB1 hb1 hb2
      go_loopw [32] (fun iv wm => ∃ (i a : Nat) (q : List Ex), a ≤ N ∧ i ≤ n ∧ iv = .int .i64 (i : Int) ∧ Hid (l = q ++ frg f N a) ∧ Hid (q.length = i) ∧ Blk wm w.heap.size 23 #[.int .i64 (le' : Int), .int .i64 (us' : Int), .int .i64 (mo' : Int), .int .i64 (wi' : Int)] ∧ Blk wm (w.heap.size + 1) 24 #[.slice A N c] ∧ SlE wm wm.heap.size A2 l ∧ Below w.heap.size w wm) (fun iv _ => n - (intOf iv).toNat)
      case atStart => exact ⟨0, 0, [], Nat.zero_le _, Nat.zero_le _, rfl, Lib.hid HL.out.symm, Lib.hid rfl, hk2, hq2, t2, hB2⟩
      case round =>
        obtain ⟨i, a, q, ha, hi, rfl, hsc, hq, hkm, hqm, ht, hB⟩ := hrel
        by_cases hlt : i < n
        · have haN : a < N := by
            rcases Nat.lt_or_ge a N with h | h
            · exact h
            · have := hsc.out
              rw [frg_end h, List.append_nil] at this
              have h3 := HLN.out
              rw [this, hq.out] at h3
              omega
          obtain ⟨r, hr⟩ : ∃ r, f a = r := ⟨_, rfl⟩
          have hra : a < r := by rw [← hr]; exact HF.out a haN
          have hrN : r ≤ N := by rw [← hr]; exact HFN.out a
          have hgo : Hid (frg f N a = (a, r - a) :: frg f N r) := Lib.hid (by rw [frg_step HF.out haN, hr])
          have HR0 : Hid (∀ k, a + le' ≤ k → k < r → k ∉ P) := Lib.hid fun k h1 h2 => HF0.out a k h1 (by rw [hr]; exact h2)
          obtain ⟨d, hd⟩ : ∃ d, r - a = d := ⟨_, rfl⟩
          rw [hd] at hgo
          have hlast : i + 1 < n → r < N := fun hin => by
            rcases Nat.lt_or_ge r N with h | h
            · exact h
            · have h2 := hsc.out
              rw [hgo.out, frg_end h] at h2
              have h3 := HLN.out
              rw [h2, List.length_append, hq.out] at h3
              simp at h3; omega
          have hcut : i + 1 < n → le' ≤ d ∧ (d < mo' → r ∈ P) := fun hin => by
            have h1 := HFL.out a (by rw [hr]; exact hlast hin)
            refine ⟨by omega, fun h2 => ?_⟩
            have := HFW.out a (by rw [hr]; exact hlast hin) (by omega)
            rwa [hr] at this
          obtain ⟨b0, q0, x, rfl, _, hx, hc1, hc2⟩ := ht.at_ (i := i) (by rw [HLN.out]; exact hlt)
          have hxe := q_get (by rw [hsc.out, hgo.out] : l = q ++ (a, d) :: frg f N r) hq.out
          obtain rfl : x = (a, d) := by rw [hx] at hxe; injection hxe
          replace hc1 : wr.cell? ⟨b0, q0 + i * 2, none⟩ = some (.int .i64 (a : Int)) := hc1
          replace hc2 : wr.cell? ⟨b0, q0 + i * 2 + 1, none⟩ = some (.int .i64 (d : Int)) := hc2
          have hkn := hkm.alloc (.cells #[.int .i64 (a : Int), .int .i64 (d : Int)] 36)
          have hqn := hqm.alloc (.cells #[.int .i64 (a : Int), .int .i64 (d : Int)] 36)
          have htn := (ht.alloc (Nat.le_refl _) (.cells #[.int .i64 (a : Int), .int .i64 (d : Int)] 36)).lt
          have hBn := hB.alloc hB.size (.cells #[.int .i64 (a : Int), .int .i64 (d : Int)] 36)
          have hxn : Blk (wr.alloc (.cells #[.int .i64 (a : Int), .int .i64 (d : Int)] 36)) wr.heap.size 36 #[.int .i64 (a : Int), .int .i64 (d : Int)] := Blk.new _ _ _
          obtain ⟨wn, hwn⟩ : ∃ wn, wr.alloc (.cells #[.int .i64 (a : Int), .int .i64 (d : Int)] 36) = wn := ⟨_, rfl⟩
          rw [hwn] at hkn hqn htn hBn hxn
          have e0 := hkn.cell 0
          have e1 := hkn.cell 1
          have e2 := hkn.cell 2
          have e3 := hkn.cell 3
          have e4 := hqn.cell0
          have x0 : wn.cell? ⟨wr.heap.size, 0, none⟩ = some (.int .i64 (a : Int)) := hxn.cell 0
          have x1 : wn.cell? ⟨wr.heap.size, 1, none⟩ = some (.int .i64 (d : Int)) := hxn.cell 1
          have hd0 : ¬ (a : Int) < 0 := by omega
          have hd1 : ¬ (d : Int) < 1 := by omega
          have hd2 : ¬ (N : Int) < (r : Int) := by omega
          have hadr : (a : Int) + (d : Int) = (r : Int) := by omega
          have hrw : IntKind.i64.wrap (r : Int) = (r : Int) := by rw [IntKind.wrap_i64]; omega
          have HC := Lib.hid hcut
          have HLA := Lib.hid hlast
          clear hx hxe hr hd hcut hlast
          go_wp2_with fail
          clear e0 e1 e2 e3 e4 x0 x1 hkm hqm ht hB hc1 hc2 HF HFN HFL HF0 HFW HS E1 hk2 hq2 hB2 t2 hmx hd0 hd1 hd2
          go_loopw [11] (fun iv wm => ∃ k : Nat, a + le' ≤ k ∧ iv = .int .i64 (k : Int) ∧ Blk wm w.heap.size 23 #[.int .i64 (le' : Int), .int .i64 (us' : Int), .int .i64 (mo' : Int), .int .i64 (wi' : Int)] ∧ Blk wm (w.heap.size + 1) 24 #[.slice A N c] ∧ Blk wm wr.heap.size 36 #[.int .i64 (a : Int), .int .i64 (d : Int)] ∧ SlE wm wm.heap.size (some ⟨b0, q0, none⟩) l ∧ Below w.heap.size w wm) (fun iv _ => r - (intOf iv).toNat)
          case atStart => exact ⟨a + le', Nat.le_refl _, rfl, hkn, hqn, hxn, htn, hBn⟩
          case round =>
            obtain ⟨k, hk, rfl, hk1, hq1, hx1, ht1, hB1⟩ := hrel
            clear hkn hqn hxn htn hBn
            by_cases hlt2 : k < r
            · have DD := Lib.hid (D2.out _ k false hB1 (by omega) (by omega) ⟨fun h => (by cases h), fun h => absurd h (HR0.out k hk hlt2)⟩ hq1.cell0 (hk1.cell 1) (hk1.cell 3))
              go_wp2_with (go_at_call 16; refine DD.out.mono ?_; rintro e w3 ⟨rfl, m, rfl⟩)
              go_roundw
              case rel => exact ⟨k + 1, by omega, by go_num, hk1.drewN m, hq1.drewN m, hx1.drewN m, ht1, below_drewN hB1 m⟩
              case measure => simp [intOf]; omega
            · have e0 := hk1.cell 0
              have e2 := hk1.cell 2
              have x1 := hx1.cell 1
              by_cases hin : i + 1 < n
              · have f1 : decide ((i : Int) < (n : Int) - 1) = true := by simp; omega
                obtain ⟨c1, c2'⟩ := HC.out hin
                have hrl := HLA.out hin
                by_cases hdm : d < mo'
                · have f2 : decide ((d : Int) < (mo' : Int)) = true := by simp; omega
                  have f3 : decide ((le' : Int) ≤ (d : Int)) = true := by simp; omega
                  have DD := Lib.hid (D2.out _ r true hB1 (by omega) (by omega) ⟨fun _ => c2' hdm, fun _ => rfl⟩ hq1.cell0 (hk1.cell 1) (hk1.cell 3))
                  clear D2 HC HLA HR0 c2'
                  go_wp2_with (go_at_call 16; refine DD.out.mono ?_; rintro e w3 ⟨rfl, m, rfl⟩)
                  go_roundw
                  case rel => exact ⟨i + 1, r, q ++ [(a, d)], hrN, by omega, by go_num, Lib.hid (by rw [hsc.out, hgo.out]; simp), Lib.hid (by rw [List.length_append, hq.out]; rfl), hk1, hq1, ht1, below_drewN hB1 _⟩
                  case measure => simp [intOf]; omega
                · have f2 : decide ((d : Int) < (mo' : Int)) = false := by simp; omega
                  clear D2 HC HLA HR0 c2'
                  go_wp2_with fail
                  go_roundw
                  case rel => exact ⟨i + 1, r, q ++ [(a, d)], hrN, by omega, by go_num, Lib.hid (by rw [hsc.out, hgo.out]; simp), Lib.hid (by rw [List.length_append, hq.out]; rfl), hk1, hq1, ht1, hB1⟩
                  case measure => simp [intOf]; omega
              · have f1 : decide ((i : Int) < (n : Int) - 1) = false := by simp; omega
                clear D2 HC HLA HR0
                go_wp2_with fail
                go_roundw
                case rel => exact ⟨i + 1, r, q ++ [(a, d)], hrN, by omega, by go_num, Lib.hid (by rw [hsc.out, hgo.out]; simp), Lib.hid (by rw [List.length_append, hq.out]; rfl), hk1, hq1, ht1, hB1⟩
                case measure => simp [intOf]; omega
        · obtain rfl : i = n := by omega
          go_wp2_with (go_at_call 11; refine (awake_any _).mono ?_; rintro e w5 ⟨rfl, hb5⟩)
          go_ret
          exact ⟨rfl, bsa hB hB.size hb5⟩
    · have hck1 : (ck == 0) = false := by rw [beq_eq_false_iff_ne]; exact hck0
      clear hm hn _h1 _h2 _h3 _h4 _h5 _h6 _h7 _h8 hck hck0
      go_enter Try.func5, Try.ntmps5
      go_wp2_with (first
        | (go_at_call 15; refine (E1.out _).mono ?_; rintro e w1 ⟨rfl, hb1⟩; have hB1 := bsa hB0 hB0.size hb1)
        | (go_at_call 11; refine (awake_any _).mono ?_; rintro e w2 ⟨rfl, hb2⟩; have hB2 := bsa hB1 hB1.size hb2))
      go_ret
      exact ⟨rfl, hB2⟩
end Go.Proofs.Ytcdaieoondmljaa.H
