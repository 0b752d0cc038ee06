import Derived.Test.YtcdaieoondmljaaLChunkerSplits
namespace Go.Proofs.Ytcdaieoondmljaa.H
set_option linter.unusedVariables false
open Go Go.RowKit Go.Proofs.Ytcdaieoondmljaa Go.Proofs.Ytcdaieoondmljaa.W Go.Proofs.Ytcdaieoondmljaa.M

theorem nxt_least {P : List Nat} {le mo N a : Nat} (h2 : le ≤ mo) (hr : nxt P le mo N a < N) : a + le ≤ nxt P le mo N a := by
  unfold nxt at hr ⊢
  split at hr
  · rename_i p hp
    have := List.find?_some hp
    simp at this
    omega
  · omega
theorem q_get {l q r : List Ex} {x : Ex} {i : Nat} (h : l = q ++ x :: r) (hq : q.length = i) : l[i]? = some x := by
  subst hq; rw [h, List.getElem?_append_right (Nat.le_refl _)]; simp
set_option maxRecDepth 100000 in
set_option maxHeartbeats 2000000 in
theorem covers_walk (le us mo wi : Int) (A : Option Addr) (c : Nat) (b : List UInt8) (w : World) (_h1 : -9223372036854775808 ≤ le) (_h2 : le ≤ 9223372036854775807) (_h3 : -9223372036854775808 ≤ us) (_h4 : us ≤ 9223372036854775807) (_h5 : -9223372036854775808 ≤ mo) (_h6 : mo ≤ 9223372036854775807) (_h7 : -9223372036854775808 ≤ wi) (_h8 : wi ≤ 9223372036854775807)
    (h : Sl u8 w w.heap.size A b) (hc : b.length ≤ c) (hm : c ≤ maxLen) :
    Calls Try.prog 4 #[.agg #[.int .i64 le, .int .i64 us, .int .i64 mo, .int .i64 wi], .slice A b.length c] w fun e w' => e = .returned (.bool true) ∧ Below w.heap.size w w' := by
  have hmx : b.length ≤ 9223372036854775807 := by unfold maxLen at hm; omega
  obtain ⟨N, hn⟩ : ∃ n, b.length = n := ⟨_, rfl⟩
  rw [hn] at hc hmx ⊢
  have hB0 : Below w.heap.size w (w.alloc (.cells #[.int .i64 le, .int .i64 us, .int .i64 mo, .int .i64 wi] 23)) := (Below.refl _ _).alloc (Nat.le_refl _) _
  have hk0 : Blk (w.alloc (.cells #[.int .i64 le, .int .i64 us, .int .i64 mo, .int .i64 wi] 23)) w.heap.size 23 #[.int .i64 le, .int .i64 us, .int .i64 mo, .int .i64 wi] := Blk.new _ _ _
  obtain ⟨ck, hck⟩ : ∃ ck, chkC le us mo wi = ck := ⟨_, rfl⟩
  have E1 : Hid (∀ W, Calls Try.prog 15 #[.agg #[.int .i64 le, .int .i64 us, .int .i64 mo, .int .i64 wi]] W fun e w' => e = .returned (.int .i64 ck) ∧ Below W.heap.size W w') := Lib.hid fun W => by rw [← hck]; exact Check_ok le us mo wi W
  by_cases h5 : N > 300
  · clear hm hn _h1 _h2 _h3 _h4 _h5 _h6 _h7 _h8 hck
    go_enter Try.func4, Try.ntmps4
    go_wp2_with (go_at_call 11; refine (awake_any _).mono ?_; rintro e w1 ⟨rfl, hb1⟩)
    go_ret
    exact ⟨rfl, bsa hB0 hB0.size hb1⟩
  · have h5' : decide ((300 : Int) < (N : Int)) = false := by simp; omega
    by_cases hck0 : ck = 0
    · subst hck0
      obtain ⟨le', us', mo', wi', rfl, rfl, rfl, rfl, hg⟩ := chk_nat hck
      obtain ⟨f, hf⟩ : ∃ f, nxt (places b wi' (msk us')) le' mo' N = f := ⟨_, rfl⟩
      obtain ⟨l, hl⟩ : ∃ l, frg f N 0 = l := ⟨_, rfl⟩
      obtain ⟨n, hln⟩ : ∃ n, l.length = n := ⟨_, rfl⟩
      have HF : Hid (∀ a, a < N → a < f a) := Lib.hid fun a ha => by rw [← hf]; exact nxt_gt (by have := hg.w1; have := hg.l1; omega) hg.m1 ha
      have HFN : Hid (∀ a, f a ≤ N) := Lib.hid fun a => by rw [← hf]; exact nxt_le
      have HFM : Hid (∀ a, f a ≤ a + mo') := Lib.hid fun a => by rw [← hf]; exact nxt_most
      have HFL : Hid (∀ a, f a < N → a + le' ≤ f a) := Lib.hid fun a ha => by rw [← hf] at ha ⊢; exact nxt_least hg.m1 ha
      have hn6 : n ≤ N := by rw [← hln, ← hl]; exact frg_length f N HF.out N 0 (by omega)
      have D1 : Hid (∀ W, Below w.heap.size w W → Splits le' us' mo' wi' 12 A N c l n 0 W) := Lib.hid fun W hW => Split_ok hg hck A c N b hn (by omega) l n (by rw [hf]; exact hl) hln W _ (h.later hW)
      have HL := Lib.hid hl
      have HLN := Lib.hid hln
      have g1 := hg.m2
      have g2 := hg.m1
      clear hm hn _h1 _h2 _h3 _h4 _h5 _h6 _h7 _h8 hck hf hl hln hg
      go_enter Try.func4, Try.ntmps4
      go_wp2_with (first
        | (go_at_call 15; refine (E1.out _).mono ?_; rintro e w1 ⟨rfl, hb1⟩; have hB1 := bsa hB0 hB0.size hb1; have hk1 := hk0.later hb1; have d0 := hk1.cell 0; have d1 := hk1.cell 1; have d2 := hk1.cell 2; have d3 := hk1.cell 3)
        | (go_at_call 12; refine (D1.out _ hB1).mono ?_; clear D1; rintro e w2 ⟨A2, c2, rfl, t2, _, hb2⟩; have hB2 := bsa hB1 hB1.size hb2; have hk2 := hk1.later hb2))
      clear hk1 d0 d1 d2 d3 hk0 hB0 hB1 hb1 hb2
      go_loopw [7, 29] (fun av iv wm => ∃ (i a : Nat) (q : List Ex), a ≤ N ∧ i ≤ n ∧ iv = .int .i64 (i : Int) ∧ av = .int .i64 (a : Int) ∧ Hid (l = q ++ frg f N a) ∧ Hid (q.length = i) ∧ Blk wm w.heap.size 23 #[.int .i64 (le' : Int), .int .i64 (us' : Int), .int .i64 (mo' : Int), .int .i64 (wi' : Int)] ∧ SlE wm wm.heap.size A2 l ∧ Below w.heap.size w wm) (fun _ iv _ => n - (intOf iv).toNat)
      case atStart => exact ⟨0, 0, [], Nat.zero_le _, Nat.zero_le _, rfl, rfl, Lib.hid HL.out.symm, Lib.hid rfl, hk2, t2, hB2⟩
      case round =>
        obtain ⟨i, a, q, ha, hi, rfl, rfl, hsc, hq, hkm, ht, hB⟩ := hrel
        by_cases hlt : i < n
        · have haN : a < N := by
            rcases Nat.lt_or_ge a N with h | h
            · exact h
            · have := hsc.out
              rw [frg_end h, List.append_nil] at this
              have h3 := HLN.out
              rw [this, hq.out] at h3
              omega
          obtain ⟨r, hr⟩ : ∃ r, f a = r := ⟨_, rfl⟩
          have hra : a < r := by rw [← hr]; exact HF.out a haN
          have hrN : r ≤ N := by rw [← hr]; exact HFN.out a
          have hrM : r ≤ a + mo' := by rw [← hr]; exact HFM.out a
          have hgo : Hid (frg f N a = (a, r - a) :: frg f N r) := Lib.hid (by rw [frg_step HF.out haN, hr])
          obtain ⟨d, hd⟩ : ∃ d, r - a = d := ⟨_, rfl⟩
          rw [hd] at hgo
          have hcut : i + 1 < n → le' ≤ d := fun hin => by
            have hrlt : r < N := by
              rcases Nat.lt_or_ge r N with h | h
              · exact h
              · have h2 := hsc.out
                rw [hgo.out, frg_end h] at h2
                have h3 := HLN.out
                rw [h2, List.length_append, hq.out] at h3
                simp at h3; omega
            have := HFL.out a (by rw [hr]; exact hrlt)
            omega
          obtain ⟨b0, q0, x, rfl, _, hx, hc1, hc2⟩ := ht.at_ (i := i) (by rw [HLN.out]; exact hlt)
          have hxe := q_get (by rw [hsc.out, hgo.out] : l = q ++ (a, d) :: frg f N r) hq.out
          obtain rfl : x = (a, d) := by rw [hx] at hxe; injection hxe
          replace hc1 : wr.cell? ⟨b0, q0 + i * 2, none⟩ = some (.int .i64 (a : Int)) := hc1
          replace hc2 : wr.cell? ⟨b0, q0 + i * 2 + 1, none⟩ = some (.int .i64 (d : Int)) := hc2
          have hkn := hkm.alloc (.cells #[.int .i64 (a : Int), .int .i64 (d : Int)] 36)
          have e0 := hkn.cell 0
          have e2 := hkn.cell 2
          have hd1 : ¬ (d : Int) < 1 := by omega
          have hd2 : ¬ (mo' : Int) < (d : Int) := by omega
          have hadr : (a : Int) + (d : Int) = (r : Int) := by omega
          have hcase : (decide ((i : Int) < (n : Int) - 1) = true ∧ ¬ (d : Int) < (le' : Int)) ∨ decide ((i : Int) < (n : Int) - 1) = false := by
            by_cases h : i + 1 < n
            · exact .inl ⟨by simp; omega, by have := hcut h; omega⟩
            · exact .inr (by simp; omega)
          clear hx hxe hr hd hcut
          rcases hcase with ⟨f1, f2⟩ | f1
          all_goals
            go_wp2_with fail
            go_roundw
            case rel => exact ⟨i + 1, r, q ++ [(a, d)], hrN, by omega, by go_num, rfl, Lib.hid (by rw [hsc.out, hgo.out]; simp), Lib.hid (by rw [List.length_append, hq.out]; rfl), hkn, (ht.alloc (Nat.le_refl _) _).lt, hB.alloc hB.size _⟩
            case measure => simp [intOf]; omega
        · obtain rfl : i = n := by omega
          have hqa : N ≤ a := by
            rcases Nat.lt_or_ge a N with h | h
            · have h2 := hsc.out
              rw [frg_step HF.out h] at h2
              have h3 := HLN.out
              rw [h2, List.length_append, hq.out] at h3
              simp at h3
            · exact h
          obtain rfl : a = N := by omega
          go_wp2_with (go_at_call 11; refine (awake_any _).mono ?_; rintro e w5 ⟨rfl, hb5⟩)
          go_ret
          exact ⟨rfl, bsa hB hB.size hb5⟩
    · have hck1 : (ck == 0) = false := by rw [beq_eq_false_iff_ne]; exact hck0
      clear hm hn _h1 _h2 _h3 _h4 _h5 _h6 _h7 _h8 hck hck0
      go_enter Try.func4, Try.ntmps4
      go_wp2_with (first
        | (go_at_call 15; refine (E1.out _).mono ?_; rintro e w1 ⟨rfl, hb1⟩; have hB1 := bsa hB0 hB0.size hb1)
        | (go_at_call 11; refine (awake_any _).mono ?_; rintro e w2 ⟨rfl, hb2⟩; have hB2 := bsa hB1 hB1.size hb2))
      go_ret
      exact ⟨rfl, hB2⟩
end Go.Proofs.Ytcdaieoondmljaa.H
