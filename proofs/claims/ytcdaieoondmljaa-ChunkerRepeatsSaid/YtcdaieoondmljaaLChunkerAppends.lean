import Derived.Test.YtcdaieoondmljaaT10
import Derived.Test.YtcdaieoondmljaaSC
import Derived.Deep.RegionHeld3
namespace Go.Proofs.Ytcdaieoondmljaa.H
set_option linter.unusedVariables false
set_option linter.unusedSimpArgs false
open Go Go.RowKit Go.Proofs.Ytcdaieoondmljaa Go.Proofs.Ytcdaieoondmljaa.W Go.Proofs.Ytcdaieoondmljaa.M

/-- The two lists of fragments: nothing, or all but the last of the first lead the second. -/
theorem appends_law {le us mo wi : Nat} (hg : Fine le us mo wi) (b more : Bs) (N M : Nat) (hN : b.length = N) (hM : more.length = M) :
    let l := frg (nxt (places b wi (msk us)) le mo N) N 0
    let l' := frg (nxt (places (b ++ more) wi (msk us)) le mo (N + M)) (N + M) 0
    l = [] ∨ ∃ K x y ys, l = K ++ [x] ∧ l' = K ++ y :: ys := by
  intro l l'
  rcases Nat.eq_zero_or_pos N with h0 | h0
  · exact .inl (frg_end (by omega))
  · have g1 : 1 ≤ le := by have := hg.w1; have := hg.l1; omega
    exact .inr (frg_ahead _ _ N (N + M) (by omega) (fun a ha => nxt_gt g1 hg.m1 ha) (fun a ha => nxt_gt g1 hg.m1 ha) (fun a => nxt_le)
      (fun a h => nxt_ahead (by omega) hg.m1 (places_sorted' _ _ _) (places_sorted' _ _ _) (fun i hi => places_ahead b more _ (by omega)) h) N 0 (by omega) h0)

set_option maxRecDepth 100000 in
set_option maxHeartbeats 4000000 in
theorem appends_walk (le us mo wi : Int) (A : Option Addr) (c : Nat) (b : List UInt8) (A' : Option Addr) (c' : Nat) (more : List UInt8) (w : World) (_h1 : -9223372036854775808 ≤ le) (_h2 : le ≤ 9223372036854775807) (_h3 : -9223372036854775808 ≤ us) (_h4 : us ≤ 9223372036854775807) (_h5 : -9223372036854775808 ≤ mo) (_h6 : mo ≤ 9223372036854775807) (_h7 : -9223372036854775808 ≤ wi) (_h8 : wi ≤ 9223372036854775807)
    (h : Sl u8 w w.heap.size A b) (hc : b.length ≤ c) (hm : c ≤ maxLen) (h' : Sl u8 w w.heap.size A' more) (hc' : more.length ≤ c') (hm' : c' ≤ maxLen) :
    Calls Try.prog 8 #[.agg #[.int .i64 le, .int .i64 us, .int .i64 mo, .int .i64 wi], .slice A b.length c, .slice A' more.length c'] w fun e w' => e = .returned (.bool true) ∧ Below w.heap.size w w' := by
  have hmx : b.length ≤ 9223372036854775807 := by unfold maxLen at hm; omega
  have hmy : more.length ≤ 9223372036854775807 := by unfold maxLen at hm'; omega
  obtain ⟨N, hn⟩ : ∃ n, b.length = n := ⟨_, rfl⟩
  obtain ⟨M, hmm⟩ : ∃ n, more.length = n := ⟨_, rfl⟩
  rw [hn] at hc hmx ⊢
  rw [hmm] at hc' hmy ⊢
  have hB0 : Below w.heap.size w (w.alloc (.cells #[.int .i64 le, .int .i64 us, .int .i64 mo, .int .i64 wi] 23)) := (Below.refl _ _).alloc (Nat.le_refl _) _
  have hk0 : Blk (w.alloc (.cells #[.int .i64 le, .int .i64 us, .int .i64 mo, .int .i64 wi] 23)) w.heap.size 23 #[.int .i64 le, .int .i64 us, .int .i64 mo, .int .i64 wi] := Blk.new _ _ _
  obtain ⟨ck, hck⟩ : ∃ ck, chkC le us mo wi = ck := ⟨_, rfl⟩
  have E1 : Hid (∀ W, Calls Try.prog 15 #[.agg #[.int .i64 le, .int .i64 us, .int .i64 mo, .int .i64 wi]] W fun e w' => e = .returned (.int .i64 ck) ∧ Below W.heap.size W w') := Lib.hid fun W => by rw [← hck]; exact Check_ok le us mo wi W
  by_cases h5 : N > 150
  · have h5' : decide ((150 : Int) < (N : Int)) = true := by simp; omega
    clear hm hm' hn hmm h5 _h1 _h2 _h3 _h4 _h5 _h6 _h7 _h8 hck
    go_enter Try.func8, Try.ntmps8
    go_wp2_with (go_at_call 11; refine (awake_any _).mono ?_; rintro e w1 ⟨rfl, hb1⟩)
    go_ret
    exact ⟨rfl, bsa hB0 hB0.size hb1⟩
  · have h5' : decide ((150 : Int) < (N : Int)) = false := by simp; omega
    by_cases h6 : M > 150
    · have h6' : decide ((150 : Int) < (M : Int)) = true := by simp; omega
      clear hm hm' hn hmm h5 h6 _h1 _h2 _h3 _h4 _h5 _h6 _h7 _h8 hck
      go_enter Try.func8, Try.ntmps8
      go_wp2_with (go_at_call 11; refine (awake_any _).mono ?_; rintro e w1 ⟨rfl, hb1⟩)
      go_ret
      exact ⟨rfl, bsa hB0 hB0.size hb1⟩
    · have h6' : decide ((150 : Int) < (M : Int)) = false := by simp; omega
      by_cases hck0 : ck = 0
      · subst hck0
        obtain ⟨le', us', mo', wi', rfl, rfl, rfl, rfl, hg⟩ := chk_nat hck
        have hlaw := appends_law hg b more N M hn hmm
        have hlM : (b ++ more).length = N + M := by rw [List.length_append, hn, hmm]
        obtain ⟨l, hl⟩ : ∃ l, frg (nxt (places b wi' (msk us')) le' mo' N) N 0 = l := ⟨_, rfl⟩
        obtain ⟨l', hl'⟩ : ∃ l, frg (nxt (places (b ++ more) wi' (msk us')) le' mo' (N + M)) (N + M) 0 = l := ⟨_, rfl⟩
        obtain ⟨n, hln⟩ : ∃ n, l.length = n := ⟨_, rfl⟩
        obtain ⟨n', hln'⟩ : ∃ n, l'.length = n := ⟨_, rfl⟩
        rw [hl, hl'] at hlaw
        have gp : 1 ≤ le' := by have := hg.w1; have := hg.l1; omega
        have hn6 : n ≤ N := by rw [← hln, ← hl]; exact frg_length _ N (fun a ha => nxt_gt gp hg.m1 ha) N 0 (by omega)
        have hn6' : n' ≤ N + M := by rw [← hln', ← hl']; exact frg_length _ (N + M) (fun a ha => nxt_gt gp hg.m1 ha) (N + M) 0 (by omega)
        have D1 : Hid (∀ W, Below w.heap.size w W → Splits le' us' mo' wi' 12 A N c l n 0 W) := Lib.hid fun W hW => Split_ok hg hck A c N b hn (by omega) l n hl hln W _ (h.later hW)
        have D2 : Hid (∀ (W : World) (g : Nat), g = W.heap.size → Below w.heap.size w W → Calls Try.prog 23 #[.slice (some ⟨g, 0, none⟩) 2 2] (W.alloc (.cells #[.slice A N c, .slice A' M c'] 24)) fun e w' => ∃ A'' c'', e = .returned (.slice A'' (N + M) c'') ∧ Sl u8 w' w'.heap.size A'' (b ++ more) ∧ N + M ≤ c'' ∧ c'' ≤ maxLen ∧ Below W.heap.size W w') := Lib.hid fun W g hgW hW => by subst hgW; exact Concat2 hn hmm rfl (by omega) (h.later hW) (h'.later hW)
        have D3 : Hid (∀ (W : World) A'' c'', Sl u8 W W.heap.size A'' (b ++ more) → Splits le' us' mo' wi' 12 A'' (N + M) c'' l' n' 0 W) := Lib.hid fun W A'' c'' hW => Split_ok hg hck A'' c'' (N + M) (b ++ more) hlM (by omega) l' n' hl' hln' W _ hW
        have hnn : n ≤ n' ∧ (n ≠ 0 → ∃ K x y ys, l = K ++ [x] ∧ l' = K ++ y :: ys ∧ K.length = n - 1) := by
          rcases hlaw with e | ⟨K, x, y, ys, e1, e2⟩
          · rw [e] at hln; simp at hln; exact ⟨by omega, fun h => absurd hln.symm h⟩
          · have q1 := hln; have q2 := hln'
            rw [e1, List.length_append] at q1; rw [e2, List.length_append] at q2
            simp at q1 q2
            exact ⟨by omega, fun _ => ⟨K, x, y, ys, e1, e2, by omega⟩⟩
        obtain ⟨hnn', hK⟩ := hnn
        have hlt' : ¬ (n' : Int) < (n : Int) := by omega
        have HK := Lib.hid hK
        clear hm hm' hmm hn _h1 _h2 _h3 _h4 _h5 _h6 _h7 _h8 hck hl hl' hln hln' hg hlaw hlM hK
        go_enter Try.func8, Try.ntmps8
        go_wp2_with (first
          | (go_at_call 15; refine (E1.out _).mono ?_; rintro e w1 ⟨rfl, hb1⟩; have hB1 := bsa hB0 hB0.size hb1; have hk1 := hk0.later hb1; have d0 := hk1.cell 0; have d1 := hk1.cell 1; have d2 := hk1.cell 2; have d3 := hk1.cell 3)
          | (go_at_call 12; refine (D1.out _ hB1).mono ?_; clear D1; rintro e w2 ⟨A2, c2, rfl, t2, hc2, hb2⟩; have hB2 := bsa hB1 hB1.size hb2; have hk2 := hk1.later hb2))
        have hH : Below w2.heap.size w2 w2.drew := (Below.refl _ _).drew
        have KEEP : Hid (∀ W, Below w2.heap.size w2 W → (W.cell? ⟨w.heap.size, 0, none⟩ = some (.int .i64 (le' : Int)) ∧ W.cell? ⟨w.heap.size, 1, none⟩ = some (.int .i64 (us' : Int)) ∧ W.cell? ⟨w.heap.size, 2, none⟩ = some (.int .i64 (mo' : Int)) ∧ W.cell? ⟨w.heap.size, 3, none⟩ = some (.int .i64 (wi' : Int)))) := Lib.hid fun W hW => ⟨(hk2.later hW).cell 0, (hk2.later hW).cell 1, (hk2.later hW).cell 2, (hk2.later hW).cell 3⟩
        have D2' : Hid (∀ (W : World) (g : Nat), g = W.heap.size → Below w2.heap.size w2 W → Calls Try.prog 23 #[.slice (some ⟨g, 0, none⟩) 2 2] (W.alloc (.cells #[.slice A N c, .slice A' M c'] 24)) fun e w' => ∃ A'' c'', e = .returned (.slice A'' (N + M) c'') ∧ Sl u8 w' w'.heap.size A'' (b ++ more) ∧ N + M ≤ c'' ∧ c'' ≤ maxLen ∧ Below W.heap.size W w') := Lib.hid fun W g hgW hW => D2.out W g hgW (bsa hB2 hB2.size hW)
        have HT2 := Lib.hid t2
        clear D2 hk2 hk1 hk0 d0 d1 d2 d3 hB1 hB0 hb1 hb2 E1 t2
        go_region_held3 (fun W => W.cell? ⟨w.heap.size, 0, none⟩ = some (.int .i64 (le' : Int)) ∧ W.cell? ⟨w.heap.size, 1, none⟩ = some (.int .i64 (us' : Int)) ∧ W.cell? ⟨w.heap.size, 2, none⟩ = some (.int .i64 (mo' : Int)) ∧ W.cell? ⟨w.heap.size, 3, none⟩ = some (.int .i64 (wi' : Int)))
          (first | exact KEEP.out _ hH | exact KEEP.out _ (hH.alloc hH.size _))
          (first
          | (go_at_call 23; refine (D2'.out _ _ (by simp) hH).mono ?_; rintro e w3 ⟨A3, c3, rfl, t3, _, _, hb3⟩; have hH := bsa hH hH.size hb3)
          | (go_at_call 12; refine (D3.out _ _ _ t3).mono ?_; rintro e w4 ⟨A4, c4, rfl, t4, hc4, hb4⟩; have hH := bsa hH hH.size hb4))
        have HT3 := Lib.hid t4
        have t2' := Lib.hid (SlE.later HT2.out hH)
        have hB4 := bsa hB2 hB2.size hH
        clear KEEP D2' D3 HT2 hH hb3 hb4 t3 hB2 t4
        by_cases h0 : n = 0
        · have hn0 : ((n : Int) == 0) = true := by rw [beq_iff_eq]; omega
          clear HK HT3 t2' hnn' hn6 hn6' h0
          go_wp2_with fail
          refine wp_region_held_drew (S := fun W => Below w4.heap.size w4 W) (by kernel_rfl) ((Below.refl _ _).drew) (fun hHeld => ?_)
          refine wpAnyH_take (i := 0) (v := ?_) rfl (by kernel_rfl) (by kernel_rfl) (by kernel_rfl) (fun _ _ _ h => h) (Or.inl ⟨by rfl, ?_⟩) hHeld ?_
          rotate_left
          · (intro W hSw; (try dsimp only at hSw); go_simp; try with_reducible rfl)
          try simp only [Act.put, List.setIfInBounds_toArray, List.set_cons_zero, List.set_cons_succ, List.getElem_toArray, List.getElem_cons_succ, List.getElem_cons_zero]
          refine wpAnyH_take (i := 1) (v := ?_) rfl (by kernel_rfl) (by kernel_rfl) (by kernel_rfl) (fun _ _ _ h => h) (Or.inl ⟨by rfl, ?_⟩) hHeld ?_
          rotate_left
          · (intro W hSw; (try dsimp only at hSw); go_simp; try with_reducible rfl)
          try simp only [Act.put, List.setIfInBounds_toArray, List.set_cons_zero, List.set_cons_succ, List.getElem_toArray, List.getElem_cons_succ, List.getElem_cons_zero]
          refine wpAnyH_take (i := 2) (v := ?_) rfl (by kernel_rfl) (by kernel_rfl) (by kernel_rfl) (fun _ _ _ h => h) (Or.inl ⟨by rfl, ?_⟩) hHeld ?_
          rotate_left
          · (intro W hSw; (try dsimp only at hSw); go_simp; try with_reducible rfl)
          try simp only [Act.put, List.setIfInBounds_toArray, List.set_cons_zero, List.set_cons_succ, List.getElem_toArray, List.getElem_cons_succ, List.getElem_cons_zero]
          refine wpAnyH_take (i := 3) (v := ?_) rfl (by kernel_rfl) (by kernel_rfl) (by kernel_rfl) (fun _ _ _ h => h) (Or.inl ⟨by rfl, ?_⟩) hHeld ?_
          rotate_left
          · (intro W hSw; (try dsimp only at hSw); go_simp; try with_reducible rfl)
          try simp only [Act.put, List.setIfInBounds_toArray, List.set_cons_zero, List.set_cons_succ, List.getElem_toArray, List.getElem_cons_succ, List.getElem_cons_zero]
          refine wpAnyH_take (i := 4) (v := undef) rfl (by kernel_rfl) (by kernel_rfl) (by kernel_rfl) (fun _ _ _ h => h) (Or.inr ⟨by rfl, rfl⟩) hHeld ?_
          try simp only [Act.put, List.setIfInBounds_toArray, List.set_cons_zero, List.set_cons_succ, List.getElem_toArray, List.getElem_cons_succ, List.getElem_cons_zero]
          refine wpAnyH_take (i := 5) (v := undef) rfl (by kernel_rfl) (by kernel_rfl) (by kernel_rfl) (fun _ _ _ h => h) (Or.inr ⟨by rfl, rfl⟩) hHeld ?_
          try simp only [Act.put, List.setIfInBounds_toArray, List.set_cons_zero, List.set_cons_succ, List.getElem_toArray, List.getElem_cons_succ, List.getElem_cons_zero]
          refine wpAnyH_take (i := 6) (v := undef) rfl (by kernel_rfl) (by kernel_rfl) (by kernel_rfl) (fun _ _ _ h => h) (Or.inr ⟨by rfl, rfl⟩) hHeld ?_
          try simp only [Act.put, List.setIfInBounds_toArray, List.set_cons_zero, List.set_cons_succ, List.getElem_toArray, List.getElem_cons_succ, List.getElem_cons_zero]
          refine wpAnyH_take (i := 7) (v := undef) rfl (by kernel_rfl) (by kernel_rfl) (by kernel_rfl) (fun _ _ _ h => h) (Or.inr ⟨by rfl, rfl⟩) hHeld ?_
          try simp only [Act.put, List.setIfInBounds_toArray, List.set_cons_zero, List.set_cons_succ, List.getElem_toArray, List.getElem_cons_succ, List.getElem_cons_zero]
          refine wpAnyH_take (i := 8) (v := undef) rfl (by kernel_rfl) (by kernel_rfl) (by kernel_rfl) (fun _ _ _ h => h) (Or.inr ⟨by rfl, rfl⟩) hHeld ?_
          try simp only [Act.put, List.setIfInBounds_toArray, List.set_cons_zero, List.set_cons_succ, List.getElem_toArray, List.getElem_cons_succ, List.getElem_cons_zero]
          refine wpAnyH_take (i := 9) (v := undef) rfl (by kernel_rfl) (by kernel_rfl) (by kernel_rfl) (fun _ _ _ h => h) (Or.inr ⟨by rfl, rfl⟩) hHeld ?_
          try simp only [Act.put, List.setIfInBounds_toArray, List.set_cons_zero, List.set_cons_succ, List.getElem_toArray, List.getElem_cons_succ, List.getElem_cons_zero]
          refine wpAnyH_take (i := 10) (v := undef) rfl (by kernel_rfl) (by kernel_rfl) (by kernel_rfl) (fun _ _ _ h => h) (Or.inr ⟨by rfl, rfl⟩) hHeld ?_
          try simp only [Act.put, List.setIfInBounds_toArray, List.set_cons_zero, List.set_cons_succ, List.getElem_toArray, List.getElem_cons_succ, List.getElem_cons_zero]
          refine wpAnyH_take (i := 11) (v := undef) rfl (by kernel_rfl) (by kernel_rfl) (by kernel_rfl) (fun _ _ _ h => h) (Or.inr ⟨by rfl, rfl⟩) hHeld ?_
          try simp only [Act.put, List.setIfInBounds_toArray, List.set_cons_zero, List.set_cons_succ, List.getElem_toArray, List.getElem_cons_succ, List.getElem_cons_zero]
          refine wpAnyH_take (i := 12) (v := undef) rfl (by kernel_rfl) (by kernel_rfl) (by kernel_rfl) (fun _ _ _ h => h) (Or.inr ⟨by rfl, rfl⟩) hHeld ?_
          try simp only [Act.put, List.setIfInBounds_toArray, List.set_cons_zero, List.set_cons_succ, List.getElem_toArray, List.getElem_cons_succ, List.getElem_cons_zero]
          refine wpAnyH_take (i := 13) (v := undef) rfl (by kernel_rfl) (by kernel_rfl) (by kernel_rfl) (fun _ _ _ h => h) (Or.inr ⟨by rfl, rfl⟩) hHeld ?_
          try simp only [Act.put, List.setIfInBounds_toArray, List.set_cons_zero, List.set_cons_succ, List.getElem_toArray, List.getElem_cons_succ, List.getElem_cons_zero]
          refine wpAnyH_take (i := 14) (v := undef) rfl (by kernel_rfl) (by kernel_rfl) (by kernel_rfl) (fun _ _ _ h => h) (Or.inr ⟨by rfl, rfl⟩) hHeld ?_
          try simp only [Act.put, List.setIfInBounds_toArray, List.set_cons_zero, List.set_cons_succ, List.getElem_toArray, List.getElem_cons_succ, List.getElem_cons_zero]
          refine wpAnyH_take (i := 15) (v := ?_) rfl (by kernel_rfl) (by kernel_rfl) (by kernel_rfl) (fun _ _ _ h => h) (Or.inl ⟨by rfl, ?_⟩) hHeld ?_
          rotate_left
          · (intro W hSw; (try dsimp only at hSw); go_simp; try with_reducible rfl)
          try simp only [Act.put, List.setIfInBounds_toArray, List.set_cons_zero, List.set_cons_succ, List.getElem_toArray, List.getElem_cons_succ, List.getElem_cons_zero]
          refine wpAnyH_take (i := 16) (v := ?_) rfl (by kernel_rfl) (by kernel_rfl) (by kernel_rfl) (fun _ _ _ h => h) (Or.inl ⟨by rfl, ?_⟩) hHeld ?_
          rotate_left
          · (intro W hSw; (try dsimp only at hSw); go_simp; try with_reducible rfl)
          try simp only [Act.put, List.setIfInBounds_toArray, List.set_cons_zero, List.set_cons_succ, List.getElem_toArray, List.getElem_cons_succ, List.getElem_cons_zero]
          refine wpAnyH_ready (rs := [17]) (by kernel_rfl) (by simp) ?_
          refine AllReadyH.cons (o := ?_) ?_ (fun K' hK => ?_) AllReadyH.nil
          rotate_left
          · (simp only [List.getElem?_toArray, List.getElem?_cons_succ, List.getElem?_cons_zero] <;> rfl)
          go_simp; go_at_call 11; refine (awake_any _).mono ?_; rintro e w9 ⟨rfl, hb9⟩; go_wp2_with fail
          refine hK.out _ _ (bsa hHeld hHeld.size hb9) (fun hHeld' => ?_)
          clear hK K' hHeld
          have hHeld := hHeld'
          clear hHeld'
          try simp only [Act.put, List.setIfInBounds_toArray, List.set_cons_zero, List.set_cons_succ, List.getElem_toArray, List.getElem_cons_succ, List.getElem_cons_zero]
          refine wpAnyH_take (i := 18) (v := ?_) rfl (by kernel_rfl) (by kernel_rfl) (by kernel_rfl) (fun _ _ _ h => h) (Or.inl ⟨by rfl, ?_⟩) hHeld ?_
          rotate_left
          · (intro W hSw; (try dsimp only at hSw); go_simp; try with_reducible rfl)
          try simp only [Act.put, List.setIfInBounds_toArray, List.set_cons_zero, List.set_cons_succ, List.getElem_toArray, List.getElem_cons_succ, List.getElem_cons_zero]
          refine wpAnyH_take (i := 19) (v := ?_) rfl (by kernel_rfl) (by kernel_rfl) (by kernel_rfl) (fun _ _ _ h => h) (Or.inl ⟨by rfl, ?_⟩) hHeld ?_
          rotate_left
          · (intro W hSw; (try dsimp only at hSw); go_simp; try with_reducible rfl)
          try simp only [Act.put, List.setIfInBounds_toArray, List.set_cons_zero, List.set_cons_succ, List.getElem_toArray, List.getElem_cons_succ, List.getElem_cons_zero]
          refine wpAnyH_done (by kernel_rfl) ?_ _
          go_wp2
          go_ret
          exact ⟨rfl, bsa hB4 hB4.size hHeld⟩
        · obtain ⟨K, x, y, ys, e1, e2, hKl⟩ := HK.out h0
          obtain ⟨k, hk⟩ : ∃ k, n - 1 = k := ⟨_, rfl⟩
          have s2 := t2'.out
          have s3 := HT3.out
          rw [e1] at s2
          rw [e2] at s3
          have s2 := SlE.pre s2
          have s3 := SlE.pre s3
          rw [hk] at hKl
          have E5 : Hid (∀ W, Below w4.heap.size w4 W → Calls Try.prog 24 #[.slice A4 k c4, .slice A2 k c2] W fun e w' => e = .returned (.bool true) ∧ Below W.heap.size W w') := Lib.hid fun W hW => equalE_ok A4 A2 c4 c2 k K hKl (by omega) W _ _ (s3.later hW) (s2.later hW)
          have hn0 : ((n : Int) == 0) = false := by rw [beq_eq_false_iff_ne]; omega
          have hn1 : IntKind.i64.wrap ((n : Int) - 1) = (k : Int) := by rw [IntKind.wrap_i64]; omega
          have hn2 : (n : Int) - 1 = (k : Int) := by omega
          have hn3 : IntKind.i64.wrap (k : Int) = (k : Int) := by rw [IntKind.wrap_i64]; omega
          have hk0 : (0 : Int) ≤ (k : Int) := by omega
          have hk2 : (k : Int) ≤ (c2 : Int) := by omega
          have hk4 : (k : Int) ≤ (c4 : Int) := by omega
          clear HK HT3 t2' s2 s3 e1 e2 hKl hk
          go_wp2_with fail
          have hH : Below w4.heap.size w4 w4.drew := (Below.refl _ _).drew
          go_region_held3 (fun W => Below w4.heap.size w4 W) (exact hH)
            (first
            | (go_at_call 24; refine (E5.out _ hH).mono ?_; rintro e w8 ⟨rfl, hb8⟩; have hH := bsa hH hH.size hb8)
            | (go_at_call 11; refine (awake_any _).mono ?_; rintro e w9 ⟨rfl, hb9⟩; have hH := bsa hH hH.size hb9))
          all_goals go_wp2
          all_goals go_ret
          all_goals exact ⟨rfl, bsa hB4 hB4.size hH⟩
      · have hck1 : (ck == 0) = false := by rw [beq_eq_false_iff_ne]; exact hck0
        clear hm hm' hn hmm h5 h6 _h1 _h2 _h3 _h4 _h5 _h6 _h7 _h8 hck hck0
        go_enter Try.func8, Try.ntmps8
        go_wp2_with (first
          | (go_at_call 15; refine (E1.out _).mono ?_; rintro e w1 ⟨rfl, hb1⟩; have hB1 := bsa hB0 hB0.size hb1)
          | (go_at_call 11; refine (awake_any _).mono ?_; rintro e w2 ⟨rfl, hb2⟩; have hB2 := bsa hB1 hB1.size hb2))
        go_ret
        exact ⟨rfl, hB2⟩
end Go.Proofs.Ytcdaieoondmljaa.H
