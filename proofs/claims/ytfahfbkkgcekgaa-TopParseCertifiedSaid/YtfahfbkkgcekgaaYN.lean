/- lz.Decode. -/
import Derived.Test.YtfahfbkkgcekgaaYM
import Derived.Test.YtfahfbkkgcekgaaYG
namespace Go.Proofs.Ytfahfbkkgcekgaa.H
set_option linter.unusedVariables false
set_option linter.unusedSimpArgs false
open Go Go.RowKit Go.Proofs.Ytfahfbkkgcekgaa Go.Proofs.Ytfahfbkkgcekgaa.W Go.Proofs.Ytfahfbkkgcekgaa.M

/-- What stands at the place of token i. -/
theorem code_at {D : Bs} {l : List Tok} (h : BR D (encB l)) {i : Nat} {t : Tok} (ht : l[i]? = some t) : At D (cost (l.take i)) (tokB t) ∧ cost (l.take i) + price t ≤ cost l := by
  have hi := (List.getElem?_eq_some_iff.1 ht).1
  have hd : l = l.take i ++ t :: l.drop (i + 1) := by
    have h1 : l.drop i = t :: l.drop (i + 1) := by
      rw [List.drop_eq_getElem_cons hi]; congr 1
      rw [List.getElem?_eq_getElem hi] at ht; injection ht
    rw [← h1, List.take_append_drop]
  have he : encB l = encB (l.take i) ++ (tokB t ++ encB (l.drop (i + 1))) := by
    conv => lhs; rw [hd]
    rw [encB_append, encB_cons]
  refine ⟨?_, ?_⟩
  · rw [he] at h
    have := At.of_BR h
    rwa [encB_length] at this
  · have := congrArg List.length he
    rw [List.length_append, List.length_append, encB_length, encB_length, tokB_length] at this
    omega
/-- Ahead of a token the encoding does not end. -/
theorem goes_on {D : Bs} {p m : Nat} {t : Tok} (hR : Right t) (hA : At D p (tokB t)) (hp : price t ≤ m) (hm : m ≤ 7) : rd D p m ≠ 0 := by
  have h0 : ¬ t.1 = 0 := fun e => by unfold price at hp; rw [if_pos e] at hp; omega
  have hp1 := (price_le hR).2
  have h1 : bitD D (p + 0) = true := hA 0 true (by unfold tokB; rw [if_neg h0]; rfl)
  obtain ⟨k, rfl⟩ : ∃ k, m = k + 1 := ⟨m - 1, by omega⟩
  have := rd_pos (D := D) (a := p) (by simpa using h1) k
  omega
/-- Behind the last token stand zeros. -/
theorem ends_here {D : Bs} {l : List Tok} (h : BR D (encB l)) (m : Nat) : rd D (cost l) m = 0 := by
  refine rd_zeros m (fun i _ => ?_)
  rw [h.2, List.getD_eq_getElem?_getD, List.getElem?_eq_none (by rw [encB_length]; omega)]; rfl
theorem own_but {T : Nat} {w w' : World} {e : TypeId} {size n : Nat} {v : Value} {xs : List Value} (h : w.ownsRow (T + 1) e size v n xs) (hb : But T w w') : w'.ownsRow (T + 1) e size v n xs := by
  obtain ⟨h1, h2⟩ := h
  refine ⟨h1, ?_⟩
  rcases h2 with h2 | ⟨g, cap, cur, hv, hg, hh, r⟩
  · exact .inl h2
  · exact .inr ⟨g, cap, cur, hv, hg, (hb.2 g (Array.getElem?_eq_some_iff.1 hh).1 (by omega)).trans hh, r⟩
set_option maxRecDepth 100000 in
set_option maxHeartbeats 2000000 in
theorem Decode_ok (b : Bs) (N : Nat) (hN : b.length = N) (hN6 : N ≤ 65536) (A : Option Addr) (c L : Nat) (D : Bs) (hDl : D.length = L) (hL6 : L ≤ 65536) (l : List Tok) (n : Nat) (hl : l.length = n) (hF : Fac b 0 l) (hBR : BR D (encB l)) (w : World) (hS : Sl u8 w w.heap.size A D) :
    Calls Try.prog 23 #[.slice A L c] w fun e w' => ∃ A' c', e = .returned (.tuple #[.slice A' n c', .int .i64 0]) ∧ SlT w' w'.heap.size A' l ∧ n ≤ c' ∧ c' ≤ maxLen ∧ Below w.heap.size w w' := by
  obtain ⟨i0, hi, hz0, hz1, hz2⟩ := info_parts infoT
  have HF := Lib.hid hF
  have HL := Lib.hid hl
  have HN := Lib.hid hN
  have HBR := Lib.hid hBR
  have HD := Lib.hid hDl
  have hn6 : n ≤ 65536 := by have := fac_len hF; omega
  obtain ⟨K, hK⟩ : ∃ K, 8 * L = K := ⟨_, rfl⟩
  have hKc : cost l ≤ K ∧ K ≤ cost l + 7 := by have := hBR.1; rw [encB_length, hDl] at this; omega
  have v1 : 8 * (L : Int) = (K : Int) := by omega
  have v2 : IntKind.i64.wrap (K : Int) = (K : Int) := by rw [IntKind.wrap_i64]; omega
  have HK : Hid (K = 8 * L) := Lib.hid hK.symm
  have hK6 : K ≤ 524288 := by omega
  clear hN hl hF hBR hDl hK
  go_enter Try.func23, Try.ntmps23
  go_wp2_with fail
  obtain ⟨T, hT⟩ : ∃ T, T = w.heap.size := ⟨_, rfl⟩
  obtain ⟨w5, hw5⟩ : ∃ w5, w5 = w.alloc (.cells #[.slice A L c, .int .i64 (K : Int), .int .i64 0] 55) := ⟨_, rfl⟩
  have hR5 : Rd w5 T A L c K 0 := by rw [hw5, hT]; exact Blk.new _ _ _
  have hB5 : Below T w w5 := by rw [hw5, hT]; exact (Below.refl _ _).alloc (Nat.le_refl _) _
  rw [← hT] at hS
  rw [← hw5, ← hT]
  have HT := Lib.hid hT
  clear hw5 hT
  have HS : Hid (∀ W, Below T w W → Sl u8 W T A D) := Lib.hid fun W h => hS.below h
  go_loopw [5, 6] (fun v sv wm => ∃ (i s p : Nat) (A' : Option Addr) (c' : Nat), i ≤ n ∧ v = .slice A' i c' ∧ sv = .int .i64 (s : Int) ∧ Hid (pos l i = s) ∧ Hid (cost (l.take i) = p) ∧ OwnT wm (T + 1) (.slice A' i c') (l.take i) ∧ Rd wm T A L c K p ∧ Below T w wm) (fun v _ _ => n - (match v with | .slice _ i _ => i | _ => 0))
  case atStart => exact ⟨0, 0, 0, none, 0, Nat.zero_le _, rfl, rfl, Lib.hid rfl, Lib.hid rfl, World.ownsRow_nil _ _ _ _, hR5, hB5⟩
  case round =>
    obtain ⟨i, s, p, A', c', hi', rfl, rfl, hs, hp, ho, hR, hB⟩ := hrel
    have hTz : T < wr.heap.size := Blk.lt hR
    have hSr := HS.out _ hB
    clear hR5
    by_cases hlt : i < n
    · obtain ⟨t, ht⟩ : ∃ t, l[i]? = some t := ⟨_, List.getElem?_eq_getElem (by rw [HL.out]; exact hlt)⟩
      have hok := fac_at HF.out ht
      rw [Nat.zero_add, hs.out] at hok
      have hend := okAt_end hok
      rw [HN.out] at hend
      obtain ⟨hRt, hdt⟩ := okAt_right hok
      obtain ⟨hA, hpc⟩ := code_at HBR.out ht
      rw [hp.out] at hA hpc
      obtain ⟨m, hm⟩ : ∃ m, p + m = K := ⟨K - p, by omega⟩
      have E : Hid (Calls Try.prog 37 #[.pointer (some ⟨T, 0, none⟩)] wr fun e w' => e = .returned (.bool false) ∧ Below wr.heap.size wr w') := by
        by_cases h7 : 7 < m
        · exact Lib.hid (ended_far T A L c K p m hm hK6 h7 wr hR)
        · have h9 := ended_near T A L c K p m D HD.out HK.out hL6 hm (by omega) _ rfl wr hR hSr
          rw [decide_eq_false (goes_on hRt hA (by omega) (by omega))] at h9
          exact Lib.hid h9
      have NX := Lib.hid (fun W h1 h2 => next_ok t hRt T A L c K p (p + price t) D HD.out HK.out hL6 rfl (by omega) hA W h1 h2)
      have CK := Lib.hid (fun W => check_ok t hRt s hdt (by omega) W)
      have SZ := Lib.hid (fun W => lsize_ok t (by have := hRt.le; omega) W)
      have hstep := Lib.hid (show pos l (i + 1) = s + tsz t by rw [pos_succ ht, hs.out])
      have hcst := Lib.hid (show cost (l.take (i + 1)) = p + price t by rw [cost_succ ht, hp.out])
      have hnx := Lib.hid (take_succ ht)
      obtain ⟨z, hz⟩ : ∃ z, tsz t = z := ⟨_, rfl⟩
      rw [hz] at SZ hend hstep
      obtain ⟨q, hq⟩ : ∃ q, p + price t = q := ⟨_, rfl⟩
      rw [hq] at NX hcst
      obtain ⟨t1, t2, t3⟩ := t
      unfold tokV at NX CK SZ
      obtain ⟨LL, hLL⟩ : ∃ LL, flatT (l.take i) = LL := ⟨_, rfl⟩
      have HLL := Lib.hid hLL
      have hol : (l.take i).length = i := by rw [List.length_take, HL.out]; omega
      unfold OwnT at ho
      rw [hLL, hol] at ho
      clear hok hRt hA hLL hol ht hz hq hm hpc hdt
      go_wp2_with (first
        | (go_at_call 32; refine (SZ.out _).mono ?_; rintro e w7 ⟨rfl, hb7⟩; have o7 := own_later o6 hb7; have hR7 : Rd w7 T A L c K q := Blk.later hR6 hb7; have hB7 := hB6.trans (hb7.mono (by omega)))
        | (at_builtin; refine wpList_append_own _ rfl _ _ 24 rfl (T + 1) 46 i0 (.agg #[.int .i64 0, .int .i64 0, .int .u8 0]) 3 24 Try.underlying24 hi hz0 hz1 hz2 rfl (by decide) (.slice A' i c') i LL rfl (ho4.alloc _) ⟨w4.heap.size, 0, none⟩ 1 1 [.int .i64 (t1 : Int), .int .i64 (t2 : Int), .int .u8 (t3.toNat : Int)] rfl rfl (three_news _ _ _ _ _) (three_one _ _ _) (by unfold maxLen; omega) (by omega) (by simp; omega) ?_; intro v6 w6 o6 g6 _; have hB6 : Below T w w6 := (hB4.alloc (by omega) _).grown g6 (by simp; omega) (fun j hj => by have := (World.ownsRow.lt ho4 j hj).1; omega); have hz6 := hB6.size; have k6 := (k4.alloc (.cells #[.int .i64 (t1 : Int), .int .i64 (t2 : Int), .int .u8 (t3.toNat : Int)] 46)).grown g6 (fun e => by have := (World.ownsRow.lt ho2 _ e.symm).2; omega); have y0 := k6.cell 0; have y1 := k6.cell 1; have y2 := k6.cell 2; have hR6 : Rd w6 T A L c K q := (Blk.alloc hR4 _).grown g6 (fun e => by have := (World.ownsRow.lt ho4 _ e.symm).1; omega); have hT6 := Blk.lt hR6; obtain ⟨A6, c6, rfl, _, _⟩ := own_form o6)
        | (go_at_call 31; refine (CK.out _).mono ?_; rintro e w4 ⟨rfl, hb4⟩; have k4 := k3.later hb4; have x0 := k4.cell 0; have x1 := k4.cell 1; have x2 := k4.cell 2; have ho4 := own_later (World.ownsRow.alloc ho2 _) hb4; have hR4 : Rd w4 T A L c K q := Blk.later (Blk.alloc hR2 _) hb4; have hB4 : Below T w w4 := (hB2.alloc (by omega) _).trans (hb4.mono (by simp; omega)); have hz4 := hb4.size; simp only [World.size_alloc] at hz4)
        | (go_at_call 37; refine E.out.mono ?_; rintro e w1 ⟨rfl, hb1⟩; have hR1 : Rd w1 T A L c K p := Blk.later hR hb1; have hS1 := hSr.below (hb1.mono (Nat.le_of_lt hTz)); have ho1 := own_later ho hb1; have hB1 := hB.trans (hb1.mono (Nat.le_of_lt hTz)); have hy1 := hb1.size)
        | (go_at_call 38; refine (NX.out _ hR1 hS1).mono ?_; rintro e w2 ⟨rfl, hb2, hR2⟩; have ho2 := own_but ho1 hb2; have hB2 := hB1.trans hb2.1; have hy2 := hb2.1.size; have k3 := Blk.new w2 46 #[.int .i64 (t1 : Int), .int .i64 (t2 : Int), .int .u8 (t3.toNat : Int)]))
      go_roundw
      case rel => exact ⟨i + 1, s + z, q, A6, c6, by omega, rfl, by go_num, hstep, hcst, by unfold OwnT; rw [hnx.out, flatT_append, HLL.out, List.length_append, List.length_take, HL.out, Nat.min_eq_left (Nat.le_of_lt hlt)]; exact o7, hR7, hB7⟩
      case measure => simp; omega
    · obtain rfl : i = n := by omega
      have hall : l.take i = l := by rw [← HL.out, List.take_length]
      rw [hall] at ho
      have hpc : cost l = p := by rw [← hp.out, hall]
      rw [hpc] at hKc
      obtain ⟨m, hm⟩ : ∃ m, p + m = K := ⟨K - p, by omega⟩
      have E : Hid (Calls Try.prog 37 #[.pointer (some ⟨T, 0, none⟩)] wr fun e w' => e = .returned (.bool true) ∧ Below wr.heap.size wr w') := by
        have h9 := ended_near T A L c K p m D HD.out HK.out hL6 hm (by omega) 0 (by rw [← hpc]; exact ends_here HBR.out m) wr hR hSr
        exact Lib.hid h9
      have ho' : OwnT wr (T + 1) (.slice A' i c') l := ho
      unfold OwnT at ho
      rw [HL.out] at ho
      obtain ⟨_, _, hsl, hkc, hcm⟩ := own_form ho
      obtain ⟨rfl, rfl⟩ : A' = _ ∧ c' = _ := by injection hsl with h1 _ h3; exact ⟨h1, h3⟩
      clear hsl hm
      go_wp2_with (go_at_call 37; refine E.out.mono ?_; rintro e w1 ⟨rfl, hb1⟩)
      go_ret2
      exact ⟨A', c', rfl, (SlT.of_own ho).later hb1, hkc, hcm, by rw [← HT.out]; exact hB.trans (hb1.mono (Nat.le_of_lt hTz))⟩
end Go.Proofs.Ytfahfbkkgcekgaa.H
