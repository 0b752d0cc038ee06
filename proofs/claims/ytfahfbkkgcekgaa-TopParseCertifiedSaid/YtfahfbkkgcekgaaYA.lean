/- parse.Optimal. -/
import Derived.Test.YtfahfbkkgcekgaaY9
namespace Go.Proofs.Ytfahfbkkgcekgaa.H
set_option linter.unusedVariables false
set_option linter.unusedSimpArgs false
open Go Go.RowKit Go.Proofs.Ytfahfbkkgcekgaa Go.Proofs.Ytfahfbkkgcekgaa.W Go.Proofs.Ytfahfbkkgcekgaa.M

set_option maxRecDepth 100000 in
set_option maxHeartbeats 2000000 in
theorem Optimal_ok (b : Bs) (N : Nat) (hN : b.length = N) (hN6 : N ≤ 65536) (A : Option Addr) (c : Nat) (l : List Tok) (k n : Nat) (hl : opt b 0 = l) (hk : l.length = k) (hn : pot b 0 = n) (w : World) (hS : Sl u8 w w.heap.size A b) :
    Calls Try.prog 10 #[.slice A N c] w fun e w' => ∃ A' c', e = .returned (.tuple #[.slice A' k c', .int .i64 (n : Int), .int .i64 0]) ∧ SlT w' w'.heap.size A' l ∧ k ≤ c' ∧ c' ≤ maxLen ∧ Below w.heap.size w w' := by
  obtain ⟨i0, hi, hz0, hz1, hz2⟩ := info_parts infoT
  have C := Lib.hid (solve_ok b N hN hN6 A c w hS)
  have HN := Lib.hid hN
  have HL := Lib.hid hl
  have HK := Lib.hid hk
  have HPN := Lib.hid hn
  have HST : Hid (∀ a, a < N → (solv b N).2[a]? = some (stp b a) ∧ okAt b a (stp b a)) := Lib.hid fun a ha => by
    subst hN
    refine ⟨?_, chs_ok ha (pot_spec b ha).1⟩
    unfold stp
    rw [List.getD_eq_getElem?_getD, List.getElem?_eq_getElem (by rw [(solv_len b _).2]; exact ha)]; rfl
  clear hN hl hk hn
  go_enter Try.func10, Try.ntmps10
  go_wp2_with (go_at_call 21; refine C.out.mono ?_; rintro e w1 ⟨gp, gs, rfl, hP1, hT1, hgp, hgs, hb1⟩)
  clear C
  go_loopw [7, 8] (fun v av wm => ∃ (a : Nat) (q : List Tok) (A' : Option Addr) (c' j : Nat), a ≤ N ∧ av = .int .i64 (a : Int) ∧ v = .slice A' j c' ∧ Hid (q.length = j) ∧ j ≤ a ∧ Hid (l = q ++ opt b a) ∧ wm.ownsRow w1.heap.size 46 3 (.slice A' j c') j (flatT q) ∧ Below w1.heap.size w1 wm) (fun _ av _ => N - (intOf av).toNat)
  case atStart => exact ⟨0, [], none, 0, 0, Nat.zero_le _, rfl, rfl, Lib.hid rfl, Nat.le_refl _, Lib.hid HL.out.symm, World.ownsRow_nil _ _ _ _, Below.refl _ _⟩
  case round =>
    obtain ⟨a, q, A', c', j, ha, rfl, rfl, hq, hja, hsc, hown, hB⟩ := hrel
    by_cases hlt : a < N
    · obtain ⟨ht, hok⟩ := HST.out a hlt
      have hend := okAt_end hok
      rw [HN.out] at hend
      have hpos := tsz_pos (stp b a)
      have hgo : Hid (opt b a = stp b a :: opt b (a + tsz (stp b a))) := Lib.hid (opt_step (by rw [HN.out]; exact hlt))
      have SZ := Lib.hid (fun W => psize_ok (stp b a) (by have := (okAt_right hok).1.le; omega) W)
      obtain ⟨z, hz⟩ : ∃ z, tsz (stp b a) = z := ⟨_, rfl⟩
      rw [hz] at SZ hend hgo hpos
      obtain ⟨t, ht'⟩ : ∃ t, stp b a = t := ⟨_, rfl⟩
      rw [ht'] at ht SZ hgo
      clear hz ht' hok
      obtain ⟨t1, t2, t3⟩ := t
      unfold tokV at SZ
      obtain ⟨o0, o1, o2⟩ := (hT1.later hB).at_ ht
      replace o0 : wr.cell? ⟨gs, a * 3, none⟩ = some (.int .i64 (t1 : Int)) := o0
      replace o1 : wr.cell? ⟨gs, a * 3 + 1, none⟩ = some (.int .i64 (t2 : Int)) := o1
      replace o2 : wr.cell? ⟨gs, a * 3 + 2, none⟩ = some (.int .u8 (t3.toNat : Int)) := o2
      obtain ⟨L, hL⟩ : ∃ L, L = flatT q := ⟨_, rfl⟩
      have HLL := Lib.hid hL
      have HT := Lib.hid ht
      rw [← hL] at hown
      have v5 : (a : Int) < (N : Int) := by omega
      have hzz := hB.size
      clear hL ht
      go_wp2_with (first
        | (at_builtin; refine wpList_append_own _ rfl _ _ 24 rfl w1.heap.size 46 i0 (.agg #[.int .i64 0, .int .i64 0, .int .u8 0]) 3 24 Try.underlying24 hi hz0 hz1 hz2 rfl (by decide) (.slice A' j c') j L rfl (hown.alloc _) ⟨wr.heap.size, 0, none⟩ 1 1 [.int .i64 (t1 : Int), .int .i64 (t2 : Int), .int .u8 (t3.toNat : Int)] rfl rfl (three_news _ _ _ _ _) (three_one _ _ _) (by unfold maxLen; omega) (by omega) (by simp; omega) ?_; intro v4 w4 o4 g4 _; have hB4 : Below w1.heap.size w1 w4 := (hB.alloc hB.size _).grown g4 (by simp; omega) (fun j hj => (World.ownsRow.lt hown j hj).1); obtain ⟨A4, c4, rfl, _, _⟩ := own_form o4; have hzz4 := hB4.size; obtain ⟨p0, p1, p2⟩ := (hT1.later hB4).at_ HT.out)
        | (go_at_call 22; refine (SZ.out _).mono ?_; rintro e w5 ⟨rfl, hb5⟩; have o5 := own_later o4 hb5; have hB5 := bsa hB4 hb5))
      go_roundw
      case rel => exact ⟨a + z, q ++ [(t1, t2, t3)], A4, c4, j + 1, hend, by go_num, rfl, Lib.hid (by rw [List.length_append, hq.out]; rfl), by omega, Lib.hid (by rw [hsc.out, hgo.out]; simp), by rw [flatT_append, ← HLL.out]; exact o5, hB5⟩
      case measure => simp [intOf]; omega
    · obtain rfl : a = N := by omega
      have hql : Hid (q = l) := Lib.hid (by rw [hsc.out, opt_end (by rw [HN.out]; exact Nat.le_refl _), List.append_nil])
      have hjk : j = k := by rw [← hq.out, hql.out, HK.out]
      subst hjk
      rw [hql.out] at hown
      have e1 := (hP1.later hB).at_ (i := 0) (by rw [(solv_len b _).1]; omega)
      have e2 : (solv b a).1.getD 0 0 = n := by rw [← HPN.out]; unfold pot; rw [HN.out]
      rw [e2] at e1
      have v6 : (0 : Int) < (a : Int) + 1 := by omega
      obtain ⟨A9, c9, hsl, hkc, hcm⟩ := own_form hown
      obtain ⟨rfl, rfl⟩ : A' = _ ∧ c' = _ := by injection hsl with h1 _ h3; exact ⟨h1, h3⟩
      clear hsl e2
      go_wp2_with fail
      go_quiet (fail)
      go_wp2
      go_ret3
      exact ⟨A', c', rfl, SlT.later (SlT.of_own hown) (below_drewN (Below.refl _ _) _), hkc, hcm, bsa hb1 (below_drewN hB _)⟩
end Go.Proofs.Ytfahfbkkgcekgaa.H
