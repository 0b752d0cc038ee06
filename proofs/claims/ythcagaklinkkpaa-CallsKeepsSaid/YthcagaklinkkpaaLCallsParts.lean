import Derived.Test.YthcagaklinkkpaaLCallsForward
import Derived.Test.YthcagaklinkkpaaM40P
namespace Go.Proofs.Ythcagaklinkkpaa.E
set_option linter.unusedVariables false
open Go Go.RowKit Go.Shelf Go.Proofs.Ythcagaklinkkpaa Go.Proofs.Ythcagaklinkkpaa.W Go.Proofs.Ythcagaklinkkpaa.M Go.Proofs.Ythcagaklinkkpaa.B

theorem grown_b {B : Nat} {w W W' : World} {v : Value} {base : Nat} {e : TypeId} {n : Nat} {xs : List Value} (h : Below B w W) (hB : B ≤ W.heap.size) (hown : W.ownsRow base e 1 v n xs) (hb : B ≤ base) (hg : W.grownBy W' v.ownBlock) : Below B w W' :=
  h.grown hg hB (fun k hk => Nat.le_trans hb (hown.lt k hk).1)

/-- Clone, with its row. -/
def Cl (A : Option Addr) (n c : Nat) (l : Bs) (w : World) : Prop :=
  Calls Try.prog 20 #[.slice A n c] w fun e w' => ∃ A' c', e = .returned (.slice A' n c') ∧ w'.ownsRow w.heap.size 5 1 (.slice A' n c') n (l.map u8) ∧ Below w.heap.size w w'
theorem clone_g {A : Option Addr} {n c : Nat} {l : Bs} {w : World} {B : Nat} (hl : l.length = n) (h : Sl u8 w B A l) (hn : n ≤ 65536) : Cl A n c l w := by
  subst hl
  exact clone_any A c l w B h (by omega)

set_option maxRecDepth 100000 in
set_option maxHeartbeats 4000000 in
theorem parts_walk (A : Option Addr) (c : Nat) (a : Bs) (A' : Option Addr) (c' : Nat) (b : Bs) (w : World) (h : Sl u8 w w.heap.size A a) (hc : a.length ≤ c) (hm : c ≤ maxLen) (h' : Sl u8 w w.heap.size A' b) (hc' : b.length ≤ c') (hm' : c' ≤ maxLen) :
    Calls Try.prog 9 #[.slice A a.length c, .slice A' b.length c'] w fun e w' => e = .returned (.bool true) ∧ Below w.heap.size w w' := by
  obtain ⟨i0, hi, hz0, hz1, hz2⟩ := info_parts info5
  have hm1 : a.length ≤ 9223372036854775807 := by unfold maxLen at hm; omega
  have hm2 : b.length ≤ 9223372036854775807 := by unfold maxLen at hm'; omega
  obtain ⟨n, hn⟩ : ∃ n, n = a.length := ⟨_, rfl⟩
  obtain ⟨m, hmm⟩ : ∃ m, m = b.length := ⟨_, rfl⟩
  have HN := Lib.hid hn.symm
  have HM := Lib.hid hmm.symm
  rw [← hn] at hm1 ⊢
  rw [← hmm] at hm2 ⊢
  clear hn hmm hc hm hc' hm'
  by_cases h1 : n > 200
  · have h1' : (200 : Int) < n := by omega
    clear h1
    go_enter Try.func9, Try.ntmps9
    go_wp2_with (go_at_call 11; refine (awake_any _).mono ?_; rintro e w4 ⟨rfl, hb4⟩)
    go_ret
    exact ⟨rfl, hb4⟩
  · have h1' : decide ((200 : Int) < n) = false := by rw [decide_eq_false_iff_not]; omega
    by_cases h2 : m > 200
    · have h2' : (200 : Int) < m := by omega
      clear h1 h2
      go_enter Try.func9, Try.ntmps9
      go_wp2_with (go_at_call 11; refine (awake_any _).mono ?_; rintro e w4 ⟨rfl, hb4⟩)
      go_ret
      exact ⟨rfl, hb4⟩
    · have h2' : decide ((200 : Int) < m) = false := by rw [decide_eq_false_iff_not]; omega
      obtain ⟨P, hP⟩ : ∃ P, P = a ++ [1, 1, 1, 1] := ⟨_, rfl⟩
      have HP := Lib.hid hP
      have HPl : Hid (P.length = n + 4) := Lib.hid (by rw [hP, List.length_append, HN.out]; rfl)
      obtain ⟨T, hT⟩ : ∃ T, trans 1 P = T := ⟨_, rfl⟩
      obtain ⟨T', hT'⟩ : ∃ T', trans 1 (P ++ b) = T' := ⟨_, rfl⟩
      obtain ⟨S, hS⟩ : ∃ S, scan P 0 = S := ⟨_, rfl⟩
      obtain ⟨S', hS'⟩ : ∃ S', scan (P ++ b) 0 = S' := ⟨_, rfl⟩
      obtain ⟨p1, p2⟩ := trans_parts 1 a b
      rw [← hP, hT, hT'] at p1
      rw [← hP, hS, hS'] at p2
      have hTl : T.length = n + 4 := by rw [← hT, trans_length, HPl.out]
      have HT : Hid (T.length = n + 4 ∧ T'.take (n + 4) = T) := Lib.hid ⟨hTl, by rw [← hTl]; exact (List.prefix_iff_eq_take.1 p1).symm⟩
      obtain ⟨s, hs⟩ : ∃ s, S.length = s := ⟨_, rfl⟩
      obtain ⟨s', hs'⟩ : ∃ s', S'.length = s' := ⟨_, rfl⟩
      have hss : s ≤ s' := by rw [← hs, ← hs']; exact p2.length_le
      have hsn : s ≤ 65536 := by have := scan_le P; rw [hS, hs, HPl.out] at this; omega
      have HS : Hid (S'.take s = S) := Lib.hid (by rw [← hs]; exact (List.prefix_iff_eq_take.1 p2).symm)
      have HSl := Lib.hid hs
      have C1 := Lib.hid (clone_g (c := c) HN.out h (by omega))
      have F1 : Hid (∀ W A c, Sl u8 W W.heap.size A P → Gives 12 A (n + 4) c W T (n + 4) 0) := Lib.hid fun W A c hs => forward_g HPl.out (by omega) hT hs
      have S1 : Hid (∀ W A c, Sl u8 W W.heap.size A P → GivesI 15 A (n + 4) c W S s 0) := Lib.hid fun W A c hq => sites_g HPl.out (by omega) hS hs hq
      have C2 : Hid (∀ W A c, Sl u8 W W.heap.size A P → Cl A (n + 4) c P W) := Lib.hid fun W A c hs => clone_g HPl.out hs (by omega)
      have C3 := C2
      have HQl : Hid ((P ++ b).length = n + 4 + m) := Lib.hid (by rw [List.length_append, HPl.out, HM.out])
      have F2 : Hid (∀ W A c, Sl u8 W W.heap.size A (P ++ b) → Gives 12 A (n + 4 + m) c W T' (n + 4 + m) 0) := Lib.hid fun W A c hs => forward_g HQl.out (by omega) hT' hs
      have S2 : Hid (∀ W A c, Sl u8 W W.heap.size A (P ++ b) → GivesI 15 A (n + 4 + m) c W S' s' 0) := Lib.hid fun W A c hq => sites_g HQl.out (by omega) hS' hs' hq
      have hns : decide (s' < s) = false := by rw [decide_eq_false_iff_not]; omega
      have HSS := Lib.hid hss
      have HNB : Hid (n ≤ 200 ∧ m ≤ 200) := Lib.hid ⟨by omega, by omega⟩
      have hn4 : n ≤ 65536 := by omega
      have hm4 : m ≤ 65536 := by omega
      clear hP hT hT' hS hS' hs hs' hTl p1 p2 h1 h2 hss hm1 hm2
      go_enter Try.func9, Try.ntmps9
      go_wp2_with (first
        | (go_at_call 20; refine C1.out.mono ?_; clear C1; rintro e w1 ⟨A1, c1, rfl, o1, hb⟩)
        | (at_builtin; refine wpList_append_sl _ u8_one' rfl _ _ 22 rfl w.heap.size 5 i0 (.int .u8 0) 1 Try.underlying22 hi hz0 hz1 hz2 rfl (.slice A1 n c1) n (a.map u8) rfl (o1.alloc _) _ _ 4 ([1, 1, 1, 1] : Bs) 4 rfl (Sl.of_new rfl rfl) rfl (by have := HNB.out; unfold maxLen; omega) (by have := HNB.out; omega) (by have := hb.size; simp; omega) ?_; intro v2 w2 o2 g2; have hb := grown_b (hb.alloc hb.size _) (by have := hb.size; simp; omega) (o1.alloc _) (Nat.le_refl _) g2; obtain ⟨A2, c2, rfl, _, _⟩ := own_form o2; have t2 : Sl u8 w2 w2.heap.size A2 P := Sl.of_own (l := P) (by rw [HP.out, List.map_append]; exact o2); clear o1 o2 g2)
        | (go_at_call 12; refine (F1.out _ _ _ t2).mono ?_; clear F1; rintro e w3 ⟨A3, c3, rfl, t3, _, _, hb3⟩; have t2 := t2.later hb3; have hb := bsa hb hb.size hb3; clear hb3)
        | (go_at_call 20; refine (C2.out _ _ _ t2).mono ?_; clear C2; rintro e w4 ⟨A4, c4, rfl, o4, hb4⟩; have t2 := t2.below hb4; have t3 := t3.below hb4; have hz4 := hb.size; have hb := bsa hb hb.size hb4; have hw4 : w3.heap.size ≤ w4.heap.size := hb4.size; clear hb4)
        | (at_builtin; refine wpList_append_sl _ u8_one' rfl _ _ 22 rfl w3.heap.size 5 i0 (.int .u8 0) 1 Try.underlying22 hi hz0 hz1 hz2 rfl (.slice A4 (n + 4) c4) (n + 4) (P.map u8) rfl o4 _ A' c' b m rfl (h'.below hb) HM.out (by have := HNB.out; unfold maxLen; omega) (by have := HNB.out; omega) hw4 ?_; intro v5 w5 o5 g5; have hb5 := grown_b (Below.refl w3.heap.size w4) hw4 o4 (Nat.le_refl _) g5; have hb := grown_b hb hb.size o4 hz4 g5; have hz5 := hb5.size; have hw5 : w3.heap.size ≤ w5.heap.size := Nat.le_trans hw4 g5.size; obtain ⟨A5, c5, rfl, _, _⟩ := own_form o5; have t5 : Sl u8 w5 w5.heap.size A5 (P ++ b) := Sl.of_own (by rw [List.map_append]; exact o5); have t2 := (t2.below hb5).more hw5; have t3 := (t3.below hb5).more hw5; clear o4 o5 g5 hb5 hz5 hw5 hw4 hz4)
        | (go_at_call 12; refine (F2.out _ _ _ t5).mono ?_; clear F2 t5; rintro e w6 ⟨A6, c6, rfl, t6, hc6, _, hb6⟩; have hk6 : n + 4 ≤ c6 := (by omega); clear hc6; have t2 := t2.later hb6; have t3 := t3.later hb6; have hb := bsa hb hb.size hb6; clear hb6)
        | (go_at_call 15; refine (S1.out _ _ _ t2).mono ?_; clear S1; rintro e w7 ⟨A7, c7, rfl, t7, _, _, hb7⟩; have t2 := t2.later hb7; have t3 := t3.later hb7; have t6 := t6.later hb7; have hb := bsa hb hb.size hb7; clear hb7)
        | (go_at_call 20; refine (C3.out _ _ _ t2).mono ?_; clear C3 t2; rintro e w8 ⟨A8, c8, rfl, o8, hb8⟩; have t3 := t3.below hb8; have t6 := t6.below hb8; have t7 := t7.below hb8; have hz8 := hb.size; have hb := bsa hb hb.size hb8; have hw8 : w7.heap.size ≤ w8.heap.size := hb8.size; clear hb8)
        | (at_builtin; refine wpList_append_sl _ u8_one' rfl _ _ 22 rfl w7.heap.size 5 i0 (.int .u8 0) 1 Try.underlying22 hi hz0 hz1 hz2 rfl (.slice A8 (n + 4) c8) (n + 4) (P.map u8) rfl o8 _ A' c' b m rfl (h'.below hb) HM.out (by have := HNB.out; unfold maxLen; omega) (by have := HNB.out; omega) hw8 ?_; intro v9 w9 o9 g9; have hb9 := grown_b (Below.refl w7.heap.size w8) hw8 o8 (Nat.le_refl _) g9; have hb := grown_b hb hb.size o8 hz8 g9; have hw9 : w7.heap.size ≤ w9.heap.size := Nat.le_trans hw8 g9.size; obtain ⟨A9, c9, rfl, _, _⟩ := own_form o9; have t9 : Sl u8 w9 w9.heap.size A9 (P ++ b) := Sl.of_own (by rw [List.map_append]; exact o9); have t3 := (t3.below hb9).more hw9; have t6 := (t6.below hb9).more hw9; have t7 := (t7.below hb9).more hw9; clear o8 o9 g9 hb9 hw9 hw8 hz8)
        | (go_at_call 15; refine (S2.out _ _ _ t9).mono ?_; clear S2 t9; rintro e w10 ⟨A10, c10, rfl, t10, hc10, _, hb10⟩; have hk10 : s ≤ c10 := (by have := HSS.out; omega); clear hc10; have t3 := t3.later hb10; have t6 := t6.later hb10; have t7 := t7.later hb10; have hb := bsa hb hb.size hb10; clear hb10)
        | (go_at_call 14; refine (equal_same HT.out.1 t3 (HT.out.2 ▸ t6.take (n + 4))).mono ?_; rintro e w11 ⟨rfl, rfl⟩)
        | (go_at_call 17; refine (equalI_same HSl.out (by omega) t7 (HS.out ▸ t10.take s)).mono ?_; rintro e w12 ⟨rfl, hb12⟩; have hb := bsa hb hb.size hb12; clear hb12)
        | (go_at_call 11; refine (awake_any _).mono ?_; rintro e w13 ⟨rfl, hb13⟩; have hb := bsa hb hb.size hb13; clear hb13))
      go_ret
      exact ⟨rfl, hb⟩
end Go.Proofs.Ythcagaklinkkpaa.E
