import Derived.Test.YtnmmajkmdgfllaaC6
namespace Go.Proofs.Ytnmmajkmdgfllaa.C
set_option linter.unusedVariables false
open Go Go.RowKit Go.Shelf Go.Proofs.Ytnmmajkmdgfllaa Go.Proofs.Ytnmmajkmdgfllaa.W Go.Proofs.Ytnmmajkmdgfllaa.M Go.Proofs.Ytnmmajkmdgfllaa.B

theorem update_ok (u : Int) (s : R) (hs : (s.toNat : Int) = u) (A : Option Addr) (c N : Nat) (xs : List UInt8) (hN : xs.length = N) (hn : N ≤ 140737488351232) (v : Int) (hv : ((upd s xs).toNat : Int) = v) (w : World) (B : Nat) (h : Sl u8 w B A xs) :
    Calls Try.prog 13 #[.int .u32 u, .slice A N c] w fun e w' => e = .returned (.int .u32 v) ∧ Below w.heap.size w w' := by
  subst hN; subst hv; subst hs; exact update_any s A c xs hn w B h

set_option maxRecDepth 100000 in
set_option maxHeartbeats 1000000 in
theorem joins_walk (A : Option Addr) (c : Nat) (x : List UInt8) (A' : Option Addr) (c' : Nat) (y : List UInt8) (w : World) (h : Sl u8 w w.heap.size A x) (hc : x.length ≤ c) (hm : c ≤ maxLen) (h' : Sl u8 w w.heap.size A' y) (hc' : y.length ≤ c') (hm' : c' ≤ maxLen) :
    Calls Try.prog 4 #[.slice A x.length c, .slice A' y.length c'] w fun e w' => e = .returned (.bool true) ∧ Below w.heap.size w w' := by
  have hmx : x.length ≤ 9223372036854775807 := by unfold maxLen at hm; omega
  have hmy : y.length ≤ 9223372036854775807 := by unfold maxLen at hm'; omega
  clear hm hm'
  by_cases h5 : x.length > 2000
  · go_enter Try.func4, Try.ntmps4
    go_wp2_with (go_at_call 9; refine (awake_any _).mono ?_; rintro e w1 ⟨rfl, hb1⟩)
    go_ret
    exact ⟨rfl, hb1⟩
  · by_cases h6 : y.length > 2000
    · go_enter Try.func4, Try.ntmps4
      go_wp2_with (go_at_call 9; refine (awake_any _).mono ?_; rintro e w1 ⟨rfl, hb1⟩)
      go_ret
      exact ⟨rfl, hb1⟩
    · obtain ⟨vx, hvx⟩ : ∃ v : Int, ((crc x).toNat : Int) = v := ⟨_, rfl⟩
      obtain ⟨vy, hvy⟩ : ∃ v : Int, ((crc y).toNat : Int) = v := ⟨_, rfl⟩
      obtain ⟨va, hva⟩ : ∃ v : Int, ((crc (x ++ y)).toNat : Int) = v := ⟨_, rfl⟩
      obtain ⟨i0, hi, hz0, hz1, hz2⟩ := info_parts info5
      have D0 := Lib.hid fun (A2 : Option Addr) (c2 : Nat) (W : World) (B : Nat) (hs : Sl u8 W B A2 (x ++ y)) => sum_ok A2 c2 (x.length + y.length) (x ++ y) (by simp) (by omega) va hva W B hs
      have D1 := Lib.hid fun (W : World) (hB : Below w.heap.size w W) => sum_ok A c x.length x rfl (by omega) vx hvx W _ (h.below hB)
      have D2 := Lib.hid fun (W : World) (hB : Below w.heap.size w W) => sum_ok A' c' y.length y rfl (by omega) vy hvy W _ (h'.below hB)
      have D3 := Lib.hid fun (W : World) (hB : Below w.heap.size w W) => update_ok vx _ hvx A' c' y.length y rfl (by omega) va (by rw [upd_crc]; exact hva) W _ (h'.below hB)
      have D4 := Lib.hid fun (W : World) => combine_ok vx vy (y.length : Int) _ _ hvx hvy va (by
        have e : combZ (crc x) (crc y) (y.length : Int) = comb (crc x) (crc y) y.length := by unfold combZ; rw [if_neg (by omega)]; rfl
        rw [e, comb_crc]; exact hva) W
      have D1' := D1
      clear hvx hvy hva
      go_enter Try.func4, Try.ntmps4
      go_wp2_with (first
        | (go_at_call 12; refine (D0.out _ _ _ _ (Sl.of_own hown2)).mono ?_; clear D0; rintro e w3 ⟨rfl, hb3⟩; have hB3 := bs hb2 hb3)
        | (go_at_call 9; refine (awake_any _).mono ?_; rintro e w4 ⟨rfl, hb4⟩; have hB4 := bs hB3 hb4)
        | (go_at_call 12; refine (D1.out _ hB4).mono ?_; clear D1; rintro e w5 ⟨rfl, hb5⟩; have hB5 := bs hB4 hb5)
        | (go_at_call 13; refine (D3.out _ hB5).mono ?_; clear D3; rintro e w6 ⟨rfl, hb6⟩; have hB6 := bs hB5 hb6)
        | (go_at_call 12; refine (D1'.out _ hB6).mono ?_; clear D1'; rintro e w7 ⟨rfl, hb7⟩; have hB7 := bs hB6 hb7)
        | (go_at_call 12; refine (D2.out _ hB7).mono ?_; clear D2; rintro e w8 ⟨rfl, hb8⟩; have hB8 := bs hB7 hb8)
        | (go_at_call 10; refine (D4.out _).mono ?_; clear D4; rintro e w9 ⟨rfl, hb9⟩; have hB9 := bs hB8 hb9)
        | (at_builtin; refine wpList_append_sl _ u8_one' rfl _ _ 26 rfl w.heap.size 5 i0 (.int .u8 0) 1 Try.underlying26 hi hz0 hz1 hz2 rfl _ x.length _ rfl hown1 _ A' c' y y.length rfl (h'.below hb1) rfl (by unfold maxLen; omega) (by omega) hb1.size ?_; intro v2 w2 hown2 hgrow2; rw [← List.map_append] at hown2; obtain ⟨A2, c2, rfl, _, _⟩ := own_form hown2; have hb2 : Below w.heap.size w w2 := hb1.grown hgrow2 hb1.size (fun k hk => (hown1.lt k hk).1))
        | (at_builtin; refine wpList_append_sl _ u8_one' rfl _ _ 26 rfl w.heap.size 5 i0 (.int .u8 0) 1 Try.underlying26 hi hz0 hz1 hz2 rfl _ 0 [] rfl (World.ownsRow_made _ #[] 0 (Nat.le_refl _) (by decide) rfl) _ A c x x.length rfl (h.alloc (Nat.le_refl _) _) rfl (by unfold maxLen; omega) (by omega) (by simp) ?_; intro v1 w1 hown1 hgrow1; rw [Nat.zero_add, List.nil_append] at hown1; obtain ⟨A1, c1, rfl, _, _⟩ := own_form hown1; have hb1 : Below w.heap.size w w1 := ((Below.refl _ w).alloc (Nat.le_refl _) _).grown hgrow1 (by simp) (fun k hk => by cases hk; exact Nat.le_refl _)))
      go_ret
      exact ⟨by simp, hB9⟩
end Go.Proofs.Ytnmmajkmdgfllaa.C
