import Derived.Test.YtnmmajkmdgfllaaLChecksumDetects
namespace Go.Proofs.Ytnmmajkmdgfllaa.C
set_option linter.unusedVariables false
open Go Go.RowKit Go.Shelf Go.Proofs.Ytnmmajkmdgfllaa Go.Proofs.Ytnmmajkmdgfllaa.W Go.Proofs.Ytnmmajkmdgfllaa.M Go.Proofs.Ytnmmajkmdgfllaa.B

theorem opened_sealed (b : List UInt8) (h : b.length ≤ 2000) : opened (sealed b) = (b, 0) := by
  have hl := sealed_length b
  have ht : (sealed b).take ((sealed b).length - 4) = b := by
    rw [hl, Nat.add_sub_cancel]
    exact List.take_left' rfl
  unfold opened
  rw [if_neg (by omega), if_neg (by omega), ht]
  simp
theorem opened_changed (b : List UInt8) (i : Nat) (d0 d1 d2 d3 : UInt8) (h : b.length ≤ 2000) (hi : i + 4 ≤ b.length + 4) (hd : ¬ (d0 = 0 ∧ d1 = 0 ∧ d2 = 0 ∧ d3 = 0)) : opened (chg (sealed b) i [d0, d1, d2, d3] 4) = ([], 10) := by
  have hl := sealed_length b
  have hc := chg_length (sealed b) i [d0, d1, d2, d3] 4
  have hne := crc_changes (b := sealed b) (i := i) (by omega) hd
  unfold opened
  rw [if_neg (by omega), if_neg (by omega), if_neg]
  intro e
  have e := eq_of_beq e
  apply hne
  unfold crc upd
  rw [← e, residue, residue]

theorem open_sealed (b : List UInt8) (N : Nat) (hN : b.length = N) (h : N ≤ 2000) (A : Option Addr) (c : Nat) (hc : N + 4 ≤ c) (hm : c ≤ maxLen) (w : World) (B : Nat) (hs : Sl u8 w B A (sealed b)) :
    Calls Try.prog 15 #[.slice A (N + 4) c] w fun e w' => ∃ A2 c2, e = .returned (.tuple #[.slice A2 N c2, .int .i64 0]) ∧ Sl u8 w' w'.heap.size A2 b ∧ Below w.heap.size w w' := by
  refine (open_any A c (N + 4) (sealed b) (by rw [sealed_length, hN]) hc (by unfold maxLen at hm; omega) w B hs).mono ?_
  rintro e w' ⟨A', N', c', rfl, hl, hown, hb⟩
  rw [opened_sealed b (by omega)] at hl hown ⊢
  have hl : b.length = N' := hl
  obtain rfl : N' = N := by omega
  exact ⟨A', c', rfl, Sl.of_own hown, hb⟩
theorem open_changed (b : List UInt8) (N : Nat) (hN : b.length = N) (h : N ≤ 2000) (i : Nat) (d0 d1 d2 d3 : UInt8) (hi : i ≤ N) (hd : ¬ (d0 = 0 ∧ d1 = 0 ∧ d2 = 0 ∧ d3 = 0)) (A : Option Addr) (c : Nat) (hc : N + 4 ≤ c) (hm : c ≤ maxLen) (w : World) (B : Nat) (hs : Sl u8 w B A (chg (sealed b) i [d0, d1, d2, d3] 4)) :
    Calls Try.prog 15 #[.slice A (N + 4) c] w fun e w' => ∃ A2 c2, e = .returned (.tuple #[.slice A2 0 c2, .int .i64 10]) ∧ Below w.heap.size w w' := by
  refine (open_any A c (N + 4) _ (by rw [chg_length, sealed_length, hN]) hc (by unfold maxLen at hm; omega) w B hs).mono ?_
  rintro e w' ⟨A', N', c', rfl, hl, hown, hb⟩
  rw [opened_changed b i d0 d1 d2 d3 (by omega) (by omega) hd] at hl ⊢
  have hl : 0 = N' := hl
  subst hl
  exact ⟨A', c', rfl, hb⟩

set_option maxRecDepth 100000 in
set_option maxHeartbeats 1000000 in
theorem opens_walk (A : Option Addr) (c : Nat) (b : List UInt8) (a : Nat) (ds : List UInt8) (w : World) (h : Sl u8 w w.heap.size A b) (hc : b.length ≤ c) (hm : c ≤ maxLen) (ha : a ≤ 65535) (hd : ds.length = 4) :
    Calls Try.prog 8 #[.slice A b.length c, .int .u16 (a : Int), .agg (ds.map u8).toArray] w fun e w' => e = .returned (.bool true) ∧ Below w.heap.size w w' := by
  obtain ⟨d0, d1, d2, d3, rfl⟩ := four_of ds hd
  have hm' : b.length ≤ 9223372036854775807 := by unfold maxLen at hm; omega
  clear hm hd
  show Calls _ _ #[_, _, .agg #[.int .u8 (d0.toNat : Int), .int .u8 (d1.toNat : Int), .int .u8 (d2.toNat : Int), .int .u8 (d3.toNat : Int)]] _ _
  by_cases h5 : b.length > 2000
  · go_enter Try.func8, Try.ntmps8
    go_wp2_with (go_at_call 9; refine (awake_any _).mono ?_; rintro e w1 ⟨rfl, hb1⟩)
    go_ret
    exact ⟨rfl, bsa (Below.refl _ w) hb1⟩
  · obtain ⟨n, hN⟩ : ∃ n, b.length = n := ⟨_, rfl⟩
    have HN := Lib.hid hN
    have h2 : n ≤ 2000 := by omega
    rw [hN]
    clear hN h5 hm' hc
    obtain ⟨D, hD⟩ : ∃ D : Array Value, D = #[.int .u8 (d0.toNat : Int), .int .u8 (d1.toNat : Int), .int .u8 (d2.toNat : Int), .int .u8 (d3.toNat : Int)] := ⟨_, rfl⟩
    have D1 := Lib.hid fun (W : World) (hS : Held w D W) => seal_sl A c n (n + 4) b HN.out rfl (by omega) W _ (h.below hS.below)
    have D2 := Lib.hid fun (W : World) (A' : Option Addr) (c' : Nat) (hs : Sl u8 W W.heap.size A' (sealed b)) (hc : n + 4 ≤ c') (hm : c' ≤ maxLen) => open_sealed b n HN.out h2 A' c' hc hm W _ hs
    have D3 := Lib.hid fun (W : World) (hS : Held w D W) (A' : Option Addr) (c' : Nat) (hs : Sl u8 W W.heap.size A' b) => same_ok A' A c' c n n b b W _ _ hs (h.below hS.below) HN.out HN.out (by omega) (by omega) true (by simp)
    have HST : Hid (∀ W, Held w D W → Blk W w.heap.size 31 #[.int .u8 (d0.toNat : Int), .int .u8 (d1.toNat : Int), .int .u8 (d2.toNat : Int), .int .u8 (d3.toNat : Int)]) := Lib.hid (fun W hW => hD ▸ hW.blk)
    have HS0 : Hid (Held w D (w.alloc (.cells #[.int .u8 (d0.toNat : Int), .int .u8 (d1.toNat : Int), .int .u8 (d2.toNat : Int), .int .u8 (d3.toNat : Int)] 31))) := Lib.hid (hD ▸ Held.start w D)
    have SH : Hid (∀ W, Held w D W → (W.cell? ⟨w.heap.size, 0, none⟩ = some (.int .u8 (d0.toNat : Int)) ∧ W.cell? ⟨w.heap.size, 1, none⟩ = some (.int .u8 (d1.toNat : Int)) ∧ W.cell? ⟨w.heap.size, 2, none⟩ = some (.int .u8 (d2.toNat : Int)) ∧ W.cell? ⟨w.heap.size, 3, none⟩ = some (.int .u8 (d3.toNat : Int)))) := Lib.hid (fun W hW => ⟨(HST.out W hW).cell 0, (HST.out W hW).cell 1, (HST.out W hW).cell 2, (HST.out W hW).cell 3⟩)
    clear hD
    by_cases hz : d0 = 0 ∧ d1 = 0 ∧ d2 = 0 ∧ d3 = 0
    · obtain ⟨rfl, rfl, rfl, rfl⟩ := hz
      have hq := fun w => eq4 0 0 0 0 w
      go_enter Try.func8, Try.ntmps8
      go_wp2_with (first
        | (go_at_call 18; refine (D1.out _ HS0.out).mono ?_; rintro e w1 ⟨A1, c1, rfl, s1, hc1, hm1, hb1⟩; have hH := HS0.out.step hb1)
        | (go_at_call 15; refine (D2.out _ _ _ s1 hc1 hm1).mono ?_; rintro e w2 ⟨A2, c2, rfl, s2, hb2⟩; have hH := hH.step hb2)
        | (go_at_call 17; refine (D3.out _ hH _ _ s2).mono ?_; rintro e w3 ⟨rfl, hb3⟩; have hH := hH.step hb3; obtain ⟨k0, k1, k2, k3⟩ := SH.out _ hH)
        | (go_at_call 9; refine (awake_any _).mono ?_; rintro e w4 ⟨rfl, hb4⟩; have hH := hH.step hb4))
      go_ret
      exact ⟨rfl, hH.below⟩
    · have hq : ∀ w, (Op.equalIn 10000 31 (.agg #[.int .u8 (d0.toNat : Int), .int .u8 (d1.toNat : Int), .int .u8 (d2.toNat : Int), .int .u8 (d3.toNat : Int)]) (.agg #[.int .u8 0, .int .u8 0, .int .u8 0, .int .u8 0])).run Try.prog w = .ok false w := fun w => by
        rw [eq4]
        congr 1
        rw [Bool.eq_false_iff]
        intro e
        simp only [Bool.and_eq_true, beq_iff_eq] at e
        obtain ⟨⟨⟨e0, e1⟩, e2⟩, e3⟩ := e
        exact hz ⟨UInt8.toNat_inj.1 (by simpa using e0), UInt8.toNat_inj.1 (by simpa using e1), UInt8.toNat_inj.1 (by simpa using e2), UInt8.toNat_inj.1 (by simpa using e3)⟩
      have hi := Nat.mod_lt a (show 0 < n + 1 by omega)
      have D4 := Lib.hid fun (W : World) (A' : Option Addr) (c' : Nat) (hs : Sl u8 W W.heap.size A' (sealed b)) => changed_any A' c' n (sealed b) a d0 d1 d2 d3 (by rw [sealed_length, HN.out]) (by omega) ha W _ hs
      have D5 := Lib.hid fun (W : World) (A' : Option Addr) (c' : Nat) (hs : Sl u8 W W.heap.size A' (chg (sealed b) (a % (n + 1)) [d0, d1, d2, d3] 4)) (hc : n + 4 ≤ c') (hm : c' ≤ maxLen) => open_changed b n HN.out h2 (a % (n + 1)) d0 d1 d2 d3 (by omega) hz A' c' hc hm W _ hs
      clear hz hi
      go_enter Try.func8, Try.ntmps8
      go_wp2_with (first
        | (go_at_call 18; refine (D1.out _ HS0.out).mono ?_; rintro e w1 ⟨A1, c1, rfl, s1, hc1, hm1, hb1⟩; have hH := HS0.out.step hb1)
        | (go_at_call 15; refine (D2.out _ _ _ s1 hc1 hm1).mono ?_; clear D2; rintro e w2 ⟨A2, c2, rfl, s2, hb2⟩; have hH := hH.step hb2; have s1 := s1.later hb2)
        | (go_at_call 17; refine (D3.out _ hH _ _ s2).mono ?_; rintro e w3 ⟨rfl, hb3⟩; have hH := hH.step hb3; have s1 := s1.later hb3; obtain ⟨k0, k1, k2, k3⟩ := SH.out _ hH)
        | (go_at_call 14; refine (D4.out _ _ _ s1).mono ?_; rintro e w4 ⟨A4, c4, rfl, s4, hc4, hm4, hb4⟩; have hH := hH.step hb4)
        | (go_at_call 15; refine (D5.out _ _ _ s4 hc4 hm4).mono ?_; rintro e w5 ⟨A5, c5, rfl, hb5⟩; have hH := hH.step hb5)
        | (go_at_call 9; refine (awake_any _).mono ?_; rintro e w6 ⟨rfl, hb6⟩; have hH := hH.step hb6))
      go_ret
      exact ⟨by rfl, hH.below⟩
end Go.Proofs.Ytnmmajkmdgfllaa.C
