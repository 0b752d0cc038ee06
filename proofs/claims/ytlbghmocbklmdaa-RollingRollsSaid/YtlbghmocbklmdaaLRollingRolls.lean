import Derived.Test.YtlbghmocbklmdaaLRollingJoins
import Derived.Deep.RegionHeld3
namespace Go.Proofs.Ytlbghmocbklmdaa.H
set_option linter.unusedVariables false
open Go Go.RowKit Go.Proofs.Ytlbghmocbklmdaa Go.Proofs.Ytlbghmocbklmdaa.W Go.Proofs.Ytlbghmocbklmdaa.M

theorem u32_of' (x : Nat) (hx : x ≤ 4294967295) : ∃ m : R, m.toNat = x := ⟨BitVec.ofNat 32 x, by rw [BitVec.toNat_ofNat]; omega⟩
/-- What a roll hands back, in both texts. -/
def Rolls (f : Nat) (z : Int) (A : Option Addr) (n c : Nat) (X : R) (x : UInt8) (W : World) (k : Int) (l : Bs) (m : Nat) (H : R) (er : Int) : Prop :=
  Calls Try.prog f #[.agg #[.int .i64 z, .slice A n c, .int .u32 (X.toNat : Int)], .int .u8 (x.toNat : Int)] W fun e w' => ∃ A' c', e = .returned (.tuple #[.agg #[.int .i64 k, .slice A' m c', .int .u32 (H.toNat : Int)], .int .i64 er]) ∧ Sl u8 w' w'.heap.size A' l ∧ Below W.heap.size W w'
theorem rolls_both (z : Int) (A : Option Addr) (n c : Nat) (b : Bs) (X : R) (x : UInt8) (hl : b.length = n) (hc : n ≤ c) : ∃ (k : Int) (l : Bs) (m : Nat) (H : R) (er : Int), l.length = m ∧ m ≤ 65536 ∧ ∀ W, Sl u8 W W.heap.size A b →
    Rolls 18 z A n c X x W k l m H er ∧ Rolls 19 z A n c X x W k l m H er := by
  by_cases he : chk z b X = 0
  · obtain ⟨K, rfl⟩ : ∃ K : Nat, z = (K : Int) := by
      refine ⟨z.toNat, ?_⟩
      unfold chk at he
      split at he
      · cases he
      · omega
    obtain ⟨g1, g2, g3, g4⟩ := chk_good he
    refine ⟨K, rollL K b x, (rollL K b x).length, hsh (rollL K b x), 0, rfl, ?_, fun W hW => ⟨?_, ?_⟩⟩
    · unfold rollL; split <;> simp <;> omega
    · refine (Roll_any K A n c b _ X x he hl rfl _ rfl W _ hW hc).mono ?_
      rintro e w' ⟨A', c', h1, h2, _, _, h3⟩
      exact ⟨A', c', h1, h2, h3⟩
    · refine (rRoll_ok K A n c b _ X x he hl _ rfl rfl W _ hW).mono ?_
      rintro e w' ⟨A', c', h1, h2, _, _, h3⟩
      exact ⟨A', c', h1, h2, h3⟩
  · refine ⟨0, [], 0, 0#32, chk z b X, rfl, by omega, fun W hW => ⟨?_, ?_⟩⟩
    · refine (Roll_bad z A n c b X x _ rfl he hl W _ hW).mono ?_
      rintro e w' ⟨h1, h3⟩
      exact ⟨none, 0, h1, Sl.nil, h3⟩
    · refine (rRoll_bad z A n c b X x _ rfl he hl W _ hW).mono ?_
      rintro e w' ⟨h1, h3⟩
      exact ⟨none, 0, h1, Sl.nil, h3⟩

set_option maxRecDepth 100000 in
set_option maxHeartbeats 8000000 in
theorem rolls_walk (z : Int) (A : Option Addr) (c : Nat) (b : List UInt8) (xn : Nat) (x : UInt8) (w : World) (hz1 : -9223372036854775808 ≤ z) (hz2 : z ≤ 9223372036854775807) (h : Sl u8 w w.heap.size A b) (hc : b.length ≤ c) (hm : c ≤ maxLen) (hx : xn ≤ 4294967295) :
    Calls Try.prog 4 #[.agg #[.int .i64 z, .slice A b.length c, .int .u32 (xn : Int)], .int .u8 (x.toNat : Int)] w fun e w' => e = .returned (.bool true) ∧ Below w.heap.size w w' := by
  have hmx : b.length ≤ 9223372036854775807 := by unfold maxLen at hm; omega
  obtain ⟨X, rfl⟩ := u32_of' xn hx
  obtain ⟨n, hn⟩ : ∃ n, b.length = n := ⟨_, rfl⟩
  rw [hn] at hc hmx ⊢
  have HN := Lib.hid hn
  have hB0 : Below w.heap.size w (w.alloc (.cells #[.int .i64 z, .slice A n c, .int .u32 (X.toNat : Int)] 26)) := (Below.refl _ _).alloc (Nat.le_refl _) _
  have kR : Blk (w.alloc (.cells #[.int .i64 z, .slice A n c, .int .u32 (X.toNat : Int)] 26)) w.heap.size 26 #[.int .i64 z, .slice A n c, .int .u32 (X.toNat : Int)] := Blk.new _ _ _
  clear hm hn hx hz1 hz2
  by_cases h5 : n > 200
  · go_enter Try.func4, Try.ntmps4
    go_wp2_with (go_at_call 10; refine (awake_any _).mono ?_; rintro e w1 ⟨rfl, hb1⟩)
    go_ret
    exact ⟨rfl, bsa hB0 hB0.size hb1⟩
  · obtain ⟨k, l, m, H, er, hlm, hm6, hroll⟩ := rolls_both z A n c b X x HN.out hc
    have D1 : Hid (∀ W, Below w.heap.size w W → Calls Try.prog 18 #[.agg #[.int .i64 z, .slice A n c, .int .u32 (X.toNat : Int)], .int .u8 (x.toNat : Int)] W fun e w' => ∃ A' c', e = .returned (.tuple #[.agg #[.int .i64 k, .slice A' m c', .int .u32 (H.toNat : Int)], .int .i64 er]) ∧ Sl u8 w' w'.heap.size A' l ∧ Below W.heap.size W w') := Lib.hid fun W hW => (hroll W (h.later hW)).1
    have D2 : Hid (∀ W, Below w.heap.size w W → Calls Try.prog 19 #[.agg #[.int .i64 z, .slice A n c, .int .u32 (X.toNat : Int)], .int .u8 (x.toNat : Int)] W fun e w' => ∃ A' c', e = .returned (.tuple #[.agg #[.int .i64 k, .slice A' m c', .int .u32 (H.toNat : Int)], .int .i64 er]) ∧ Sl u8 w' w'.heap.size A' l ∧ Below W.heap.size W w') := Lib.hid fun W hW => (hroll W (h.later hW)).2
    obtain ⟨cr, hcr⟩ : ∃ cr, chk z b X = cr := ⟨_, rfl⟩
    have D3 : Hid (∀ W, Below w.heap.size w W → Calls Try.prog 20 #[.agg #[.int .i64 z, .slice A n c, .int .u32 (X.toNat : Int)]] W fun e w' => e = .returned (.int .i64 cr) ∧ Below W.heap.size W w') := Lib.hid fun W hW => by rw [← hcr]; exact Check_ok z A n c b X HN.out W _ (h.later hW)
    have D4 : Hid (∀ W, Below w.heap.size w W → Calls Try.prog 21 #[.agg #[.int .i64 z, .slice A n c, .int .u32 (X.toNat : Int)]] W fun e w' => e = .returned (.int .i64 cr) ∧ Below W.heap.size W w') := Lib.hid fun W hW => by rw [← hcr]; exact rCheck_ok z A n c b X HN.out W _ (h.later hW)
    have HLM := Lib.hid hlm
    obtain ⟨c0, c1, c2, _, _, _⟩ := three kR
    clear hroll hcr hlm
    go_enter Try.func4, Try.ntmps4
    go_wp2_with (first
      | (go_at_call 18; refine (D1.out _ hB0).mono ?_; clear D1; rintro e w1 ⟨A1, c1', rfl, t1, hb1⟩; have hB1 := (bsa hB0 hB0.size hb1).alloc (bsa hB0 hB0.size hb1).size (.cells #[.int .i64 k, .slice A1 m c1', .int .u32 (H.toNat : Int)] 26); have kR1 := (kR.later hb1).alloc (.cells #[.int .i64 k, .slice A1 m c1', .int .u32 (H.toNat : Int)] 26); have kS1 : Blk (w1.alloc (.cells #[.int .i64 k, .slice A1 m c1', .int .u32 (H.toNat : Int)] 26)) w1.heap.size 26 #[.int .i64 k, .slice A1 m c1', .int .u32 (H.toNat : Int)] := Blk.new _ _ _; have t1' := (t1.alloc (Nat.le_refl _) (.cells #[.int .i64 k, .slice A1 m c1', .int .u32 (H.toNat : Int)] 26)).lt; obtain ⟨d0, d1, d2, _, _, _⟩ := three kR1)
      | (go_at_call 19; refine (D2.out _ hB1).mono ?_; clear D2; rintro e w2 ⟨A2, c2', rfl, t2, hb2⟩; have hB2 := (bsa hB1 hB1.size hb2).alloc (bsa hB1 hB1.size hb2).size (.cells #[.int .i64 k, .slice A2 m c2', .int .u32 (H.toNat : Int)] 26); have kR2 := (kR1.later hb2).alloc (.cells #[.int .i64 k, .slice A2 m c2', .int .u32 (H.toNat : Int)] 26); have kS2 := (kS1.later hb2).alloc (.cells #[.int .i64 k, .slice A2 m c2', .int .u32 (H.toNat : Int)] 26); have kT2 : Blk (w2.alloc (.cells #[.int .i64 k, .slice A2 m c2', .int .u32 (H.toNat : Int)] 26)) w2.heap.size 26 #[.int .i64 k, .slice A2 m c2', .int .u32 (H.toNat : Int)] := Blk.new _ _ _; have t1'' := ((t1'.later hb2).alloc (Nat.le_refl _) (.cells #[.int .i64 k, .slice A2 m c2', .int .u32 (H.toNat : Int)] 26)).lt; have t2' := (t2.alloc (Nat.le_refl _) (.cells #[.int .i64 k, .slice A2 m c2', .int .u32 (H.toNat : Int)] 26)).lt))
    obtain ⟨W3, hW3⟩ : ∃ W3, w2.alloc (.cells #[.int .i64 k, .slice A2 m c2', .int .u32 (H.toNat : Int)] 26) = W3 := ⟨_, rfl⟩
    obtain ⟨gA, hgA⟩ : ∃ g, w1.heap.size = g := ⟨_, rfl⟩
    obtain ⟨gB, hgB⟩ : ∃ g, w2.heap.size = g := ⟨_, rfl⟩
    rw [hW3] at hB2 kR2 kS2 kT2 t1'' t2'
    rw [hgA] at kS2
    rw [hgB] at kT2
    rw [hW3, hgA, hgB]
    clear hW3 hgA hgB kS1 kR1 hB1 hb1 hb2 kR hB0 t1 t1' t2 c0 c1 c2 d0 d1 d2
    have E3 : Hid (∀ W, Below W3.heap.size W3 W → Calls Try.prog 17 #[.agg #[.int .i64 k, .slice A1 m c1', .int .u32 (H.toNat : Int)], .agg #[.int .i64 k, .slice A2 m c2', .int .u32 (H.toNat : Int)]] W fun e w' => e = .returned (.bool true) ∧ Below W.heap.size W w') := Lib.hid fun W hW => Same_ok k A1 A2 m c1' c2' l H HLM.out hm6 W _ _ (t1''.later hW) (t2'.later hW)
    have E1 : Hid (∀ W, Below W3.heap.size W3 W → Calls Try.prog 20 #[.agg #[.int .i64 z, .slice A n c, .int .u32 (X.toNat : Int)]] W fun e w' => e = .returned (.int .i64 cr) ∧ Below W.heap.size W w') := Lib.hid fun W hW => D3.out W (bsa hB2 hB2.size hW)
    have E2 : Hid (∀ W, Below W3.heap.size W3 W → Calls Try.prog 21 #[.agg #[.int .i64 z, .slice A n c, .int .u32 (X.toNat : Int)]] W fun e w' => e = .returned (.int .i64 cr) ∧ Below W.heap.size W w') := Lib.hid fun W hW => D4.out W (bsa hB2 hB2.size hW)
    have hH : Below W3.heap.size W3 W3.drew := (Below.refl _ _).drew
    have KEEP : Hid (∀ W, Below W3.heap.size W3 W → ((W.cell? ⟨w.heap.size, 0, none⟩ = some (.int .i64 z) ∧ W.cell? ⟨w.heap.size, 1, none⟩ = some (.slice A n c) ∧ W.cell? ⟨w.heap.size, 2, none⟩ = some (.int .u32 (X.toNat : Int))) ∧
        (W.cell? ⟨gA, 0, none⟩ = some (.int .i64 k) ∧ W.cell? ⟨gA, 1, none⟩ = some (.slice A1 m c1') ∧ W.cell? ⟨gA, 2, none⟩ = some (.int .u32 (H.toNat : Int))) ∧
        (W.cell? ⟨gB, 0, none⟩ = some (.int .i64 k) ∧ W.cell? ⟨gB, 1, none⟩ = some (.slice A2 m c2') ∧ W.cell? ⟨gB, 2, none⟩ = some (.int .u32 (H.toNat : Int))))) := Lib.hid fun W hW =>
      ⟨⟨(kR2.later hW).cell 0, (kR2.later hW).cell 1, (kR2.later hW).cell 2⟩, ⟨(kS2.later hW).cell 0, (kS2.later hW).cell 1, (kS2.later hW).cell 2⟩, ⟨(kT2.later hW).cell 0, (kT2.later hW).cell 1, (kT2.later hW).cell 2⟩⟩
    clear kR2 kS2 kT2 t1'' t2' D3 D4
    go_region_held3 (fun W => (W.cell? ⟨w.heap.size, 0, none⟩ = some (.int .i64 z) ∧ W.cell? ⟨w.heap.size, 1, none⟩ = some (.slice A n c) ∧ W.cell? ⟨w.heap.size, 2, none⟩ = some (.int .u32 (X.toNat : Int))) ∧
        (W.cell? ⟨gA, 0, none⟩ = some (.int .i64 k) ∧ W.cell? ⟨gA, 1, none⟩ = some (.slice A1 m c1') ∧ W.cell? ⟨gA, 2, none⟩ = some (.int .u32 (H.toNat : Int))) ∧
        (W.cell? ⟨gB, 0, none⟩ = some (.int .i64 k) ∧ W.cell? ⟨gB, 1, none⟩ = some (.slice A2 m c2') ∧ W.cell? ⟨gB, 2, none⟩ = some (.int .u32 (H.toNat : Int)))) ((exact KEEP.out _ hH))
      (first
      | (go_at_call 20; refine (E1.out _ hH).mono ?_; rintro e w6 ⟨rfl, hb6⟩; have hH := bsa hH hH.size hb6)
      | (go_at_call 21; refine (E2.out _ hH).mono ?_; rintro e w7 ⟨rfl, hb7⟩; have hH := bsa hH hH.size hb7)
      | (go_at_call 17; refine (E3.out _ hH).mono ?_; rintro e w8 ⟨rfl, hb8⟩; have hH := bsa hH hH.size hb8)
      | (go_at_call 10; refine (awake_any _).mono ?_; rintro e w9 ⟨rfl, hb9⟩; have hH := bsa hH hH.size hb9))
    all_goals go_wp2
    all_goals go_ret
    all_goals exact ⟨rfl, bsa hB2 hB2.size hH⟩
end Go.Proofs.Ytlbghmocbklmdaa.H
