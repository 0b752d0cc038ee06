import Derived.Test.YtcdaieoondmljaaT9
import Derived.Deep.RegionHeld3
namespace Go.Proofs.Ytcdaieoondmljaa.H
set_option linter.unusedVariables false
open Go Go.RowKit Go.Proofs.Ytcdaieoondmljaa Go.Proofs.Ytcdaieoondmljaa.W Go.Proofs.Ytcdaieoondmljaa.M

/-- What Split hands back: extents, or an error. -/
def Splits (le us mo wi : Int) (f : Nat) (A : Option Addr) (N c : Nat) (l : List Ex) (n : Nat) (er : Int) (W : World) : Prop :=
  Calls Try.prog f #[.agg #[.int .i64 le, .int .i64 us, .int .i64 mo, .int .i64 wi], .slice A N c] W fun e w' => ∃ A' c', e = .returned (.tuple #[.slice A' n c', .int .i64 er]) ∧ SlE w' w'.heap.size A' l ∧ n ≤ c' ∧ Below W.heap.size W w'
theorem chk_vals (le us mo wi : Int) : chkC le us mo wi = 0 ∨ chkC le us mo wi ≠ 0 := by omega
theorem splits_both (le us mo wi : Int) (A : Option Addr) (c N : Nat) (b : Bs) (hlb : b.length = N) (hc : N ≤ c) (hlen : N ≤ 65536) : ∃ (l : List Ex) (n : Nat) (er : Int), l.length = n ∧ n ≤ 65537 ∧ ∀ W, Sl u8 W W.heap.size A b →
    Splits le us mo wi 12 A N c l n er W ∧ Splits le us mo wi 13 A N c l n er W := by
  by_cases h0 : chkC le us mo wi = 0
  · obtain ⟨le', us', mo', wi', rfl, rfl, rfl, rfl, hg⟩ := chk_nat h0
    refine ⟨_, _, 0, rfl, ?_, fun W hW => ⟨Split_ok hg h0 A c N b hlb hlen _ _ rfl rfl W _ hW, rSplit_ok hg h0 A c N b hlb hc hlen _ _ rfl rfl W _ hW⟩⟩
    have := frg_length (nxt (places b wi' (msk us')) le' mo' N) N (fun a ha => nxt_gt (by have := hg.w1; have := hg.l1; omega) hg.m1 ha) N 0 (by omega)
    omega
  · refine ⟨[], 0, chkC le us mo wi, rfl, by omega, fun W hW => ⟨?_, ?_⟩⟩
    · refine (Split_bad le us mo wi _ rfl h0 A c N b hlb hlen W).mono ?_
      rintro e w' ⟨h1, h2⟩
      exact ⟨none, 0, h1, SlE.nil, Nat.le_refl _, h2⟩
    · refine (rSplit_bad le us mo wi _ rfl h0 A c N W).mono ?_
      rintro e w' ⟨h1, h2⟩
      exact ⟨none, 0, h1, SlE.nil, Nat.le_refl _, h2⟩

set_option maxRecDepth 100000 in
set_option maxHeartbeats 2000000 in
theorem splits_walk (le us mo wi : Int) (A : Option Addr) (c : Nat) (b : List UInt8) (w : World) (_h1 : -9223372036854775808 ≤ le) (_h2 : le ≤ 9223372036854775807) (_h3 : -9223372036854775808 ≤ us) (_h4 : us ≤ 9223372036854775807) (_h5 : -9223372036854775808 ≤ mo) (_h6 : mo ≤ 9223372036854775807) (_h7 : -9223372036854775808 ≤ wi) (_h8 : wi ≤ 9223372036854775807)
    (h : Sl u8 w w.heap.size A b) (hc : b.length ≤ c) (hm : c ≤ maxLen) :
    Calls Try.prog 3 #[.agg #[.int .i64 le, .int .i64 us, .int .i64 mo, .int .i64 wi], .slice A b.length c] w fun e w' => e = .returned (.bool true) ∧ Below w.heap.size w w' := by
  have hmx : b.length ≤ 9223372036854775807 := by unfold maxLen at hm; omega
  obtain ⟨N, hn⟩ : ∃ n, b.length = n := ⟨_, rfl⟩
  rw [hn] at hc hmx ⊢
  have hB0 : Below w.heap.size w (w.alloc (.cells #[.int .i64 le, .int .i64 us, .int .i64 mo, .int .i64 wi] 23)) := (Below.refl _ _).alloc (Nat.le_refl _) _
  have hk0 : Blk (w.alloc (.cells #[.int .i64 le, .int .i64 us, .int .i64 mo, .int .i64 wi] 23)) w.heap.size 23 #[.int .i64 le, .int .i64 us, .int .i64 mo, .int .i64 wi] := Blk.new _ _ _
  by_cases h5 : N > 300
  · clear hm hn _h1 _h2 _h3 _h4 _h5 _h6 _h7 _h8
    go_enter Try.func3, Try.ntmps3
    go_wp2_with (go_at_call 11; refine (awake_any _).mono ?_; rintro e w1 ⟨rfl, hb1⟩)
    go_ret
    exact ⟨rfl, bsa hB0 hB0.size hb1⟩
  · obtain ⟨l, n, er, hln, hn6, hsp⟩ := splits_both le us mo wi A c N b hn hc (by omega)
    have D1 : Hid (∀ W, Below w.heap.size w W → Splits le us mo wi 12 A N c l n er W) := Lib.hid fun W hW => (hsp W (h.later hW)).1
    have D2 : Hid (∀ W, Below w.heap.size w W → Splits le us mo wi 13 A N c l n er W) := Lib.hid fun W hW => (hsp W (h.later hW)).2
    have HLN := Lib.hid hln
    clear hm hn _h1 _h2 _h3 _h4 _h5 _h6 _h7 _h8 hsp hln
    go_enter Try.func3, Try.ntmps3
    go_wp2_with (first
      | (go_at_call 12; refine (D1.out _ hB0).mono ?_; clear D1; rintro e w1 ⟨A1, c1, rfl, t1, _, hb1⟩; have hB1 := bsa hB0 hB0.size hb1; have hk1 := hk0.later hb1; have d0 := hk1.cell 0; have d1 := hk1.cell 1; have d2 := hk1.cell 2; have d3 := hk1.cell 3)
      | (go_at_call 13; refine (D2.out _ hB1).mono ?_; clear D2; rintro e w2 ⟨A2, c2, rfl, t2, _, hb2⟩; have hB2 := bsa hB1 hB1.size hb2; have t1' := t1.later hb2; have E1 := Lib.hid (sameE_ok A1 A2 c1 c2 n l HLN.out hn6 _ _ _ t1' t2))
      | (go_at_call 14; refine E1.out.mono ?_; rintro e w3 ⟨rfl, hb3⟩; have hB3 := bsa hB2 hB2.size hb3)
      | (go_at_call 11; refine (awake_any _).mono ?_; rintro e w4 ⟨rfl, hb4⟩; have hB4 := bsa hB3 hB3.size hb4))
    go_ret
    exact ⟨rfl, hB4⟩
end Go.Proofs.Ytcdaieoondmljaa.H
