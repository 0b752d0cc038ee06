/- lz: next, ended. -/
import Derived.Test.YtfahfbkkgcekgaaYL
namespace Go.Proofs.Ytfahfbkkgcekgaa.H
set_option linter.unusedVariables false
set_option linter.unusedSimpArgs false
open Go Go.RowKit Go.Proofs.Ytfahfbkkgcekgaa Go.Proofs.Ytfahfbkkgcekgaa.W Go.Proofs.Ytfahfbkkgcekgaa.M

theorem But.far {T : Nat} {a b : World} (h : But T a b) {p : Addr} (hp : a.heap.size ≤ p.block) (hT : T ≤ a.heap.size) (u : Value) : But T a (b.setCell p u) :=
  ⟨h.1.setCell (Nat.le_trans hT hp) u, fun g hg hn => (Below.heap_setCell _ _ _ _ (by omega)).trans (h.2 g hg hn)⟩
set_option maxRecDepth 100000 in
set_option maxHeartbeats 2000000 in
theorem next_ok (t : Tok) (hR : Right t) (T : Nat) (A : Option Addr) (L c K p q : Nat) (D : Bs) (hD : D.length = L) (hK : K = 8 * L) (hL : L ≤ 65536) (hpq : p + price t = q) (hq : q ≤ K) (hA : At D p (tokB t)) (w : World) (hT : Rd w T A L c K p) (hS : Sl u8 w T A D) :
    Calls Try.prog 38 #[.pointer (some ⟨T, 0, none⟩)] w fun e w' => e = .returned (.tuple #[tokV t, .int .i64 0]) ∧ But T w w' ∧ Rd w' T A L c K q := by
  have hTz : T < w.heap.size := Blk.lt hT
  have hb0 : Blk (w.alloc (.cells #[.int .i64 0, .int .i64 0, .int .u8 0] 46)) w.heap.size 46 #[.int .i64 0, .int .i64 0, .int .u8 0] := Blk.new _ _ _
  have hB0 : But T w (w.alloc (.cells #[.int .i64 0, .int .i64 0, .int .u8 0] 46)) := But.of ((Below.refl _ _).alloc (Nat.le_refl _) _) (Nat.le_of_lt hTz)
  have hT0 : Rd (w.alloc (.cells #[.int .i64 0, .int .i64 0, .int .u8 0] 46)) T A L c K p := Blk.alloc hT _
  have hS0 : Sl u8 (w.alloc (.cells #[.int .i64 0, .int .i64 0, .int .u8 0] 46)) T A D := hS.below hB0.1
  obtain ⟨n, d, x⟩ := t
  rcases hR with ⟨h1, h2⟩ | ⟨h1, h2, h3, h4, h5⟩
  · obtain rfl : n = 0 := h1
    obtain rfl : d = 0 := h2
    obtain ⟨r1, r2⟩ := lit_bits hA
    have hp9 : price (0, 0, x) = 9 := rfl
    rw [hp9] at hpq
    have P1 : Hid (Calls Try.prog 47 #[.pointer (some ⟨T, 0, none⟩), .int .i64 1] (w.alloc (.cells #[.int .i64 0, .int .i64 0, .int .u8 0] 46)) fun e w' => e = .returned (.tuple #[.int .i64 0, .int .i64 0]) ∧ But T (w.alloc (.cells #[.int .i64 0, .int .i64 0, .int .u8 0] 46)) w' ∧ Rd w' T A L c K (p + 1)) := Lib.hid (get_ok T A L c K p 1 (p + 1) D hD hK hL (by decide) rfl (by omega) 0 r1 _ hT0 hS0)
    have P2 : Hid (∀ W, Rd W T A L c K (p + 1) → Sl u8 W T A D → Calls Try.prog 47 #[.pointer (some ⟨T, 0, none⟩), .int .i64 8] W fun e w' => e = .returned (.tuple #[.int .i64 (x.toNat : Int), .int .i64 0]) ∧ But T W w' ∧ Rd w' T A L c K q) :=
      Lib.hid (fun W h1 h2 => get_ok T A L c K (p + 1) 8 q D hD hK hL (by decide) (by omega) hq x.toNat r2 W h1 h2)
    have hx := x.toNat_lt
    have hu : IntKind.u8.wrap (x.toNat : Int) = (x.toNat : Int) := by rw [IntKind.wrap_u8]; omega
    clear hT hS hT0 hD hK hA r1 r2 hp9 hpq
    go_enter Try.func38, Try.ntmps38
    go_wp2_with (first
      | (go_at_call 47; refine (P2.out _ hT1 hS1).mono ?_; rintro e w2 ⟨rfl, hb2, hT2⟩; have hk2 := Blk.but hk1 hb2 (by omega); have c0 := hk2.cell 0; have c1 := hk2.cell 1; have c2 := hk2.cell 2; have f0 := hk2.frozen 0; have f1 := hk2.frozen 1; have f2 := hk2.frozen 2)
      | (go_at_call 47; refine P1.out.mono ?_; rintro e w1 ⟨rfl, hb1, hT1⟩; have hS1 := hS0.below hb1.1; have hk1 := Blk.but hb0 hb1 (by omega)))
    refine bodyPost_ret (result_tk rfl _ _ w.heap.size rfl (t := (0, 0, x)) (((hk2.store 0 _).store 1 _).store 2 _) rfl) rfl ⟨rfl, ?_, ?_⟩
    · exact (((hB0.trans (hb1.trans hb2)).far (p := ⟨w.heap.size, 0, none⟩) (Nat.le_refl _) (Nat.le_of_lt hTz) _).far (p := ⟨w.heap.size, 1, none⟩) (Nat.le_refl _) (Nat.le_of_lt hTz) _).far (p := ⟨w.heap.size, 2, none⟩) (Nat.le_refl _) (Nat.le_of_lt hTz) _
    · exact ((Blk.far hT2 (p := ⟨w.heap.size, 0, none⟩) (by show T ≠ w.heap.size; omega) _).far (p := ⟨w.heap.size, 1, none⟩) (by show T ≠ w.heap.size; omega) _).far (p := ⟨w.heap.size, 2, none⟩) (by show T ≠ w.heap.size; omega) _
  · obtain rfl : x = 0 := h1
    replace h2 : 2 ≤ n := h2
    replace h3 : n ≤ 255 := h3
    replace h4 : 1 ≤ d := h4
    replace h5 : d ≤ 4096 := h5
    obtain ⟨z1, z2, r1, a1, a2, a3, a4, b1, b2, b3, b4, e9⟩ := copy_bits h2 h3 h4 h5 hA
    rw [hpq] at e9
    have P1 : Hid (Calls Try.prog 47 #[.pointer (some ⟨T, 0, none⟩), .int .i64 1] (w.alloc (.cells #[.int .i64 0, .int .i64 0, .int .u8 0] 46)) fun e w' => e = .returned (.tuple #[.int .i64 1, .int .i64 0]) ∧ But T (w.alloc (.cells #[.int .i64 0, .int .i64 0, .int .u8 0] 46)) w' ∧ Rd w' T A L c K (p + 1)) := Lib.hid (get_ok T A L c K p 1 (p + 1) D hD hK hL (by decide) rfl (by omega) 1 r1 _ hT0 hS0)
    obtain ⟨m, hm⟩ : ∃ m, n - 1 = m := ⟨_, rfl⟩
    rw [hm] at a4
    have P2 : Hid (∀ W, Rd W T A L c K (p + 1) → Sl u8 W T A D → Calls Try.prog 48 #[.pointer (some ⟨T, 0, none⟩), .int .i64 254] W fun e w' => e = .returned (.tuple #[.int .i64 (m : Int), .int .i64 0]) ∧ But T W w' ∧ Rd w' T A L c K (p + 1 + 2 * z1 + 1)) :=
      Lib.hid (fun W h1 h2 => gamma_ok T A L c K (p + 1) z1 _ 254 D hD hK hL a1 a2 a3 rfl (by omega) m a4 (by omega) W h1 h2)
    have P3 : Hid (∀ W, Rd W T A L c K (p + 1 + 2 * z1 + 1) → Sl u8 W T A D → Calls Try.prog 48 #[.pointer (some ⟨T, 0, none⟩), .int .i64 4096] W fun e w' => e = .returned (.tuple #[.int .i64 (d : Int), .int .i64 0]) ∧ But T W w' ∧ Rd w' T A L c K q) :=
      Lib.hid (fun W h1 h2 => gamma_ok T A L c K (p + 1 + 2 * z1 + 1) z2 q 4096 D hD hK hL b1 b2 b3 e9 hq d b4 h5 W h1 h2)
    have v1 : (m : Int) + 1 = (n : Int) := by omega
    have v2 : IntKind.i64.wrap (n : Int) = (n : Int) := by rw [IntKind.wrap_i64]; omega
    clear hT hS hT0 hD hK hA r1 a1 a2 a3 a4 b1 b2 b3 b4 hm e9 hpq
    go_enter Try.func38, Try.ntmps38
    go_wp2_with (first
      | (go_at_call 47; refine P1.out.mono ?_; rintro e w1 ⟨rfl, hb1, hT1⟩; have hS1 := hS0.below hb1.1; have hk1 := Blk.but hb0 hb1 (by omega))
      | (go_at_call 48; refine (P3.out _ hT2 hS2).mono ?_; rintro e w3 ⟨rfl, hb3, hT3⟩; have hk3 := Blk.but hk2 hb3 (by omega); have c0 := hk3.cell 0; have c1 := hk3.cell 1; have c2 := hk3.cell 2; have f0 := hk3.frozen 0; have f1 := hk3.frozen 1; have f2 := hk3.frozen 2)
      | (go_at_call 48; refine (P2.out _ hT1 hS1).mono ?_; rintro e w2 ⟨rfl, hb2, hT2⟩; have hk2 := Blk.but hk1 hb2 (by omega); have hS2 := hS1.below hb2.1))
    refine bodyPost_ret (result_tk rfl _ _ w.heap.size rfl (t := (n, d, 0)) (((hk3.store 0 _).store 1 _).store 2 _) rfl) rfl ⟨rfl, ?_, ?_⟩
    · exact (((hB0.trans (hb1.trans (hb2.trans hb3))).far (p := ⟨w.heap.size, 0, none⟩) (Nat.le_refl _) (Nat.le_of_lt hTz) _).far (p := ⟨w.heap.size, 1, none⟩) (Nat.le_refl _) (Nat.le_of_lt hTz) _).far (p := ⟨w.heap.size, 2, none⟩) (Nat.le_refl _) (Nat.le_of_lt hTz) _
    · exact ((Blk.far hT3 (p := ⟨w.heap.size, 0, none⟩) (by show T ≠ w.heap.size; omega) _).far (p := ⟨w.heap.size, 1, none⟩) (by show T ≠ w.heap.size; omega) _).far (p := ⟨w.heap.size, 2, none⟩) (by show T ≠ w.heap.size; omega) _
theorem ended_far (T : Nat) (A : Option Addr) (L c K p m : Nat) (hm : p + m = K) (hK : K ≤ 524288) (hm7 : 7 < m) (w : World) (hT : Rd w T A L c K p) :
    Calls Try.prog 37 #[.pointer (some ⟨T, 0, none⟩)] w fun e w' => e = .returned (.bool false) ∧ Below w.heap.size w w' := by
  have LF := Lib.hid (left_ok T A L c K p m hm hK w hT)
  have v1 : (7 : Int) < (m : Int) := by omega
  clear hT hm
  go_enter Try.func37, Try.ntmps37
  go_wp2_with (go_at_call 45; refine LF.out.mono ?_; rintro e w1 ⟨rfl, hb1⟩)
  go_ret
  exact ⟨rfl, hb1⟩
set_option maxRecDepth 100000 in
set_option maxHeartbeats 2000000 in
theorem ended_near (T : Nat) (A : Option Addr) (L c K p m : Nat) (D : Bs) (hD : D.length = L) (hK : K = 8 * L) (hL : L ≤ 65536) (hm : p + m = K) (hm7 : m ≤ 7) (n : Nat) (hn : rd D p m = n) (w : World) (hT : Rd w T A L c K p) (hS : Sl u8 w T A D) :
    Calls Try.prog 37 #[.pointer (some ⟨T, 0, none⟩)] w fun e w' => e = .returned (.bool (decide (n = 0))) ∧ Below w.heap.size w w' := by
  have hTz : T < w.heap.size := Blk.lt hT
  have LF := Lib.hid (fun W (h : Rd W T A L c K p) => left_ok T A L c K p m hm (by omega) W h)
  have v1 : ¬ (7 : Int) < (m : Int) := by omega
  have RD : Hid (∀ W, Sl u8 W W.heap.size A D → Calls Try.prog 46 #[.agg #[.slice A L c, .int .i64 (K : Int)], .int .i64 (p : Int), .int .i64 (m : Int)] W fun e w' => e = .returned (.tuple #[.int .u32 (n : Int), .int .i64 0]) ∧ Below W.heap.size W w') :=
    Lib.hid (fun W h => bread_ok A c L K p m D hD hK hL (by omega) (by omega) n hn W h)
  have KEEP : Hid (∀ W, Rd W T A L c K p → W.cell? ⟨T, 0, none⟩ = some (.slice A L c) ∧ W.cell? ⟨T, 1, none⟩ = some (.int .i64 (K : Int)) ∧ W.cell? ⟨T, 2, none⟩ = some (.int .i64 (p : Int))) := Lib.hid fun W h => ⟨Blk.cell h 0, Blk.cell h 1, Blk.cell h 2⟩
  have hH := hT
  have hZ : Sl u8 w w.heap.size A D := hS.more (by omega)
  have hQ : Below w.heap.size w w := Below.refl _ _
  clear hD hK hn hm hT hS
  go_enter Try.func37, Try.ntmps37
  go_wp2_with (go_at_call 45; refine (LF.out _ hH).mono ?_; rintro e w1 ⟨rfl, hb1⟩; have hH : Rd w1 T A L c K p := Blk.later hH hb1; have hZ := hZ.later hb1; have hQ := bsa hQ hb1)
  have hZ := hZ.drew
  have hQ := hQ.drew
  have hH : Rd w1.drew T A L c K p := hH
  go_region_held3 (fun W => W.cell? ⟨T, 0, none⟩ = some (.slice A L c) ∧ W.cell? ⟨T, 1, none⟩ = some (.int .i64 (K : Int)) ∧ W.cell? ⟨T, 2, none⟩ = some (.int .i64 (p : Int))) ((exact KEEP.out _ hH))
    (first
      | (go_at_call 45; refine (LF.out _ hH).mono ?_; rintro e w2 ⟨rfl, hb2⟩; have hH : Rd w2 T A L c K p := Blk.later hH hb2; have hZ := Sl.later hZ hb2; have hQ := bsa hQ hb2)
      | (go_at_call 46; refine (RD.out _ hZ).mono ?_; rintro e w3 ⟨rfl, hb3⟩; have hH : Rd w3 T A L c K p := Blk.later hH hb3; have hZ := Sl.later hZ hb3; have hQ := bsa hQ hb3))
  by_cases h0 : n = 0
  · subst h0
    go_wp2_with fail
    go_ret
    exact ⟨rfl, hQ⟩
  · have h1 : ¬ (n : Int) = 0 := by omega
    go_wp2_with fail
    go_ret
    have h2 : ((n : Int) == 0) = false := by rw [beq_eq_false_iff_ne]; exact h1
    exact ⟨by rw [decide_eq_false h0]; show Ending.returned (.bool ((n : Int) == 0)) = _; rw [h2], hQ⟩
end Go.Proofs.Ytfahfbkkgcekgaa.H
