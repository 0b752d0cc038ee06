/- lz: the stream that is read: left, get, gamma. -/
import Derived.Test.YtfahfbkkgcekgaaYK
namespace Go.Proofs.Ytfahfbkkgcekgaa.H
set_option linter.unusedVariables false
set_option linter.unusedSimpArgs false
open Go Go.RowKit Go.Proofs.Ytfahfbkkgcekgaa Go.Proofs.Ytfahfbkkgcekgaa.W Go.Proofs.Ytfahfbkkgcekgaa.M

/-- Every block but T is as it was. -/
def But (T : Nat) (w w' : World) : Prop := Below T w w' ∧ ∀ g, g < w.heap.size → g ≠ T → w'.heap[g]? = w.heap[g]?
theorem But.refl (T : Nat) (w : World) : But T w w := ⟨Below.refl _ _, fun _ _ _ => rfl⟩
theorem But.of {T : Nat} {w w' : World} (h : Below w.heap.size w w') (hT : T ≤ w.heap.size) : But T w w' := ⟨h.mono hT, fun g hg _ => h.block g hg⟩
theorem But.trans {T : Nat} {a b c : World} (h : But T a b) (k : But T b c) : But T a c := ⟨h.1.trans k.1, fun g hg hn => (k.2 g (Nat.lt_of_lt_of_le hg h.1.size) hn).trans (h.2 g hg hn)⟩
theorem But.store {T : Nat} {a b : World} (h : But T a b) (i : Nat) (u : Value) : But T a (b.setCell ⟨T, i, none⟩ u) :=
  h.trans ⟨(Below.refl _ _).setCell (p := ⟨T, i, none⟩) (Nat.le_refl _) _, fun g _ hn => Below.heap_setCell _ _ _ _ hn⟩
theorem But.drew {T : Nat} {a b : World} (h : But T a b) : But T a b.drew := ⟨h.1.drew, h.2⟩
theorem Blk.but {T g : Nat} {t : TypeId} {cs : Array Value} {w w' : World} (h : Blk w g t cs) (hb : But T w w') (hg : g ≠ T) : Blk w' g t cs := (hb.2 g h.lt hg).trans h
theorem OwnT.but {T : Nat} {w w' : World} {v : Value} {l : List Tok} (h : OwnT w (T + 1) v l) (hb : But T w w') : OwnT w' (T + 1) v l := by
  obtain ⟨h1, h2⟩ := h
  refine ⟨h1, ?_⟩
  rcases h2 with h2 | ⟨g, cap, cur, hv, hg, hh, r⟩
  · exact .inl h2
  · exact .inr ⟨g, cap, cur, hv, hg, (hb.2 g (Array.getElem?_eq_some_iff.1 hh).1 (by omega)).trans hh, r⟩
/-- The stream that is read, in block T, at bit p of K. -/
def Rd (w : World) (T : Nat) (A : Option Addr) (L c K p : Nat) : Prop := Blk w T 55 #[.slice A L c, .int .i64 (K : Int), .int .i64 (p : Int)]
set_option maxRecDepth 100000 in
theorem left_ok (T : Nat) (A : Option Addr) (L c K p m : Nat) (hm : p + m = K) (hK : K ≤ 524288) (w : World) (hT : Rd w T A L c K p) :
    Calls Try.prog 45 #[.pointer (some ⟨T, 0, none⟩)] w fun e w' => e = .returned (.int .i64 (m : Int)) ∧ Below w.heap.size w w' := by
  have c1 : w.cell? ⟨T, 1, none⟩ = some (.int .i64 (K : Int)) := Blk.cell hT 1
  have c2 : w.cell? ⟨T, 2, none⟩ = some (.int .i64 (p : Int)) := Blk.cell hT 2
  have v1 : (K : Int) - (p : Int) = (m : Int) := by omega
  have v2 : IntKind.i64.wrap (m : Int) = (m : Int) := by rw [IntKind.wrap_i64]; omega
  clear hT hm
  go_enter Try.func45, Try.ntmps45
  go_wp2_with fail
  go_quiet (fail)
  go_wp2_with fail
  go_ret
  exact ⟨rfl, below_drewN (Below.refl _ _) _⟩
set_option maxRecDepth 100000 in
set_option maxHeartbeats 2000000 in
theorem get_ok (T : Nat) (A : Option Addr) (L c K p k q : Nat) (D : Bs) (hD : D.length = L) (hK : K = 8 * L) (hL : L ≤ 65536) (hk : k ≤ 32) (hpk : p + k = q) (hq : q ≤ K) (n : Nat) (hn : rd D p k = n) (w : World) (hT : Rd w T A L c K p) (hS : Sl u8 w T A D) :
    Calls Try.prog 47 #[.pointer (some ⟨T, 0, none⟩), .int .i64 (k : Int)] w fun e w' => e = .returned (.tuple #[.int .i64 (n : Int), .int .i64 0]) ∧ But T w w' ∧ Rd w' T A L c K q := by
  have hTz : T < w.heap.size := Blk.lt hT
  have hn32 : n < 4294967296 := by rw [← hn]; exact Nat.lt_of_lt_of_le (rd_lt D _ _) (Nat.le_trans (Nat.pow_le_pow_right (by decide) hk) (by decide))
  have RD : Hid (∀ W, Sl u8 W W.heap.size A D → Calls Try.prog 46 #[.agg #[.slice A L c, .int .i64 (K : Int)], .int .i64 (p : Int), .int .i64 (k : Int)] W fun e w' => e = .returned (.tuple #[.int .u32 (n : Int), .int .i64 0]) ∧ Below W.heap.size W w') :=
    Lib.hid (fun W h => bread_ok A c L K p k D hD hK hL hk (by omega) n hn W h)
  have KEEP : Hid (∀ W, Rd W T A L c K p → W.cell? ⟨T, 0, none⟩ = some (.slice A L c) ∧ W.cell? ⟨T, 1, none⟩ = some (.int .i64 (K : Int)) ∧ W.cell? ⟨T, 2, none⟩ = some (.int .i64 (p : Int))) := Lib.hid fun W h => ⟨Blk.cell h 0, Blk.cell h 1, Blk.cell h 2⟩
  have v1 : (p : Int) + (k : Int) = (q : Int) := by omega
  have v2 : IntKind.i64.wrap (q : Int) = (q : Int) := by rw [IntKind.wrap_i64]; omega
  have v3 : IntKind.i64.wrap (n : Int) = (n : Int) := by rw [IntKind.wrap_i64]; omega
  have hH := hT
  have hS0 : Sl u8 w w.heap.size A D := hS.more (by omega)
  have hB : But T w w := But.refl _ _
  clear hD hK hn hpk hT hS
  go_enter Try.func47, Try.ntmps47
  go_wp2_with fail
  go_region_held3 (fun W => W.cell? ⟨T, 0, none⟩ = some (.slice A L c) ∧ W.cell? ⟨T, 1, none⟩ = some (.int .i64 (K : Int)) ∧ W.cell? ⟨T, 2, none⟩ = some (.int .i64 (p : Int))) ((exact KEEP.out _ hH))
    ((go_at_call 46; refine (RD.out _ hS0.drew).mono ?_; rintro e w1 ⟨rfl, hb1⟩; have hH : Rd w1 T A L c K p := Blk.later (w := w.drew) hH hb1; have f2 := Blk.frozen hH 2))
  go_wp2_with fail
  refine bodyPost_ret (results_tmp2 rfl _ _ _) rfl ⟨rfl, ?_, ?_⟩
  · exact (hB.drew.trans (But.of hb1 (Nat.le_of_lt hTz))).store 2 _
  · exact Blk.store hH 2 _
set_option maxRecDepth 100000 in
set_option maxHeartbeats 2000000 in
theorem gamma_ok (T : Nat) (A : Option Addr) (L c K p z q most : Nat) (D : Bs) (hD : D.length = L) (hK : K = 8 * L) (hL : L ≤ 65536) (hz : ∀ i, i < z → bitD D (p + i) = false) (h1 : bitD D (p + z) = true) (hz3 : z ≤ 30) (hpq : p + 2 * z + 1 = q) (hq : q ≤ K) (n : Nat) (hn : rd D (p + z) (z + 1) = n) (hnm : n ≤ most) (w : World) (hT : Rd w T A L c K p) (hS : Sl u8 w T A D) :
    Calls Try.prog 48 #[.pointer (some ⟨T, 0, none⟩), .int .i64 (most : Int)] w fun e w' => e = .returned (.tuple #[.int .i64 (n : Int), .int .i64 0]) ∧ But T w w' ∧ Rd w' T A L c K q := by
  have hTz : T < w.heap.size := Blk.lt hT
  have RD : Hid (∀ W, Sl u8 W W.heap.size A D → Calls Try.prog 54 #[.agg #[.slice A L c, .int .i64 (K : Int)], .int .i64 (p : Int)] W fun e w' => e = .returned (.tuple #[.int .i64 (n : Int), .int .i64 (q : Int), .int .i64 0]) ∧ Below W.heap.size W w') :=
    Lib.hid (fun W h => by have := rgamma_ok A c L K p z D hD hK hL hz h1 hz3 (by omega) n hn W h; rw [hpq] at this; exact this)
  have KEEP : Hid (∀ W, Rd W T A L c K p → W.cell? ⟨T, 0, none⟩ = some (.slice A L c) ∧ W.cell? ⟨T, 1, none⟩ = some (.int .i64 (K : Int)) ∧ W.cell? ⟨T, 2, none⟩ = some (.int .i64 (p : Int))) := Lib.hid fun W h => ⟨Blk.cell h 0, Blk.cell h 1, Blk.cell h 2⟩
  have v1 : ¬ (most : Int) < (n : Int) := by omega
  have hH := hT
  have hS0 : Sl u8 w w.heap.size A D := hS.more (by omega)
  have hB : But T w w := But.refl _ _
  clear hD hK hn hpq hT hS hz h1 hnm
  go_enter Try.func48, Try.ntmps48
  go_wp2_with fail
  go_region_held3 (fun W => W.cell? ⟨T, 0, none⟩ = some (.slice A L c) ∧ W.cell? ⟨T, 1, none⟩ = some (.int .i64 (K : Int)) ∧ W.cell? ⟨T, 2, none⟩ = some (.int .i64 (p : Int))) ((exact KEEP.out _ hH))
    ((go_at_call 54; refine (RD.out _ hS0.drew).mono ?_; rintro e w1 ⟨rfl, hb1⟩; have hH : Rd w1 T A L c K p := Blk.later (w := w.drew) hH hb1; have f2 := Blk.frozen hH 2))
  go_wp2_with fail
  refine bodyPost_ret (results_tmp2 rfl _ _ _) rfl ⟨rfl, ?_, ?_⟩
  · exact (hB.drew.trans (But.of hb1 (Nat.le_of_lt hTz))).store 2 _
  · exact Blk.store hH 2 _
/-- The bits of a copy. -/
theorem copy_bits {D : Bs} {p : Nat} {n d : Nat} (hn : 2 ≤ n) (hn2 : n ≤ 255) (hd1 : 1 ≤ d) (hd2 : d ≤ 4096) (h : At D p (tokB (n, d, 0))) :
    ∃ z1 z2, rd D p 1 = 1 ∧ (∀ i, i < z1 → bitD D (p + 1 + i) = false) ∧ bitD D (p + 1 + z1) = true ∧ z1 ≤ 30 ∧ rd D (p + 1 + z1) (z1 + 1) = n - 1 ∧
      (∀ i, i < z2 → bitD D (p + 1 + 2 * z1 + 1 + i) = false) ∧ bitD D (p + 1 + 2 * z1 + 1 + z2) = true ∧ z2 ≤ 30 ∧ rd D (p + 1 + 2 * z1 + 1 + z2) (z2 + 1) = d ∧
      p + 1 + 2 * z1 + 1 + 2 * z2 + 1 = p + price (n, d, 0) := by
  have hp : price (n, d, 0) = 1 + gb (n - 1) + gb d := by unfold price; rw [if_neg (by show ¬ n = 0; omega)]
  have ht : tokB (n, d, 0) = [true] ++ (numB (gb (n - 1)) (n - 1) ++ numB (gb d) d) := by unfold tokB; rw [if_neg (by show ¬ n = 0; omega)]; rfl
  rw [ht] at h
  have h0 := h 0 true rfl
  have h1 := h.right
  have h2 : At D (p + 1) (numB (gb (n - 1)) (n - 1)) := h1.left
  have h3 : At D (p + 1 + gb (n - 1)) (numB (gb d) d) := by have := h1.right; rwa [numB_length] at this
  obtain ⟨a1, a2, a3, a4, a5⟩ := h2.gamma (by omega) (by omega) rfl
  obtain ⟨b1, b2, b3, b4, b5⟩ := h3.gamma (by omega) (by omega) rfl
  have l1 := L.bitLen_le (x := n - 1) (k := 13) (by omega)
  have l2 := L.bitLen_le (x := d) (k := 13) (by omega)
  have e1 : p + 1 + gb (n - 1) = p + 1 + 2 * (Lib.bitLen (n - 1) - 1) + 1 := by omega
  have e2 : Lib.bitLen (n - 1) - 1 + 1 = Lib.bitLen (n - 1) := by omega
  have e3 : Lib.bitLen d - 1 + 1 = Lib.bitLen d := by omega
  rw [e1] at b3 b4 b5
  refine ⟨Lib.bitLen (n - 1) - 1, Lib.bitLen d - 1, ?_, a3, a4, by omega, by rw [e2]; exact a5, b3, b4, by omega, by rw [e3]; exact b5, by omega⟩
  rw [rd_succ, rd_zero]; rw [h0]; rfl
theorem lit_bits {D : Bs} {p : Nat} {x : UInt8} (h : At D p (tokB (0, 0, x))) : rd D p 1 = 0 ∧ rd D (p + 1) 8 = x.toNat := by
  have ht : tokB (0, 0, x) = numB 9 x.toNat := by unfold tokB; rw [if_pos rfl]
  rw [ht] at h
  have hx := x.toNat_lt
  refine ⟨?_, ?_⟩
  · rw [h.rd_pre 1 (by decide)]
    show x.toNat / 2 ^ 8 % 2 ^ 1 = 0
    omega
  · refine At.read (c := 8) (fun i y hy => ?_) (by omega)
    have hi : i < 8 := by have := (List.getElem?_eq_some_iff.1 hy).1; rwa [numB_length] at this
    rw [numB_get hi] at hy
    have := h (i + 1) _ (numB_get (by omega))
    rw [show p + 1 + i = p + (i + 1) by omega, this, show 9 - 1 - (i + 1) = 8 - 1 - i by omega]
    injection hy
end Go.Proofs.Ytfahfbkkgcekgaa.H
