/- galois: the tables; products and inverses are some bytes (which ones does not matter here). -/
import Derived.Test.YtjpbeoiiplapaaaW1
import Derived.StillTailTactics
namespace Go.Proofs.Ytjpbeoiiplapaaa.C
set_option linter.unusedVariables false
open Go Go.RowKit Go.Shelf Go.Proofs.Ytjpbeoiiplapaaa Go.Proofs.Ytjpbeoiiplapaaa.W Go.Proofs.Ytjpbeoiiplapaaa.M Go.Proofs.Ytjpbeoiiplapaaa.B

/-- The block of the tables: bytes, then numbers below 255. -/
def TabG (C : Array Value) : Prop := C.size = 511 ∧ (∀ i, i < 255 → ∃ v : UInt8, C[i]? = some (.int .u8 (v.toNat : Int))) ∧ ∀ i, i < 256 → ∃ k : Nat, k < 255 ∧ C[255 + i]? = some (.int .i64 (k : Int))
theorem TabG.pow {C : Array Value} (h : TabG C) {i : Nat} (hi : i < 255) (v : UInt8) : TabG (C.setIfInBounds i (.int .u8 (v.toNat : Int))) := by
  obtain ⟨h1, h2, h3⟩ := h
  refine ⟨by simpa using h1, fun j hj => ?_, fun j hj => ?_⟩
  · rw [Array.getElem?_setIfInBounds]
    by_cases e : i = j
    · subst e; rw [if_pos rfl, if_pos (by omega)]; exact ⟨v, rfl⟩
    · rw [if_neg e]; exact h2 j hj
  · rw [Array.getElem?_setIfInBounds, if_neg (by omega)]; exact h3 j hj
theorem TabG.log {C : Array Value} (h : TabG C) {i k : Nat} (hi : i < 256) (hk : k < 255) : TabG (C.setIfInBounds (255 + i) (.int .i64 (k : Int))) := by
  obtain ⟨h1, h2, h3⟩ := h
  refine ⟨by simpa using h1, fun j hj => ?_, fun j hj => ?_⟩
  · rw [Array.getElem?_setIfInBounds, if_neg (by omega)]; exact h2 j hj
  · rw [Array.getElem?_setIfInBounds]
    by_cases e : 255 + i = 255 + j
    · rw [if_pos e, if_pos (by omega)]; exact ⟨k, hk, rfl⟩
    · rw [if_neg e]; exact h3 j hj
theorem zero_tabs : ∃ Z : Array Value, (∀ w, (zeroValue 82).run Try.prog w = .ok (.agg Z) w) ∧ Z = Array.replicate 255 (.int .u8 0) ++ Array.replicate 256 (.int .i64 0) :=
  ⟨_, fun w => by kernel_rfl, rfl⟩
theorem tabs_0 : TabG (Array.replicate 255 (.int .u8 0) ++ Array.replicate 256 (.int .i64 0)) := by
  refine ⟨by simp, fun i hi => ⟨0, ?_⟩, fun i hi => ⟨0, by omega, ?_⟩⟩
  · rw [Array.getElem?_append_left (by simpa using hi)]; simp [hi]
  · rw [Array.getElem?_append_right (by simp)]; simp [hi]
theorem twice : ∀ n : Fin 256, 128 ≤ n.val → bits .xor .i64 ((n.val : Int) * 2) 285 = (((n.val * 2) ^^^ 285 : Nat) : Int) ∧ (n.val * 2) ^^^ 285 < 256 := by decide +kernel

set_option maxRecDepth 100000 in
set_option maxHeartbeats 1000000 in
theorem field_ok (w : World) : Calls Try.prog 38 #[] w fun e w' => ∃ C, e = .returned (.pointer (some ⟨w.heap.size, 0, none⟩)) ∧ TabG C ∧ Blk w' w.heap.size 82 C ∧ Below w.heap.size w w' := by
  obtain ⟨Z, hz, hZ⟩ := zero_tabs
  have HZ : Hid (TabG Z) := Lib.hid (by rw [hZ]; exact tabs_0)
  clear hZ
  go_enter Try.func38, Try.ntmps38
  go_wp2_with fail
  have hb0 : Blk (w.alloc (.cells Z 82)) w.heap.size 82 Z := Blk.new w _ _
  have hB : Below w.heap.size w (w.alloc (.cells Z 82)) := (Below.refl _ w).alloc (Nat.le_refl _) _
  obtain ⟨w0, hw0⟩ : ∃ w0, w0 = w.alloc (.cells Z 82) := ⟨_, rfl⟩
  rw [← hw0] at hb0 hB ⊢
  clear hw0
  go_loopw [2, 6] (fun nv iv W => ∃ (n i : Nat) (C : Array Value), n < 256 ∧ i ≤ 255 ∧ nv = .int .i64 (n : Int) ∧ iv = .int .i64 (i : Int) ∧ Hid (TabG C) ∧ Blk W w.heap.size 82 C ∧ Below w.heap.size w W) (fun _ iv _ => 255 - (intOf iv).toNat)
  case atStart => exact ⟨1, 0, Z, by omega, by omega, rfl, rfl, HZ, hb0, hB⟩
  case round =>
    obtain ⟨n, i, C, hn, hi, rfl, rfl, hC, hb, hB⟩ := hrel
    clear hb0
    by_cases hlt : i < 255
    · obtain ⟨nb, hnb⟩ : ∃ nb : UInt8, (n : Int) = (nb.toNat : Int) := ⟨UInt8.ofNat n, by rw [UInt8.toNat_ofNat']; omega⟩
      have hwr : IntKind.u8.wrap (n : Int) = (n : Int) := by simp [IntKind.wrap, IntKind.signed, IntKind.bits]; omega
      have hT1 := hC.out.pow hlt nb
      rw [← hnb] at hT1
      have hT2 := hT1.log (i := n) hn hlt
      have hs : C.size = 511 := hC.out.1
      have hf1 := Blk.frozen hb i
      obtain ⟨x1, hc1⟩ : ∃ v, wr.cell? ⟨w.heap.size, i, none⟩ = some v := ⟨C[i], by rw [hb.cell]; exact Array.getElem?_eq_getElem (by omega)⟩
      obtain ⟨x2, hc2⟩ : ∃ v, wr.cell? ⟨w.heap.size, 255 + n, none⟩ = some v := ⟨C[255 + n], by rw [hb.cell]; exact Array.getElem?_eq_getElem (by omega)⟩
      have hne : ¬ (i = 255 + n) := by omega
      have hne' : ¬ (255 + n = i) := by omega
      have hf3 := Blk.frozen hb (255 + n)
      have hb1 := hb.store i (.int .u8 (n : Int))
      have hf2 := Blk.frozen hb1 (255 + n)
      have hb2 := hb1.store (255 + n) (.int .i64 (i : Int))
      have hB2 := (hB.setCell (p := ⟨w.heap.size, i, none⟩) (Nat.le_refl _) (.int .u8 (n : Int))).setCell (p := ⟨w.heap.size, 255 + n, none⟩) (Nat.le_refl _) (.int .i64 (i : Int))
      have HT := Lib.hid hT2
      clear hnb hT1 hT2 hC
      by_cases h1 : 128 ≤ n
      · obtain ⟨e1, e2⟩ := twice ⟨n, hn⟩ h1
        replace e1 : bits .xor .i64 ((n : Int) * 2) 285 = (((n * 2) ^^^ 285 : Nat) : Int) := e1
        replace e2 : (n * 2) ^^^ 285 < 256 := e2
        obtain ⟨q, hq⟩ : ∃ q, (n * 2) ^^^ 285 = q := ⟨_, rfl⟩
        rw [hq] at e1 e2
        have hgt : (255 : Int) < (n : Int) * 2 := by omega
        clear hq
        go_wp2_with fail
        go_roundw
        case rel => exact ⟨q, i + 1, _, e2, by omega, by go_num, by go_num, HT, hb2, hB2⟩
        case measure => simp [intOf]; omega
      · have hgt : ¬ (255 : Int) < (n : Int) * 2 := by omega
        go_wp2_with fail
        go_roundw
        case rel => exact ⟨2 * n, i + 1, _, by omega, by omega, by go_num, by go_num, HT, hb2, hB2⟩
        case measure => simp [intOf]; omega
    · obtain rfl : i = 255 := by omega
      have HC := hC
      clear hC
      go_wp2
      go_ret
      exact ⟨C, rfl, HC.out, hb, hB⟩

set_option maxRecDepth 100000 in
theorem tmul_ok (g : Nat) (C : Array Value) (hC : TabG C) (a b : UInt8) (w : World) (hb : Blk w g 82 C) :
    Calls Try.prog 39 #[.pointer (some ⟨g, 0, none⟩), .int .u8 (a.toNat : Int), .int .u8 (b.toNat : Int)] w fun e w' => ∃ v : UInt8, e = .returned (.int .u8 (v.toNat : Int)) ∧ Below w.heap.size w w' := by
  obtain ⟨h1, h2, h3⟩ := hC
  obtain ⟨x, hx, hcx⟩ := h3 a.toNat a.toNat_lt
  obtain ⟨y, hy, hcy⟩ := h3 b.toNat b.toNat_lt
  obtain ⟨v, hcv⟩ := h2 ((x + y) % 255) (by omega)
  have k1 : w.cell? ⟨g, 255 + a.toNat, none⟩ = some (.int .i64 (x : Int)) := by rw [hb.cell]; exact hcx
  have k2 : w.cell? ⟨g, 255 + b.toNat, none⟩ = some (.int .i64 (y : Int)) := by rw [hb.cell]; exact hcy
  obtain ⟨r, hr⟩ : ∃ r, (x + y) % 255 = r := ⟨_, rfl⟩
  have hr2 : r < 255 := by omega
  have hr3 : ((x : Int) + (y : Int)) % 255 = (r : Int) := by omega
  rw [hr] at hcv
  have k3 : w.cell? ⟨g, r, none⟩ = some (.int .u8 (v.toNat : Int)) := by rw [hb.cell]; exact hcv
  have hza := a.toNat_lt
  have hzb := b.toNat_lt
  clear hcx hcy hcv h1 h2 h3 hb hr
  by_cases ha : a.toNat = 0
  · have ha' : ((a.toNat : Int) == 0) = true := by rw [beq_iff_eq]; omega
    go_enter Try.func39, Try.ntmps39
    go_wp2_with fail
    go_ret
    exact ⟨0, rfl, Below.refl _ _⟩
  · have ha' : ((a.toNat : Int) == 0) = false := by rw [beq_eq_false_iff_ne]; omega
    by_cases hb0 : b.toNat = 0
    · have hb' : ((b.toNat : Int) == 0) = true := by rw [beq_iff_eq]; omega
      go_enter Try.func39, Try.ntmps39
      go_wp2_with fail
      go_ret
      exact ⟨0, rfl, Below.refl _ _⟩
    · have hb' : ((b.toNat : Int) == 0) = false := by rw [beq_eq_false_iff_ne]; omega
      go_enter Try.func39, Try.ntmps39
      go_wp2_with fail
      go_quiet (fail)
      go_wp2_with fail
      go_ret
      exact ⟨v, rfl, below_drewN (Below.refl _ _) _⟩
set_option maxRecDepth 100000 in
theorem tinv_ok (g : Nat) (C : Array Value) (hC : TabG C) (a : UInt8) (w : World) (hb : Blk w g 82 C) :
    Calls Try.prog 40 #[.pointer (some ⟨g, 0, none⟩), .int .u8 (a.toNat : Int)] w fun e w' => ∃ v : UInt8, e = .returned (.int .u8 (v.toNat : Int)) ∧ Below w.heap.size w w' := by
  obtain ⟨h1, h2, h3⟩ := hC
  obtain ⟨x, hx, hcx⟩ := h3 a.toNat a.toNat_lt
  obtain ⟨v, hcv⟩ := h2 ((255 - x) % 255) (by omega)
  have k1 : w.cell? ⟨g, 255 + a.toNat, none⟩ = some (.int .i64 (x : Int)) := by rw [hb.cell]; exact hcx
  obtain ⟨r, hr⟩ : ∃ r, (255 - x) % 255 = r := ⟨_, rfl⟩
  have hr2 : r < 255 := by omega
  have hr3 : (255 - (x : Int)) % 255 = (r : Int) := by omega
  rw [hr] at hcv
  have k3 : w.cell? ⟨g, r, none⟩ = some (.int .u8 (v.toNat : Int)) := by rw [hb.cell]; exact hcv
  have hza := a.toNat_lt
  clear hcx hcv h1 h2 h3 hb hr
  go_enter Try.func40, Try.ntmps40
  go_wp2_with fail
  go_quiet (fail)
  go_wp2_with fail
  go_ret
  exact ⟨v, rfl, below_drewN (Below.refl _ _) _⟩
theorem gmul_ok (a b : UInt8) (w : World) : Calls Try.prog 31 #[.int .u8 (a.toNat : Int), .int .u8 (b.toNat : Int)] w fun e w' => ∃ v : UInt8, e = .returned (.int .u8 (v.toNat : Int)) ∧ Below w.heap.size w w' := by
  have C1 := Lib.hid (field_ok w)
  go_enter Try.func31, Try.ntmps31
  go_wp2_with (first
    | (go_at_call 38; refine C1.out.mono ?_; rintro e w1 ⟨C, rfl, hC, hb, hb1⟩; have hC' := Lib.hid hC; clear hC)
    | (go_at_call 39; refine (tmul_ok _ C hC'.out a b _ hb).mono ?_; rintro e w2 ⟨v, rfl, hb2⟩))
  go_ret
  exact ⟨v, rfl, bs hb1 hb2⟩
end Go.Proofs.Ytjpbeoiiplapaaa.C
