/- New, Check, Same, in both texts. -/
import Derived.Test.YtlbghmocbklmdaaR2
import Derived.Laws.ResultCell
import Derived.Deep.RegionWith
import Derived.Deep.RegionHeld3
namespace Go.Proofs.Ytlbghmocbklmdaa.H
set_option linter.unusedVariables false
open Go Go.RowKit Go.Proofs.Ytlbghmocbklmdaa Go.Proofs.Ytlbghmocbklmdaa.W Go.Proofs.Ytlbghmocbklmdaa.M

/-- A state. -/
def st (k : Int) (A : Option Addr) (n c : Nat) (h : R) : Value := .agg #[.int .i64 k, .slice A n c, .int .u32 (h.toNat : Int)]

set_option maxRecDepth 100000 in
theorem New_bad (k : Int) (hk : k < 1 ∨ 64 < k) (w : World) : Calls Try.prog 11 #[.int .i64 k] w fun e w' => e = .returned (.tuple #[.agg #[.int .i64 0, .slice none 0 0, .int .u32 0], .int .i64 2]) ∧ Below w.heap.size w w' := by
  have hb : Below w.heap.size w (w.alloc (.cells #[.int .i64 0, .slice none 0 0, .int .u32 0] 26)) := (Below.refl _ _).alloc (Nat.le_refl _) _
  have hd : k < 1 ∨ (¬ k < 1 ∧ 64 < k) := by omega
  clear hk
  go_enter Try.func11, Try.ntmps11
  rcases hd with h | ⟨h, h'⟩
  all_goals
    go_wp2_with fail
    refine bodyPost_ret (v := .tuple #[.agg #[.int .i64 0, .slice none 0 0, .int .u32 0], .int .i64 2]) ?_ rfl ⟨rfl, hb⟩
    rw [results_cell_tmp rfl]; go_simp
set_option maxRecDepth 100000 in
theorem New_ok (k : Int) (h1 : 1 ≤ k) (h2 : k ≤ 64) (w : World) : Calls Try.prog 11 #[.int .i64 k] w fun e w' => e = .returned (.tuple #[.agg #[.int .i64 k, .slice none 0 0, .int .u32 0], .int .i64 0]) ∧ Below w.heap.size w w' := by
  have hd : (decide (k < 1) || decide (64 < k)) = false := by simp; omega
  go_enter Try.func11, Try.ntmps11
  go_wp2_with fail
  refine bodyPost_ret (v := .tuple #[.agg #[.int .i64 k, .slice none 0 0, .int .u32 0], .int .i64 0]) ?_ rfl ⟨rfl, (Below.refl _ _).alloc (Nat.le_refl _) _⟩
  rw [results_cell_tmp rfl]; go_simp
set_option maxRecDepth 100000 in
theorem rNew_bad (k : Int) (hk : k < 1 ∨ 64 < k) (w : World) : Calls Try.prog 12 #[.int .i64 k] w fun e w' => e = .returned (.tuple #[.agg #[.int .i64 0, .slice none 0 0, .int .u32 0], .int .i64 2]) ∧ Below w.heap.size w w' := by
  have hb : Below w.heap.size w (w.alloc (.cells #[.int .i64 0, .slice none 0 0, .int .u32 0] 26)) := (Below.refl _ _).alloc (Nat.le_refl _) _
  have hd : k < 1 ∨ (¬ k < 1 ∧ 64 < k) := by omega
  clear hk
  go_enter Try.func12, Try.ntmps12
  rcases hd with h | ⟨h, h'⟩
  all_goals
    go_wp2_with fail
    refine bodyPost_ret (v := .tuple #[.agg #[.int .i64 0, .slice none 0 0, .int .u32 0], .int .i64 2]) ?_ rfl ⟨rfl, hb⟩
    rw [results_cell_tmp rfl]; go_simp
set_option maxRecDepth 100000 in
theorem rNew_ok (k : Int) (h1 : 1 ≤ k) (h2 : k ≤ 64) (w : World) : Calls Try.prog 12 #[.int .i64 k] w fun e w' => e = .returned (.tuple #[.agg #[.int .i64 k, .slice none 0 0, .int .u32 0], .int .i64 0]) ∧ Below w.heap.size w w' := by
  have hd : (decide (k < 1) || decide (64 < k)) = false := by simp; omega
  go_enter Try.func12, Try.ntmps12
  go_wp2_with fail
  refine bodyPost_ret (v := .tuple #[.agg #[.int .i64 k, .slice none 0 0, .int .u32 0], .int .i64 0]) ?_ rfl ⟨rfl, (Below.refl _ _).alloc (Nat.le_refl _) _⟩
  rw [results_cell_tmp rfl]; go_simp

/-- The error of a state. -/
def chk (k : Int) (b : Bs) (h : R) : Int := if k < 1 ∨ 64 < k then 2 else if k < (b.length : Int) then 6 else if h ≠ hsh b then 23 else 0

set_option maxRecDepth 100000 in
set_option maxHeartbeats 1000000 in
theorem Check_ok (k : Int) (A : Option Addr) (n c : Nat) (b : Bs) (hv : R) (hl : b.length = n) (w : World) (B : Nat) (h : Sl u8 w B A b) :
    Calls Try.prog 20 #[.agg #[.int .i64 k, .slice A n c, .int .u32 (hv.toNat : Int)]] w fun e w' => e = .returned (.int .i64 (chk k b hv)) ∧ Below w.heap.size w w' := by
  have hS := h.lt
  clear h
  have hB0 : Below w.heap.size w (w.alloc (.cells #[.int .i64 k, .slice A n c, .int .u32 (hv.toNat : Int)] 26)) := (Below.refl _ _).alloc (Nat.le_refl _) _
  by_cases h1 : k < 1 ∨ 64 < k
  · have hd : k < 1 ∨ (¬ k < 1 ∧ 64 < k) := by omega
    have he : chk k b hv = 2 := by unfold chk; rw [if_pos h1]
    rw [he]
    clear h1 he hS hl
    go_enter Try.func20, Try.ntmps20
    rcases hd with h | ⟨h, h'⟩
    all_goals
      go_wp2
      go_ret
      exact ⟨rfl, hB0⟩
  · have hd1 : ¬ k < 1 := by omega
    have hd2 : ¬ 64 < k := by omega
    by_cases h2 : k < (n : Int)
    · have he : chk k b hv = 6 := by unfold chk; rw [if_neg h1, if_pos (by rw [hl]; exact h2)]
      rw [he]
      clear h1 he hS hl
      go_enter Try.func20, Try.ntmps20
      go_wp2
      go_ret
      exact ⟨rfl, hB0⟩
    · have hn : n ≤ 64 := by omega
      have h2' : ¬ (k < (n : Int)) := h2
      have C : Hid (∀ W, Sl u8 W W.heap.size A b → Calls Try.prog 15 #[.slice A n c] W fun e w' => e = .returned (.int .u32 ((hsh b).toNat : Int)) ∧ Below W.heap.size W w') := Lib.hid fun W hW => Hash_ok A c n b hl (by omega) W _ hW
      obtain ⟨H, hH⟩ : ∃ H, hsh b = H := ⟨_, rfl⟩
      have he : chk k b hv = if hv ≠ H then 23 else 0 := by unfold chk; rw [if_neg h1, if_neg (by rw [hl]; exact h2), hH]
      rw [he]
      rw [hH] at C
      have h3 : (hv = H ∧ (if hv ≠ H then (23 : Int) else 0) = 0) ∨ (((hv.toNat : Int) == (H.toNat : Int)) = false ∧ (if hv ≠ H then (23 : Int) else 0) = 23) := by
        by_cases h3 : hv = H
        · exact .inl ⟨h3, by rw [if_neg (by simp [h3])]⟩
        · exact .inr ⟨by rw [beq_eq_false_iff_ne]; intro e; exact h3 (BitVec.eq_of_toNat_eq (by omega)), by rw [if_pos h3]⟩
      clear h1 he hl hH 
      rcases h3 with ⟨rfl, h4⟩ | ⟨h3, h4⟩
      all_goals
        rw [h4]
        clear h4
        go_enter Try.func20, Try.ntmps20
        go_wp2_with fail
        obtain ⟨w1, hw1⟩ : ∃ w1, w.alloc (.cells #[.int .i64 k, .slice A n c, .int .u32 (hv.toNat : Int)] 26) = w1 := ⟨_, rfl⟩
        have hk : Blk w1 w.heap.size 26 #[.int .i64 k, .slice A n c, .int .u32 (hv.toNat : Int)] := by rw [← hw1]; exact Blk.new _ _ _
        rw [hw1] at hB0 ⊢
        clear hw1
        have hS1 := hS.later hB0
        have c1 : w1.cell? ⟨w.heap.size, 1, none⟩ = some (.slice A n c) := hk.cell 1
        have c2 : w1.cell? ⟨w.heap.size, 2, none⟩ = some (.int .u32 (hv.toNat : Int)) := hk.cell 2
        go_region_held3 (fun W => W.cell? ⟨w.heap.size, 1, none⟩ = some (.slice A n c) ∧ W.cell? ⟨w.heap.size, 2, none⟩ = some (.int .u32 (hv.toNat : Int)))
          (first
          | go_keep
          | exact ⟨(hk.drew.later hb1).cell 1, (hk.drew.later hb1).cell 2⟩)
          ((go_at_call 15; refine (C.out _ hS1.drew).mono ?_; rintro e w2 ⟨rfl, hb1⟩))
        all_goals go_wp2
        all_goals go_ret
        all_goals exact ⟨rfl, hB0.drew.trans (hb1.mono hB0.size)⟩
set_option maxRecDepth 100000 in
set_option maxHeartbeats 1000000 in
theorem rCheck_ok (k : Int) (A : Option Addr) (n c : Nat) (b : Bs) (hv : R) (hl : b.length = n) (w : World) (B : Nat) (h : Sl u8 w B A b) :
    Calls Try.prog 21 #[.agg #[.int .i64 k, .slice A n c, .int .u32 (hv.toNat : Int)]] w fun e w' => e = .returned (.int .i64 (chk k b hv)) ∧ Below w.heap.size w w' := by
  have hS := h.lt
  clear h
  have hB0 : Below w.heap.size w (w.alloc (.cells #[.int .i64 k, .slice A n c, .int .u32 (hv.toNat : Int)] 26)) := (Below.refl _ _).alloc (Nat.le_refl _) _
  by_cases h1 : k < 1 ∨ 64 < k
  · have hd : k < 1 ∨ (¬ k < 1 ∧ 64 < k) := by omega
    have he : chk k b hv = 2 := by unfold chk; rw [if_pos h1]
    rw [he]
    clear h1 he hS hl
    go_enter Try.func21, Try.ntmps21
    rcases hd with h | ⟨h, h'⟩
    all_goals
      go_wp2
      go_ret
      exact ⟨rfl, hB0⟩
  · have hd1 : ¬ k < 1 := by omega
    have hd2 : ¬ 64 < k := by omega
    by_cases h2 : k < (n : Int)
    · have he : chk k b hv = 6 := by unfold chk; rw [if_neg h1, if_pos (by rw [hl]; exact h2)]
      rw [he]
      clear h1 he hS hl
      go_enter Try.func21, Try.ntmps21
      go_wp2
      go_ret
      exact ⟨rfl, hB0⟩
    · have hn : n ≤ 64 := by omega
      have h2' : ¬ (k < (n : Int)) := h2
      have C : Hid (∀ W, Sl u8 W W.heap.size A b → Calls Try.prog 16 #[.slice A n c] W fun e w' => e = .returned (.int .u32 ((hsh b).toNat : Int)) ∧ Below W.heap.size W w') := Lib.hid fun W hW => (rHash_ok A c n b hl (by omega) W _ hW).mono fun e w' ⟨h1, h2⟩ => ⟨h1, h2 ▸ Below.refl _ _⟩
      obtain ⟨H, hH⟩ : ∃ H, hsh b = H := ⟨_, rfl⟩
      have he : chk k b hv = if hv ≠ H then 23 else 0 := by unfold chk; rw [if_neg h1, if_neg (by rw [hl]; exact h2), hH]
      rw [he]
      rw [hH] at C
      have h3 : (hv = H ∧ (if hv ≠ H then (23 : Int) else 0) = 0) ∨ (((hv.toNat : Int) == (H.toNat : Int)) = false ∧ (if hv ≠ H then (23 : Int) else 0) = 23) := by
        by_cases h3 : hv = H
        · exact .inl ⟨h3, by rw [if_neg (by simp [h3])]⟩
        · exact .inr ⟨by rw [beq_eq_false_iff_ne]; intro e; exact h3 (BitVec.eq_of_toNat_eq (by omega)), by rw [if_pos h3]⟩
      clear h1 he hl hH 
      rcases h3 with ⟨rfl, h4⟩ | ⟨h3, h4⟩
      all_goals
        rw [h4]
        clear h4
        go_enter Try.func21, Try.ntmps21
        go_wp2_with fail
        obtain ⟨w1, hw1⟩ : ∃ w1, w.alloc (.cells #[.int .i64 k, .slice A n c, .int .u32 (hv.toNat : Int)] 26) = w1 := ⟨_, rfl⟩
        have hk : Blk w1 w.heap.size 26 #[.int .i64 k, .slice A n c, .int .u32 (hv.toNat : Int)] := by rw [← hw1]; exact Blk.new _ _ _
        rw [hw1] at hB0 ⊢
        clear hw1
        have hS1 := hS.later hB0
        have c1 : w1.cell? ⟨w.heap.size, 1, none⟩ = some (.slice A n c) := hk.cell 1
        have c2 : w1.cell? ⟨w.heap.size, 2, none⟩ = some (.int .u32 (hv.toNat : Int)) := hk.cell 2
        go_region_held3 (fun W => W.cell? ⟨w.heap.size, 1, none⟩ = some (.slice A n c) ∧ W.cell? ⟨w.heap.size, 2, none⟩ = some (.int .u32 (hv.toNat : Int)))
          (first
          | go_keep
          | exact ⟨(hk.drew.later hb1).cell 1, (hk.drew.later hb1).cell 2⟩)
          ((go_at_call 16; refine (C.out _ hS1.drew).mono ?_; rintro e w2 ⟨rfl, hb1⟩))
        all_goals go_wp2
        all_goals go_ret
        all_goals exact ⟨rfl, hB0.drew.trans (hb1.mono hB0.size)⟩
end Go.Proofs.Ytlbghmocbklmdaa.H
