/- BinarySearch; end. -/
import Derived.Test.YtcdaieoondmljaaT2
namespace Go.Proofs.Ytcdaieoondmljaa.H
set_option linter.unusedVariables false
open Go Go.RowKit Go.Proofs.Ytcdaieoondmljaa Go.Proofs.Ytcdaieoondmljaa.W Go.Proofs.Ytcdaieoondmljaa.M

theorem nan1_ok (x : Int) (w : World) : Calls Try.prog 46 #[.int .i64 x] w fun e w' => e = .returned (.bool false) ∧ w' = w := by
  go_enter Try.func46, Try.ntmps46
  go_wp2
  go_ret
  exact ⟨by first | rfl | simp, rfl⟩
theorem nan2_ok (x : Int) (w : World) : Calls Try.prog 43 #[.int .i64 x] w fun e w' => e = .returned (.bool false) ∧ w' = w := by
  go_enter Try.func43, Try.ntmps43
  go_wp2
  go_ret
  exact ⟨by first | rfl | simp, rfl⟩
theorem less_ok (x y : Int) (t : Bool) (ht : decide (x < y) = t) (w : World) : Calls Try.prog 42 #[.int .i64 x, .int .i64 y] w fun e w' => e = .returned (.bool t) ∧ w' = w := by
  have C1 := Lib.hid fun W => nan1_ok x W
  have HT := Lib.hid ht
  clear ht
  go_enter Try.func42, Try.ntmps42
  go_wp2_with (go_at_call 46; refine (C1.out _).mono ?_; rintro e w1 ⟨rfl, rfl⟩)
  go_ret
  exact ⟨ret_bool (by first | (rw [← HT.out]; done) | (rw [← HT.out]; simp)), rfl⟩

/-- The first place in a sorted list from which on nothing is less. -/
def Cutat (l : List Nat) (t k : Nat) : Prop := (∀ i x, i < k → l[i]? = some x → x < t) ∧ ∀ i x, k ≤ i → l[i]? = some x → t ≤ x
theorem sorted_at {l : List Nat} (h : l.Pairwise (· < ·)) {i j x y : Nat} (hij : i ≤ j) (hx : l[i]? = some x) (hy : l[j]? = some y) : x ≤ y := by
  obtain ⟨h1, e1⟩ := List.getElem?_eq_some_iff.1 hx
  obtain ⟨h2, e2⟩ := List.getElem?_eq_some_iff.1 hy
  rcases Nat.lt_or_ge i j with hlt | hge
  · have := List.pairwise_iff_getElem.1 h i j h1 h2 hlt
    omega
  · obtain rfl : i = j := by omega
    rw [e1] at e2; omega
def Found (l : List Nat) (t n : Nat) (w : World) (e : Ending) (w' : World) : Prop := ∃ (k : Nat) (f : Bool), e = .returned (.tuple #[.int .i64 (k : Int), .bool f]) ∧ (k ≤ n ∧ Cutat l t k) ∧ w' = w
set_option maxRecDepth 100000 in
set_option maxHeartbeats 2000000 in
theorem search_ok (A : Option Addr) (c n t : Nat) (l : List Nat) (hl : l.length = n) (hn : n ≤ 65537) (ht : t ≤ 1000000) (hs : l.Pairwise (· < ·)) (w : World) (B : Nat) (h : Sl i64 w B A l) :
    Calls Try.prog 39 #[.slice A n c, .int .i64 (t : Int)] w (Found l t n w) := by
  have HL := Lib.hid hl
  have HS := Lib.hid hs
  clear hl hs
  go_enter Try.func39, Try.ntmps39
  go_wp2
  go_loop [7, 8] (fun iv jv => ∃ i j : Nat, i ≤ j ∧ j ≤ n ∧ iv = .int .i64 (i : Int) ∧ jv = .int .i64 (j : Int) ∧ Hid (∀ q x, q < i → l[q]? = some x → x < t) ∧ Hid (∀ q x, j ≤ q → l[q]? = some x → t ≤ x)) (fun iv jv => (intOf jv).toNat - (intOf iv).toNat)
  case atStart => exact ⟨0, n, Nat.zero_le _, Nat.le_refl _, rfl, rfl, Lib.hid (fun q x hq => by omega), Lib.hid (fun q x hq hx => by have := (List.getElem?_eq_some_iff.1 hx).1; rw [HL.out] at this; omega)⟩
  case round =>
    obtain ⟨i, j, hij, hjn, rfl, rfl, h1, h2⟩ := hrel
    by_cases hlt : i < j
    · have hlt' : (i : Int) < (j : Int) := by omega
      obtain ⟨m, hm⟩ : ∃ m, (i + j) / 2 = m := ⟨_, rfl⟩
      have hmi : ((i : Int) + (j : Int)) / 2 = (m : Int) := by omega
      have hm1 : i ≤ m := by omega
      have hm2 : m < j := by omega
      obtain ⟨b0, q0, x, rfl, _, hx, hcx⟩ := h.at_ (j := m) (by rw [HL.out]; omega)
      replace hcx : w.cell? ⟨b0, q0 + m, none⟩ = some (.int .i64 (x : Int)) := hcx
      by_cases hxt : x < t
      · have C : Hid (Calls Try.prog 42 #[.int .i64 (x : Int), .int .i64 (t : Int)] w fun e w' => e = .returned (.bool true) ∧ w' = w) := Lib.hid (less_ok _ _ true (by simp; omega) w)
        have HX : Hid (∀ q y, q < m + 1 → l[q]? = some y → y < t) := Lib.hid fun q y hq hy => by have := sorted_at HS.out (show q ≤ m by omega) hy hx; omega
        clear hx hm hxt
        go_wp2_with (go_at_call 42; refine C.out.mono ?_; rintro e w1 ⟨rfl, rfl⟩)
        go_round
        case rel => exact ⟨m + 1, j, by omega, hjn, by go_num, rfl, HX, h2⟩
        case measure => simp [intOf]; omega
      · have C : Hid (Calls Try.prog 42 #[.int .i64 (x : Int), .int .i64 (t : Int)] w fun e w' => e = .returned (.bool false) ∧ w' = w) := Lib.hid (less_ok _ _ false (by simp; omega) w)
        have HX : Hid (∀ q y, m ≤ q → l[q]? = some y → t ≤ y) := Lib.hid fun q y hq hy => by have := sorted_at HS.out hq hx hy; omega
        clear hx hm hxt
        go_wp2_with (go_at_call 42; refine C.out.mono ?_; rintro e w1 ⟨rfl, rfl⟩)
        go_round
        case rel => exact ⟨i, m, by omega, by omega, rfl, rfl, h1, HX⟩
        case measure => simp [intOf]; omega
    · obtain rfl : i = j := by omega
      have HC : Hid (Cutat l t i) := Lib.hid ⟨h1.out, h2.out⟩
      have hlt' : ¬ (i : Int) < (i : Int) := by omega
      clear h1 h2
      by_cases hin : i < n
      · obtain ⟨b0, q0, x, rfl, _, hx, hcx⟩ := h.at_ (j := i) (by rw [HL.out]; omega)
        replace hcx : w.cell? ⟨b0, q0 + i, none⟩ = some (.int .i64 (x : Int)) := hcx
        have C1 := Lib.hid fun W => nan2_ok (x : Int) W
        have hin' : (i : Int) < (n : Int) := by omega
        clear hx
        by_cases hxt : x = t
        · have hxe : ((x : Int) == (t : Int)) = true := by rw [beq_iff_eq]; omega
          clear hxt
          go_wp2
          go_ret2
          exact ⟨i, _, rfl, ⟨hjn, HC.out⟩, rfl⟩
        · have hxe : ((x : Int) == (t : Int)) = false := by rw [beq_eq_false_iff_ne]; omega
          clear hxt
          go_wp2_with (go_at_call 43; refine (C1.out _).mono ?_; rintro e w1 ⟨rfl, rfl⟩)
          go_ret2
          exact ⟨i, _, rfl, ⟨hjn, HC.out⟩, rfl⟩
      · have hin' : decide ((i : Int) < (n : Int)) = false := by simp; omega
        go_wp2
        go_ret2
        exact ⟨i, _, rfl, ⟨hjn, HC.out⟩, rfl⟩

theorem find_cut {l : List Nat} {t k : Nat} (h : Cutat l t k) : l.find? (fun p => decide (t ≤ p)) = l[k]? := by
  obtain ⟨h1, h2⟩ := h
  induction l generalizing k with
  | nil => rfl
  | cons a l ih =>
    rcases k with _ | k
    · have := h2 0 a (Nat.le_refl _) rfl
      rw [List.find?_cons_of_pos (by simpa using this)]; rfl
    · have := h1 0 a (by omega) rfl
      rw [List.find?_cons_of_neg (by simp; omega)]
      exact ih (fun i x hi hx => h1 (i + 1) x (by omega) hx) (fun i x hi hx => h2 (i + 1) x (by omega) hx)
set_option maxRecDepth 100000 in
set_option maxHeartbeats 2000000 in
theorem end_ok {le us mo wi : Nat} (hg : Fine le us mo wi) (N a : Nat) (hN : N ≤ 65536) (ha : a < N) (A : Option Addr) (c n : Nat) (l : List Nat) (hl : l.length = n) (hn : n ≤ 65537) (hs : l.Pairwise (· < ·)) (hx6 : ∀ x ∈ l, x ≤ 65536) (r : Nat) (hr : nxt l le mo N a = r) (w : World) (B : Nat) (h : Sl i64 w B A l) :
    Calls Try.prog 32 #[.agg #[.int .i64 (le : Int), .int .i64 (us : Int), .int .i64 (mo : Int), .int .i64 (wi : Int)], .int .i64 (N : Int), .int .i64 (a : Int), .slice A n c] w fun e w' => e = .returned (.int .i64 (r : Int)) ∧ Below w.heap.size w w' := by
  have g1 := hg.m2
  have g2 := hg.m1
  have hS := h.lt
  have HL := Lib.hid hl
  have HX := Lib.hid hx6
  have HR := Lib.hid hr
  have hB0 : Below w.heap.size w (w.alloc (.cells #[.int .i64 (le : Int), .int .i64 (us : Int), .int .i64 (mo : Int), .int .i64 (wi : Int)] 23)) := (Below.refl _ _).alloc (Nat.le_refl _) _
  have hS0 := hS.below hB0
  obtain ⟨t, ht⟩ : ∃ t, a + le = t := ⟨_, rfl⟩
  have hti : (a : Int) + (le : Int) = (t : Int) := by omega
  have htw : IntKind.i64.wrap (t : Int) = (t : Int) := by rw [IntKind.wrap_i64]; omega
  have C := Lib.hid (search_ok A c n t l hl hn (by omega) hs _ _ hS0)
  obtain ⟨M, hM⟩ : ∃ M, min (a + mo) N = M := ⟨_, rfl⟩
  have hM6 : M ≤ 65536 := by omega
  have HN : Hid (nxt l le mo N a = match l.find? (fun p => decide (t ≤ p)) with | some p => min p M | none => M) := Lib.hid (by unfold nxt; rw [ht, hM]; generalize l.find? (fun p => decide (t ≤ p)) = o; cases o <;> rfl)
  have hcase : (¬ ((N : Int) < (M : Int)) ∧ (a : Int) + (mo : Int) = (M : Int)) ∨ (((N : Int) < (a : Int) + (mo : Int)) ∧ N = M) := by omega
  clear hl hs hx6 hr hM ht h hS hg
  go_enter Try.func32, Try.ntmps32
  rcases hcase with ⟨hc1, hc2⟩ | ⟨hc1, rfl⟩
  · go_wp2_with fail
    refine C.out.mono ?_
    rintro e w1 ⟨k, f, rfl, ⟨hk, hcut⟩, rfl⟩
    have hkl : Hid (l.find? (fun p => decide (t ≤ p)) = l[k]?) := Lib.hid (find_cut hcut)
    clear hcut
    by_cases hkn : k < n
    · obtain ⟨b0, q0, x, rfl, _, hx, hcx⟩ := hS0.at_ (j := k) (by rw [HL.out]; exact hkn)
      have hx5 : x ≤ 65536 := HX.out x (List.mem_of_getElem? hx)
      have hrx : Hid (r = min x M) := Lib.hid (by rw [← HR.out, HN.out, hkl.out, hx])
      have hkn' : (k : Int) < (n : Int) := by omega
      replace hcx := (show _ = some (Value.int .i64 (x : Int)) from hcx)
      clear hx
      rcases Nat.lt_or_ge M x with hxm | hxm
      · have hxm' : (M : Int) < (x : Int) := by omega
        have hrr : Hid (r = M) := Lib.hid (by rw [hrx.out]; omega)
        go_wp2
        go_ret
        exact ⟨ret_int (by rw [hrr.out]), hB0⟩
      · have hxm' : ¬ (M : Int) < (x : Int) := by omega
        have hrr : Hid (r = x) := Lib.hid (by rw [hrx.out]; omega)
        go_wp2
        go_ret
        exact ⟨ret_int (by rw [hrr.out]), hB0⟩
    · obtain rfl : k = n := by omega
      have hkn' : ¬ (k : Int) < (k : Int) := by omega
      have hrr : Hid (r = M) := Lib.hid (by
        rw [← HR.out, HN.out, hkl.out, List.getElem?_eq_none (by rw [HL.out]; exact Nat.le_refl _)])
      go_wp2
      go_ret
      exact ⟨ret_int (by rw [hrr.out]), hB0⟩
  · go_wp2_with fail
    refine C.out.mono ?_
    rintro e w1 ⟨k, f, rfl, ⟨hk, hcut⟩, rfl⟩
    have hkl : Hid (l.find? (fun p => decide (t ≤ p)) = l[k]?) := Lib.hid (find_cut hcut)
    clear hcut
    by_cases hkn : k < n
    · obtain ⟨b0, q0, x, rfl, _, hx, hcx⟩ := hS0.at_ (j := k) (by rw [HL.out]; exact hkn)
      have hx5 : x ≤ 65536 := HX.out x (List.mem_of_getElem? hx)
      have hrx : Hid (r = min x N) := Lib.hid (by rw [← HR.out, HN.out, hkl.out, hx])
      have hkn' : (k : Int) < (n : Int) := by omega
      replace hcx := (show _ = some (Value.int .i64 (x : Int)) from hcx)
      clear hx
      rcases Nat.lt_or_ge N x with hxm | hxm
      · have hxm' : (N : Int) < (x : Int) := by omega
        have hrr : Hid (r = N) := Lib.hid (by rw [hrx.out]; omega)
        go_wp2
        go_ret
        exact ⟨ret_int (by rw [hrr.out]), hB0⟩
      · have hxm' : ¬ (N : Int) < (x : Int) := by omega
        have hrr : Hid (r = x) := Lib.hid (by rw [hrx.out]; omega)
        go_wp2
        go_ret
        exact ⟨ret_int (by rw [hrr.out]), hB0⟩
    · obtain rfl : k = n := by omega
      have hkn' : ¬ (k : Int) < (k : Int) := by omega
      have hrr : Hid (r = N) := Lib.hid (by
        rw [← HR.out, HN.out, hkl.out, List.getElem?_eq_none (by rw [HL.out]; exact Nat.le_refl _)])
      go_wp2
      go_ret
      exact ⟨ret_int (by rw [hrr.out]), hB0⟩
end Go.Proofs.Ytcdaieoondmljaa.H
