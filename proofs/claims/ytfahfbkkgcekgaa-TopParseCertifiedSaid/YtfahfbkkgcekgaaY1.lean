/- Tokens in memory; lz: in, right, size, check, gammaBits, Price; parse: size. -/
import Derived.Test.YtfahfbkkgcekgaaLen
import Derived.Test.YtfahfbkkgcekgaaM36B
import Derived.Test.YtfahfbkkgcekgaaWords
import Derived.Test.YtfahfbkkgcekgaaAppend
import Derived.WalkKit
import Derived.OwnWalk
import Derived.BigQuiet
import Derived.OpenShut
import Derived.PlainAid
import Derived.Lib.Hide
import Derived.Below
import Derived.Deep.QuietTactic
namespace Go.Proofs.Ytfahfbkkgcekgaa.H
set_option linter.unusedVariables false
open Go Go.RowKit Go.Proofs.Ytfahfbkkgcekgaa Go.Proofs.Ytfahfbkkgcekgaa.W Go.Proofs.Ytfahfbkkgcekgaa.M

theorem bsa {w W W' : World} (h : Below w.heap.size w W) (hb : Below W.heap.size W W') : Below w.heap.size w W' := h.trans (hb.mono h.size)
/-- A token as the model holds it. -/
def tokV (t : Tok) : Value := .agg #[.int .i64 (t.1 : Int), .int .i64 (t.2.1 : Int), .int .u8 (t.2.2.toNat : Int)]
/-- A token that is well-formed. -/
def Right (t : Tok) : Prop := (t.1 = 0 ∧ t.2.1 = 0) ∨ (t.2.2 = 0 ∧ 2 ≤ t.1 ∧ t.1 ≤ 255 ∧ 1 ≤ t.2.1 ∧ t.2.1 ≤ 4096)
theorem okAt_right {b : Bs} {a : Nat} {t : Tok} (h : okAt b a t) : Right t ∧ t.2.1 ≤ a := by
  rcases h with ⟨h1, h2, _⟩ | ⟨h1, h2, h3, h4, h5, h6, _⟩
  · exact ⟨.inl ⟨h1, h2⟩, by omega⟩
  · exact ⟨.inr ⟨h1, h2, h3, h4, h5⟩, h6⟩
theorem Right.le {t : Tok} (h : Right t) : t.1 ≤ 255 ∧ t.2.1 ≤ 4096 := by rcases h with ⟨h1, h2⟩ | ⟨_, _, h1, _, h2⟩ <;> omega
theorem gb_le {n : Nat} (h : n < 2 ^ 13) : gb n ≤ 25 := by
  have := L.bitLen_le h
  unfold gb; omega
theorem price_le {t : Tok} (h : Right t) : price t ≤ 51 ∧ 1 ≤ price t := by
  obtain ⟨h1, h2⟩ := h.le
  unfold price
  split
  · omega
  · have := gb_le (n := t.1 - 1) (by omega)
    have := gb_le (n := t.2.1) (by omega)
    omega

theorem in_ok (n lo hi : Int) (h1 : lo ≤ n) (h2 : n ≤ hi) (w : World) : Calls Try.prog 29 #[.int .i64 n, .int .i64 lo, .int .i64 hi] w fun e w' => e = .returned (.bool true) ∧ w' = w := by
  have e1 : decide (lo ≤ n) = true := decide_eq_true h1
  have e2 : decide (n ≤ hi) = true := decide_eq_true h2
  go_enter Try.func29, Try.ntmps29
  go_wp2
  go_ret
  exact ⟨rfl, rfl⟩
set_option maxRecDepth 100000 in
theorem right_ok (t : Tok) (h : Right t) (w : World) : Calls Try.prog 33 #[tokV t] w fun e w' => e = .returned (.bool true) ∧ Below w.heap.size w w' := by
  obtain ⟨n, d, x⟩ := t
  have hB : Below w.heap.size w (w.alloc (.cells #[.int .i64 (n : Int), .int .i64 (d : Int), .int .u8 (x.toNat : Int)] 46)) := (Below.refl _ _).alloc (Nat.le_refl _) _
  unfold tokV
  rcases h with ⟨h1, h2⟩ | ⟨h1, h2, h3, h4, h5⟩
  · obtain rfl : n = 0 := h1
    obtain rfl : d = 0 := h2
    go_enter Try.func33, Try.ntmps33
    go_wp2_with fail
    go_ret
    exact ⟨rfl, hB⟩
  · obtain rfl : x = 0 := h1
    replace h2 : 2 ≤ n := h2
    replace h3 : n ≤ 255 := h3
    replace h4 : 1 ≤ d := h4
    replace h5 : d ≤ 4096 := h5
    have hn0 : ((n : Int) == 0) = false := by rw [beq_eq_false_iff_ne]; omega
    have C1 := Lib.hid (fun W => in_ok (n : Int) 2 255 (by omega) (by omega) W)
    have C2 := Lib.hid (fun W => in_ok (d : Int) 1 4096 (by omega) (by omega) W)
    go_enter Try.func33, Try.ntmps33
    go_wp2_with (first
      | (go_at_call 29; refine (C1.out _).mono ?_; clear C1; rintro e w1 ⟨rfl, rfl⟩)
      | (go_at_call 29; refine (C2.out _).mono ?_; clear C2; rintro e w1 ⟨rfl, rfl⟩))
    go_ret
    exact ⟨rfl, hB⟩
theorem lsize_ok (t : Tok) (ht : t.1 ≤ 65536) (w : World) : Calls Try.prog 32 #[tokV t] w fun e w' => e = .returned (.int .i64 (tsz t : Int)) ∧ Below w.heap.size w w' := by
  obtain ⟨n, d, x⟩ := t
  unfold tokV
  go_enter Try.func32, Try.ntmps32
  go_wp2_with fail
  go_ret
  exact ⟨ret_int (by show max 1 (n : Int) = ((max n 1 : Nat) : Int); omega), (Below.refl _ _).alloc (Nat.le_refl _) _⟩
theorem psize_ok (t : Tok) (ht : t.1 ≤ 65536) (w : World) : Calls Try.prog 22 #[tokV t] w fun e w' => e = .returned (.int .i64 (tsz t : Int)) ∧ Below w.heap.size w w' := by
  obtain ⟨n, d, x⟩ := t
  unfold tokV
  go_enter Try.func22, Try.ntmps22
  go_wp2_with fail
  go_ret
  exact ⟨ret_int (by show max (n : Int) 1 = ((max n 1 : Nat) : Int); omega), (Below.refl _ _).alloc (Nat.le_refl _) _⟩
theorem gammaBits_ok (n : Nat) (h1 : 1 ≤ n) (h2 : n ≤ 65536) (w : World) : Calls Try.prog 34 #[.int .i64 (n : Int)] w fun e w' => e = .returned (.int .i64 (gb n : Int)) ∧ w' = w := by
  obtain ⟨k, hk⟩ : ∃ k, Lib.bitLen n = k := ⟨_, rfl⟩
  have hk1 : 1 ≤ k := by rw [← hk]; exact (M.bitLen_spec h1 (by omega)).1
  have hk2 : k ≤ 17 := by rw [← hk]; exact L.bitLen_le (by omega)
  have C := Lib.hid (L.bits_Len (n : Int) w (by omega) (by omega))
  rw [Int.toNat_natCast, hk] at C
  have hw : IntKind.u64.wrap (n : Int) = (n : Int) := by simp [IntKind.wrap, IntKind.signed, IntKind.bits]; omega
  have hg : gb n = 2 * k - 1 := by unfold gb; rw [hk]
  go_enter Try.func34, Try.ntmps34
  go_wp2_with (go_at_call 44; refine C.out.mono ?_; rintro e w1 ⟨rfl, rfl⟩)
  go_ret
  exact ⟨ret_int (by rw [hg]; omega), rfl⟩
set_option maxRecDepth 100000 in
theorem price_ok (t : Tok) (h : Right t) (w : World) : Calls Try.prog 19 #[tokV t] w fun e w' => e = .returned (.int .i64 (price t : Int)) ∧ Below w.heap.size w w' := by
  have R := Lib.hid (fun W => right_ok t h W)
  obtain ⟨n, d, x⟩ := t
  unfold tokV at R ⊢
  have hB : Below w.heap.size w (w.alloc (.cells #[.int .i64 (n : Int), .int .i64 (d : Int), .int .u8 (x.toNat : Int)] 46)) := (Below.refl _ _).alloc (Nat.le_refl _) _
  have hb : Blk (w.alloc (.cells #[.int .i64 (n : Int), .int .i64 (d : Int), .int .u8 (x.toNat : Int)] 46)) w.heap.size 46 #[.int .i64 (n : Int), .int .i64 (d : Int), .int .u8 (x.toNat : Int)] := Blk.new _ _ _
  rcases h with ⟨h1, h2⟩ | ⟨h1, h2, h3, h4, h5⟩
  · obtain rfl : n = 0 := h1
    obtain rfl : d = 0 := h2
    go_enter Try.func19, Try.ntmps19
    go_wp2_with (go_at_call 33; refine (R.out _).mono ?_; clear R; rintro e w1 ⟨rfl, hb1⟩; have hb' := hb.later hb1; have c0 := hb'.cell 0; have hB1 := bsa hB hb1)
    go_ret
    exact ⟨rfl, hB1⟩
  · replace h2 : 2 ≤ n := h2
    replace h3 : n ≤ 255 := h3
    replace h4 : 1 ≤ d := h4
    replace h5 : d ≤ 4096 := h5
    have hp : price (n, d, x) = 1 + gb (n - 1) + gb d := by unfold price; rw [if_neg (by show ¬ n = 0; omega)]
    have g1 := gb_le (n := n - 1) (by omega)
    have g2 := gb_le (n := d) (by omega)
    have hn0 : ((n : Int) == 0) = false := by rw [beq_eq_false_iff_ne]; omega
    obtain ⟨m, hm⟩ : ∃ m, n - 1 = m := ⟨_, rfl⟩
    have hm1 : (n : Int) - 1 = (m : Int) := by omega
    have hm2 : IntKind.i64.wrap (m : Int) = (m : Int) := by rw [IntKind.wrap_i64]; omega
    rw [hm] at g1 hp
    have GB := Lib.hid (fun (k : Nat) (h1 : 1 ≤ k) (h2 : k ≤ 65536) W => gammaBits_ok k h1 h2 W)
    have e1 : IntKind.i64.wrap (1 + (gb m : Int)) = 1 + (gb m : Int) := by rw [IntKind.wrap_i64]; omega
    have e2 : IntKind.i64.wrap (1 + (gb m : Int) + (gb d : Int)) = 1 + (gb m : Int) + (gb d : Int) := by rw [IntKind.wrap_i64]; omega
    have hm3 : 1 ≤ m ∧ m ≤ 65536 := by omega
    have hd3 : 1 ≤ d ∧ d ≤ 65536 := by omega
    clear hm
    go_enter Try.func19, Try.ntmps19
    go_wp2_with (go_at_call 33; refine (R.out _).mono ?_; clear R; rintro e w1 ⟨rfl, hb1⟩; have hb' := hb.later hb1; have c0 := hb'.cell 0; have c1 := hb'.cell 1; have hB1 := bsa hB hb1)
    go_quiet ((go_at_call 34; exact Calls.quiet_of_same (GB.out _ (by omega) (by omega) _)))
    go_wp2
    go_ret
    exact ⟨ret_int (by rw [hp]; omega), below_drewN hB1 _⟩
set_option maxRecDepth 100000 in
theorem check_ok (t : Tok) (h : Right t) (a : Nat) (hd : t.2.1 ≤ a) (ha : a + tsz t ≤ 65536) (w : World) : Calls Try.prog 31 #[tokV t, .int .i64 (a : Int)] w fun e w' => e = .returned (.int .i64 0) ∧ Below w.heap.size w w' := by
  have R := Lib.hid (fun W => right_ok t h W)
  have S := Lib.hid (fun W => lsize_ok t (by have := h.le; omega) W)
  obtain ⟨s, hs⟩ : ∃ s, tsz t = s := ⟨_, rfl⟩
  rw [hs] at S ha
  obtain ⟨n, d, x⟩ := t
  replace hd : d ≤ a := hd
  unfold tokV at R S ⊢
  have hB : Below w.heap.size w (w.alloc (.cells #[.int .i64 (n : Int), .int .i64 (d : Int), .int .u8 (x.toNat : Int)] 46)) := (Below.refl _ _).alloc (Nat.le_refl _) _
  have hb : Blk (w.alloc (.cells #[.int .i64 (n : Int), .int .i64 (d : Int), .int .u8 (x.toNat : Int)] 46)) w.heap.size 46 #[.int .i64 (n : Int), .int .i64 (d : Int), .int .u8 (x.toNat : Int)] := Blk.new _ _ _
  have h1 : ¬ (a : Int) < (d : Int) := by omega
  have h2 : ¬ (65536 : Int) < (a : Int) + (s : Int) := by omega
  have h1' : decide ((a : Int) < (d : Int)) = false := decide_eq_false h1
  have h2' : decide ((65536 : Int) < (a : Int) + (s : Int)) = false := decide_eq_false h2
  clear hs h
  go_enter Try.func31, Try.ntmps31
  go_wp2_with (first
    | (go_at_call 33; refine (R.out _).mono ?_; clear R; rintro e w1 ⟨rfl, hb1⟩; have hb' := hb.later hb1; have c0 := hb'.cell 0; have c1 := hb'.cell 1; have c2 := hb'.cell 2; have hB1 := bsa hB hb1)
    | (go_at_call 32; refine (S.out _).mono ?_; clear S; rintro e w2 ⟨rfl, hb2⟩; have hB2 := bsa hB1 hb2))
  go_ret
  exact ⟨rfl, hB2⟩
end Go.Proofs.Ytfahfbkkgcekgaa.H
