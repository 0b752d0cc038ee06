/- roller's closure, the reference's Hash (chapter 05's texts, less what this seat lacks). -/
import Derived.Test.YtcdaieoondmljaaR1
import Derived.Test.YtcdaieoondmljaaAppend
import Derived.Deep.QuietTactic
import Derived.BigQuiet
import Derived.Below
import Derived.PlainAid
import Derived.Laws.ResultCell
namespace Go.Proofs.Ytcdaieoondmljaa.H
set_option linter.unusedVariables false
open Go Go.RowKit Go.Proofs.Ytcdaieoondmljaa Go.Proofs.Ytcdaieoondmljaa.W Go.Proofs.Ytcdaieoondmljaa.M

set_option maxRecDepth 100000 in
theorem roll_full (h : R) (x y : UInt8) (g k : Nat) (hk : k < 1000) (a : R) (ha : rot h 1 ^^^ val x ^^^ rot (val y) k = a) (w : World) (hg : w.cell? ⟨g, 0, none⟩ = some (.int .i64 (k : Int))) :
    Calls Try.prog 47 #[.int .u32 (h.toNat : Int), .int .u8 (x.toNat : Int), .bool true, .int .u8 (y.toNat : Int), .pointer (some ⟨g, 0, none⟩)] w fun e w' => e = .returned (.int .u32 (a.toNat : Int)) ∧ ∃ m, w' = w.drewN m := by
  have C1 : Hid (∀ W, Calls Try.prog 48 #[.int .u32 (h.toNat : Int), .int .i64 1] W fun e w' => e = .returned (.int .u32 ((rot h 1).toNat : Int)) ∧ w' = W) := Lib.hid fun W => Rot_ok h 1 (by decide) W
  have C2 : Hid (∀ W, Calls Try.prog 48 #[.int .u32 ((val y).toNat : Int), .int .i64 (k : Int)] W fun e w' => e = .returned (.int .u32 ((rot (val y) k).toNat : Int)) ∧ w' = W) := Lib.hid fun W => Rot_ok (val y) k hk W
  have hx := bits_xor (rot h 1) (val x)
  obtain ⟨q, hq⟩ : ∃ q, rot h 1 ^^^ val x = q := ⟨_, rfl⟩
  rw [hq] at hx ha
  have hx2 := bits_xor q (rot (val y) k)
  rw [ha] at hx2
  clear hq
  go_enter Try.func47, Try.ntmps47
  go_wp2_with (first
    | (go_at_call 48; refine (C1.out _).mono ?_; rintro e w1 ⟨rfl, rfl⟩)
    | (go_at_call 49; refine (Value_ok x _).mono ?_; rintro e w1 ⟨rfl, rfl⟩))
  go_quiet (first
    | (go_at_call 49; exact Calls.quiet_of_same (Value_ok y _))
    | (go_at_call 48; exact Calls.quiet_of_same (C2.out _)))
  go_wp2
  go_ret
  exact ⟨rfl, _, rfl⟩

/-- The closure that roller hands back. -/
def rollV (g : Nat) : Value := .func (.func 47) #[] #[.pointer (some ⟨g, 0, none⟩)]
set_option maxRecDepth 100000 in
theorem roller_ok (k : Int) (w : World) : Calls Try.prog 45 #[.int .i64 k] w fun e w' => e = .returned (.func (.func 47) #[] #[.pointer (some ⟨w.heap.size, 0, none⟩)]) ∧ w' = w.alloc (.cells #[.int .i64 k] 3) := by
  go_enter Try.func45, Try.ntmps45
  go_wp2
  go_ret
  exact ⟨rfl, rfl⟩

theorem rh_next {b : Bs} {i : Nat} {x : UInt8} {h : R} (hx : b[i]? = some x) (hh : h ^^^ rh (b.drop i) = rh b) {n k : Nat} (hn : b.length = n) (hk : n - 1 - i = k) {a : R} (ha : h ^^^ rot (val x) k = a) : a ^^^ rh (b.drop (i + 1)) = rh b := by
  subst hn hk
  have hi := (List.getElem?_eq_some_iff.1 hx).1
  obtain ⟨_, rfl⟩ := List.getElem?_eq_some_iff.1 hx
  rw [List.drop_eq_getElem_cons hi] at hh
  rw [← hh, ← ha]
  show _ = h ^^^ (rot (val b[i]) (b.drop (i + 1)).length ^^^ rh (b.drop (i + 1)))
  rw [List.length_drop, show b.length - (i + 1) = b.length - 1 - i by omega, BitVec.xor_assoc]
set_option maxRecDepth 100000 in
set_option maxHeartbeats 1000000 in
theorem rHash_ok (A : Option Addr) (c n : Nat) (b : Bs) (hl : b.length = n) (hn : n ≤ 900) (w : World) (B : Nat) (h : Sl u8 w B A b) :
    Calls Try.prog 17 #[.slice A n c] w fun e w' => e = .returned (.int .u32 ((hsh b).toNat : Int)) ∧ w' = w := by
  have HL := Lib.hid hl
  have hS := h
  clear h hl
  go_enter Try.func17, Try.ntmps17
  go_wp2
  go_loop [3, 4] (fun hv iv => ∃ (i : Nat) (h : R), i ≤ n ∧ iv = .int .i64 (i : Int) ∧ hv = .int .u32 (h.toNat : Int) ∧ Hid (h ^^^ rh (b.drop i) = rh b)) (fun _ iv => n - (intOf iv).toNat)
  case atStart => exact ⟨0, 0#32, Nat.zero_le _, rfl, rfl, Lib.hid (by simp)⟩
  case round =>
    obtain ⟨i, h, hi, rfl, rfl, hh⟩ := hrel
    by_cases hlt : i < n
    · obtain ⟨b0, q0, x, rfl, _, hx, hcx⟩ := hS.byte (j := i) (by rw [HL.out]; exact hlt)
      obtain ⟨k, hk⟩ : ∃ k, n - 1 - i = k := ⟨_, rfl⟩
      have hki : (n : Int) - 1 - (i : Int) = (k : Int) := by omega
      have hk9 : k < 1000 := by omega
      obtain ⟨a, ha⟩ : ∃ a, h ^^^ rot (val x) k = a := ⟨_, rfl⟩
      have hxa := bits_xor h (rot (val x) k)
      rw [ha] at hxa
      have HH := Lib.hid (rh_next hx hh.out HL.out hk ha)
      have C1 : Hid (∀ W, Calls Try.prog 27 #[.int .u8 (x.toNat : Int)] W fun e w' => e = .returned (.int .u32 ((val x).toNat : Int)) ∧ w' = W) := Lib.hid fun W => rValue_ok x W
      have C2 : Hid (∀ W, Calls Try.prog 28 #[.int .u32 ((val x).toNat : Int), .int .i64 (k : Int)] W fun e w' => e = .returned (.int .u32 ((rot (val x) k).toNat : Int)) ∧ w' = W) := Lib.hid fun W => rRot_ok (val x) k hk9 W
      clear hx hk ha
      go_wp2_with (first
        | (go_at_call 27; refine (C1.out _).mono ?_; rintro e w2 ⟨rfl, rfl⟩)
        | (go_at_call 28; refine (C2.out _).mono ?_; rintro e w3 ⟨rfl, rfl⟩))
      go_round
      case rel => exact ⟨i + 1, a, by omega, by go_num, rfl, HH⟩
      case measure => simp [intOf]; omega
    · obtain rfl : i = n := by omega
      have hT : Hid (hsh b = h) := Lib.hid (by
        have := hh.out
        rw [List.drop_of_length_le (by rw [HL.out]; exact Nat.le_refl _)] at this
        rw [hsh_rh, ← this]; show h ^^^ 0#32 = h; simp)
      go_wp2
      go_ret
      exact ⟨by rw [hT.out]; rfl, rfl⟩
theorem below_drewN {B : Nat} {a w : World} (h : Below B a w) (n : Nat) : Below B a (w.drewN n) := by
  induction n with
  | zero => exact h
  | succ n ih => exact ih.drew

theorem info5 : (Try.prog.info? 5).map (fun i => (i.zero, i.size, i.bytes)) = some (some (.int .u8 0), 1, 1) := by kernel_rfl

theorem own_cap {w : World} {base : Nat} {e : TypeId} {size n c : Nat} {A : Option Addr} {xs : List Value} (h : w.ownsRow base e size (.slice A n c) n xs) : n ≤ c ∧ c ≤ maxLen := by
  obtain ⟨_, _, hv, h1, h2⟩ := own_form h
  injection hv with _ _ h3
  subst h3
  exact ⟨h1, h2⟩
/-- One world further, behind a new block. -/
theorem bal {B : Nat} {w w1 w2 : World} {O : Obj} (h : Below B w w1) (hz : B ≤ w1.heap.size) (h2 : Below (w1.alloc O).heap.size (w1.alloc O) w2) : Below B w w2 := (h.alloc hz O).trans (h2.mono (by simp; omega))
theorem bsa {B : Nat} {w w1 w2 : World} (h : Below B w w1) (hb : B ≤ w1.heap.size) (h2 : Below w1.heap.size w1 w2) : Below B w w2 := h.trans (h2.mono hb)
theorem bz {B : Nat} {w w1 : World} (h : Below B w w1) (hz : B ≤ w.heap.size) : B ≤ w1.heap.size := Nat.le_trans hz h.size
end Go.Proofs.Ytcdaieoondmljaa.H
