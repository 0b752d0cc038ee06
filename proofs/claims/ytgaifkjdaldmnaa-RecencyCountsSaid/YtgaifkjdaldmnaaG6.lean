/- bytes.LastIndexByte. -/
import Derived.Test.YtgaifkjdaldmnaaF9
namespace Go.Proofs.Ytgaifkjdaldmnaa.F
set_option linter.unusedVariables false
open Go Go.RowKit Go.Proofs.Ytgaifkjdaldmnaa Go.Proofs.Ytgaifkjdaldmnaa.W Go.Proofs.Ytgaifkjdaldmnaa.M Go.Proofs.Ytgaifkjdaldmnaa.B

/-- The last place of a byte, or -1. -/
def LastAt (l : Bs) (y : UInt8) (r : Int) : Prop := (r = -1 ∧ y ∉ l) ∨ ∃ k : Nat, r = k ∧ l[k]? = some y ∧ y ∉ l.drop (k + 1)
theorem last_ex (l : Bs) (y : UInt8) : ∃ r, LastAt l y r := by
  induction l with
  | nil => exact ⟨-1, .inl ⟨rfl, by simp⟩⟩
  | cons a l ih =>
    obtain ⟨r, ⟨_, h2⟩ | ⟨k, _, h2, h3⟩⟩ := ih
    · by_cases ha : a = y
      · exact ⟨(0 : Nat), .inr ⟨0, rfl, by rw [ha]; rfl, h2⟩⟩
      · exact ⟨-1, .inl ⟨rfl, by rw [List.mem_cons]; rintro (e | e); exact ha e.symm; exact h2 e⟩⟩
    · exact ⟨(k + 1 : Nat), .inr ⟨k + 1, rfl, h2, h3⟩⟩
theorem LastAt.lt {l : Bs} {y : UInt8} {r : Int} (h : LastAt l y r) : -1 ≤ r ∧ r < (l.length : Int) := by
  rcases h with ⟨rfl, _⟩ | ⟨k, rfl, h, _⟩
  · omega
  · have := (List.getElem?_eq_some_iff.1 h).1; omega
theorem LastAt.here {l : Bs} {y : UInt8} {r : Int} {q : Nat} (h : LastAt l y r) (hx : l[q]? = some y) (hq : r ≤ q) : r = q := by
  rcases h with ⟨rfl, h⟩ | ⟨k, rfl, _, h⟩
  · exact absurd (List.mem_of_getElem? hx) h
  · by_cases e : k = q
    · rw [e]
    · refine absurd (List.mem_of_getElem? (i := q - (k + 1)) ?_) h
      rw [List.getElem?_drop, show k + 1 + (q - (k + 1)) = q by omega]; exact hx
theorem LastAt.past {l : Bs} {x y : UInt8} {r : Int} {q : Nat} (h : LastAt l y r) (hx : l[q]? = some x) (hn : x ≠ y) (hq : r ≤ q) : r ≤ (q : Int) - 1 := by
  rcases h with ⟨rfl, h⟩ | ⟨k, rfl, h, _⟩
  · omega
  · by_cases e : k = q
    · subst e; rw [h] at hx; injection hx with hx; exact absurd hx.symm hn
    · omega

set_option maxRecDepth 100000 in
set_option maxHeartbeats 1000000 in
theorem lastIndex0 (A : Option Addr) (c m : Nat) (l : Bs) (y : UInt8) (r : Int) (hl : l.length = m) (hm : m ≤ 65536) (hr : LastAt l y r) (w : World) (B : Nat) (h : Sl u8 w B A l) :
    Calls Try.prog 33 #[.slice A m c, .int .u8 (y.toNat : Int)] w fun e w' => e = .returned (.int .i64 r) ∧ w' = w := by
  have hyl := lt256 y
  have HR := Lib.hid hr
  have HL := Lib.hid hl
  have hb := hr.lt
  rw [hl] at hb
  obtain ⟨hb1, hb2⟩ := hb
  clear hr hl
  go_enter Try.func33, Try.ntmps33
  go_wp2
  go_loop [5] (fun iv => ∃ i : Int, -1 ≤ i ∧ i < m ∧ iv = .int .i64 i ∧ r ≤ i) (fun iv => (intOf iv + 1).toNat)
  case atStart => exact ⟨(m : Int) - 1, by omega, by omega, rfl, by omega⟩
  case round =>
    obtain ⟨i, hi1, hi2, rfl, hri⟩ := hrel
    by_cases hi : 0 ≤ i
    · obtain ⟨p, rfl⟩ := Int.eq_ofNat_of_zero_le hi
      have hp : p < m := by omega
      obtain ⟨b0, q0, x, rfl, _, hx, hcx⟩ := h.byte (j := p) (by rw [HL.out]; exact hp)
      have hxl := lt256 x
      by_cases hxy : x = y
      · subst hxy
        have hrp := HR.out.here hx hri
        clear hx
        go_wp2
        go_ret
        exact ⟨rfl, rfl⟩
      · have hrp := HR.out.past hx hxy hri
        have hne : ((x.toNat : Int) == (y.toNat : Int)) = false := by rw [beq_eq_false_iff_ne]; intro e; exact hxy (UInt8.toNat_inj.1 (by omega))
        clear hx hxy
        go_wp2
        go_round
        case rel => exact ⟨(p : Int) - 1, by omega, by omega, rfl, by omega⟩
        case measure => simp [intOf]
    · obtain rfl : i = -1 := by omega
      obtain rfl : r = -1 := by omega
      go_wp2
      go_ret
      exact ⟨rfl, rfl⟩
set_option maxRecDepth 100000 in
theorem lastIndex_any (A : Option Addr) (c m : Nat) (l : Bs) (y : UInt8) (r : Int) (hl : l.length = m) (hm : m ≤ 65536) (hr : LastAt l y r) (w : World) (B : Nat) (h : Sl u8 w B A l) :
    Calls Try.prog 21 #[.slice A m c, .int .u8 (y.toNat : Int)] w fun e w' => e = .returned (.int .i64 r) ∧ w' = w := by
  have C := Lib.hid (lastIndex0 A c m l y r hl hm hr w B h)
  clear hr hl h
  go_enter Try.func21, Try.ntmps21
  go_wp2_with (go_at_call 33; refine C.out.mono ?_; rintro e w1 ⟨rfl, rfl⟩)
  go_ret
  exact ⟨rfl, rfl⟩
end Go.Proofs.Ytgaifkjdaldmnaa.F
