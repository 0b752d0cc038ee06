/- slices.Index and Contains at ints, Grow and Concat at bytes. -/
import Derived.Test.YtcdaieoondmljaaSB
import Derived.Test.YtcdaieoondmljaaZeros
namespace Go.Proofs.Ytcdaieoondmljaa.H
set_option linter.unusedVariables false
open Go Go.RowKit Go.Proofs.Ytcdaieoondmljaa Go.Proofs.Ytcdaieoondmljaa.W Go.Proofs.Ytcdaieoondmljaa.M

/-- The first place of a number, or -1. -/
def FirstAt (l : List Nat) (y : Nat) (r : Int) : Prop := (r = -1 ∧ y ∉ l) ∨ ∃ k : Nat, r = k ∧ l[k]? = some y ∧ y ∉ l.take k
theorem first_ex (l : List Nat) (y : Nat) : ∃ r, FirstAt l y r := by
  induction l with
  | nil => exact ⟨-1, .inl ⟨rfl, by simp⟩⟩
  | cons a l ih =>
    by_cases ha : a = y
    · exact ⟨(0 : Nat), .inr ⟨0, rfl, by rw [ha]; rfl, by simp⟩⟩
    · obtain ⟨r, ⟨_, h2⟩ | ⟨k, _, h2, h3⟩⟩ := ih
      · exact ⟨-1, .inl ⟨rfl, by rw [List.mem_cons]; rintro (e | e); exact ha e.symm; exact h2 e⟩⟩
      · exact ⟨(k + 1 : Nat), .inr ⟨k + 1, rfl, h2, by rw [List.take_succ_cons, List.mem_cons]; rintro (e | e); exact ha e.symm; exact h3 e⟩⟩
theorem FirstAt.nonneg {l : List Nat} {y : Nat} {r : Int} (h : FirstAt l y r) : 0 ≤ r ↔ y ∈ l := by
  rcases h with ⟨rfl, h⟩ | ⟨k, rfl, h, _⟩
  · exact ⟨fun e => by omega, fun e => absurd e h⟩
  · exact ⟨fun _ => List.mem_of_getElem? h, fun _ => by omega⟩
theorem FirstAt.here {l : List Nat} {y : Nat} {r : Int} {q : Nat} (h : FirstAt l y r) (hx : l[q]? = some y) (hq : y ∉ l.take q) : r = q := by
  rcases h with ⟨rfl, h⟩ | ⟨k, rfl, h2, h3⟩
  · exact absurd (List.mem_of_getElem? hx) h
  · have h1 : ¬ k < q := fun e => hq (List.mem_of_getElem? (i := k) (by rw [List.getElem?_take, if_pos e]; exact h2))
    have h1' : ¬ q < k := fun e => h3 (List.mem_of_getElem? (i := q) (by rw [List.getElem?_take, if_pos e]; exact hx))
    rw [show k = q by omega]
theorem FirstAt.none {l : List Nat} {y : Nat} {r : Int} (h : FirstAt l y r) (hy : y ∉ l) : r = -1 := by
  rcases h with ⟨rfl, _⟩ | ⟨k, _, h, _⟩
  · rfl
  · exact absurd (List.mem_of_getElem? h) hy

set_option maxRecDepth 100000 in
set_option maxHeartbeats 1000000 in
theorem indexI_ok (A : Option Addr) (c m : Nat) (l : List Nat) (y : Nat) (r : Int) (hl : l.length = m) (hm : m ≤ 65536) (hr : FirstAt l y r) (w : World) (B : Nat) (h : Sl i64 w B A l) :
    Calls Try.prog 25 #[.slice A m c, .int .i64 (y : Int)] w fun e w' => e = .returned (.int .i64 r) ∧ w' = w := by
  have HR := Lib.hid hr
  have HL := Lib.hid hl
  clear hr hl
  go_enter Try.func25, Try.ntmps25
  go_wp2
  go_loop [8] (fun iv => ∃ i : Nat, i ≤ m ∧ iv = .int .i64 (i : Int) ∧ Hid (y ∉ l.take i)) (fun iv => m - (intOf iv).toNat)
  case atStart => exact ⟨0, Nat.zero_le _, rfl, Lib.hid (by simp)⟩
  case round =>
    obtain ⟨i, hi, rfl, hn⟩ := hrel
    by_cases hlt : i < m
    · obtain ⟨b0, q0, x, rfl, _, hx, hcx⟩ := h.at_ (j := i) (by rw [HL.out]; exact hlt)
      replace hcx : w.cell? ⟨b0, q0 + i, none⟩ = some (.int .i64 (x : Int)) := hcx
      by_cases hxy : y = x
      · subst hxy
        have hri := HR.out.here hx hn.out
        have HX := Lib.hid hri
        clear hx hri
        go_wp2
        go_ret
        exact ⟨by rw [HX.out]; rfl, rfl⟩
      · have hne : ((y : Int) == (x : Int)) = false := by rw [beq_eq_false_iff_ne]; omega
        have HN : Hid (y ∉ l.take (i + 1)) := Lib.hid (by rw [take_succ hx, List.mem_append]; rintro (e | e); exact hn.out e; simp at e; exact hxy e)
        clear hx hxy
        go_wp2
        go_round
        case rel => exact ⟨i + 1, by omega, by go_num, HN⟩
        case measure => simp [intOf]; omega
    · obtain rfl : i = m := by omega
      have HX : Hid (r = -1) := Lib.hid (HR.out.none (by have := hn.out; rwa [List.take_of_length_le (by rw [HL.out]; exact Nat.le_refl _)] at this))
      go_wp2
      go_ret
      exact ⟨by rw [HX.out]; rfl, rfl⟩
theorem own_zero {w : World} {base : Nat} {e : TypeId} {A : Option Addr} {n c : Nat} {xs : List Value} (h : w.ownsRow base e 1 (.slice A n c) n xs) (hn : 0 < n) : w.ownsRow base e 1 (.slice A 0 c) 0 [] := by
  refine ⟨rfl, ?_⟩
  rcases h.2 with ⟨_, h0⟩ | ⟨g, cap, cur, hv, h1, h2, h3, h4, h5, h6⟩
  · omega
  · injection hv with hA _ hc
    subst hA hc
    exact .inr ⟨g, c, cur, rfl, h1, h2, Nat.zero_le _, h4, h5, by simp⟩
set_option maxRecDepth 100000 in
theorem growNil_ok (n : Nat) (hn : n ≤ 65536) (w : World) : Calls Try.prog 34 #[.slice none 0 0, .int .i64 (n : Int)] w fun e w' => ∃ A c, e = .returned (.slice A 0 c) ∧ w'.ownsRow w.heap.size 5 1 (.slice A 0 c) 0 [] ∧ Below w.heap.size w w' := by
  obtain ⟨i0, hi, hz0, hz1, hz2⟩ := info_parts info5
  have underlying3 : Try.prog.underlying 3 = some (.int .i64) := by kernel_rfl
  rcases Nat.eq_zero_or_pos n with h0 | h0
  · subst h0
    go_enter Try.func34, Try.ntmps34
    go_wp2
    go_ret
    exact ⟨none, 0, rfl, World.ownsRow_nil _ _ _ _, Below.refl _ _⟩
  · have hp : (0 : Int) < (n : Int) := by omega
    have HZ : Hid ((1 : Nat) = 1) := Lib.hid rfl
    go_enter Try.func34, Try.ntmps34
    go_wp2_with (at_builtin; refine wpList_append_zeros _ rfl _ _ 24 3 rfl w.heap.size 5 i0 (.int .u8 0) 1 .i64 .i64 Try.underlying24 underlying3 hi hz0 hz1 hz2 rfl rfl (.slice none 0 0) 0 [] rfl (World.ownsRow_nil _ _ _ _) n rfl (by unfold maxLen; omega) (by omega) (Nat.le_refl _) ?_; intro v1 w1 o1 g1 a1; have hb1 := (Below.refl w.heap.size w).grown g1 (Nat.le_refl _) (fun j hj => by simp [Value.ownBlock] at hj); simp only [Nat.zero_add, List.nil_append] at o1; obtain ⟨A1, c1, rfl, hc1, _⟩ := own_form o1)
    go_ret
    exact ⟨A1, c1, rfl, own_zero o1 h0, hb1⟩
end Go.Proofs.Ytcdaieoondmljaa.H
