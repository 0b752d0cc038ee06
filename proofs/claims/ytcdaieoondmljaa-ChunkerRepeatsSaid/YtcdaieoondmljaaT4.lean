/- Slices of extents: words; SameExtents and Equal of equal lists. -/
import Derived.Test.YtcdaieoondmljaaT3
namespace Go.Proofs.Ytcdaieoondmljaa.H
set_option linter.unusedVariables false
open Go Go.RowKit Go.Proofs.Ytcdaieoondmljaa Go.Proofs.Ytcdaieoondmljaa.W Go.Proofs.Ytcdaieoondmljaa.M

/-- The cells of extents. -/
def flatE (l : List Ex) : List Value := l.flatMap fun e => [.int .i64 (e.1 : Int), .int .i64 (e.2 : Int)]
theorem flatE_length (l : List Ex) : (flatE l).length = l.length * 2 := by
  unfold flatE
  induction l with
  | nil => rfl
  | cons a l ih => rw [List.flatMap_cons, List.length_append, ih, List.length_cons]; simp; omega
theorem flatE_cons (a : Ex) (l : List Ex) : flatE (a :: l) = .int .i64 (a.1 : Int) :: .int .i64 (a.2 : Int) :: flatE l := rfl
theorem flatE_append (l l' : List Ex) : flatE (l ++ l') = flatE l ++ flatE l' := by unfold flatE; rw [List.flatMap_append]
theorem flatE_get : ∀ {l : List Ex} {i : Nat} {e : Ex}, l[i]? = some e → (flatE l)[i * 2]? = some (.int .i64 (e.1 : Int)) ∧ (flatE l)[i * 2 + 1]? = some (.int .i64 (e.2 : Int))
  | [], i, e, h => by simp at h
  | a :: l, 0, e, h => by
    obtain rfl : a = e := by simpa using h
    exact ⟨rfl, rfl⟩
  | a :: l, i + 1, e, h => by
    have h' : l[i]? = some e := by simpa using h
    obtain ⟨h1, h2⟩ := flatE_get h'
    rw [flatE_cons, show (i + 1) * 2 = i * 2 + 1 + 1 by omega]
    exact ⟨by simpa using h1, by simpa using h2⟩
/-- A slice that reads as a list of extents. -/
def SlE (w : World) (B : Nat) (A : Option Addr) (l : List Ex) : Prop := Sl (fun v : Value => v) w B A (flatE l)
theorem SlE.nil {w : World} {B : Nat} {A : Option Addr} : SlE w B A [] := Sl.nil
theorem SlE.later {w w' : World} {A : Option Addr} {l : List Ex} (h : SlE w w.heap.size A l) (hb : Below w.heap.size w w') : SlE w' w'.heap.size A l := Sl.later h hb
theorem SlE.lt {w : World} {B : Nat} {A : Option Addr} {l : List Ex} (h : SlE w B A l) : SlE w w.heap.size A l := Sl.lt h
theorem SlE.alloc {w : World} {B : Nat} {A : Option Addr} {l : List Ex} (h : SlE w B A l) (hB : B ≤ w.heap.size) (o : Obj) : SlE (w.alloc o) B A l := Sl.alloc h hB o
theorem SlE.at_ {w : World} {B : Nat} {A : Option Addr} {l : List Ex} (h : SlE w B A l) {i : Nat} (hi : i < l.length) : ∃ b o e, A = some ⟨b, o, none⟩ ∧ b < B ∧ l[i]? = some e ∧ w.cell? ⟨b, o + i * 2, none⟩ = some (.int .i64 (e.1 : Int)) ∧ w.cell? ⟨b, o + i * 2 + 1, none⟩ = some (.int .i64 (e.2 : Int)) := by
  have hl : l[i]? = some l[i] := List.getElem?_eq_getElem hi
  obtain ⟨h1, h2⟩ := flatE_get hl
  obtain ⟨b, o, e, hb, hc⟩ := Sl.open_ h (by rw [flatE_length]; omega)
  exact ⟨b, o, l[i], e, hb, hl, hc _ _ h1, by rw [Nat.add_assoc]; exact hc _ _ h2⟩
theorem SlE.of_own {w : World} {base : Nat} {e : TypeId} {A : Option Addr} {n c : Nat} {l : List Ex} (h : w.ownsRow base e 2 (.slice A n c) n (flatE l)) : SlE w w.heap.size A l := fun hl => by
  have h0 : 0 < (flatE l).length := List.length_pos_iff.2 hl
  have hn : 0 < n := by have := h.1; omega
  obtain ⟨g, cap, hv, _, hlt⟩ := h.form hn
  have hA : A = some ⟨g, 0, none⟩ := by injection hv
  subst hA
  refine ⟨g, 0, rfl, hlt, fun j x hx => ?_⟩
  have := h.cells (g := g) rfl j x hx
  have ha : (⟨g, 0, none⟩ : Addr).add j = ⟨g, 0 + j, none⟩ := by unfold Addr.add; by_cases hj : j = 0 <;> simp [hj]
  rw [← ha]
  exact this

set_option maxRecDepth 100000 in
set_option maxHeartbeats 2000000 in
theorem sameE_ok (A A' : Option Addr) (c c' n : Nat) (l : List Ex) (hl : l.length = n) (hn : n ≤ 65537) (w : World) (B B' : Nat) (h : SlE w B A l) (h' : SlE w B' A' l) :
    Calls Try.prog 14 #[.slice A n c, .slice A' n c'] w fun e w' => e = .returned (.bool true) ∧ Below w.heap.size w w' := by
  have HL := Lib.hid hl
  clear hl
  go_enter Try.func14, Try.ntmps14
  go_wp2
  go_loopw [5] (fun iv wm => ∃ i : Nat, i ≤ n ∧ iv = .int .i64 (i : Int) ∧ (∀ a : Addr, wm.cell? a = w.cell? a) ∧ Below w.heap.size w wm) (fun iv _ => n - (intOf iv).toNat)
  case atStart => exact ⟨0, Nat.zero_le _, rfl, fun _ => rfl, Below.refl _ _⟩
  case round =>
    obtain ⟨i, hi, rfl, hW, hB⟩ := hrel
    have HW := Lib.hid hW
    by_cases hlt : i < n
    · obtain ⟨b0, q0, x, rfl, _, hx, hc1, hc2⟩ := h.at_ (i := i) (by rw [HL.out]; exact hlt)
      obtain ⟨b1, q1, y, rfl, _, hy, hd1, hd2⟩ := h'.at_ (i := i) (by rw [HL.out]; exact hlt)
      obtain rfl : x = y := by rw [hx] at hy; injection hy
      obtain ⟨x1, x2⟩ := x
      rw [← hW] at hc1 hc2 hd1 hd2
      replace hc1 : wr.cell? ⟨b0, q0 + i * 2, none⟩ = some (.int .i64 (x1 : Int)) := hc1
      replace hc2 : wr.cell? ⟨b0, q0 + i * 2 + 1, none⟩ = some (.int .i64 (x2 : Int)) := hc2
      replace hd1 : wr.cell? ⟨b1, q1 + i * 2, none⟩ = some (.int .i64 (x1 : Int)) := hd1
      replace hd2 : wr.cell? ⟨b1, q1 + i * 2 + 1, none⟩ = some (.int .i64 (x2 : Int)) := hd2
      clear hx hy hW
      go_wp2_with fail
      go_quiet (fail)
      go_wp2
      go_roundw
      case rel => exact ⟨i + 1, by omega, by go_num, HW.out, below_drewN hB _⟩
      case measure => simp [intOf]; omega
    · obtain rfl : i = n := by omega
      clear hW
      go_wp2
      go_ret
      exact ⟨rfl, hB⟩
set_option maxRecDepth 100000 in
set_option maxHeartbeats 2000000 in
theorem equalE_ok (A A' : Option Addr) (c c' n : Nat) (l : List Ex) (hl : l.length = n) (hn : n ≤ 65537) (w : World) (B B' : Nat) (h : SlE w B A l) (h' : SlE w B' A' l) :
    Calls Try.prog 24 #[.slice A n c, .slice A' n c'] w fun e w' => e = .returned (.bool true) ∧ Below w.heap.size w w' := by
  have HL := Lib.hid hl
  clear hl
  go_enter Try.func24, Try.ntmps24
  go_wp2
  go_loopw [13] (fun iv wm => ∃ i : Nat, i ≤ n ∧ iv = .int .i64 (i : Int) ∧ (∀ a : Addr, wm.cell? a = w.cell? a) ∧ Below w.heap.size w wm) (fun iv _ => n - (intOf iv).toNat)
  case atStart => exact ⟨0, Nat.zero_le _, rfl, fun _ => rfl, Below.refl _ _⟩
  case round =>
    obtain ⟨i, hi, rfl, hW, hB⟩ := hrel
    have HW := Lib.hid hW
    by_cases hlt : i < n
    · obtain ⟨b0, q0, x, rfl, _, hx, hc1, hc2⟩ := h.at_ (i := i) (by rw [HL.out]; exact hlt)
      obtain ⟨b1, q1, y, rfl, _, hy, hd1, hd2⟩ := h'.at_ (i := i) (by rw [HL.out]; exact hlt)
      obtain rfl : x = y := by rw [hx] at hy; injection hy
      obtain ⟨x1, x2⟩ := x
      rw [← hW] at hc1 hc2 hd1 hd2
      replace hc1 : wr.cell? ⟨b0, q0 + i * 2, none⟩ = some (.int .i64 (x1 : Int)) := hc1
      replace hc2 : wr.cell? ⟨b0, q0 + i * 2 + 1, none⟩ = some (.int .i64 (x2 : Int)) := hc2
      replace hd1 : wr.cell? ⟨b1, q1 + i * 2, none⟩ = some (.int .i64 (x1 : Int)) := hd1
      replace hd2 : wr.cell? ⟨b1, q1 + i * 2 + 1, none⟩ = some (.int .i64 (x2 : Int)) := hd2
      clear hx hy hW
      go_wp2_with fail
      go_quiet (fail)
      go_wp2
      go_roundw
      case rel => exact ⟨i + 1, by omega, by go_num, HW.out, below_drewN hB _⟩
      case measure => simp [intOf]; omega
    · obtain rfl : i = n := by omega
      clear hW
      go_wp2
      go_ret
      exact ⟨rfl, hB⟩
end Go.Proofs.Ytcdaieoondmljaa.H
