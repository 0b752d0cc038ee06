import Derived.Test.YtjpbeoiiplapaaaV8
namespace Go.Proofs.Ytjpbeoiiplapaaa.C
set_option linter.unusedVariables false
open Go Go.RowKit Go.Shelf Go.Proofs.Ytjpbeoiiplapaaa Go.Proofs.Ytjpbeoiiplapaaa.W Go.Proofs.Ytjpbeoiiplapaaa.M Go.Proofs.Ytjpbeoiiplapaaa.B

theorem opened_sealed (b : List UInt8) (h : b.length ≤ 2000) : opened (sealed b) = (b, 0) := by
  have hl := sealed_length b
  have ht : (sealed b).take ((sealed b).length - 4) = b := by
    rw [hl, Nat.add_sub_cancel]
    exact List.take_left' rfl
  unfold opened
  rw [if_neg (by omega), if_neg (by omega), ht]
  simp
theorem opened_changed (b : List UInt8) (i : Nat) (d0 d1 d2 d3 : UInt8) (h : b.length ≤ 2000) (hi : i + 4 ≤ b.length + 4) (hd : ¬ (d0 = 0 ∧ d1 = 0 ∧ d2 = 0 ∧ d3 = 0)) : opened (chg (sealed b) i [d0, d1, d2, d3] 4) = ([], 10) := by
  have hl := sealed_length b
  have hc := chg_length (sealed b) i [d0, d1, d2, d3] 4
  have hne := crc_changes (b := sealed b) (i := i) (by omega) hd
  unfold opened
  rw [if_neg (by omega), if_neg (by omega), if_neg]
  intro e
  have e := eq_of_beq e
  apply hne
  unfold crc upd
  rw [← e, residue, residue]

theorem open_sealed (b : List UInt8) (N : Nat) (hN : b.length = N) (h : N ≤ 2000) (A : Option Addr) (c : Nat) (hc : N + 4 ≤ c) (hm : c ≤ maxLen) (w : World) (B : Nat) (hs : Sl u8 w B A (sealed b)) :
    Calls Try.prog 5 #[.slice A (N + 4) c] w fun e w' => ∃ A2 c2, e = .returned (.tuple #[.slice A2 N c2, .int .i64 0]) ∧ Sl u8 w' w'.heap.size A2 b ∧ Below w.heap.size w w' := by
  refine (open_any A c (N + 4) (sealed b) (by rw [sealed_length, hN]) hc (by unfold maxLen at hm; omega) w B hs).mono ?_
  rintro e w' ⟨A', N', c', rfl, hl, hown, hb⟩
  rw [opened_sealed b (by omega)] at hl hown ⊢
  have hl : b.length = N' := hl
  obtain rfl : N' = N := by omega
  exact ⟨A', c', rfl, Sl.of_own hown, hb⟩
theorem open_changed (b : List UInt8) (N : Nat) (hN : b.length = N) (h : N ≤ 2000) (i : Nat) (d0 d1 d2 d3 : UInt8) (hi : i ≤ N) (hd : ¬ (d0 = 0 ∧ d1 = 0 ∧ d2 = 0 ∧ d3 = 0)) (A : Option Addr) (c : Nat) (hc : N + 4 ≤ c) (hm : c ≤ maxLen) (w : World) (B : Nat) (hs : Sl u8 w B A (chg (sealed b) i [d0, d1, d2, d3] 4)) :
    Calls Try.prog 5 #[.slice A (N + 4) c] w fun e w' => ∃ A2 c2, e = .returned (.tuple #[.slice A2 0 c2, .int .i64 10]) ∧ Below w.heap.size w w' := by
  refine (open_any A c (N + 4) _ (by rw [chg_length, sealed_length, hN]) hc (by unfold maxLen at hm; omega) w B hs).mono ?_
  rintro e w' ⟨A', N', c', rfl, hl, hown, hb⟩
  rw [opened_changed b i d0 d1 d2 d3 (by omega) (by omega) hd] at hl ⊢
  have hl : 0 = N' := hl
  subst hl
  exact ⟨A', c', rfl, hb⟩

end Go.Proofs.Ytjpbeoiiplapaaa.C
