/- calls.Forward, calls.Inverse; the reference's Sites, change, Forward, Inverse. -/
import Derived.Test.YthcagaklinkkpaaE4I
namespace Go.Proofs.Ythcagaklinkkpaa.E
set_option linter.unusedVariables false
open Go Go.RowKit Go.Shelf Go.Proofs.Ythcagaklinkkpaa Go.Proofs.Ythcagaklinkkpaa.W Go.Proofs.Ythcagaklinkkpaa.M Go.Proofs.Ythcagaklinkkpaa.B

def outT (s : Int) (b : Bs) : Bs := if b.length > 65536 then [] else trans s b

theorem apply_long (fc : Value) (A : Option Addr) (c N : Nat) (hN : N > 65536) (hn : N ≤ 9223372036854775000) (w : World) :
    Calls Try.prog 22 #[.agg #[fc], .slice A N c] w fun e w' => e = .returned (.tuple #[.slice none 0 0, .int .i64 5]) ∧ Below w.heap.size w w' := by
  go_enter Try.func22, Try.ntmps22
  go_wp2
  go_ret2
  exact ⟨rfl, (Below.refl _ _).alloc (Nat.le_refl _) _⟩

theorem Forward_any (A : Option Addr) (c : Nat) (b : Bs) (hn : b.length ≤ 9223372036854775000) (w : World) (B : Nat) (h : Sl u8 w B A b) :
    Calls Try.prog 12 #[.slice A b.length c] w fun e w' => ∃ A' c', e = .returned (.tuple #[.slice A' (outT 1 b).length c', .int .i64 (siteErr b.length)]) ∧
      w'.ownsRow w.heap.size 5 1 (.slice A' (outT 1 b).length c') (outT 1 b).length ((outT 1 b).map u8) ∧ Below w.heap.size w w' := by
  by_cases h1 : b.length > 65536
  · have e1 : siteErr b.length = 5 := if_pos h1
    have e2 : outT 1 b = [] := if_pos h1
    rw [e1, e2]
    clear e1 e2
    go_enter Try.func12, Try.ntmps12
    go_wp2_with (go_at_call 22; refine (apply_long _ _ _ _ h1 hn _).mono ?_; rintro e w1 ⟨rfl, hb⟩)
    go_ret2
    exact ⟨none, 0, rfl, World.ownsRow_nil _ _ _ _, hb⟩
  · have e1 : siteErr b.length = 0 := if_neg h1
    have e2 : outT 1 b = trans 1 b := if_neg h1
    rw [e1, e2, trans_length]
    have C := Lib.hid (apply_fwd A c b (by omega) w B h)
    clear e1 e2
    obtain ⟨T, hT⟩ : ∃ T, T = trans 1 b := ⟨_, rfl⟩
    rw [← hT] at C ⊢
    clear hT
    go_enter Try.func12, Try.ntmps12
    go_wp2_with (go_at_call 22; refine C.out.mono ?_; rintro e w1 ⟨A', c', rfl, hown, hb⟩)
    go_ret2
    exact ⟨A', c', rfl, hown, hb⟩

theorem Inverse_any (A : Option Addr) (c : Nat) (b : Bs) (hn : b.length ≤ 9223372036854775000) (w : World) (B : Nat) (h : Sl u8 w B A b) :
    Calls Try.prog 18 #[.slice A b.length c] w fun e w' => ∃ A' c', e = .returned (.tuple #[.slice A' (outT (-1) b).length c', .int .i64 (siteErr b.length)]) ∧
      w'.ownsRow w.heap.size 5 1 (.slice A' (outT (-1) b).length c') (outT (-1) b).length ((outT (-1) b).map u8) ∧ Below w.heap.size w w' := by
  by_cases h1 : b.length > 65536
  · have e1 : siteErr b.length = 5 := if_pos h1
    have e2 : outT (-1) b = [] := if_pos h1
    rw [e1, e2]
    clear e1 e2
    go_enter Try.func18, Try.ntmps18
    go_wp2_with (go_at_call 22; refine (apply_long _ _ _ _ h1 hn _).mono ?_; rintro e w1 ⟨rfl, hb⟩)
    go_ret2
    exact ⟨none, 0, rfl, World.ownsRow_nil _ _ _ _, hb⟩
  · have e1 : siteErr b.length = 0 := if_neg h1
    have e2 : outT (-1) b = trans (-1) b := if_neg h1
    rw [e1, e2, trans_length]
    have C := Lib.hid (apply_inv A c b (by omega) w B h)
    clear e1 e2
    obtain ⟨T, hT⟩ : ∃ T, T = trans (-1) b := ⟨_, rfl⟩
    rw [← hT] at C ⊢
    clear hT
    go_enter Try.func18, Try.ntmps18
    go_wp2_with (go_at_call 22; refine C.out.mono ?_; rintro e w1 ⟨A', c', rfl, hown, hb⟩)
    go_ret2
    exact ⟨A', c', rfl, hown, hb⟩
end Go.Proofs.Ythcagaklinkkpaa.E
