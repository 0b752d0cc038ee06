import Derived.Test.YtmbngfhhegbomaaChecked
import Derived.Test.YtmbngfhhegbomaaWords
import Derived.WalkKit
import Derived.OwnWalk
import Derived.WalkSpells
import Derived.WalkLawsBesides
namespace Go.Proofs.Ytmbngfhhegbomaa.D
set_option linter.unusedVariables false
open Go Go.RowKit Go.Proofs.Ytmbngfhhegbomaa Go.Proofs.Ytmbngfhhegbomaa.W

/-- The magnitude of a byte, the weight of a string. -/
def mag (x : UInt8) : Int := if 256 - (x.toNat : Int) < (x.toNat : Int) then 256 - (x.toNat : Int) else (x.toNat : Int)
def wt (l : List UInt8) : Int := (l.map mag).sum
theorem mag_bd (x : UInt8) : 0 ≤ mag x ∧ mag x ≤ 128 := by
  have := lt256 x
  unfold mag; split <;> omega
theorem wt_bd (l : List UInt8) : 0 ≤ wt l ∧ wt l ≤ 128 * l.length := by
  induction l with
  | nil => simp [wt]
  | cons x r ih => have := mag_bd x; simp only [wt, List.map_cons, List.sum_cons, List.length_cons] at ih ⊢; omega
theorem wt_snoc (l : List UInt8) (x : UInt8) : wt (l ++ [x]) = wt l + mag x := by simp [wt]

set_option maxHeartbeats 400000 in
theorem weight_any (A : Option Addr) (c : Nat) (l : List UInt8) (w : World) (B : Nat) (h : Sl u8 w B A l) (hn : l.length ≤ 140737488351232) :
    Calls Try.prog 14 #[.slice A l.length c] w fun e w' => e = .returned (.int .i64 (wt l)) ∧ w = w' := by
  go_enter Try.func14, Try.ntmps14
  go_wp2
  go_loop [3, 8] (fun n i => ∃ k : Nat, k ≤ l.length ∧ i = .int .i64 k ∧ n = .int .i64 (wt (l.take k))) (fun _ i => l.length - (intOf i).toNat)
  case atStart => exact ⟨0, Nat.zero_le _, rfl, rfl⟩
  case round =>
    obtain ⟨k, hk, rfl, rfl⟩ := hrel
    by_cases hlt : k < l.length
    · obtain ⟨b, o, x, rfl, hb, hx, hc⟩ := h.byte hlt
      have hw := wt_bd (l.take k)
      have hl : (l.take k).length ≤ k := List.length_take_le _ _
      have hx0 := lt256 x
      have HS := Lib.hid (show wt (l.take (k + 1)) = wt (l.take k) + mag x by rw [take_succ hx, wt_snoc])
      have HX := Lib.hid hx
      clear hx
      go_wp2
      go_round
      case rel => exact ⟨k + 1, by omega, by go_num, by rw [HS.out]; rfl⟩
      case measure => simp [intOf]; omega
    · go_wp2
      go_ret
      exact ⟨ret_int (by rw [List.take_of_length_le (by omega)]), rfl⟩

/-- The error of a length, a width and an order. -/
def lim (n : Nat) (width order : Int) : Int := if 65536 < n then 5 else if width < 1 ∨ 64 < width ∨ order < 0 ∨ 16 < order then 2 else 0

theorem limits_any (A : Option Addr) (n c : Nat) (width order : Int) (w : World) (hn : n ≤ 140737488351232) :
    Calls Try.prog 32 #[.slice A n c, .int .i64 width, .int .i64 order] w fun e w' => e = .returned (.int .i64 (lim n width order)) ∧ w = w' := by
  go_enter Try.func32, Try.ntmps32
  go_wp2
  all_goals go_ret
  all_goals refine ⟨ret_int ?_, rfl⟩
  all_goals (unfold lim; repeat' split)
  all_goals omega

theorem rlimits_any (A : Option Addr) (n c : Nat) (width order : Int) (w : World) (hn : n ≤ 140737488351232) :
    Calls Try.prog 31 #[.slice A n c, .int .i64 width, .int .i64 order] w fun e w' => e = .returned (.int .i64 (lim n width order)) ∧ w = w' := by
  go_enter Try.func31, Try.ntmps31
  go_wp2
  all_goals go_ret
  all_goals refine ⟨ret_int ?_, rfl⟩
  all_goals (unfold lim; repeat' split)
  all_goals omega

def longB (n : Nat) : Bool := decide (400 < n ∧ n ≤ 65536 ∨ 65545 < n)
theorem short1_any (A : Option Addr) (n c : Nat) (w : World) (hn : n ≤ 9223372036854775807) :
    Calls Try.prog 30 #[.slice A n c] w fun e w' => e = .returned (.bool (longB n)) ∧ w = w' := by
  go_enter Try.func30, Try.ntmps30
  go_wp2
  all_goals go_ret
  all_goals refine ⟨ret_bool ?_, rfl⟩
  all_goals (unfold longB; rw [Bool.eq_iff_iff]; simp; omega)
end Go.Proofs.Ytmbngfhhegbomaa.D
