import Derived.Test.YtmbngfhhegbomaaD1
namespace Go.Proofs.Ytmbngfhhegbomaa.D
set_option linter.unusedVariables false
open Go Go.RowKit Go.Proofs.Ytmbngfhhegbomaa Go.Proofs.Ytmbngfhhegbomaa.W

theorem info5 : (Try.prog.info? 5).map (fun i => (i.zero, i.size, i.bytes)) = some (some (.int .u8 0), 1, 1) := by kernel_rfl

theorem equal_any (A A' : Option Addr) (c c' : Nat) (l l' : List UInt8) (w : World) (B B' : Nat) (h : Sl u8 w B A l) (h' : Sl u8 w B' A' l') :
    Calls Try.prog 13 #[.slice A l.length c, .slice A' l'.length c'] w fun e w' => e = .returned (.bool (l == l')) ∧ w = w' := by
  have k1 := h.convert (P := Try.prog) c _ _ _ Try.underlying22 Try.underlying5 Try.underlying9
  have k2 := h'.convert (P := Try.prog) c' _ _ _ Try.underlying22 Try.underlying5 Try.underlying9
  go_enter Try.func13, Try.ntmps13
  go_wp2
  go_ret
  exact ⟨rfl, rfl⟩

theorem clone_any (A : Option Addr) (c : Nat) (l : List UInt8) (w : World) (B : Nat) (h : Sl u8 w B A l) (hn : l.length ≤ 140737488351232) :
    Calls Try.prog 34 #[.slice A l.length c] w fun e w' => ∃ A' c', e = .returned (.slice A' l.length c') ∧
      w'.ownsRow w.heap.size 5 1 (.slice A' l.length c') l.length (l.map u8) ∧ Below w.heap.size w w' := by
  obtain ⟨i0, hi, hz0, hz1, hz2⟩ := info_parts info5
  have q22 : ∀ (w : World) (a : Option Addr) (n c n' c' : Nat), (binOp .eql 22 (.slice a n c) (.slice none n' c')).run Try.prog w = .ok (.bool a.isNone) w := fun w a n c n' c' => Lib.run_eql_slice_nil w _ _ a n c n' c' Try.underlying22
  cases A with
  | none =>
    obtain rfl : l = [] := by
      rcases l with _ | ⟨x, r⟩
      · rfl
      · obtain ⟨b, o, e, _⟩ := h (by simp); cases e
    go_enter Try.func34, Try.ntmps34
    go_wp2
    go_ret
    exact ⟨none, 0, rfl, World.ownsRow_nil _ _ _ _, Below.refl _ _⟩
  | some ad =>
    go_enter Try.func34, Try.ntmps34
    go_wp2_with (at_builtin; refine wpList_append_own _ rfl _ _ 22 rfl w.heap.size 5 i0 (.int .u8 0) 1 1 Try.underlying22 hi hz0 hz1 hz2 rfl (by decide) _ 0 [] rfl (World.ownsRow_made _ #[] 0 (Nat.le_refl _) (by decide) rfl) ad l.length c (l.map u8) rfl (by simp) (h.lt.alloc (Nat.le_refl _) _).news u8_one (by unfold maxLen; omega) (by omega) (by simp) ?_; intro v' w1 hown hgrow _)
    go_ret
    have hb : Below w.heap.size w w1 := ((Below.refl _ w).alloc (Nat.le_refl _) _).grown hgrow (by simp) (fun k hk => by cases hk; exact Nat.le_refl _)
    simp only [Nat.zero_add, List.nil_append] at hown
    obtain ⟨A', c', rfl, _, _⟩ := own_form hown
    exact ⟨A', c', rfl, hown, hb⟩

def idx0 (b : Bool) : Int := if b = true then 0 else -1
def Miss (n k : Nat) : Prop := k = 1 → longB n = false
/-- slices.IndexFunc and ContainsFunc at a list of one slice of bytes, and the law's test of the length. -/
theorem indexFunc_short (b o n c : Nat) (A : Option Addr) (w : World) (hc : w.cell? ⟨b, o, none⟩ = some (.slice A n c)) (hn : n ≤ 9223372036854775807) :
    Calls Try.prog 38 #[.slice (some ⟨b, o, none⟩) 1 1, .func (.func 30) #[] #[]] w fun e w' => e = .returned (.int .i64 (idx0 (longB n))) ∧ w = w' := by
  go_enter Try.func38, Try.ntmps38
  go_wp2
  go_loop [8] (fun i => ∃ k : Nat, k ≤ 1 ∧ i = .int .i64 k ∧ Miss n k) (fun i => 1 - (intOf i).toNat)
  case atStart => exact ⟨0, by omega, rfl, fun h => by omega⟩
  case round =>
    obtain ⟨k, hk, rfl, hkn⟩ := hrel
    by_cases hlt : k < 1
    · obtain rfl : k = 0 := by omega
      clear hkn
      have hc' : w.cell? ⟨b, o + 0, none⟩ = some (.slice A n c) := hc
      by_cases hL : longB n = true
      · go_wp2_with (go_at_call 30; refine (short1_any _ _ _ _ hn).mono ?_; rintro e w' ⟨rfl, rfl⟩)
        go_ret
        exact ⟨ret_int (by rw [hL]; rfl), rfl⟩
      · have hL' := Bool.eq_false_iff.2 hL
        clear hL
        have HL := Lib.hid hL'
        go_wp2_with (go_at_call 30; refine (short1_any _ _ _ _ hn).mono ?_; rintro e w' ⟨rfl, rfl⟩)
        clear hL'
        go_round
        case rel => exact ⟨1, by omega, rfl, fun _ => HL.out⟩
        case measure => simp [intOf]
    · obtain rfl : k = 1 := by omega
      have hL := hkn rfl
      have HL := Lib.hid hL
      clear hkn hL
      go_wp2
      go_ret
      exact ⟨ret_int (by rw [HL.out]; rfl), rfl⟩

theorem containsFunc_short (b o n c : Nat) (A : Option Addr) (w : World) (hc : w.cell? ⟨b, o, none⟩ = some (.slice A n c)) (hn : n ≤ 9223372036854775807) :
    Calls Try.prog 29 #[.slice (some ⟨b, o, none⟩) 1 1, .func (.func 30) #[] #[]] w fun e w' => e = .returned (.bool (longB n)) ∧ w = w' := by
  go_enter Try.func29, Try.ntmps29
  go_wp2_with (go_at_call 38; refine (indexFunc_short _ _ _ _ _ _ hc hn).mono ?_; rintro e w' ⟨rfl, rfl⟩)
  all_goals go_ret
  all_goals refine ⟨ret_bool ?_, rfl⟩
  all_goals (cases longB n <;> rfl)

theorem short_any (b o n c : Nat) (A : Option Addr) (w : World) (hc : w.cell? ⟨b, o, none⟩ = some (.slice A n c)) (hn : n ≤ 9223372036854775807) :
    Calls Try.prog 19 #[.slice (some ⟨b, o, none⟩) 1 1] w fun e w' => e = .returned (.bool (!longB n)) ∧ w = w' := by
  go_enter Try.func19, Try.ntmps19
  go_wp2_with (go_at_call 29; refine (containsFunc_short _ _ _ _ _ _ hc hn).mono ?_; rintro e w' ⟨rfl, rfl⟩)
  go_ret
  exact ⟨rfl, rfl⟩

theorem short_ok (b o n c : Nat) (A : Option Addr) (w : World) (hc : w.cell? ⟨b, o, none⟩ = some (.slice A n c)) (hn : n ≤ 9223372036854775807) (r : Bool) (hr : (!longB n) = r) :
    Calls Try.prog 19 #[.slice (some ⟨b, o, none⟩) 1 1] w fun e w' => e = .returned (.bool r) ∧ w = w' := by
  subst hr
  exact short_any b o n c A w hc hn

end Go.Proofs.Ytmbngfhhegbomaa.D
