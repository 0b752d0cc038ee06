import Derived.Test.YtjpbeoiiplapaaaChecked
import Derived.Test.YtjpbeoiiplapaaaWords
import Derived.Test.YtjpbeoiiplapaaaAppend
import Derived.WalkKit
import Derived.OwnWalk
import Derived.WalkSpells
import Derived.WalkLawsBesides
import Derived.BigQuiet
import Derived.OpenShut
import Derived.PlainAid
import Derived.Lib.Hide
namespace Go.Proofs.Ytjpbeoiiplapaaa.B
set_option linter.unusedVariables false
open Go Go.RowKit Go.Proofs.Ytjpbeoiiplapaaa Go.Proofs.Ytjpbeoiiplapaaa.W

theorem info5 : (Try.prog.info? 5).map (fun i => (i.zero, i.size, i.bytes)) = some (some (.int .u8 0), 1, 1) := by kernel_rfl

theorem clone_any (A : Option Addr) (c : Nat) (l : List UInt8) (w : World) (B : Nat) (h : Sl u8 w B A l) (hn : l.length ≤ 140737488355328) :
    Calls Try.prog 9 #[.slice A l.length c] w fun e w' => ∃ A' c', e = .returned (.slice A' l.length c') ∧
      w'.ownsRow w.heap.size 5 1 (.slice A' l.length c') l.length (l.map u8) ∧ Below w.heap.size w w' := by
  obtain ⟨i0, hi, hz0, hz1, hz2⟩ := info_parts info5
  have q22 : ∀ (w : World) (a : Option Addr) (n c n' c' : Nat), (binOp .eql 22 (.slice a n c) (.slice none n' c')).run Try.prog w = .ok (.bool a.isNone) w := fun w a n c n' c' => Lib.run_eql_slice_nil w _ _ a n c n' c' Try.underlying22
  cases A with
  | none =>
    obtain rfl : l = [] := by
      rcases l with _ | ⟨x, r⟩
      · rfl
      · obtain ⟨b, o, e, _⟩ := h (by simp); cases e
    go_enter Try.func9, Try.ntmps9
    go_wp2
    go_ret
    exact ⟨none, 0, rfl, World.ownsRow_nil _ _ _ _, Below.refl _ _⟩
  | some ad =>
    go_enter Try.func9, Try.ntmps9
    go_wp2_with (at_builtin; refine wpList_append_own _ rfl _ _ 22 rfl w.heap.size 5 i0 (.int .u8 0) 1 1 Try.underlying22 hi hz0 hz1 hz2 rfl (by decide) _ 0 [] rfl (World.ownsRow_made _ #[] 0 (Nat.le_refl _) (by decide) rfl) ad l.length c (l.map u8) rfl (by simp) (h.lt.alloc (Nat.le_refl _) _).news u8_one (by unfold maxLen; omega) (by omega) (by simp) ?_; intro v' w1 hown hgrow _)
    go_ret
    have hb : Below w.heap.size w w1 := ((Below.refl _ w).alloc (Nat.le_refl _) _).grown hgrow (by simp) (fun k hk => by cases hk; exact Nat.le_refl _)
    simp only [Nat.zero_add, List.nil_append] at hown
    obtain ⟨A', c', rfl, _, _⟩ := own_form hown
    exact ⟨A', c', rfl, hown, hb⟩

theorem equal_any (A A' : Option Addr) (c c' : Nat) (l l' : List UInt8) (w : World) (B B' : Nat) (h : Sl u8 w B A l) (h' : Sl u8 w B' A' l') (hn : l.length ≤ 140737488355328) (hn' : l'.length ≤ 140737488355328) :
    Calls Try.prog 10 #[.slice A l.length c, .slice A' l'.length c'] w fun e w' => e = .returned (.bool (l == l')) ∧ Below w.heap.size w w' := by
  by_cases hlen : l.length = l'.length
  · have hd : decide ((l.length : Int) = (l'.length : Int)) = true := by rw [decide_eq_true_eq]; omega
    have HL := Lib.hid hlen
    obtain ⟨n', hn2⟩ : ∃ n', n' = l'.length := ⟨_, rfl⟩
    rw [← hn2] at hlen hn' ⊢
    subst hlen
    clear hd hn2
    go_enter Try.func10, Try.ntmps10
    go_wp2
    go_loopw [13] (fun i W => ∃ k : Nat, k ≤ l.length ∧ i = .int .i64 k ∧ Hid (l.take k = l'.take k) ∧ Below w.heap.size w W ∧ (∀ p : Addr, W.cell? p = w.cell? p)) (fun i _ => l.length - (intOf i).toNat)
    case atStart => exact ⟨0, Nat.zero_le _, rfl, Lib.hid rfl, Below.refl _ _, fun _ => rfl⟩
    case round =>
      obtain ⟨k, hk, rfl, hE, hB, hW⟩ := hrel
      by_cases hlt : k < l.length
      · obtain ⟨b, o, x, rfl, _, hx, hcx⟩ := h.byte hlt
        obtain ⟨b', o', y, rfl, _, hy, hcy⟩ := h'.byte (j := k) (by rw [← HL.out]; exact hlt)
        rw [← hW] at hcx hcy
        have HX := Lib.hid hx
        have HY := Lib.hid hy
        have HW : Hid (∀ p : Addr, wr.cell? p = w.cell? p) := Lib.hid hW
        clear hx hy hW
        go_wp2_with fail
        go_quiet (fail)
        by_cases hxy : x = y
        · subst hxy
          go_wp2
          go_roundw
          case rel => exact ⟨k + 1, by omega, by go_num, Lib.hid (by rw [take_succ HX.out, take_succ HY.out, hE.out]), below_drewN hB _, HW.out⟩
          case measure => simp [intOf]; omega
        · have hxn : ¬ (x.toNat : Int) = (y.toNat : Int) := fun e => hxy (UInt8.toNat_inj.1 (by omega))
          have hbt : Hid ((l == l') = false) := Lib.hid (by
            rw [beq_eq_false_iff_ne]
            rintro rfl
            have := HX.out.symm.trans HY.out
            exact hxy (by injection this))
          clear hxy
          go_wp2
          go_ret
          exact ⟨by rw [hbt.out]; rfl, below_drewN hB _⟩
      · obtain rfl : k = l.length := by omega
        have hbt : (l == l') = true := by
          have h1 := hE.out
          rw [List.take_length, HL.out, List.take_length] at h1
          rw [h1]; simp
        go_wp2
        go_ret
        exact ⟨by rw [hbt]; rfl, hB⟩
  · have hd : (l == l') = false := by
      rw [beq_eq_false_iff_ne]
      intro e; exact hlen (by rw [e])
    have hd2 : decide ((l.length : Int) = (l'.length : Int)) = false := by rw [decide_eq_false_iff_not]; omega
    rw [hd]
    go_enter Try.func10, Try.ntmps10
    go_wp2
    go_ret
    exact ⟨rfl, Below.refl _ _⟩

end Go.Proofs.Ytjpbeoiiplapaaa.B
