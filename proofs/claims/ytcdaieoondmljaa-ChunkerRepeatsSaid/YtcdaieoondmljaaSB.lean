/- slices.Equal at ints and at bytes. -/
import Derived.Test.YtcdaieoondmljaaS10
import Derived.BigQuiet
import Derived.OpenShut
namespace Go.Proofs.Ytcdaieoondmljaa.H
set_option linter.unusedVariables false
open Go Go.RowKit Go.Proofs.Ytcdaieoondmljaa Go.Proofs.Ytcdaieoondmljaa.W Go.Proofs.Ytcdaieoondmljaa.M

theorem equalI_any (A A' : Option Addr) (c c' : Nat) (l l' : List Nat) (w : World) (B B' : Nat) (h : Sl i64 w B A l) (h' : Sl i64 w B' A' l') (hn : l.length ≤ 140737488355328) (hn' : l'.length ≤ 140737488355328) :
    Calls Try.prog 26 #[.slice A l.length c, .slice A' l'.length c'] w fun e w' => e = .returned (.bool (l == l')) ∧ Below w.heap.size w w' := by
  by_cases hlen : l.length = l'.length
  · have hd : decide ((l.length : Int) = (l'.length : Int)) = true := by rw [decide_eq_true_eq]; omega
    have HL := Lib.hid hlen
    obtain ⟨n', hn2⟩ : ∃ n', n' = l'.length := ⟨_, rfl⟩
    rw [← hn2] at hlen hn' ⊢
    subst hlen
    clear hd hn2
    go_enter Try.func26, Try.ntmps26
    go_wp2
    go_loopw [13] (fun i W => ∃ k : Nat, k ≤ l.length ∧ i = .int .i64 k ∧ Hid (l.take k = l'.take k) ∧ Below w.heap.size w W ∧ (∀ p : Addr, W.cell? p = w.cell? p)) (fun i _ => l.length - (intOf i).toNat)
    case atStart => exact ⟨0, Nat.zero_le _, rfl, Lib.hid rfl, Below.refl _ _, fun _ => rfl⟩
    case round =>
      obtain ⟨k, hk, rfl, hE, hB, hW⟩ := hrel
      by_cases hlt : k < l.length
      · obtain ⟨b, o, x, rfl, _, hx, hcx⟩ := h.at_ hlt
        obtain ⟨b', o', y, rfl, _, hy, hcy⟩ := h'.at_ (j := k) (by rw [← HL.out]; exact hlt)
        rw [← hW] at hcx hcy
        replace hcx : wr.cell? ⟨b, o + k, none⟩ = some (.int .i64 (x : Int)) := hcx
        replace hcy : wr.cell? ⟨b', o' + k, none⟩ = some (.int .i64 (y : Int)) := hcy
        have HX := Lib.hid hx
        have HY := Lib.hid hy
        have HW : Hid (∀ p : Addr, wr.cell? p = w.cell? p) := Lib.hid hW
        clear hx hy hW
        go_wp2_with fail
        go_quiet (fail)
        by_cases hxy : x = y
        · subst hxy
          go_wp2
          go_roundw
          case rel => exact ⟨k + 1, by omega, by go_num, Lib.hid (by rw [take_succ HX.out, take_succ HY.out, hE.out]), below_drewN hB _, HW.out⟩
          case measure => simp [intOf]; omega
        · have hxn : ¬ (x : Int) = (y : Int) := fun e => hxy (by omega)
          have hbt : Hid ((l == l') = false) := Lib.hid (by
            rw [beq_eq_false_iff_ne]
            rintro rfl
            have := HX.out.symm.trans HY.out
            exact hxy (by injection this))
          clear hxy
          go_wp2
          go_ret
          exact ⟨by rw [hbt.out]; rfl, below_drewN hB _⟩
      · obtain rfl : k = l.length := by omega
        have hbt : (l == l') = true := by
          have h1 := hE.out
          rw [List.take_length, HL.out, List.take_length] at h1
          rw [h1]; simp
        go_wp2
        go_ret
        exact ⟨by rw [hbt]; rfl, hB⟩
  · have hd : (l == l') = false := by
      rw [beq_eq_false_iff_ne]
      intro e; exact hlen (by rw [e])
    have hd2 : decide ((l.length : Int) = (l'.length : Int)) = false := by rw [decide_eq_false_iff_not]; omega
    rw [hd]
    go_enter Try.func26, Try.ntmps26
    go_wp2
    go_ret
    exact ⟨rfl, Below.refl _ _⟩


theorem equalI_same {A A' : Option Addr} {c c' n : Nat} {l : List Nat} (hl : l.length = n) (hn : n ≤ 65536) {w : World} {B B' : Nat} (h : Sl i64 w B A l) (h' : Sl i64 w B' A' l) :
    Calls Try.prog 26 #[.slice A n c, .slice A' n c'] w fun e w' => e = .returned (.bool true) ∧ Below w.heap.size w w' := by
  subst hl
  refine (equalI_any A A' c c' l l w B B' h h' (by omega) (by omega)).mono ?_
  rintro e w' ⟨rfl, hb⟩
  exact ⟨by simp, hb⟩
end Go.Proofs.Ytcdaieoondmljaa.H
