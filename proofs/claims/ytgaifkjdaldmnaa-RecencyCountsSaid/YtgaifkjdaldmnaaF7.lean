/- runs: the iterator. -/
import Derived.RangeFuncNested
import Derived.RangeFuncBound
import Derived.RangeFuncCalls
import Derived.RangeFuncLeaves
import Derived.RangeFuncBox
import Derived.RangeFuncWrites
import Derived.Shelf.Abstract
import Derived.Shelf.RegionOpen
import Derived.OwnWalkIn
import Derived.TacticsInMore
import Derived.LoopNIn
import Derived.LoopIn
import Derived.Test.YtgaifkjdaldmnaaF6
import Derived.Test.YtgaifkjdaldmnaaM34R
namespace Go.Proofs.Ytgaifkjdaldmnaa.F
set_option linter.unusedVariables false
open Go Go.RowKit Go.Shelf Go.Proofs.Ytgaifkjdaldmnaa Go.Proofs.Ytgaifkjdaldmnaa.W Go.Proofs.Ytgaifkjdaldmnaa.M
attribute [local go_sem] Oper.semAt_some

def encv (p : UInt8 × Nat) : Array Value := #[.int .u8 (p.1.toNat : Int), .int .i64 (p.2 : Int)]
set_option maxRecDepth 100000 in
set_option maxHeartbeats 2000000 in
theorem runs1_in (n : Nat) (hn : 1 ≤ n) (l Bs' n₀ : Nat) (A : Option Addr) (c N : Nat) (b : Bs) (hlb : b.length = N) (hlen : N ≤ 65536) (Kp : World → World → Prop) (hKr : ∀ W, Kp W W) (hKt : ∀ {A B C : World}, Kp A B → Kp B C → Kp A C)
    (HKc : Hid (∀ W W', Kp W W' → W'.cell? ⟨Bs', 0, none⟩ = W.cell? ⟨Bs', 0, none⟩)) (HKs : ∀ W W', Kp W W' → Sl u8 W n₀ A b → Sl u8 W' n₀ A b) (J Jx : List (UInt8 × Nat) → World → Prop)
    (hY : ∀ pre (p : UInt8 × Nat) W, J pre W → pre ++ [p] <+: prs b → YieldAt Fence.wide (n - 1) Try.prog l (encv p) W fun e W' =>
      (e = .returned (.bool true) ∧ J (pre ++ [p]) W' ∧ Kp W W') ∨ (e = .returned (.bool false) ∧ Jx (pre ++ [p]) W'))
    (W : World) (hBs : W.cell? ⟨Bs', 0, none⟩ = some (.slice A N c)) (hS : Sl u8 W n₀ A b) (h0 : J [] W) :
    CallsIn Fence.wide n Try.prog 35 #[.func (.yield l) #[] #[], .pointer (some ⟨Bs', 0, none⟩)] W fun e W' => (∃ v, e = .returned v) ∧
      ((∃ ys, ys = prs b ∧ J ys W') ∨ (∃ pre, pre <+: prs b ∧ Jx pre W')) := by
  have HL := Lib.hid hlb
  clear hlb
  refine callsIn_of_wp Try.func35 rfl trivial ?_ rfl
  simp only [Try.ntmps35, List.size_toArray, List.length_cons, List.length_nil, Nat.reduceAdd, Nat.reduceSub, Array.replicate_succ, Array.replicate_zero, List.push_toArray, List.append_toArray, List.nil_append, List.cons_append]
  gi_wp2
  gi_loopw [3, 4] (fun v _ wr => ∃ (i : Nat) (pre : List (UInt8 × Nat)), i ≤ N ∧ v = .int .i64 i ∧ Hid (prs b = pre ++ prs (b.drop i)) ∧ J pre wr ∧ Kp W wr)
    (fun v _ _ => N - (intOf v).toNat)
  case atStart => exact ⟨0, [], Nat.zero_le _, rfl, Lib.hid rfl, h0, hKr _⟩
  case round =>
    obtain ⟨wo, rfl⟩ : ∃ wo : World, wo = wr := ⟨_, rfl⟩
    obtain ⟨i, pre, hk, rfl, hsc, hJs, hnx⟩ := hrel
    have hcb := (HKc.out _ _ hnx).trans hBs
    by_cases hlt : i < N
    · have hSw := HKs _ _ hnx hS
      obtain ⟨bl, o, hAe, hbl, hcs⟩ := hSw.open_ (by rw [HL.out]; omega)
      have hget : ∀ j, j < N → b[j]? = some (b.getD j 0) := fun j hj => by
        have : j < b.length := by rw [HL.out]; exact hj
        simp [List.getD, this]
      have hc : ∀ j, j < N → wo.cell? ⟨bl, o + j, none⟩ = some (.int .u8 ((b.getD j 0).toNat : Int)) := fun j hj => hcs j _ (hget j hj)
      have HG := Lib.hid hget
      have HC := Lib.hid hc
      subst hAe
      have hci := hc i hlt
      obtain ⟨x, hx⟩ : ∃ x, x = b.getD i 0 := ⟨_, rfl⟩
      have hbx : b[i]? = some x := by rw [hx]; exact hget i hlt
      rw [← hx] at hci
      clear hc hcs hget hx
      by_cases hx0 : x = 0
      · subst hx0
        replace hci : wo.cell? ⟨bl, o + i, none⟩ = some (.int .u8 0) := hci
        have hgo := Lib.hid (prs_drop_zero hbx)
        obtain ⟨m, hm⟩ : ∃ m, m = lead (b.drop (i + 1)) := ⟨_, rfl⟩
        have hml : i + 1 + m ≤ N := by have := lead_le (b.drop (i + 1)); rw [← hm, List.length_drop, HL.out] at this; omega
        have HZ : Hid (∀ j, j < m → b.getD (i + 1 + j) 0 = 0) := Lib.hid fun j hj => by
          have := lead_zero (r := b.drop (i + 1)) (j := j) (by omega)
          rw [List.getElem?_drop] at this
          simp [List.getD, this]
        have HZ2 : Hid (i + 1 + m < N → b.getD (i + 1 + m) 0 ≠ 0) := Lib.hid fun hj => by
          have h1 := HG.out _ hj
          exact lead_stop (r := b.drop (i + 1)) (by rw [← hm, List.getElem?_drop]; exact h1)
        rw [← hm] at hgo
        clear hm hbx
        gi_wp2
        gi_loop [4] (fun mv => ∃ j : Nat, j ≤ m ∧ mv = .int .i64 ((j + 1 : Nat) : Int)) (fun mv => N + 1 - (intOf mv).toNat)
        case atStart => exact ⟨0, Nat.zero_le _, rfl⟩
        case round =>
          obtain ⟨j, hj, rfl⟩ := hrel
          by_cases hjm : j < m
          · have hcj := HC.out (i + 1 + j) (by omega)
            rw [HZ.out j hjm] at hcj
            replace hcj : wo.cell? ⟨bl, o + (i + 1 + j), none⟩ = some (.int .u8 0) := hcj
            rw [show i + 1 + j = i + (j + 1) by omega] at hcj
            have hlt2 : (i : Int) + ((j : Int) + 1) < (N : Int) := by omega
            gi_wp2
            go_round
            case rel => exact ⟨j + 1, by omega, by go_num⟩
            case measure => simp [intOf]; omega
          · obtain rfl : j = m := by omega
            have hY0 : Hid (YieldAt Fence.wide (n - 1) Try.prog l #[.int .u8 0, .int .i64 ((j : Int) + 1)] wo fun e W' =>
                (e = .returned (.bool true) ∧ J (pre ++ [(0, j + 1)]) W' ∧ Kp wo W') ∨ (e = .returned (.bool false) ∧ Jx (pre ++ [(0, j + 1)]) W')) :=
              Lib.hid (hY pre (0, j + 1) wo hJs ⟨prs (b.drop (i + (j + 1))), by rw [hsc.out, hgo.out]; simp⟩)
            by_cases hend : i + 1 + j < N
            · have hcj := HC.out (i + 1 + j) hend
              have hnz := HZ2.out hend
              obtain ⟨y, hyy⟩ : ∃ y, y = b.getD (i + 1 + j) 0 := ⟨_, rfl⟩
              rw [← hyy] at hcj hnz
              have hne : ((y.toNat : Int) == 0) = false := by rw [beq_eq_false_iff_ne]; intro e; exact hnz (UInt8.toNat_inj.1 (by simpa using (show y.toNat = 0 by omega)))
              rw [show i + 1 + j = i + (j + 1) by omega] at hcj
              have hlt2 : (i : Int) + ((j : Int) + 1) < (N : Int) := by omega
              clear hyy hnz
              obtain ⟨fn, tmps, assign, body, hy, hR⟩ := hY0.out
              gi_wp2
              refine hR.mono ?_
              rintro e W3 (⟨rfl, hJ3, hk3⟩ | ⟨rfl, hJx3⟩)
              · gi_wp2
                go_roundw
                case rel => exact ⟨i + (j + 1), pre ++ [(0, j + 1)], by omega, by go_num, Lib.hid (by rw [hsc.out, hgo.out]; simp), hJ3, hKt hnx hk3⟩
                case measure => simp [intOf]; omega
              · gi_wp2
                refine bodyPost_ret (results_none rfl _ _ _) rfl ?_
                exact ⟨⟨_, rfl⟩, .inr ⟨_, ⟨prs (b.drop (i + (j + 1))), by rw [hsc.out, hgo.out]; simp⟩, hJx3⟩⟩
            · have hlt2 : decide ((i : Int) + ((j : Int) + 1) < (N : Int)) = false := by rw [decide_eq_false_iff_not]; omega
              obtain ⟨fn, tmps, assign, body, hy, hR⟩ := hY0.out
              gi_wp2
              refine hR.mono ?_
              rintro e W3 (⟨rfl, hJ3, hk3⟩ | ⟨rfl, hJx3⟩)
              · gi_wp2
                go_roundw
                case rel => exact ⟨i + (j + 1), pre ++ [(0, j + 1)], by omega, by go_num, Lib.hid (by rw [hsc.out, hgo.out]; simp), hJ3, hKt hnx hk3⟩
                case measure => simp [intOf]; omega
              · gi_wp2
                refine bodyPost_ret (results_none rfl _ _ _) rfl ?_
                exact ⟨⟨_, rfl⟩, .inr ⟨_, ⟨prs (b.drop (i + (j + 1))), by rw [hsc.out, hgo.out]; simp⟩, hJx3⟩⟩
      · have hgo := Lib.hid (prs_drop_other hbx hx0)
        have hne : ((x.toNat : Int) == 0) = false := by rw [beq_eq_false_iff_ne]; intro e; exact hx0 (UInt8.toNat_inj.1 (by simpa using (show x.toNat = 0 by omega)))
        have hY0 : Hid (YieldAt Fence.wide (n - 1) Try.prog l #[.int .u8 (x.toNat : Int), .int .i64 1] wo fun e W' =>
            (e = .returned (.bool true) ∧ J (pre ++ [(x, 1)]) W' ∧ Kp wo W') ∨ (e = .returned (.bool false) ∧ Jx (pre ++ [(x, 1)]) W')) :=
          Lib.hid (hY pre (x, 1) wo hJs ⟨prs (b.drop (i + 1)), by rw [hsc.out, hgo.out]; simp⟩)
        clear hbx hx0
        gi_wp2
        gi_loop [4] (fun mv => mv = .int .i64 1) (fun mv => 0)
        case atStart => rfl
        case round =>
          subst hrel
          obtain ⟨fn, tmps, assign, body, hy, hR⟩ := hY0.out
          gi_wp2
          refine hR.mono ?_
          rintro e W3 (⟨rfl, hJ3, hk3⟩ | ⟨rfl, hJx3⟩)
          · gi_wp2
            go_roundw
            case rel => exact ⟨i + 1, pre ++ [(x, 1)], by omega, by go_num, Lib.hid (by rw [hsc.out, hgo.out]; simp), hJ3, hKt hnx hk3⟩
            case measure => simp [intOf]; omega
          · gi_wp2
            refine bodyPost_ret (results_none rfl _ _ _) rfl ?_
            exact ⟨⟨_, rfl⟩, .inr ⟨_, ⟨prs (b.drop (i + 1)), by rw [hsc.out, hgo.out]; simp⟩, hJx3⟩⟩
    · obtain rfl : i = N := by omega
      have hall : Hid (pre = prs b) := Lib.hid (by rw [hsc.out, prs_end (by rw [HL.out]; exact Nat.le_refl _), List.append_nil])
      gi_wp2
      go_end0
      exact ⟨⟨_, rfl⟩, .inl ⟨_, hall.out, hJs⟩⟩
end Go.Proofs.Ytgaifkjdaldmnaa.F
