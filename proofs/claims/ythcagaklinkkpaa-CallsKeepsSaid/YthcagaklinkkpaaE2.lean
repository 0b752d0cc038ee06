import Derived.RangeFuncNested
import Derived.RangeFuncBound
import Derived.RangeFuncCalls
import Derived.RangeFuncLeaves
import Derived.RangeFuncBox
import Derived.RangeFuncWrites
import Derived.Shelf.Abstract
import Derived.Shelf.RegionOpen
import Derived.WalkKit
import Derived.OwnWalkIn
import Derived.TacticsInMore
import Derived.LoopNIn
import Derived.LoopIn
import Derived.Test.YthcagaklinkkpaaE1
namespace Go.Proofs.Ythcagaklinkkpaa.E
set_option linter.unusedVariables false
open Go Go.RowKit Go.Shelf Go.Proofs.Ythcagaklinkkpaa Go.Proofs.Ythcagaklinkkpaa.W Go.Proofs.Ythcagaklinkkpaa.M Go.Proofs.Ythcagaklinkkpaa.B
attribute [local go_sem] Oper.semAt_some

theorem scan_no {b : Bs} {i : Nat} (h : i < b.length) (ho : isOp b i = false) : scan b i = scan b (i + 1) := by
  rw [scan_lt h, ho]; rfl
theorem scan_hit {b : Bs} {i : Nat} (h : i < b.length) (ho : isOp b i = true) (hh : isHi b i = true) : scan b i = [i] ++ scan b (i + 5) := by
  rw [scan_lt h, ho, hh]; rfl
theorem scan_pass {b : Bs} {i : Nat} (h : i < b.length) (ho : isOp b i = true) (hh : isHi b i = false) : scan b i = scan b (i + 5) := by
  rw [scan_lt h, ho, hh]; rfl
theorem isOp_fits {b : Bs} {i : Nat} (h : isOp b i = true) : i + 5 ≤ b.length := by
  unfold isOp at h
  simp only [Bool.and_eq_true, decide_eq_true_eq] at h
  exact h.2

set_option maxRecDepth 100000 in
set_option maxHeartbeats 2000000 in
theorem sites1_in (n : Nat) (hn : 1 ≤ n) (l Bs' n₀ : Nat) (A : Option Addr) (c : Nat) (b : Bs) (hlen : b.length ≤ 65536) (Kp : World → World → Prop) (hKr : ∀ W, Kp W W) (hKt : ∀ {A B C : World}, Kp A B → Kp B C → Kp A C)
    (HKc : Hid (∀ W W', Kp W W' → W'.cell? ⟨Bs', 0, none⟩ = W.cell? ⟨Bs', 0, none⟩)) (HKs : ∀ W W', Kp W W' → Sl u8 W n₀ A b → Sl u8 W' n₀ A b) (J Jx : List Nat → World → Prop)
    (hY : ∀ pre (x : Nat) W, J pre W → pre ++ [x] <+: scan b 0 → YieldAt Fence.wide (n - 1) Try.prog l #[.int .i64 (x : Int)] W fun e W' =>
      (e = .returned (.bool true) ∧ J (pre ++ [x]) W' ∧ Kp W W') ∨ (e = .returned (.bool false) ∧ Jx (pre ++ [x]) W'))
    (W : World) (hBs : W.cell? ⟨Bs', 0, none⟩ = some (.slice A b.length c)) (hS : Sl u8 W n₀ A b) (h0 : J [] W) :
    CallsIn Fence.wide n Try.prog 29 #[.func (.yield l) #[] #[], .pointer (some ⟨Bs', 0, none⟩)] W fun e W' => (∃ v, e = .returned v) ∧
      ((∃ ys, ys = scan b 0 ∧ J ys W') ∨ (∃ pre, pre <+: scan b 0 ∧ Jx pre W')) := by
  refine callsIn_of_wp Try.func29 rfl trivial ?_ rfl
  simp only [Try.ntmps29, List.size_toArray, List.length_cons, List.length_nil, Nat.reduceAdd, Nat.reduceSub, Array.replicate_succ, Array.replicate_zero, List.push_toArray, List.append_toArray, List.nil_append, List.cons_append]
  gi_wp2
  gi_loopw [3] (fun v wr => ∃ (i : Nat) (pre : List Nat), i ≤ b.length ∧ v = .int .i64 i ∧ Hid (scan b 0 = pre ++ scan b i) ∧ J pre wr ∧ Kp W wr)
    (fun v _ => b.length - (intOf v).toNat)
  case atStart => exact ⟨0, [], Nat.zero_le _, rfl, Lib.hid rfl, h0, hKr _⟩
  case round =>
    obtain ⟨i, pre, hk, rfl, hsc, hJs, hnx⟩ := hrel
    have hcb := (HKc.out _ _ hnx).trans hBs
    by_cases hlt : i < b.length
    · have hSw := HKs _ _ hnx hS
      by_cases hop : isOp b i = true
      · have h5 := isOp_fits hop
        obtain ⟨bl, o, d, rfl, _, hx, hcd⟩ := hSw.byte (j := i + 4) (by omega)
        have hd : at_ b (i + 4) = d := by unfold at_; rw [hx]; rfl
        have hhi : isHi b i = (d == 0 || d == 255) := by unfold isHi; rw [hd]
        have hop := Lib.hid hop
        clear hx hd
        have e1 : (i : Int) + 5 - 1 = ((i + 4 : Nat) : Int) := by omega
        by_cases hd0 : d = 0
        · subst hd0
          have hgo := Lib.hid (scan_hit hlt hop.out (by rw [hhi]; rfl))
          clear hhi
          obtain ⟨fn, tmps, assign, body, hy, hR⟩ := hY pre i wr hJs ⟨scan b (i + 5), by rw [hsc.out, hgo.out]; simp⟩
          have hcd : wr.cell? ⟨bl, o + (i + 4), none⟩ = some (.int .u8 0) := hcd
          gi_wp2_with (refine ⟨trivial, ?_⟩; gi_at_call 30; refine (callsIn_wide.2 ((hop.out : isOp b i = true) ▸ isOpcode_any (some ⟨bl, o, none⟩) c b i hlt (by omega) wr _ hSw)).mono ?_; rintro e w1 ⟨rfl, rfl⟩)
          refine hR.mono ?_
          rintro e W3 (⟨rfl, hJ3, hk3⟩ | ⟨rfl, hJx3⟩)
          · gi_wp2
            go_roundw
            case rel => exact ⟨i + 5, pre ++ [i], by omega, by go_num, Lib.hid (by rw [hsc.out, hgo.out]; simp), hJ3, hKt hnx hk3⟩
            case measure => simp [intOf]; omega
          · gi_wp2
            refine bodyPost_ret (results_none rfl _ _ _) rfl ?_
            exact ⟨⟨_, rfl⟩, .inr ⟨_, ⟨scan b (i + 5), by rw [hsc.out, hgo.out]; simp⟩, hJx3⟩⟩
        · by_cases hd1 : d = 255
          · subst hd1
            have hgo := Lib.hid (scan_hit hlt hop.out (by rw [hhi]; rfl))
            clear hhi hd0
            obtain ⟨fn, tmps, assign, body, hy, hR⟩ := hY pre i wr hJs ⟨scan b (i + 5), by rw [hsc.out, hgo.out]; simp⟩
            have hcd : wr.cell? ⟨bl, o + (i + 4), none⟩ = some (.int .u8 255) := hcd
            gi_wp2_with (refine ⟨trivial, ?_⟩; gi_at_call 30; refine (callsIn_wide.2 ((hop.out : isOp b i = true) ▸ isOpcode_any (some ⟨bl, o, none⟩) c b i hlt (by omega) wr _ hSw)).mono ?_; rintro e w1 ⟨rfl, rfl⟩)
            refine hR.mono ?_
            rintro e W3 (⟨rfl, hJ3, hk3⟩ | ⟨rfl, hJx3⟩)
            · gi_wp2
              go_roundw
              case rel => exact ⟨i + 5, pre ++ [i], by omega, by go_num, Lib.hid (by rw [hsc.out, hgo.out]; simp), hJ3, hKt hnx hk3⟩
              case measure => simp [intOf]; omega
            · gi_wp2
              refine bodyPost_ret (results_none rfl _ _ _) rfl ?_
              exact ⟨⟨_, rfl⟩, .inr ⟨_, ⟨scan b (i + 5), by rw [hsc.out, hgo.out]; simp⟩, hJx3⟩⟩
          · have hgo := Lib.hid (scan_pass hlt hop.out (by rw [hhi]; simp [hd0, hd1]))
            have n1 : ((d.toNat : Int) == 0) = false := by rw [beq_eq_false_iff_ne]; intro e; exact hd0 (UInt8.toNat_inj.1 (by simpa using (show d.toNat = 0 by omega)))
            have n2 : ((d.toNat : Int) == 255) = false := by rw [beq_eq_false_iff_ne]; intro e; exact hd1 (UInt8.toNat_inj.1 (by simpa using (show d.toNat = 255 by omega)))
            clear hhi hd0 hd1
            gi_wp2_with (refine ⟨trivial, ?_⟩; gi_at_call 30; refine (callsIn_wide.2 ((hop.out : isOp b i = true) ▸ isOpcode_any (some ⟨bl, o, none⟩) c b i hlt (by omega) wr _ hSw)).mono ?_; rintro e w1 ⟨rfl, rfl⟩)
            refine ⟨fun _ h => (by cases h), ?_⟩
            gi_wp2
            go_roundw
            case rel => exact ⟨i + 5, pre, by omega, by go_num, Lib.hid (by rw [hsc.out, hgo.out]), hJs, hnx⟩
            case measure => simp [intOf]; omega
      · have hop' := Lib.hid (Bool.eq_false_iff.2 hop)
        have hgo := Lib.hid (scan_no hlt hop'.out)
        clear hop
        gi_wp2_with (refine ⟨trivial, ?_⟩; gi_at_call 30; refine (callsIn_wide.2 ((hop'.out : isOp b i = false) ▸ isOpcode_any A c b i hlt (by omega) wr _ hSw)).mono ?_; rintro e w1 ⟨rfl, rfl⟩)
        go_roundw
        case rel => exact ⟨i + 1, pre, by omega, by go_num, Lib.hid (by rw [hsc.out, hgo.out]), hJs, hnx⟩
        case measure => simp [intOf]; omega
    · obtain rfl : i = b.length := by omega
      have hall : Hid (pre = scan b 0) := Lib.hid (by rw [hsc.out, scan_end (Nat.le_refl _), List.append_nil])
      gi_wp2
      go_end0
      exact ⟨⟨_, rfl⟩, .inl ⟨_, hall.out, hJs⟩⟩
end Go.Proofs.Ythcagaklinkkpaa.E
