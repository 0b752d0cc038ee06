import Derived.RangeFuncNested
import Derived.RangeFuncBound
import Derived.RangeFuncCalls
import Derived.RangeFuncLeaves
import Derived.RangeFuncBox
import Derived.RangeFuncWrites
import Derived.Shelf.Abstract
import Derived.Shelf.RegionOpen
import Derived.WalkKit
import Derived.OwnWalkIn
import Derived.TacticsInMore
import Derived.LoopNIn
import Derived.LoopIn
import Derived.Test.YtjpbeoiiplapaaaV1
namespace Go.Proofs.Ytjpbeoiiplapaaa.C
set_option linter.unusedVariables false
open Go Go.RowKit Go.Shelf Go.Proofs.Ytjpbeoiiplapaaa Go.Proofs.Ytjpbeoiiplapaaa.W Go.Proofs.Ytjpbeoiiplapaaa.M
attribute [local go_sem] Oper.semAt_some

set_option maxRecDepth 100000 in
set_option maxHeartbeats 2000000 in
theorem values1_in (F : Fence) (n : Nat) (h7 : F.fn 37) (hro : F.round = none) (hn : 1 ≤ n) (l Bs n₀ : Nat) (A : Option Addr) (c : Nat) (xs : List UInt8) (hlen : xs.length ≤ 140737488351232) (J Jx : List UInt8 → World → Prop)
    (hY : ∀ pre x W, J pre W → pre.length < xs.length → YieldAt F (n - 1) Try.prog l #[.int .u8 (x.toNat : Int)] W fun e W' =>
      (e = .returned (.bool true) ∧ J (pre ++ [x]) W' ∧ Below n₀ W W') ∨ (e = .returned (.bool false) ∧ Jx (pre ++ [x]) W'))
    (W : World) (hBs : W.cell? ⟨Bs, 0, none⟩ = some (.slice A xs.length c)) (hS : Sl u8 W n₀ A xs) (h0 : J [] W) :
    CallsIn F n Try.prog 37 #[.func (.yield l) #[] #[], .pointer (some ⟨Bs, 0, none⟩)] W fun e W' => (∃ v, e = .returned v) ∧
      ((∃ ys, ys = xs ∧ J ys W') ∨ (∃ pre, pre <+: xs ∧ Jx pre W')) := by
  refine callsIn_of_wp Try.func37 rfl h7 ?_ hro
  simp only [Try.ntmps37, List.size_toArray, List.length_cons, List.length_nil, Nat.reduceAdd, Nat.reduceSub, Array.replicate_succ, Array.replicate_zero, List.push_toArray, List.append_toArray, List.nil_append, List.cons_append]
  gi_wp2
  gi_loopw [7] (fun i wr => ∃ k : Nat, k ≤ xs.length ∧ i = .int .i64 k ∧ J (xs.take k) wr ∧ Below n₀ W wr)
    (fun i _ => xs.length - (intOf i).toNat)
  case atStart => exact ⟨0, Nat.zero_le _, rfl, h0, Below.refl _ _⟩
  case round =>
    obtain ⟨k, hk, rfl, hJs, hnx⟩ := hrel
    by_cases hlt : k < xs.length
    · obtain ⟨b, o, x, rfl, hb, hx, hcell⟩ := hS.byte hlt
      have hcx := (hnx.cell (p := ⟨b, o + k, none⟩) hb).trans hcell
      obtain ⟨fn, tmps, assign, body, hy, hR⟩ := hY _ x wr hJs (by rw [List.length_take]; omega)
      have hne : Hid (xs.take k ++ [x] = xs.take (k + 1)) := Lib.hid (take_succ hx).symm
      have hpre : Hid (xs.take (k + 1) <+: xs) := Lib.hid (List.take_prefix _ _)
      clear hcell hx
      gi_wp2
      refine hR.mono ?_
      rintro e W3 (⟨rfl, hJ3, hk3⟩ | ⟨rfl, hJx3⟩)
      · gi_wp2
        go_roundw
        case rel => exact ⟨k + 1, by omega, by go_num, by rw [← hne.out]; exact hJ3, hnx.trans hk3⟩
        case measure => simp [intOf]; omega
      · gi_wp2
        refine bodyPost_ret (results_none rfl _ _ _) rfl ?_
        exact ⟨⟨_, rfl⟩, .inr ⟨_, hpre.out, by rw [← hne.out]; exact hJx3⟩⟩
    · obtain rfl : k = xs.length := by omega
      have hall : Hid (xs.take xs.length = xs) := Lib.hid List.take_length
      gi_wp2
      go_end0
      exact ⟨⟨_, rfl⟩, .inl ⟨_, hall.out, hJs⟩⟩

theorem values_in (F : Fence) (n : Nat) (h5 : F.fn 28) (hro : F.round = none) (a : Option Addr) (len cap : Nat) (w : World) :
    CallsIn F n Try.prog 28 #[.slice a len cap] w fun e w' => e = .returned (.func (.func 37) #[] #[.pointer (some ⟨w.heap.size, 0, none⟩)]) ∧ w' = w.alloc (.cells #[.slice a len cap] 22) := by
  refine callsIn_of_wp Try.func28 rfl h5 ?_ hro
  simp only [Try.ntmps28, List.size_toArray, List.length_cons, List.length_nil, Nat.reduceAdd, Nat.reduceSub, Array.replicate_succ, Array.replicate_zero, List.push_toArray, List.append_toArray, List.nil_append, List.cons_append]
  gi_wp2
  go_ret
  exact ⟨rfl, rfl⟩

theorem values_stops (F : Fence) (n : Nat) (h7 : F.fn 37) (hro : F.round = none) (hn : 1 ≤ n) (Bs n₀ : Nat) (A : Option Addr) (c : Nat) (xs : List UInt8) (hlen : xs.length ≤ 140737488351232) (w : World) (hBs : Bs < w.heap.size) (hn₀ : n₀ ≤ w.heap.size)
    (hc : w.cell? ⟨Bs, 0, none⟩ = some (.slice A xs.length c)) (hS : Sl u8 w n₀ A xs) :
    SeqStopsK F n Try.prog 37 #[.pointer (some ⟨Bs, 0, none⟩)] (fun x : UInt8 => #[Value.int .u8 (x.toNat : Int)]) (Below n₀) (fun ys => ys = xs) (fun pre => pre <+: xs) xs.length w := fun l J Jx W hW _ _ hY h0 =>
  values1_in F n h7 hro hn l Bs n₀ A c xs hlen J Jx hY W ((hW.cell (p := ⟨Bs, 0, none⟩) hBs).trans hc) (hS.below (hW.mono hn₀)) h0

end Go.Proofs.Ytjpbeoiiplapaaa.C
