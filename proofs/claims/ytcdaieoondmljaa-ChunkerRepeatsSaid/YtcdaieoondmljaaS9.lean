/- windows: the iterator (chapter 05's text). -/
import Derived.RangeFuncNested
import Derived.RangeFuncBound
import Derived.RangeFuncCalls
import Derived.RangeFuncLeaves
import Derived.RangeFuncBox
import Derived.RangeFuncWrites
import Derived.Shelf.Abstract
import Derived.Shelf.RegionOpen
import Derived.OwnWalkIn
import Derived.TacticsInMore
import Derived.LoopNIn
import Derived.LoopIn
import Derived.Test.YtcdaieoondmljaaS2
import Derived.Test.YtcdaieoondmljaaApBox
import Derived.Test.YtcdaieoondmljaaM05P
namespace Go.Proofs.Ytcdaieoondmljaa.H
set_option linter.unusedVariables false
open Go Go.RowKit Go.Shelf Go.Proofs.Ytcdaieoondmljaa Go.Proofs.Ytcdaieoondmljaa.W Go.Proofs.Ytcdaieoondmljaa.M
attribute [local go_sem] Oper.semAt_some

def encp (p : Pr) : Array Value := #[.int .i64 (p.1 : Int), .int .u32 (p.2.toNat : Int)]
/-- What the windows' iterator reads between two windows. -/
def KeepW (n₀ Bs' : Nat) (W W' : World) : Prop := Below n₀ W W' ∧ W'.heap[Bs']? = W.heap[Bs']? ∧ KeepBox 3 W W'
theorem KeepW.refl (n₀ Bs' : Nat) (W : World) : KeepW n₀ Bs' W W := ⟨Below.refl _ _, rfl, KeepBox.refl _ _⟩
theorem KeepW.trans {n₀ Bs' : Nat} {A B C : World} (h : KeepW n₀ Bs' A B) (k : KeepW n₀ Bs' B C) : KeepW n₀ Bs' A C := ⟨h.1.trans k.1, k.2.1.trans h.2.1, h.2.2.trans k.2.2⟩
theorem KeepW.cell {n₀ Bs' : Nat} {A B : World} (h : KeepW n₀ Bs' A B) (i : Nat) : B.cell? ⟨Bs', i, none⟩ = A.cell? ⟨Bs', i, none⟩ := by
  simp only [World.cell?, h.2.1]
theorem KeepW.drewN (n₀ Bs' : Nat) (W : World) (m : Nat) : KeepW n₀ Bs' W (W.drewN m) := ⟨below_drewN (Below.refl _ _) m, rfl, fun _ _ h => h⟩
theorem KeepW.alloc (n₀ Bs' : Nat) (W : World) (hB : Bs' < W.heap.size) (h0 : n₀ ≤ W.heap.size) (o : Obj) : KeepW n₀ Bs' W (W.alloc o) := ⟨(Below.refl _ _).alloc h0 o, Below.heap_alloc _ _ _ hB, KeepBox.alloc _ _ _⟩
theorem grown_drewN (W : World) (m : Nat) : W.grownBy (W.drewN m) none := ⟨rfl, rfl, rfl, Nat.le_refl _, fun _ _ _ => rfl⟩

set_option maxRecDepth 100000 in
set_option maxHeartbeats 4000000 in
theorem windows1_in (n : Nat) (hn : 1 ≤ n) (l Bw Bs' n₀ : Nat) (A : Option Addr) (c N k : Nat) (b : Bs) (hlb : b.length = N) (hlen : N ≤ 65536) (hk1 : 1 ≤ k) (hk2 : k ≤ 64) (J Jx : List Pr → World → Prop)
    (hY : ∀ pre (p : Pr) W, J pre W → pre ++ [p] <+: prs b k → YieldAt Fence.wide (n - 1) Try.prog l (encp p) W fun e W' =>
      (e = .returned (.bool true) ∧ J (pre ++ [p]) W' ∧ KeepW n₀ Bs' W W') ∨ (e = .returned (.bool false) ∧ Jx (pre ++ [p]) W'))
    (W : World) (hA : AbidesFrom W.heap.size J) (hBw : Boxed W Bw 3 (.int .i64 (k : Int))) (hBs : W.cell? ⟨Bs', 0, none⟩ = some (.slice A N c)) (hS : Sl u8 W n₀ A b) (hn₀ : n₀ ≤ W.heap.size) (h0 : J [] W) :
    CallsIn Fence.wide n Try.prog 44 #[.func (.yield l) #[] #[], .pointer (some ⟨Bw, 0, none⟩), .pointer (some ⟨Bs', 0, none⟩)] W fun e W' => (∃ v, e = .returned v) ∧
      ((∃ ys, ys = prs b k ∧ J ys W') ∨ (∃ pre, pre <+: prs b k ∧ Jx pre W')) := by
  have HL := Lib.hid hlb
  have hBsz : Bs' < W.heap.size := World.block_lt_of_cell? W _ hBs
  have hcw := hBw.cell
  have HA := Lib.hid hA
  clear hlb hA
  refine callsIn_of_wp Try.func44 rfl trivial ?_ rfl
  simp only [Try.ntmps44, List.size_toArray, List.length_cons, List.length_nil, Nat.reduceAdd, Nat.reduceSub, Array.replicate_succ, Array.replicate_zero, List.push_toArray, List.append_toArray, List.nil_append, List.cons_append]
  gi_wp2_with (refine ⟨trivial, ?_⟩; gi_at_call 45; refine (callsIn_wide.2 (roller_ok (k : Int) _)).mono ?_; rintro e w1 ⟨rfl, rfl⟩)
  have hG1 : Boxed (W.alloc (.cells #[.int .i64 (k : Int)] 3)) W.heap.size 3 (.int .i64 (k : Int)) := Boxed.new _ _ _
  have hK1 := KeepW.alloc n₀ Bs' W hBsz hn₀ (.cells #[.int .i64 (k : Int)] 3)
  have hB1 : Boxed (W.alloc (.cells #[.int .i64 (k : Int)] 3)) Bw 3 (.int .i64 (k : Int)) := hBw.alloc _
  have hJ1 : J [] (W.alloc (.cells #[.int .i64 (k : Int)] 3)) := HA.out _ _ _ none h0 (World.grownBy_alloc W _ none) (fun r e => by cases e)
  obtain ⟨g, hg⟩ : ∃ g, g = W.heap.size := ⟨_, rfl⟩
  obtain ⟨W1, hW1⟩ : ∃ W1, W1 = W.alloc (.cells #[.int .i64 (k : Int)] 3) := ⟨_, rfl⟩
  have hz1 : W.heap.size ≤ W1.heap.size := by rw [hW1]; simp
  have hc1 : W1.cell? ⟨Bs', 0, none⟩ = some (.slice A N c) := by rw [hW1]; exact (hK1.cell 0).trans hBs
  have hS1 : Sl u8 W1 n₀ A b := by rw [hW1]; exact hS.below hK1.1
  rw [← hW1] at hG1 hB1 hJ1 ⊢
  rw [← hg] at hG1 ⊢
  clear hK1 hW1 hg hBw hBs hS h0 hcw hn₀ hBsz
  gi_loopw [5, 13] (fun hv v wr => ∃ (i : Nat) (pre : List Pr), i ≤ N ∧ v = .int .i64 i ∧ hv = .int .u32 ((hsh (win b k i)).toNat : Int) ∧ Hid (prs b k = pre ++ pf b k (i + 1)) ∧ J pre wr ∧ KeepW n₀ Bs' W1 wr)
    (fun _ v _ => N - (intOf v).toNat)
  case atStart => exact ⟨0, [], Nat.zero_le _, rfl, by rw [win_zero]; rfl, Lib.hid (prs_one hk1), hJ1, KeepW.refl _ _ _⟩
  case round =>
    obtain ⟨wo, rfl⟩ : ∃ wo : World, wo = wr := ⟨_, rfl⟩
    obtain ⟨i, pre, hi, rfl, rfl, hsc, hJs, hnx⟩ := hrel
    have hcb := (hnx.cell 0).trans hc1
    have hcw := (hnx.2.2 _ _ hB1).cell
    have hcg := (hnx.2.2 _ _ hG1).cell
    by_cases hlt : i < N
    · have hSw := hS1.below hnx.1
      obtain ⟨bl, o, hAe, hbl, hcs⟩ := hSw.open_ (by rw [HL.out]; omega)
      obtain ⟨x, hx⟩ : ∃ x, b[i]? = some x := ⟨_, List.getElem?_eq_getElem (by rw [HL.out]; exact hlt)⟩
      obtain ⟨y, hy⟩ : ∃ y, b[i - k]? = some y := ⟨_, List.getElem?_eq_getElem (by rw [HL.out]; omega)⟩
      have hcx : wo.cell? ⟨bl, o + i, none⟩ = some (.int .u8 (x.toNat : Int)) := hcs i _ hx
      have hcy : wo.cell? ⟨bl, o + (i - k), none⟩ = some (.int .u8 (y.toNat : Int)) := hcs (i - k) _ hy
      have HX := Lib.hid hx
      have HY := Lib.hid hy
      subst hAe
      clear hcs hx hy
      by_cases hf : k ≤ i
      · obtain ⟨p, hp⟩ : ∃ p, i - k = p := ⟨_, rfl⟩
        rw [hp] at hcy
        have hpi : (i : Int) - (k : Int) = (p : Int) := by omega
        have hff : decide ((k : Int) ≤ (i : Int)) = true := by simp; omega
        have C : Hid (∀ W', W'.cell? ⟨g, 0, none⟩ = some (.int .i64 (k : Int)) → Calls Try.prog 47 #[.int .u32 ((hsh (win b k i)).toNat : Int), .int .u8 (x.toNat : Int), .bool true, .int .u8 (y.toNat : Int), .pointer (some ⟨g, 0, none⟩)] W' fun e w' => e = .returned (.int .u32 ((hsh (win b k (i + 1))).toNat : Int)) ∧ ∃ m, w' = W'.drewN m) := Lib.hid fun W' hW' => roll_full _ x y g k (by omega) _ (hash_full HX.out hf hk1 HY.out) W' hW'
        have hkk : (k : Int) ≤ (i : Int) + 1 := by omega
        have hgo := Lib.hid (pf_hit (b := b) (k := k) (j := i + 1) (by omega) (by rw [HL.out]; omega))
        obtain ⟨h', hh'⟩ : ∃ h', h' = hsh (win b k (i + 1)) := ⟨_, rfl⟩
        have HH := Lib.hid hh'
        rw [← hh'] at C hgo
        clear hh'
        have hY0 : Hid (∀ W', J pre W' → YieldAt Fence.wide (n - 1) Try.prog l #[.int .i64 ((i : Int) + 1), .int .u32 (h'.toNat : Int)] W' fun e W'' =>
            (e = .returned (.bool true) ∧ J (pre ++ [(i + 1, h')]) W'' ∧ KeepW n₀ Bs' W' W'') ∨ (e = .returned (.bool false) ∧ Jx (pre ++ [(i + 1, h')]) W'')) :=
          Lib.hid fun W' hJ' => hY pre (i + 1, h') W' hJ' ⟨pf b k (i + 1 + 1), by rw [hsc.out, hgo.out]; simp⟩
        rcases Nat.eq_zero_or_pos p with hp0 | hp0
        · subst hp0
          rw [Nat.add_zero] at hcy
          gi_wp2_with (refine ⟨trivial, ?_⟩; gi_at_call 47; refine (callsIn_wide.2 (C.out _ hcg)).mono ?_; rintro e w1 ⟨rfl, m, rfl⟩; have hJm := HA.out _ _ _ none hJs (grown_drewN wo m) (fun r e => by cases e); have hnm := hnx.trans (KeepW.drewN n₀ Bs' wo m); have hcwm := hcw; obtain ⟨fn, tmps, assign, body, hy, hR⟩ := hY0.out _ hJm)
          refine hR.mono ?_
          rintro e W3 (⟨rfl, hJ3, hk3⟩ | ⟨rfl, hJx3⟩)
          · gi_wp2
            go_roundw
            case rel => exact ⟨i + 1, pre ++ [(i + 1, h')], by omega, by go_num, by rw [← HH.out], Lib.hid (by rw [hsc.out, hgo.out]; simp), hJ3, hnm.trans hk3⟩
            case measure => simp [intOf]; omega
          · gi_wp2
            refine bodyPost_ret (results_none rfl _ _ _) rfl ?_
            exact ⟨⟨_, rfl⟩, .inr ⟨_, ⟨pf b k (i + 1 + 1), by rw [hsc.out, hgo.out]; simp⟩, hJx3⟩⟩
        · gi_wp2_with (refine ⟨trivial, ?_⟩; gi_at_call 47; refine (callsIn_wide.2 (C.out _ hcg)).mono ?_; rintro e w1 ⟨rfl, m, rfl⟩; have hJm := HA.out _ _ _ none hJs (grown_drewN wo m) (fun r e => by cases e); have hnm := hnx.trans (KeepW.drewN n₀ Bs' wo m); have hcwm := hcw; obtain ⟨fn, tmps, assign, body, hy, hR⟩ := hY0.out _ hJm)
          refine hR.mono ?_
          rintro e W3 (⟨rfl, hJ3, hk3⟩ | ⟨rfl, hJx3⟩)
          · gi_wp2
            go_roundw
            case rel => exact ⟨i + 1, pre ++ [(i + 1, h')], by omega, by go_num, by rw [← HH.out], Lib.hid (by rw [hsc.out, hgo.out]; simp), hJ3, hnm.trans hk3⟩
            case measure => simp [intOf]; omega
          · gi_wp2
            refine bodyPost_ret (results_none rfl _ _ _) rfl ?_
            exact ⟨⟨_, rfl⟩, .inr ⟨_, ⟨pf b k (i + 1 + 1), by rw [hsc.out, hgo.out]; simp⟩, hJx3⟩⟩
      · have hp : i - k = 0 := by omega
        rw [hp, Nat.add_zero] at hcy
        have hff : decide ((k : Int) ≤ (i : Int)) = false := by simp; omega
        have hpn : ¬ (0 : Int) < (i : Int) - (k : Int) := by omega
        have hpn2 : ¬ (k : Int) < (i : Int) := by omega
        have hpn3 : ¬ k < i := by omega
        have hp4 : (i : Int) - (k : Int) < 0 := by omega
        have C : Hid (∀ W', Calls Try.prog 47 #[.int .u32 ((hsh (win b k i)).toNat : Int), .int .u8 (x.toNat : Int), .bool false, .int .u8 (y.toNat : Int), .pointer (some ⟨g, 0, none⟩)] W' fun e w' => e = .returned (.int .u32 ((hsh (win b k (i + 1))).toNat : Int)) ∧ w' = W') := Lib.hid fun W' => roll_not _ x y g _ (hash_short HX.out (by omega)) W'
        obtain ⟨h', hh'⟩ : ∃ h', h' = hsh (win b k (i + 1)) := ⟨_, rfl⟩
        have HH := Lib.hid hh'
        rw [← hh'] at C
        clear hh' hp
        by_cases hkk : k ≤ i + 1
        · have hgo := Lib.hid (pf_hit (b := b) (k := k) (j := i + 1) (by omega) (by rw [HL.out]; omega))
          rw [← HH.out] at hgo
          have hY0 : Hid (∀ W', J pre W' → YieldAt Fence.wide (n - 1) Try.prog l #[.int .i64 ((i : Int) + 1), .int .u32 (h'.toNat : Int)] W' fun e W'' =>
              (e = .returned (.bool true) ∧ J (pre ++ [(i + 1, h')]) W'' ∧ KeepW n₀ Bs' W' W'') ∨ (e = .returned (.bool false) ∧ Jx (pre ++ [(i + 1, h')]) W'')) :=
            Lib.hid fun W' hJ' => hY pre (i + 1, h') W' hJ' ⟨pf b k (i + 1 + 1), by rw [hsc.out, hgo.out]; simp⟩
          have hkk : (k : Int) ≤ (i : Int) + 1 := by omega
          gi_wp2_with (refine ⟨trivial, ?_⟩; gi_at_call 47; refine (callsIn_wide.2 (C.out _)).mono ?_; rintro e w1 ⟨rfl, rfl⟩; obtain ⟨fn, tmps, assign, body, hy, hR⟩ := hY0.out _ hJs)
          refine hR.mono ?_
          rintro e W3 (⟨rfl, hJ3, hk3⟩ | ⟨rfl, hJx3⟩)
          · gi_wp2
            go_roundw
            case rel => exact ⟨i + 1, pre ++ [(i + 1, h')], by omega, by go_num, by rw [← HH.out], Lib.hid (by rw [hsc.out, hgo.out]; simp), hJ3, hnx.trans hk3⟩
            case measure => simp [intOf]; omega
          · gi_wp2
            refine bodyPost_ret (results_none rfl _ _ _) rfl ?_
            exact ⟨⟨_, rfl⟩, .inr ⟨_, ⟨pf b k (i + 1 + 1), by rw [hsc.out, hgo.out]; simp⟩, hJx3⟩⟩
        · have hgo := Lib.hid (pf_pass (b := b) (k := k) (j := i + 1) (by omega))
          have hkk : decide ((k : Int) ≤ (i : Int) + 1) = false := by simp; omega
          gi_wp2_with (refine ⟨trivial, ?_⟩; gi_at_call 47; refine (callsIn_wide.2 (C.out _)).mono ?_; rintro e w1 ⟨rfl, rfl⟩)
          refine ⟨fun _ h => (by cases h), ?_⟩
          gi_wp2
          go_roundw
          case rel => exact ⟨i + 1, pre, by omega, by go_num, by rw [← HH.out], Lib.hid (by rw [hsc.out, hgo.out]), hJs, hnx⟩
          case measure => simp [intOf]; omega
    · obtain rfl : i = N := by omega
      have hall : Hid (pre = prs b k) := Lib.hid (by rw [hsc.out, pf_end (by rw [HL.out]; omega), List.append_nil])
      gi_wp2
      go_end0
      exact ⟨⟨_, rfl⟩, .inl ⟨_, hall.out, hJs⟩⟩
end Go.Proofs.Ytcdaieoondmljaa.H
