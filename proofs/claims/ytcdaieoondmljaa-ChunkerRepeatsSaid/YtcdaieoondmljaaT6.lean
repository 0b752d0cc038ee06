/- fragments: the iterator. -/
import Derived.Test.YtcdaieoondmljaaT5
namespace Go.Proofs.Ytcdaieoondmljaa.H
set_option linter.unusedVariables false
open Go Go.RowKit Go.Shelf Go.Proofs.Ytcdaieoondmljaa Go.Proofs.Ytcdaieoondmljaa.W Go.Proofs.Ytcdaieoondmljaa.M
attribute [local go_sem] Oper.semAt_some

def ence (p : Ex) : Array Value := #[.agg #[.int .i64 (p.1 : Int), .int .i64 (p.2 : Int)]]
def chV (le us mo wi : Nat) : Array Value := #[.int .i64 (le : Int), .int .i64 (us : Int), .int .i64 (mo : Int), .int .i64 (wi : Int)]
/-- What the fragments' iterator reads between two fragments. -/
def KeepF (n₀ g : Nat) (W W' : World) : Prop := (Below n₀ W W' ∧ W.heap.size ≤ W'.heap.size) ∧ W'.heap[g]? = W.heap[g]? ∧ W'.heap[g + 1]? = W.heap[g + 1]? ∧ W'.heap[g + 2]? = W.heap[g + 2]?
theorem KeepF.refl (n₀ g : Nat) (W : World) : KeepF n₀ g W W := ⟨⟨Below.refl _ _, Nat.le_refl _⟩, rfl, rfl, rfl⟩
theorem KeepF.trans {n₀ g : Nat} {A B C : World} (h : KeepF n₀ g A B) (k : KeepF n₀ g B C) : KeepF n₀ g A C := ⟨⟨h.1.1.trans k.1.1, Nat.le_trans h.1.2 k.1.2⟩, k.2.1.trans h.2.1, k.2.2.1.trans h.2.2.1, k.2.2.2.trans h.2.2.2⟩
theorem KeepF.below {n₀ g : Nat} {W W' : World} (h0 : n₀ ≤ W.heap.size) (hg : g + 2 < W.heap.size) (h : Below W.heap.size W W') : KeepF n₀ g W W' := ⟨⟨h.mono h0, h.size⟩, h.block _ (by omega), h.block _ (by omega), h.block _ (by omega)⟩

theorem grown_below {W W' : World} (h : Below W.heap.size W W') : W.grownBy W' none := ⟨h.os, h.tape, h.output, h.size, fun k hk _ => h.block k hk⟩

set_option maxRecDepth 100000 in
set_option maxHeartbeats 4000000 in
theorem frags1_in {le us mo wi : Nat} (hg : Fine le us mo wi) (n : Nat) (hn : 1 ≤ n) (l g n₀ : Nat) (A : Option Addr) (c N m : Nat) (P : List Nat) (hlP : P.length = m) (hm6 : m ≤ 65537) (hs : P.Pairwise (· < ·)) (hP6 : ∀ x ∈ P, x ≤ 65536) (hlen : N ≤ 65536) (J Jx : List Ex → World → Prop)
    (hY : ∀ pre (p : Ex) W, J pre W → pre ++ [p] <+: frg (nxt P le mo N) N 0 → YieldAt Fence.wide (n - 1) Try.prog l (ence p) W fun e W' =>
      (e = .returned (.bool true) ∧ J (pre ++ [p]) W' ∧ KeepF n₀ g W W') ∨ (e = .returned (.bool false) ∧ Jx (pre ++ [p]) W'))
    (W : World) (hA : AbidesFrom W.heap.size J) (hc : Blk W g 23 (chV le us mo wi)) (hi : Blk W (g + 1) 3 #[.int .i64 (N : Int)]) (hp : Blk W (g + 2) 51 #[.slice A m c]) (hS : Sl i64 W n₀ A P) (hn₀ : n₀ ≤ W.heap.size) (h0 : J [] W) :
    CallsIn Fence.wide n Try.prog 38 #[.func (.yield l) #[] #[], .pointer (some ⟨g + 1, 0, none⟩), .pointer (some ⟨g, 0, none⟩), .pointer (some ⟨g + 2, 0, none⟩)] W fun e W' => (∃ v, e = .returned v) ∧
      ((∃ ys, ys = frg (nxt P le mo N) N 0 ∧ J ys W') ∨ (∃ pre, pre <+: frg (nxt P le mo N) N 0 ∧ Jx pre W')) := by
  have HA := Lib.hid hA
  have HG := Lib.hid hg
  have HLP := Lib.hid hlP
  have HS := Lib.hid hs
  have HP6 := Lib.hid hP6
  have HF : Hid (∀ a, a < N → a < nxt P le mo N a) := Lib.hid fun a ha => nxt_gt (by have := hg.w1; have := hg.l1; omega) hg.m1 ha
  obtain ⟨f, hf⟩ : ∃ f, nxt P le mo N = f := ⟨_, rfl⟩
  have HFE := Lib.hid hf
  have hgz := hp.lt
  clear hlP hs hP6 hA hg
  rw [hf] at hY HF ⊢
  refine callsIn_of_wp Try.func38 rfl trivial ?_ rfl
  simp only [Try.ntmps38, List.size_toArray, List.length_cons, List.length_nil, Nat.reduceAdd, Nat.reduceSub, Array.replicate_succ, Array.replicate_zero, List.push_toArray, List.append_toArray, List.nil_append, List.cons_append]
  gi_wp2
  gi_loopw [5] (fun av wr => ∃ (a : Nat) (pre : List Ex), a ≤ N ∧ av = .int .i64 (a : Int) ∧ Hid (frg f N 0 = pre ++ frg f N a) ∧ J pre wr ∧ KeepF n₀ g W wr ∧ W.heap.size ≤ wr.heap.size)
    (fun av _ => N - (intOf av).toNat)
  case atStart => exact ⟨0, [], Nat.zero_le _, rfl, Lib.hid rfl, h0, KeepF.refl _ _ _, Nat.le_refl _⟩
  case round =>
    obtain ⟨wo, rfl⟩ : ∃ wo : World, wo = wr := ⟨_, rfl⟩
    obtain ⟨a, pre, ha, rfl, hsc, hJs, hnx, hzz⟩ := hrel
    have k1 : Blk wo g 23 (chV le us mo wi) := hnx.2.1.trans hc
    have k2 : Blk wo (g + 1) 3 #[.int .i64 (N : Int)] := hnx.2.2.1.trans hi
    have k3 : Blk wo (g + 2) 51 #[.slice A m c] := hnx.2.2.2.trans hp
    have c0 : wo.cell? ⟨g, 0, none⟩ = some (.int .i64 (le : Int)) := k1.cell 0
    have c1 : wo.cell? ⟨g, 1, none⟩ = some (.int .i64 (us : Int)) := k1.cell 1
    have c2 : wo.cell? ⟨g, 2, none⟩ = some (.int .i64 (mo : Int)) := k1.cell 2
    have c3 : wo.cell? ⟨g, 3, none⟩ = some (.int .i64 (wi : Int)) := k1.cell 3
    have c4 := k2.cell0
    have c5 := k3.cell0
    have hSw : Sl i64 wo wo.heap.size A P := (hS.below hnx.1.1).more (by omega)
    by_cases hlt : a < N
    · obtain ⟨r, hr⟩ : ∃ r, f a = r := ⟨_, rfl⟩
      have C : Hid (Calls Try.prog 32 #[.agg #[.int .i64 (le : Int), .int .i64 (us : Int), .int .i64 (mo : Int), .int .i64 (wi : Int)], .int .i64 (N : Int), .int .i64 (a : Int), .slice A m c] wo fun e w' => e = .returned (.int .i64 (r : Int)) ∧ Below wo.heap.size wo w') :=
        Lib.hid (end_ok HG.out N a hlen hlt A c m P HLP.out hm6 HS.out HP6.out r (by rw [HFE.out]; exact hr) wo _ hSw)
      have hra : a < r := by rw [← hr]; exact HF.out a hlt
      have hrN : r ≤ N := by rw [← hr, ← hf]; exact nxt_le
      have hgo : Hid (frg f N a = (a, r - a) :: frg f N r) := Lib.hid (by rw [frg_step HF.out hlt, hr])
      obtain ⟨d, hd⟩ : ∃ d, r - a = d := ⟨_, rfl⟩
      rw [hd] at hgo
      have hrd : (r : Int) - (a : Int) = (d : Int) := by omega
      have hlt' : (a : Int) < (N : Int) := by omega
      have hY0 : Hid (∀ W', J pre W' → YieldAt Fence.wide (n - 1) Try.prog l #[.agg #[.int .i64 (a : Int), .int .i64 (d : Int)]] W' fun e W'' =>
          (e = .returned (.bool true) ∧ J (pre ++ [(a, d)]) W'' ∧ KeepF n₀ g W' W'') ∨ (e = .returned (.bool false) ∧ Jx (pre ++ [(a, d)]) W'')) :=
        Lib.hid fun W' hJ' => hY pre (a, d) W' hJ' ⟨frg f N r, by rw [hsc.out, hgo.out]; simp⟩
      clear hr hd
      gi_wp2_with (refine ⟨trivial, ?_⟩; gi_at_call 32; refine (callsIn_wide.2 C.out).mono ?_; rintro e w1 ⟨rfl, hb1⟩; have hJ1 := HA.out _ _ _ none hJs (grown_below hb1) (fun r e => by cases e); obtain ⟨fn, tmps, assign, body, hy, hR⟩ := hY0.out _ hJ1; have hn1 := hnx.trans (KeepF.below (g := g) (by omega) (by omega) hb1); have hz1 := hb1.size)
      refine hR.mono ?_
      rintro e W3 (⟨rfl, hJ3, hk3⟩ | ⟨rfl, hJx3⟩)
      · gi_wp2
        go_roundw
        case rel => exact ⟨r, pre ++ [(a, d)], hrN, rfl, Lib.hid (by rw [hsc.out, hgo.out]; simp), hJ3, hn1.trans hk3, by have := hk3.1.2; omega⟩
        case measure => simp [intOf]; omega
      · gi_wp2
        refine bodyPost_ret (results_none rfl _ _ _) rfl ?_
        exact ⟨⟨_, rfl⟩, .inr ⟨_, ⟨frg f N r, by rw [hsc.out, hgo.out]; simp⟩, hJx3⟩⟩
    · obtain rfl : a = N := by omega
      have hall : Hid (pre = frg f a 0) := Lib.hid (by rw [hsc.out, frg_end (Nat.le_refl _), List.append_nil])
      gi_wp2
      go_end0
      exact ⟨⟨_, rfl⟩, .inl ⟨_, hall.out, hJs⟩⟩
end Go.Proofs.Ytcdaieoondmljaa.H
