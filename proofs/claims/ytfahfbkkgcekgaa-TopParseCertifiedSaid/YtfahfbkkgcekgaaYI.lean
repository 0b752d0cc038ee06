/- bits: the iterator of bits. -/
import Derived.Test.YtfahfbkkgcekgaaYH
namespace Go.Proofs.Ytfahfbkkgcekgaa.H
set_option linter.unusedVariables false
set_option linter.unusedSimpArgs false
open Go Go.RowKit Go.Shelf Go.Proofs.Ytfahfbkkgcekgaa Go.Proofs.Ytfahfbkkgcekgaa.W Go.Proofs.Ytfahfbkkgcekgaa.M
attribute [local go_sem] Oper.semAt_some

/-- What the bits' iterator reads between two bits. -/
def KeepP (n₀ g : Nat) (W W' : World) : Prop := (Below n₀ W W' ∧ W.heap.size ≤ W'.heap.size) ∧ W'.heap[g]? = W.heap[g]? ∧ W'.heap[g + 1]? = W.heap[g + 1]? ∧ W'.heap[g + 2]? = W.heap[g + 2]?
theorem KeepP.refl (n₀ g : Nat) (W : World) : KeepP n₀ g W W := ⟨⟨Below.refl _ _, Nat.le_refl _⟩, rfl, rfl, rfl⟩
theorem KeepP.trans {n₀ g : Nat} {A B C : World} (h : KeepP n₀ g A B) (k : KeepP n₀ g B C) : KeepP n₀ g A C := ⟨⟨h.1.1.trans k.1.1, Nat.le_trans h.1.2 k.1.2⟩, k.2.1.trans h.2.1, k.2.2.1.trans h.2.2.1, k.2.2.2.trans h.2.2.2⟩
theorem KeepP.below {n₀ g : Nat} {W W' : World} (h0 : n₀ ≤ W.heap.size) (hg : g + 2 < W.heap.size) (h : Below W.heap.size W W') : KeepP n₀ g W W' := ⟨⟨h.mono h0, h.size⟩, h.block _ (by omega), h.block _ (by omega), h.block _ (by omega)⟩
theorem bitsD_cons (D : Bs) : ∀ (c a : Nat), bitsD D a (c + 1) = bitD D a :: bitsD D (a + 1) c := fun c a => by
  unfold bitsD
  rw [List.range_succ_eq_map, List.map_cons, List.map_map, Nat.add_zero]
  congr 1
  refine List.map_congr_left fun i _ => ?_
  show bitD D (a + (i + 1)) = bitD D (a + 1 + i)
  rw [show a + (i + 1) = a + 1 + i by omega]

set_option maxRecDepth 100000 in
set_option maxHeartbeats 4000000 in
theorem places1_in (n : Nat) (hn : 1 ≤ n) (l g n₀ T : Nat) (A : Option Addr) (c L K a e : Nat) (D : Bs) (hD : D.length = L) (hK : K = 8 * L) (hL : L ≤ 65536) (hae : a ≤ e) (heK : e ≤ K) (hTn : T < n₀) (J Jx : List Bool → World → Prop)
    (hY : ∀ pre (p : Bool) W, J pre W → pre ++ [p] <+: bitsD D a (e - a) → YieldAt Fence.wide (n - 1) Try.prog l #[.bool p] W fun en W' =>
      (en = .returned (.bool true) ∧ J (pre ++ [p]) W' ∧ KeepP n₀ g W W') ∨ (en = .returned (.bool false) ∧ Jx (pre ++ [p]) W'))
    (W : World) (hA : AbidesFrom W.heap.size J) (hb0 : Blk W g 93 #[.pointer (some ⟨T, 0, none⟩)]) (hb1 : Blk W (g + 1) 3 #[.int .i64 (a : Int)]) (hb2 : Blk W (g + 2) 3 #[.int .i64 (e : Int)]) (hT : Blk W T 95 #[.slice A L c, .int .i64 (K : Int)]) (hS : Sl u8 W n₀ A D) (hn₀ : n₀ ≤ W.heap.size) (h0 : J [] W) :
    CallsIn Fence.wide n Try.prog 55 #[.func (.yield l) #[] #[], .pointer (some ⟨g + 1, 0, none⟩), .pointer (some ⟨g + 2, 0, none⟩), .pointer (some ⟨g, 0, none⟩)] W fun en W' => (∃ v, en = .returned v) ∧
      ((∃ ys, ys = bitsD D a (e - a) ∧ J ys W') ∨ (∃ pre, pre <+: bitsD D a (e - a) ∧ Jx pre W')) := by
  have HA := Lib.hid hA
  have hgz := hb2.lt
  have HD := Lib.hid hD
  have HKK := Lib.hid hK
  have hK6 : K ≤ 524288 := by omega
  have hYc : Hid (∀ pre (x : Bool) r W', J pre W' → bitsD D a (e - a) = pre ++ x :: r → YieldAt Fence.wide (n - 1) Try.prog l #[.bool x] W' fun en W'' =>
      (en = .returned (.bool true) ∧ J (pre ++ [x]) W'' ∧ KeepP n₀ g W' W'') ∨ (en = .returned (.bool false) ∧ Jx (pre ++ [x]) W'')) :=
    Lib.hid fun pre x r W' hJ' he => hY pre x W' hJ' ⟨r, by rw [he]; simp⟩
  have c1 := hb1.cell0
  clear hA hY hD hK
  refine callsIn_of_wp Try.func55 rfl trivial ?_ rfl
  simp only [Try.ntmps55, List.size_toArray, List.length_cons, List.length_nil, Nat.reduceAdd, Nat.reduceSub, Array.replicate_succ, Array.replicate_zero, List.push_toArray, List.append_toArray, List.nil_append, List.cons_append]
  gi_wp2
  gi_loopw [5] (fun iv wr => ∃ (i : Nat) (pre : List Bool), a ≤ i ∧ i ≤ e ∧ iv = .int .i64 (i : Int) ∧ Hid (bitsD D a (e - a) = pre ++ bitsD D i (e - i)) ∧ J pre wr ∧ KeepP n₀ g W wr ∧ W.heap.size ≤ wr.heap.size)
    (fun iv _ => e - (intOf iv).toNat)
  case atStart => exact ⟨a, [], Nat.le_refl _, hae, rfl, Lib.hid rfl, h0, KeepP.refl _ _ _, Nat.le_refl _⟩
  case round =>
    obtain ⟨wo, rfl⟩ : ∃ wo : World, wo = wr := ⟨_, rfl⟩
    obtain ⟨i, pre, hi1, hi2, rfl, hsc, hJs, hnx, hzz⟩ := hrel
    have k0 : Blk wo g 93 #[.pointer (some ⟨T, 0, none⟩)] := hnx.2.1.trans hb0
    have k2 : Blk wo (g + 2) 3 #[.int .i64 (e : Int)] := hnx.2.2.2.trans hb2
    have kT : Blk wo T 95 #[.slice A L c, .int .i64 (K : Int)] := hT.below hnx.1.1 hTn
    have e0 := k0.cell0
    have e2 := k2.cell0
    by_cases hlt : i < e
    · have hlt' : (i : Int) < (e : Int) := by omega
      obtain ⟨x, hx⟩ : ∃ x, bitD D i = x := ⟨_, rfl⟩
      have hgo : Hid (bitsD D a (e - a) = pre ++ x :: bitsD D (i + 1) (e - (i + 1))) := Lib.hid (by
        rw [hsc.out, show e - i = (e - (i + 1)) + 1 by omega, bitsD_cons, hx])
      have C : Hid (Calls Try.prog 56 #[.pointer (some ⟨T, 0, none⟩), .int .i64 (i : Int)] wo fun en w' => en = .returned (.bool x) ∧ Below wo.heap.size wo w') :=
        Lib.hid (one_ok T A L c K i D HD.out HKK.out hL (by omega) x hx wo kT ((hS.below hnx.1.1).more (by omega)))
      clear hx
      gi_wp2_with (refine ⟨trivial, ?_⟩; gi_at_call 56; refine (callsIn_wide.2 C.out).mono ?_; rintro en w1 ⟨rfl, hb1'⟩; have hJ2 := HA.out _ _ _ none hJs (grown_below hb1') (fun r e => by cases e); have hn1 := hnx.trans (KeepP.below (g := g) (by omega) (by omega) hb1'); have hz1 := hb1'.size; obtain ⟨fn, tmps, assign, body, hy, hR⟩ := hYc.out pre x _ w1 hJ2 hgo.out)
      refine hR.mono ?_
      rintro en W3 (⟨rfl, hJ3, hk3⟩ | ⟨rfl, hJx3⟩)
      · clear hR hy
        gi_wp2
        go_roundw
        case rel => exact ⟨i + 1, pre ++ [x], by omega, by omega, by go_num, Lib.hid (by rw [hgo.out]; simp), hJ3, hn1.trans hk3, by have := hk3.1.2; omega⟩
        case measure => simp [intOf]; omega
      · clear hR hy
        gi_wp2
        go_end0
        exact ⟨⟨_, rfl⟩, .inr ⟨_, ⟨bitsD D (i + 1) (e - (i + 1)), by rw [hgo.out]; simp⟩, hJx3⟩⟩
    · have hlt' : ¬ (i : Int) < (e : Int) := by omega
      obtain rfl : i = e := by omega
      have hall : Hid (pre = bitsD D a (i - a)) := Lib.hid (by rw [hsc.out, Nat.sub_self]; show pre = pre ++ []; simp)
      gi_wp2
      refine ⟨trivial, ?_⟩
      gi_wp2
      refine ⟨(fun _ _ => trivial), ?_⟩
      gi_wp2
      go_end0
      exact ⟨⟨_, rfl⟩, .inl ⟨_, hall.out, hJs⟩⟩
end Go.Proofs.Ytfahfbkkgcekgaa.H
