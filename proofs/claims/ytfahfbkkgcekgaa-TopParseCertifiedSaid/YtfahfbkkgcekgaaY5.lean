/- parse.choices: the iterator. -/
import Derived.Test.YtfahfbkkgcekgaaY4
namespace Go.Proofs.Ytfahfbkkgcekgaa.H
set_option linter.unusedVariables false
open Go Go.RowKit Go.Shelf Go.Proofs.Ytfahfbkkgcekgaa Go.Proofs.Ytfahfbkkgcekgaa.W Go.Proofs.Ytfahfbkkgcekgaa.M
attribute [local go_sem] Oper.semAt_some

def encT (t : Tok) : Array Value := #[tokV t]
/-- What the choices' iterator reads between two choices. -/
def KeepC (n₀ g : Nat) (W W' : World) : Prop := (Below n₀ W W' ∧ W.heap.size ≤ W'.heap.size) ∧ W'.heap[g]? = W.heap[g]? ∧ W'.heap[g + 1]? = W.heap[g + 1]?
theorem KeepC.refl (n₀ g : Nat) (W : World) : KeepC n₀ g W W := ⟨⟨Below.refl _ _, Nat.le_refl _⟩, rfl, rfl⟩
theorem KeepC.trans {n₀ g : Nat} {A B C : World} (h : KeepC n₀ g A B) (k : KeepC n₀ g B C) : KeepC n₀ g A C := ⟨⟨h.1.1.trans k.1.1, Nat.le_trans h.1.2 k.1.2⟩, k.2.1.trans h.2.1, k.2.2.trans h.2.2⟩
theorem KeepC.below {n₀ g : Nat} {W W' : World} (h0 : n₀ ≤ W.heap.size) (hg : g + 1 < W.heap.size) (h : Below W.heap.size W W') : KeepC n₀ g W W' := ⟨⟨h.mono h0, h.size⟩, h.block _ (by omega), h.block _ (by omega)⟩
theorem grown_below {W W' : World} (h : Below W.heap.size W W') : W.grownBy W' none := ⟨h.os, h.tape, h.output, h.size, fun k hk _ => h.block k hk⟩

set_option maxRecDepth 100000 in
set_option maxHeartbeats 4000000 in
theorem choices1_in (n : Nat) (hn : 1 ≤ n) (l g n₀ : Nat) (A : Option Addr) (c N a : Nat) (b : Bs) (hlb : b.length = N) (hN6 : N ≤ 65536) (ha : a < N) (J Jx : List Tok → World → Prop)
    (hY : ∀ pre (p : Tok) W, J pre W → pre ++ [p] <+: chs b a → YieldAt Fence.wide (n - 1) Try.prog l (encT p) W fun e W' =>
      (e = .returned (.bool true) ∧ J (pre ++ [p]) W' ∧ KeepC n₀ g W W') ∨ (e = .returned (.bool false) ∧ Jx (pre ++ [p]) W'))
    (W : World) (hA : AbidesFrom W.heap.size J) (hc : Blk W g 22 #[.slice A N c]) (hi : Blk W (g + 1) 3 #[.int .i64 (a : Int)]) (hS : Sl u8 W n₀ A b) (hn₀ : n₀ ≤ W.heap.size) (h0 : J [] W) :
    CallsIn Fence.wide n Try.prog 40 #[.func (.yield l) #[] #[], .pointer (some ⟨g, 0, none⟩), .pointer (some ⟨g + 1, 0, none⟩)] W fun e W' => (∃ v, e = .returned v) ∧
      ((∃ ys, ys = chs b a ∧ J ys W') ∨ (∃ pre, pre <+: chs b a ∧ Jx pre W')) := by
  have HA := Lib.hid hA
  have HL := Lib.hid hlb
  have hgz := hi.lt
  obtain ⟨b0, q0, x, rfl, _, hx, hcx⟩ := hS.byte (j := a) (by rw [hlb]; exact ha)
  replace hcx : W.cell? ⟨b0, q0 + a, none⟩ = some (.int .u8 (x.toNat : Int)) := hcx
  have hD0 : Hid (chs b a = lit x :: chD b a (min a 4096) 1 2) := Lib.hid (by unfold chs; rw [List.getD_eq_getElem?_getD, hx]; rfl)
  have hY0 : Hid (∀ pre (p : Tok) r W', J pre W' → chs b a = pre ++ p :: r → YieldAt Fence.wide (n - 1) Try.prog l (encT p) W' fun e W'' =>
      (e = .returned (.bool true) ∧ J (pre ++ [p]) W'' ∧ KeepC n₀ g W' W'') ∨ (e = .returned (.bool false) ∧ Jx (pre ++ [p]) W'')) :=
    Lib.hid fun pre p r W' hJ' he => hY pre p W' hJ' ⟨r, by rw [he]; simp⟩
  have hYl : Hid (YieldAt Fence.wide (n - 1) Try.prog l #[.agg #[.int .i64 0, .int .i64 0, .int .u8 (x.toNat : Int)]] W fun e W' =>
      (e = .returned (.bool true) ∧ J [lit x] W' ∧ KeepC n₀ g W W') ∨ (e = .returned (.bool false) ∧ Jx [lit x] W')) :=
    Lib.hid (hY0.out [] (lit x) _ W h0 hD0.out)
  have hYc : Hid (∀ pre (k d : Nat) r W', J pre W' → chs b a = pre ++ copy k d :: r → YieldAt Fence.wide (n - 1) Try.prog l #[.agg #[.int .i64 (k : Int), .int .i64 (d : Int), .int .u8 0]] W' fun e W'' =>
      (e = .returned (.bool true) ∧ J (pre ++ [copy k d]) W'' ∧ KeepC n₀ g W' W'') ∨ (e = .returned (.bool false) ∧ Jx (pre ++ [copy k d]) W'')) :=
    Lib.hid fun pre k d r W' hJ' he => hY0.out pre (copy k d) r W' hJ' he
  have c0 := hc.cell0
  have c1 := hi.cell0
  clear hlb hA hY hx hY0
  refine callsIn_of_wp Try.func40 rfl trivial ?_ rfl
  simp only [Try.ntmps40, List.size_toArray, List.length_cons, List.length_nil, Nat.reduceAdd, Nat.reduceSub, Array.replicate_succ, Array.replicate_zero, List.push_toArray, List.append_toArray, List.nil_append, List.cons_append]
  obtain ⟨fn, tmps, assign, body, hy, hR⟩ := hYl.out
  gi_wp2
  refine hR.mono ?_
  rintro e W1 (⟨rfl, hJ1, hk1⟩ | ⟨rfl, hJx1⟩)
  · clear hR hy
    gi_wp2
    have hz1 := hk1.1.2
    obtain ⟨M, hM⟩ : ∃ M, min a 4096 = M := ⟨_, rfl⟩
    rw [hM] at hD0
    have HM := Lib.hid hM
    clear hM
    gi_loopw [4, 5] (fun nv dv wr => ∃ (k d : Nat) (pre : List Tok), 2 ≤ k ∧ k ≤ 256 ∧ 1 ≤ d ∧ d ≤ M + 1 ∧ nv = .int .i64 (k : Int) ∧ dv = .int .i64 (d : Int) ∧ Hid (chs b a = pre ++ chD b a (M + 1 - d) d k) ∧ J pre wr ∧ KeepC n₀ g W wr ∧ W.heap.size ≤ wr.heap.size)
      (fun _ dv _ => M + 1 - (intOf dv).toNat)
    case atStart => exact ⟨2, 1, [lit x], by omega, by omega, by omega, by omega, rfl, rfl, Lib.hid (by rw [hD0.out, Nat.add_sub_cancel]; rfl), hJ1, hk1, hz1⟩
    case round =>
      obtain ⟨wo, rfl⟩ : ∃ wo : World, wo = wr := ⟨_, rfl⟩
      obtain ⟨k, d, pre, hk2, hk3, hd1, hd2, rfl, rfl, hsc, hJs, hnx, hzz⟩ := hrel
      have k1 : Blk wo g 22 #[.slice (some ⟨b0, q0, none⟩) N c] := hnx.2.1.trans hc
      have k2 : Blk wo (g + 1) 3 #[.int .i64 (a : Int)] := hnx.2.2.trans hi
      have e0 := k1.cell0
      have e1 := k2.cell0
      have hMa : M = a ∧ a ≤ 4096 ∨ M = 4096 ∧ 4096 < a := by have := HM.out; omega
      by_cases hlt : d ≤ M
      · obtain ⟨m, hm⟩ : ∃ m, com b a d = m := ⟨_, rfl⟩
        have hm5 : m ≤ 255 := by rw [← hm]; exact (com_spec (by rw [HL.out]; omega)).1
        have C : Hid (Calls Try.prog 41 #[.slice (some ⟨b0, q0, none⟩) N c, .int .i64 (a : Int), .int .i64 (d : Int)] wo fun e w' => e = .returned (.int .i64 (m : Int)) ∧ Below wo.heap.size wo w' ∧ wo.heap.size ≤ w'.heap.size) :=
          Lib.hid (common_ok b N HL.out hN6 _ c a d hd1 (by omega) ha m hm wo _ (hS.below hnx.1.1))
        have hgo : Hid (chD b a (M + 1 - d) d k = cps k m d ++ chD b a (M - d) (d + 1) (max k (m + 1))) := Lib.hid (by
          rw [show M + 1 - d = (M - d) + 1 by omega, chD, hm])
        obtain ⟨S, hS'⟩ : ∃ S, chD b a (M - d) (d + 1) (max k (m + 1)) = S := ⟨_, rfl⟩
        have HSS := Lib.hid hS'
        rw [hS'] at hgo
        clear hm hS'
        gi_wp2_with (refine ⟨trivial, ?_⟩; gi_at_call 41; refine (callsIn_wide.2 C.out).mono ?_; rintro e w1 ⟨rfl, hb1, hz2⟩; have hJ2 := HA.out _ _ _ none hJs (grown_below hb1) (fun r e => by cases e); have hn1 := hnx.trans (KeepC.below (g := g) (by omega) (by omega) hb1))
        gi_loopw [4] (fun nv wi => ∃ (j : Nat) (pr : List Tok), 2 ≤ j ∧ k ≤ j ∧ j ≤ max k (m + 1) ∧ nv = .int .i64 (j : Int) ∧ Hid (chs b a = pr ++ (cps j m d ++ S)) ∧ J pr wi ∧ KeepC n₀ g W wi ∧ W.heap.size ≤ wi.heap.size)
          (fun nv _ => 256 - (intOf nv).toNat)
        case atStart => exact ⟨k, pre, hk2, Nat.le_refl _, Nat.le_max_left _ _, rfl, Lib.hid (by rw [hsc.out, hgo.out]), hJ2, hn1, by omega⟩
        case round =>
          obtain ⟨wj, rfl⟩ : ∃ wj : World, wj = wr := ⟨_, rfl⟩
          obtain ⟨j, pr, hj2, hkj, hjm, rfl, hsj, hJj, hnj, hzj⟩ := hrel
          by_cases hlj : j ≤ m
          · have hsj' : Hid (chs b a = pr ++ copy j d :: (cps (j + 1) m d ++ S)) := Lib.hid (by rw [hsj.out, cps_cons hlj]; rfl)
            obtain ⟨fn, tmps, assign, body, hy, hR⟩ := hYc.out pr j d _ wj hJj hsj'.out
            gi_wp2
            refine hR.mono ?_
            rintro e W3 (⟨rfl, hJ3, hk3'⟩ | ⟨rfl, hJx3⟩)
            · clear hR hy
              gi_wp2
              go_roundw
              case rel => exact ⟨j + 1, pr ++ [copy j d], by omega, by omega, by omega, by go_num, Lib.hid (by rw [hsj'.out]; simp), hJ3, hnj.trans hk3', by have := hk3'.1.2; omega⟩
              case measure => simp [intOf]; omega
            · gi_wp2
              refine bodyPost_ret (results_none rfl _ _ _) rfl ?_
              exact ⟨⟨_, rfl⟩, .inr ⟨_, ⟨cps (j + 1) m d ++ S, by rw [hsj'.out]; simp⟩, hJx3⟩⟩
          · have hje : j = max k (m + 1) := by omega
            have hsn : Hid (chs b a = pr ++ chD b a (M + 1 - (d + 1)) (d + 1) j) := Lib.hid (by rw [hsj.out, cps_nil (by omega), List.nil_append, ← HSS.out, hje, show M + 1 - (d + 1) = M - d by omega])
            gi_wp2
            go_roundw
            case rel => exact ⟨j, d + 1, pr, hj2, by omega, by omega, by omega, rfl, by go_num, hsn, hJj, hnj, hzj⟩
            case measure => simp [intOf]; omega
      · have hall : Hid (pre = chs b a) := Lib.hid (by rw [hsc.out, show M + 1 - d = 0 by omega]; show pre = pre ++ []; simp)
        gi_wp2
        go_end0
        exact ⟨⟨_, rfl⟩, .inl ⟨_, hall.out, hJs⟩⟩
  · gi_wp2
    refine bodyPost_ret (results_none rfl _ _ _) rfl ?_
    exact ⟨⟨_, rfl⟩, .inr ⟨_, ⟨_, by rw [hD0.out]; rfl⟩, hJx1⟩⟩
end Go.Proofs.Ytfahfbkkgcekgaa.H
