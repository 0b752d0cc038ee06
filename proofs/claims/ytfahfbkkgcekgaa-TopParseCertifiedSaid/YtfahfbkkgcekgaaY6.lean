/- parse.Choices: slices.Collect of the choices. -/
import Derived.Test.YtfahfbkkgcekgaaY5
import Derived.Maps.AppendAt
namespace Go.Proofs.Ytfahfbkkgcekgaa.H
set_option linter.unusedVariables false
open Go Go.RowKit Go.Shelf Go.Proofs.Ytfahfbkkgcekgaa Go.Proofs.Ytfahfbkkgcekgaa.W Go.Proofs.Ytfahfbkkgcekgaa.M
attribute [local go_sem] Oper.semAt_some

theorem infoT : (Try.prog.info? 46).map (fun i => (i.zero, i.size, i.bytes)) = some (some (.agg #[.int .i64 0, .int .i64 0, .int .u8 0]), 3, 24) := by kernel_rfl
theorem chD_len (b : Bs) (a : Nat) (ha : a ≤ b.length) : ∀ r d n, n ≤ 256 → (chD b a r d n).length ≤ 256 - n
  | 0, _, _, _ => Nat.zero_le _
  | r + 1, d, n, h => by
    have hc := (com_spec (b := b) (a := a) (d := d) ha).1
    have ih := chD_len b a ha r (d + 1) (max n (com b a d + 1)) (by omega)
    unfold chD
    rw [List.length_append]
    have h1 : (cps n (com b a d) d).length = com b a d + 1 - n := by unfold cps; simp
    omega
theorem chs_len (b : Bs) (a : Nat) (ha : a ≤ b.length) : (chs b a).length ≤ 255 ∧ 1 ≤ (chs b a).length := by
  have := chD_len b a ha (min a 4096) 1 2 (by omega)
  unfold chs
  rw [List.length_cons]; omega

theorem choices_in (F : Fence) (n : Nat) (h5 : F.fn 27) (hro : F.round = none) (a : Option Addr) (len cap at' : Nat) (w : World) :
    CallsIn F n Try.prog 27 #[.slice a len cap, .int .i64 (at' : Int)] w fun e w' => e = .returned (.func (.func 40) #[] #[.pointer (some ⟨w.heap.size, 0, none⟩), .pointer (some ⟨w.heap.size + 1, 0, none⟩)]) ∧
      w' = (w.alloc (.cells #[.slice a len cap] 22)).alloc (.cells #[.int .i64 (at' : Int)] 3) := by
  refine callsIn_of_wp Try.func27 rfl h5 ?_ hro
  simp only [Try.ntmps27, List.size_toArray, List.length_cons, List.length_nil, Nat.reduceAdd, Nat.reduceSub, Array.replicate_succ, Array.replicate_zero, List.push_toArray, List.append_toArray, List.nil_append, List.cons_append]
  gi_wp2
  go_ret
  exact ⟨rfl, rfl⟩
theorem choices_any (a : Option Addr) (len cap at' : Nat) (w : World) :
    Calls Try.prog 27 #[.slice a len cap, .int .i64 (at' : Int)] w fun e w' => e = .returned (.func (.func 40) #[] #[.pointer (some ⟨w.heap.size, 0, none⟩), .pointer (some ⟨w.heap.size + 1, 0, none⟩)]) ∧
      w' = (w.alloc (.cells #[.slice a len cap] 22)).alloc (.cells #[.int .i64 (at' : Int)] 3) :=
  callsIn_wide.1 (choices_in Fence.wide 3 trivial rfl a len cap at' w)

theorem choices_stops (n : Nat) (hn : 1 ≤ n) (g n₀ : Nat) (A : Option Addr) (c N a : Nat) (b : Bs) (hlb : b.length = N) (hN6 : N ≤ 65536) (ha : a < N) (w : World) (hn₀ : n₀ ≤ w.heap.size)
    (hc : Blk w g 22 #[.slice A N c]) (hi : Blk w (g + 1) 3 #[.int .i64 (a : Int)]) (hS : Sl u8 w n₀ A b) :
    SeqStopsK Fence.wide n Try.prog 40 #[.pointer (some ⟨g, 0, none⟩), .pointer (some ⟨g + 1, 0, none⟩)] encT (KeepC n₀ g) (fun ys => ys = chs b a) (fun pre => pre <+: chs b a) (chs b a).length w := fun l J Jx W hW hA _ hY h0 => by
  have key := choices1_in n hn l g n₀ A c N a b hlb hN6 ha J Jx (fun pre p W1 hJ hp => hY pre p W1 hJ (by have := hp.length_le; simp at this; omega))
    W hA (hc.later hW) (hi.later hW) (hS.below (hW.mono hn₀)) (Nat.le_trans hn₀ hW.size) h0
  refine key.mono ?_
  rintro e W' ⟨he, (⟨ys, rfl, hj⟩ | ⟨pre, hp, hj⟩)⟩
  · exact ⟨he, .inl ⟨_, rfl, hj⟩⟩
  · exact ⟨he, .inr ⟨pre, hp, hj⟩⟩
theorem choices_stopsB (n : Nat) (hn : 1 ≤ n) (g n₀ : Nat) (hg : g + 1 < n₀) (A : Option Addr) (c N a : Nat) (b : Bs) (hlb : b.length = N) (hN6 : N ≤ 65536) (ha : a < N) (w : World) (hn₀ : n₀ ≤ w.heap.size)
    (hc : Blk w g 22 #[.slice A N c]) (hi : Blk w (g + 1) 3 #[.int .i64 (a : Int)]) (hS : Sl u8 w n₀ A b) :
    SeqStopsK Fence.wide n Try.prog 40 #[.pointer (some ⟨g, 0, none⟩), .pointer (some ⟨g + 1, 0, none⟩)] encT (Below n₀) (fun ys => ys = chs b a) (fun pre => pre <+: chs b a) (chs b a).length w := fun l J Jx W hW hA _ hY h0 => by
  have key := choices1_in n hn l g n₀ A c N a b hlb hN6 ha J Jx (fun pre p W1 hJ hp => by
      obtain ⟨fn, tmps, assign, body, hy, hR⟩ := hY pre p W1 hJ (by have := hp.length_le; simp at this; omega)
      refine ⟨fn, tmps, assign, body, hy, hR.mono ?_⟩
      rintro e W' (⟨he, hj, hk⟩ | ⟨he, hj⟩)
      · exact .inl ⟨he, hj, ⟨hk, hk.size⟩, hk.block _ (by omega), hk.block _ (by omega)⟩
      · exact .inr ⟨he, hj⟩)
    W hA (hc.later hW) (hi.later hW) (hS.below (hW.mono hn₀)) (Nat.le_trans hn₀ hW.size) h0
  refine key.mono ?_
  rintro e W' ⟨he, (⟨ys, rfl, hj⟩ | ⟨pre, hp, hj⟩)⟩
  · exact ⟨he, .inl ⟨_, rfl, hj⟩⟩
  · exact ⟨he, .inr ⟨pre, hp, hj⟩⟩

theorem blk_own {B : Nat} {t : TypeId} {cs : Array Value} {β : Type} : Own (fun (_ : β) W => Blk W B t cs) := by
  rintro s X Y row hv hg hrow
  refine Blk.grown hv hg (fun e' => ?_)
  obtain ⟨o, ho, hc⟩ := hrow B e'.symm
  rw [show X.heap[B]? = _ from hv] at ho; cases ho; cases hc
theorem three_news (W : World) (t : TypeId) (x y z : Value) : ∀ j u, [x, y, z][j]? = some u → (W.alloc (.cells #[x, y, z] t)).cell? ((⟨W.heap.size, 0, none⟩ : Addr).add j) = some u := fun j u hu => by
  have hb : Blk (W.alloc (.cells #[x, y, z] t)) W.heap.size t #[x, y, z] := Blk.new _ _ _
  match j, hu with
  | 0, hu =>
    have e : x = u := by simpa using hu
    rw [← e]; simp [Addr.add]
  | 1, hu =>
    have e : y = u := by simpa using hu
    rw [← e]; simp [Addr.add]
  | 2, hu =>
    have e : z = u := by simpa using hu
    rw [← e]; simp [Addr.add]
  | j + 3, hu => simp at hu
theorem three_one (x y : Int) (z : Int) : ∀ u ∈ [Value.int .i64 x, Value.int .i64 y, Value.int .u8 z], u.oneCell' = true := by
  intro u hu
  rw [List.mem_cons, List.mem_cons, List.mem_singleton] at hu
  rcases hu with rfl | rfl | rfl <;> rfl
/-- An owned row of tokens. -/
def OwnT (w : World) (base : Nat) (v : Value) (l : List Tok) : Prop := w.ownsRow base 46 3 v l.length (flatT l)
theorem OwnT.sl {w : World} {base k c : Nat} {A : Option Addr} {l : List Tok} (h : OwnT w base (.slice A k c) l) : l.length = k ∧ SlT w w.heap.size A l := by
  have hk : l.length = k := by
    rcases h.2 with ⟨e, h0⟩ | ⟨g, cap, cur, e, _⟩
    · injection e with _ h2 _; rw [h2]; exact h0
    · injection e with _ h2 _; exact h2.symm
  subst hk
  exact ⟨rfl, SlT.of_own h⟩
set_option maxRecDepth 100000 in
set_option maxHeartbeats 4000000 in
/-- slices.AppendSeq(nil, seq) at tokens. -/
theorem appendT_any (gf : Nat) (lb : Array Value) (xs : List Tok) (hxs : xs.length ≤ 65536) (Sp : List Tok → Prop) (w : World)
    (eg : ∀ args w, (callFunc gf args).run Try.prog w = .ok (.enter gf args) w)
    (hseq : ∀ W, Below w.heap.size w W → w.heap.size ≤ W.heap.size → SeqStopsK Fence.wide 2 Try.prog gf lb encT (Below w.heap.size) (fun ys => ys = xs) Sp xs.length W) :
    Calls Try.prog 42 #[.slice none 0 0, .func (.func gf) #[] lb] w fun e w' => ∃ A' c', e = .returned (.slice A' xs.length c') ∧
      OwnT w' w.heap.size (.slice A' xs.length c') xs ∧ Below w.heap.size w w' := by
  obtain ⟨i0, hi, hz0, hz1, hz2⟩ := info_parts infoT
  refine (callsIn_wide (n := 3)).1 ?_
  refine callsIn_of_wp_marks Try.func42 rfl trivial ?_ rfl
  simp only [Try.ntmps42, List.size_toArray, List.length_cons, List.length_nil, Nat.reduceAdd, Nat.reduceSub, Array.replicate_succ, Array.replicate_zero, List.push_toArray, List.append_toArray, List.nil_append, List.cons_append]
  gi_wp2
  have bO := Boxed.new w 24 (.slice none 0 0)
  have hB0 : Below w.heap.size w (w.alloc (.cells #[.slice none 0 0] 24)) := (Below.refl _ w).alloc (Nat.le_refl _) _
  refine wpIn_rangeFunc_ownH rfl (by omega) (gf := gf) (lb := lb) rfl trivial eg (hseq _ hB0 (by simp)) belowK_t (belowK_b (by simp)) (Below.refl _ _) (fun _ => rfl)
    (fun pre W => (∃ v, Boxed W w.heap.size 24 v ∧ W.ownsRow w.heap.size 46 3 v pre.length (flatT pre) ∧ True) ∧ Below w.heap.size w W)
    (fun _ _ _ => False)
    (OwnFrom.and (Own.from (holdsRow_own w.heap.size w.heap.size 24 46 3 (fun pre : List Tok => pre.length) (fun pre => flatT pre) (fun pre v => True)) _) (ownFrom_below (Nat.le_refl _) (by simp)))
    (fun _ _ _ _ _ hs _ _ => hs)
    ⟨⟨_, bO, World.ownsRow_nil _ _ _ _, trivial⟩, hB0⟩
    (fun x a' W => ∃ g, Blk W g 46 #[.int .i64 (x.1 : Int), .int .i64 (x.2.1 : Int), .int .u8 (x.2.2.toNat : Int)] ∧ a' = { tmps := #[.slice none 0 0, .func (.func gf) #[] lb, .pointer (some ⟨w.heap.size, 0, none⟩), undef, .slice none 0 0, .pointer (some ⟨g, 0, none⟩), .func (.func gf) #[] lb, .agg #[.int .i64 (x.1 : Int), .int .i64 (x.2.1 : Int), .int .u8 (x.2.2.toNat : Int)], undef, undef, undef, undef, undef], defers := [] })
    (fun x a' s X Y row hs hg hr => by
      obtain ⟨g, hg1, hg2⟩ := hs
      exact ⟨g, blk_own s X Y row hg1 hg (fun r e => (hr r e).2), hg2⟩) ?assign ?body ?done ?stop
  case assign =>
    rintro l pre ⟨x1, x2, x3⟩ W K ⟨⟨v, hv, hrow, _⟩, hB⟩ hK
    have hzW := hB.size
    unfold encT tokV
    gi_wp2
    refine hK _ _ ((KeepsOthers.alloc W _).from _) ((Below.refl _ _).alloc hzW _) ⟨⟨v, hv.alloc _, hrow.alloc _, trivial⟩, hB.alloc hzW _⟩ ⟨W.heap.size, Blk.new _ _ _, rfl⟩
  case body =>
    rintro l pre ⟨x1, x2, x3⟩ a' W hl' _ ⟨⟨v, hv, hrow, _⟩, hB⟩ ⟨g, hgk, rfl⟩ hlt
    have hc := hv.cell
    have g0 : W.cell? ⟨g, 0, none⟩ = some (.int .i64 (x1 : Int)) := hgk.cell 0
    have g1 : W.cell? ⟨g, 1, none⟩ = some (.int .i64 (x2 : Int)) := hgk.cell 1
    have g2 : W.cell? ⟨g, 2, none⟩ = some (.int .u8 (x3.toNat : Int)) := hgk.cell 2
    obtain ⟨k, hk⟩ : ∃ k, k = pre.length := ⟨_, rfl⟩
    obtain ⟨L, hL⟩ : ∃ L, L = flatT pre := ⟨_, rfl⟩
    have STEP : Hid (∀ v' w1, w1.ownsRow w.heap.size 46 3 v' (k + 1) (L ++ [.int .i64 (x1 : Int), .int .i64 (x2 : Int), .int .u8 (x3.toNat : Int)]) → (W.alloc (.cells #[.int .i64 (x1 : Int), .int .i64 (x2 : Int), .int .u8 (x3.toNat : Int)] 46)).grownBy w1 v.ownBlock →
        (KeepsOthers W (w1.setCell ⟨w.heap.size, 0, none⟩ v') ∧ Below w.heap.size W (w1.setCell ⟨w.heap.size, 0, none⟩ v')) ∧ ((∃ u, Boxed (w1.setCell ⟨w.heap.size, 0, none⟩ v') w.heap.size 24 u ∧ (w1.setCell ⟨w.heap.size, 0, none⟩ v').ownsRow w.heap.size 46 3 u (pre ++ [(x1, x2, x3)]).length (flatT (pre ++ [(x1, x2, x3)])) ∧ True) ∧ Below w.heap.size w (w1.setCell ⟨w.heap.size, 0, none⟩ v'))) :=
      Lib.hid fun v' w1 k1 k2 => by
        obtain ⟨hv1, hv2, hr2, hk2, hb2⟩ := hv.appended (by decide) hrow hB.size (Nat.le_refl _) (show w1.ownsRow w.heap.size 46 3 v' (pre.length + 1) (flatT pre ++ [.int .i64 (x1 : Int), .int .i64 (x2 : Int), .int .u8 (x3.toNat : Int)]) by rw [← hk, ← hL]; exact k1) k2
        exact ⟨⟨hk2, hb2⟩, ⟨_, hv2, by rw [List.length_append, flatT_append]; exact hr2, trivial⟩, hB.trans hb2⟩
    rw [← hk, ← hL] at hrow
    rw [← hk] at hlt
    clear hk hL
    gi_wp2_with (gi_at_builtin; refine wpListIn_append_own _ rfl _ _ 24 rfl w.heap.size 46 i0 (.agg #[.int .i64 0, .int .i64 0, .int .u8 0]) 3 24 Try.underlying24 hi hz0 hz1 hz2 rfl (by decide) v k L rfl (hrow.alloc _) ⟨W.heap.size, 0, none⟩ 1 1 [.int .i64 (x1 : Int), .int .i64 (x2 : Int), .int .u8 (x3.toNat : Int)] rfl rfl (three_news _ _ _ _ _) (three_one _ _ _) (by unfold maxLen; omega) (by omega) (by have := hB.size; simp; omega) ?_; intro v' w1 hown' hgrow _; obtain ⟨g', cap', rfl⟩ := ownsRow_succ hown'; have R := Lib.hid (STEP.out _ _ hown' hgrow); have hv1 := (hv.alloc _).kept hgrow (hv.not_row (by decide) hrow); have hc1 := hv1.cell; have hf1 := hv1.frozen)
    obtain ⟨⟨r1, r2⟩, ⟨u, r3, r4, _⟩, r5⟩ := R.out
    exact ⟨r1.from _, r2, ⟨u, r3, r4⟩, r5⟩
  case done =>
    rintro D ys W hD rfl ⟨⟨v, hv, hrow, _⟩, hB⟩ hK
    have hc := hv.cell
    obtain ⟨A', c', rfl, _, _⟩ := own_form hrow
    gi_wp2
    refine ⟨by simp, .inl ⟨_, _, rfl, run_takeDeferred hK, ?_⟩⟩
    exact ⟨_, results_tmp rfl _ _ _, A', c', rfl, ownsRow_putObj hrow _ hK rfl, hB.trans (belowK_b (w := w) (Nat.le_refl _) W D _ _ (by simp at hD; omega) hK rfl rfl)⟩
  case stop =>
    rintro D c pre W _ _ h _
    exact h.elim
theorem collectT_any (gf : Nat) (lb : Array Value) (xs : List Tok) (hxs : xs.length ≤ 65536) (Sp : List Tok → Prop) (w : World)
    (eg : ∀ args w, (callFunc gf args).run Try.prog w = .ok (.enter gf args) w)
    (hseq : ∀ W, Below w.heap.size w W → w.heap.size ≤ W.heap.size → SeqStopsK Fence.wide 2 Try.prog gf lb encT (Below w.heap.size) (fun ys => ys = xs) Sp xs.length W) :
    Calls Try.prog 28 #[.func (.func gf) #[] lb] w fun e w' => ∃ A' c', e = .returned (.slice A' xs.length c') ∧
      OwnT w' w.heap.size (.slice A' xs.length c') xs ∧ Below w.heap.size w w' := by
  have C := Lib.hid (appendT_any gf lb xs hxs Sp w eg hseq)
  clear hseq eg
  go_enter Try.func28, Try.ntmps28
  go_wp2_with (go_at_call 42; refine C.out.mono ?_; rintro e w1 ⟨A', c', rfl, hown, hb⟩)
  go_ret
  exact ⟨A', c', rfl, hown, hb⟩
set_option maxRecDepth 100000 in
theorem Choices_ok (A : Option Addr) (c N a : Nat) (b : Bs) (hlb : b.length = N) (hN6 : N ≤ 65536) (ha : a < N) (xs : List Tok) (k : Nat) (hxs : chs b a = xs) (hk : xs.length = k) (w : World) (B : Nat) (h : Sl u8 w B A b) :
    Calls Try.prog 16 #[.slice A N c, .int .i64 (a : Int)] w fun e w' => ∃ A' c', e = .returned (.tuple #[.slice A' k c', .int .i64 0]) ∧
      OwnT w' w.heap.size (.slice A' k c') xs ∧ Below w.heap.size w w' := by
  have hl := chs_len b a (by omega)
  rw [hxs] at hl
  have hS := h.lt
  obtain ⟨w2, hw2⟩ : ∃ w2, (w.alloc (.cells #[.slice A N c] 22)).alloc (.cells #[.int .i64 (a : Int)] 3) = w2 := ⟨_, rfl⟩
  have hz2 : w2.heap.size = w.heap.size + 2 := by rw [← hw2]; simp
  have hB2 : Below w.heap.size w w2 := by rw [← hw2]; exact ((Below.refl _ w).alloc (Nat.le_refl _) _).alloc (by simp) _
  have k1 : Blk w2 w.heap.size 22 #[.slice A N c] := by rw [← hw2]; exact (Blk.new _ _ _).alloc _
  have k2 : Blk w2 (w.heap.size + 1) 3 #[.int .i64 (a : Int)] := by rw [← hw2]; exact Blk.new' (by simp) _ _
  have C := Lib.hid (collectT_any 40 #[.pointer (some ⟨w.heap.size, 0, none⟩), .pointer (some ⟨w.heap.size + 1, 0, none⟩)] xs (by omega) (fun pre => pre <+: xs) w2 (enters_of Try.func40 (by kernel_rfl) rfl)
    (fun W hB hz => by
      have := choices_stopsB 2 (by omega) w.heap.size w2.heap.size (by omega) A c N a b hlb hN6 ha W hB.size (k1.later hB) (k2.later hB) (((hS.below hB2).more (by omega)).below hB)
      rw [hxs] at this; exact this))
  rw [hk] at C
  have HW2 := Lib.hid hw2
  have ha0 : ¬ (a : Int) < 0 := by omega
  have haN : ¬ (N : Int) ≤ (a : Int) := by omega
  clear hl hk hxs h hw2 k1 k2
  go_enter Try.func16, Try.ntmps16
  go_wp2_with (first
    | (go_at_call 27; refine (choices_any _ _ _ _ _).mono ?_; rintro e w1 ⟨rfl, h1⟩; have h2 := h1.trans HW2.out; clear h1; obtain rfl := h2)
    | (go_at_call 28; refine C.out.mono ?_; rintro e w3 ⟨A', c', rfl, hown, hb⟩))
  go_ret2
  exact ⟨A', c', rfl, own_base hown (by omega), hB2.trans (hb.mono (by omega))⟩
end Go.Proofs.Ytfahfbkkgcekgaa.H
