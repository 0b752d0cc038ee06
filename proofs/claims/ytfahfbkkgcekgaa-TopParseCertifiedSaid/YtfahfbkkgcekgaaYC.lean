/- lz.longest, Longest: some token that can stand there. -/
import Derived.Test.YtfahfbkkgcekgaaYB
namespace Go.Proofs.Ytfahfbkkgcekgaa.H
set_option linter.unusedVariables false
set_option linter.unusedSimpArgs false
open Go Go.RowKit Go.Shelf Go.Proofs.Ytfahfbkkgcekgaa Go.Proofs.Ytfahfbkkgcekgaa.W Go.Proofs.Ytfahfbkkgcekgaa.M
attribute [local go_sem] Oper.semAt_some

theorem copies_in (F : Fence) (n : Nat) (h5 : F.fn 43) (hro : F.round = none) (a : Option Addr) (len cap at' : Nat) (w : World) :
    CallsIn F n Try.prog 43 #[.slice a len cap, .int .i64 (at' : Int)] w fun e w' => e = .returned (.func (.func 49) #[] #[.pointer (some ⟨w.heap.size, 0, none⟩), .pointer (some ⟨w.heap.size + 1, 0, none⟩)]) ∧
      w' = (w.alloc (.cells #[.slice a len cap] 22)).alloc (.cells #[.int .i64 (at' : Int)] 3) := by
  refine callsIn_of_wp Try.func43 rfl h5 ?_ hro
  simp only [Try.ntmps43, List.size_toArray, List.length_cons, List.length_nil, Nat.reduceAdd, Nat.reduceSub, Array.replicate_succ, Array.replicate_zero, List.push_toArray, List.append_toArray, List.nil_append, List.cons_append]
  gi_wp2
  go_ret
  exact ⟨rfl, rfl⟩
def encP {b : Bs} {a : Nat} (p : CP b a) : Array Value := #[.int .i64 (p.val.1 : Int), .int .i64 (p.val.2 : Int)]
theorem copies_stops (n : Nat) (hn : 1 ≤ n) (g n₀ : Nat) (A : Option Addr) (c N a : Nat) (b : Bs) (hlb : b.length = N) (hN6 : N ≤ 65536) (ha : a < N) (w : World) (hn₀ : n₀ ≤ w.heap.size)
    (hc : Blk w g 22 #[.slice A N c]) (hi : Blk w (g + 1) 3 #[.int .i64 (a : Int)]) (hS : Sl u8 w n₀ A b) :
    SeqStopsK Fence.wide n Try.prog 49 #[.pointer (some ⟨g, 0, none⟩), .pointer (some ⟨g + 1, 0, none⟩)] (encP (b := b) (a := a)) (KeepC n₀ g) (fun _ => True) (fun _ => True) 4096 w := fun l J Jx W hW hA _ hY h0 => by
  have key := copies1_in n hn l g n₀ A c N a b hlb hN6 ha J Jx (fun pre p W1 hJ hp => hY pre p W1 hJ hp)
    W hA (hc.later hW) (hi.later hW) (hS.below (hW.mono hn₀)) (Nat.le_trans hn₀ hW.size) h0
  refine key.mono ?_
  rintro e W' ⟨he, (⟨ys, hj⟩ | ⟨pre, hj⟩)⟩
  · exact ⟨he, .inl ⟨_, trivial, hj⟩⟩
  · exact ⟨he, .inr ⟨pre, trivial, hj⟩⟩
/-- Some token that can stand at place a lies in block g. -/
def SomeT (b : Bs) (a g : Nat) (W : World) : Prop := ∃ t, okAt b a t ∧ Blk W g 46 (tokC t)
def LRest (B a : Nat) (S0 : Value) (W : World) : Prop := Blk W B 46 #[.int .i64 0, .int .i64 0, .int .u8 0] ∧ Blk W (B + 2) 22 #[S0] ∧ Blk W (B + 3) 3 #[.int .i64 (a : Int)]
theorem LRest.far {B a : Nat} {S0 : Value} {W : World} (h : LRest B a S0 W) {p : Addr} (hp : p.block = B + 1) (u : Value) : LRest B a S0 (W.setCell p u) := ⟨h.1.far (by omega) u, h.2.1.far (by omega) u, h.2.2.far (by omega) u⟩
def LSt {b : Bs} {a : Nat} (B : Nat) (S0 : Value) (_ : List (CP b a)) (W : World) : Prop := SomeT b a (B + 1) W ∧ LRest B a S0 W
theorem LSt.own {b : Bs} {a B : Nat} {S0 : Value} : Own (LSt (b := b) (a := a) B S0) := fun s X Y row hs hg hr => by
  obtain ⟨⟨t, h1, h2⟩, h3, h4, h5⟩ := hs
  exact ⟨⟨t, h1, blk_own s X Y row h2 hg hr⟩, blk_own s X Y row h3 hg hr, blk_own s X Y row h4 hg hr, blk_own s X Y row h5 hg hr⟩
theorem LSt.put {b : Bs} {a B : Nat} {S0 : Value} {pre pre' : List (CP b a)} {w W : World} (h : LSt B S0 pre W) (hB : Below B w W) {m d : Nat} (hok : okAt b a (copy m d)) :
    let V := (((W.setCell ⟨B + 1, 0, none⟩ (.int .i64 (m : Int))).setCell ⟨B + 1, 1, none⟩ (.int .i64 (d : Int))).setCell ⟨B + 1, 2, none⟩ (.int .u8 0))
    KeepsOthers W V ∧ KeepC B (B + 2) W V ∧ LSt B S0 pre' V ∧ Below B w V := by
  intro V
  obtain ⟨⟨t, h1, h2⟩, hR⟩ := h
  have hb' : Below B W V := (((Below.refl B W).setCell (p := ⟨B + 1, 0, none⟩) (by show B ≤ B + 1; omega) _).setCell (p := ⟨B + 1, 1, none⟩) (by show B ≤ B + 1; omega) _).setCell (p := ⟨B + 1, 2, none⟩) (by show B ≤ B + 1; omega) _
  have r1 : LRest B a S0 V := ((hR.far (p := ⟨B + 1, 0, none⟩) rfl _).far (p := ⟨B + 1, 1, none⟩) rfl _).far (p := ⟨B + 1, 2, none⟩) rfl _
  exact ⟨(((KeepsOthers.refl W).trans (KeepsOthers.setCell _ _ _)).trans (KeepsOthers.setCell _ _ _)).trans (KeepsOthers.setCell _ _ _), ⟨⟨hb', hb'.size⟩, (show _ = _ from r1.2.1).trans (show _ = _ from hR.2.1).symm, (show _ = _ from r1.2.2).trans (show _ = _ from hR.2.2).symm⟩, ⟨⟨copy m d, hok, ((h2.store 0 _).store 1 _).store 2 _⟩, r1⟩, hB.trans hb'⟩
theorem result_one {fn : Func} {p : Tmp} (h : fn.results = #[.cell p 46]) (tmps : Array Value) (W : World) (g : Nat) (hp : tmps.getD p undef = .pointer (some ⟨g, 0, none⟩)) {t : Tok} (hB : Blk W g 46 (tokC t)) :
    (results fn tmps).run Try.prog W = .ok (tokV t) W := by
  have c0 : W.cell? ⟨g, 0, none⟩ = some (.int .i64 (t.1 : Int)) := hB.cell 0
  have c1 : W.cell? ⟨g, 1, none⟩ = some (.int .i64 (t.2.1 : Int)) := hB.cell 1
  have c2 : W.cell? ⟨g, 2, none⟩ = some (.int .u8 (t.2.2.toNat : Int)) := hB.cell 2
  unfold tokV
  simp only [results, h]
  have hp' : tmps[p]?.getD undef = .pointer (some ⟨g, 0, none⟩) := by simpa using hp
  simp [Sem.run_bind, Result.andThen]
  rw [hp']
  go_simp
set_option maxRecDepth 100000 in
set_option maxHeartbeats 4000000 in
theorem longest_ok (A : Option Addr) (c N a : Nat) (b : Bs) (hlb : b.length = N) (hN6 : N ≤ 65536) (ha : a < N) (w : World) (hS : Sl u8 w w.heap.size A b) :
    Calls Try.prog 30 #[.slice A N c, .int .i64 (a : Int)] w fun e w' => ∃ t, e = .returned (tokV t) ∧ okAt b a t ∧ Below w.heap.size w w' := by
  have HL := Lib.hid hlb
  obtain ⟨b0, q0, x, rfl, _, hx, hcx⟩ := hS.byte (j := a) (by rw [hlb]; exact ha)
  replace hcx : w.cell? ⟨b0, q0 + a, none⟩ = some (.int .u8 (x.toNat : Int)) := hcx
  have HX : Hid (okAt b a (lit x)) := Lib.hid (.inl ⟨rfl, rfl, hx⟩)
  have v1 : (a : Int) < (N : Int) := by omega
  clear hlb hx
  refine (callsIn_wide (n := 4)).1 ?_
  refine callsIn_of_wp_marks Try.func30 rfl trivial ?_ rfl
  simp only [Try.ntmps30, List.size_toArray, List.length_cons, List.length_nil, Nat.reduceAdd, Nat.reduceSub, Array.replicate_succ, Array.replicate_zero, List.push_toArray, List.append_toArray, List.nil_append, List.cons_append]
  gi_wp2_with (refine ⟨trivial, ?_⟩; gi_at_call 43; refine (copies_in Fence.wide _ trivial rfl _ _ _ _ _).mono ?_; rintro e w3 ⟨rfl, rfl⟩)
  obtain ⟨B, hB⟩ : ∃ B, B = w.heap.size := ⟨_, rfl⟩
  obtain ⟨w3, hw3⟩ : ∃ w3, w3 = (((w.alloc (.cells #[.int .i64 0, .int .i64 0, .int .u8 0] 46)).alloc (.cells #[.int .i64 0, .int .i64 0, .int .u8 (x.toNat : Int)] 46)).alloc (.cells #[.slice (some ⟨b0, q0, none⟩) N c] 22)).alloc (.cells #[.int .i64 (a : Int)] 3) := ⟨_, rfl⟩
  have hz3 : w3.heap.size = B + 4 := by rw [hw3, hB]; simp
  have hBw : Below B w w3 := by rw [hw3, hB]; exact ((((Below.refl _ w).alloc (Nat.le_refl _) _).alloc (by simp) _).alloc (by simp; omega) _).alloc (by simp; omega) _
  have k1 : Blk w3 (B + 1) 46 #[.int .i64 0, .int .i64 0, .int .u8 (x.toNat : Int)] := by rw [hw3, hB]; exact ((Blk.new' (by simp) _ _).alloc _).alloc _
  have kR : LRest B a (.slice (some ⟨b0, q0, none⟩) N c) w3 := by
    rw [hw3, hB]
    exact ⟨(((Blk.new _ _ _).alloc _).alloc _).alloc _, (Blk.new' (by simp) _ _).alloc _, Blk.new' (by simp) _ _⟩
  have hS3 : Sl u8 w3 B (some ⟨b0, q0, none⟩) b := by rw [hB] at hBw ⊢; exact hS.below hBw
  have HBE := Lib.hid hB
  rw [← hw3, ← hB]
  simp only [Nat.add_assoc, Nat.reduceAdd]
  clear hw3 hB hS
  have eg := enters_of (P := Try.prog) Try.func49 (by kernel_rfl) rfl
  refine wpIn_rangeFunc_ownH rfl (by omega) (gf := 49) (lb := #[.pointer (some ⟨B + 2, 0, none⟩), .pointer (some ⟨B + 3, 0, none⟩)]) rfl trivial eg
    (copies_stops _ (by omega) (B + 2) B _ c N a b HL.out hN6 ha w3 (by omega) kR.2.1 kR.2.2 hS3) (fun h k => h.trans k)
    (fun W l o o' hl ho h1 h2 => ⟨⟨belowK_b (w := w3) (by omega) W l o o' hl ho h1 h2, by simp⟩, World.putObj_heap_other (by omega), World.putObj_heap_other (by omega)⟩) (Below.refl _ _) (fun _ => rfl)
    (fun pre W => LSt B (.slice (some ⟨b0, q0, none⟩) N c) pre W ∧ Below B w W)
    (fun _ _ _ => False)
    (OwnFrom.and (Own.from LSt.own _) (ownFrom_below (by rw [← HBE.out]; exact Nat.le_refl _) (by omega)))
    (fun _ _ _ _ _ hs _ _ => hs)
    ⟨⟨⟨lit x, HX.out, k1⟩, kR⟩, hBw⟩
    (fun x' a' W => a' = { tmps := #[.slice (some ⟨b0, q0, none⟩) N c, .int .i64 (a : Int), undef, undef, .pointer (some ⟨B, 0, none⟩), .pointer (some ⟨B + 1, 0, none⟩), .int .i64 (x'.val.1 : Int), .int .i64 (x'.val.2 : Int), .slice (some ⟨b0, q0, none⟩) N c, .int .i64 (a : Int), .pointer (some ⟨b0, q0 + a, none⟩), .int .u8 (x.toNat : Int), .agg #[.int .i64 0, .int .i64 0, .int .u8 (x.toNat : Int)], .slice (some ⟨b0, q0, none⟩) N c, .int .i64 (a : Int), .func (.func 49) #[] #[.pointer (some ⟨B + 2, 0, none⟩), .pointer (some ⟨B + 3, 0, none⟩)], .int .i64 (x'.val.1 : Int), .int .i64 (x'.val.2 : Int), undef, undef, undef, undef, undef, undef, undef, undef], defers := [] })
    (fun x a' s X Y row hs hg hr => hs) ?assign ?body ?done ?stop
  case assign =>
    rintro l' pre ⟨⟨d, m⟩, hx⟩ W K hst hK
    unfold encP
    gi_wp2
    exact hK _ _ (KeepsFrom.refl _ _) (KeepC.refl _ _ _) hst rfl
  case body =>
    rintro l' pre ⟨⟨d, m⟩, hx⟩ a' W hl' _ ⟨hst, hB⟩ rfl hlt
    obtain ⟨⟨⟨t1, t2, t3⟩, h1, h2⟩, hR⟩ := hst
    have c0 : W.cell? ⟨B + 1, 0, none⟩ = some (.int .i64 (t1 : Int)) := h2.cell 0
    have c1 : W.cell? ⟨B + 1, 1, none⟩ = some (.int .i64 (t2 : Int)) := h2.cell 1
    have c2 : W.cell? ⟨B + 1, 2, none⟩ = some (.int .u8 (t3.toNat : Int)) := h2.cell 2
    have f0 := h2.frozen 0
    have f1 := h2.frozen 1
    have f2 := h2.frozen 2
    have PUT := Lib.hid (LSt.put (pre' := pre ++ [⟨(d, m), hx⟩]) (S0 := .slice (some ⟨b0, q0, none⟩) N c) (pre := pre) ⟨⟨(t1, t2, t3), h1, h2⟩, hR⟩ hB hx)
    have SAME : Hid (LSt B (.slice (some ⟨b0, q0, none⟩) N c) (pre ++ [⟨(d, m), hx⟩]) W) := Lib.hid ⟨⟨(t1, t2, t3), h1, h2⟩, hR⟩
    by_cases hm : (t1 : Int) < (m : Int)
    · gi_wp2
      exact ⟨PUT.out.1.from _, PUT.out.2.1, PUT.out.2.2.1, PUT.out.2.2.2⟩
    · gi_wp2
      exact ⟨KeepsFrom.refl _ _, KeepC.refl _ _ _, SAME.out, hB⟩
  case done =>
    rintro D ys W hD _ ⟨⟨⟨⟨t1, t2, t3⟩, h1, h2⟩, hR⟩, hB⟩ hK
    have c0 : W.cell? ⟨B + 1, 0, none⟩ = some (.int .i64 (t1 : Int)) := h2.cell 0
    have c1 : W.cell? ⟨B + 1, 1, none⟩ = some (.int .i64 (t2 : Int)) := h2.cell 1
    have c2 : W.cell? ⟨B + 1, 2, none⟩ = some (.int .u8 (t3.toNat : Int)) := h2.cell 2
    have k2 := hR.1
    have e0 := k2.cell 0
    have e1 := k2.cell 1
    have e2 := k2.cell 2
    have g0 := k2.frozen 0
    have g1 := k2.frozen 1
    have g2 := k2.frozen 2
    gi_wp2
    have hK9 : (((W.setCell ⟨B, 0, none⟩ (.int .i64 (t1 : Int))).setCell ⟨B, 1, none⟩ (.int .i64 (t2 : Int))).setCell ⟨B, 2, none⟩ (.int .u8 (t3.toNat : Int))).heap[D]? = some (.deferred (some [])) := ((((KeepsOthers.refl W).trans (KeepsOthers.setCell _ _ _)).trans (KeepsOthers.setCell _ _ _)).trans (KeepsOthers.setCell _ _ _)).same D _ hK rfl
    have k9 : Blk (((W.setCell ⟨B, 0, none⟩ (.int .i64 (t1 : Int))).setCell ⟨B, 1, none⟩ (.int .i64 (t2 : Int))).setCell ⟨B, 2, none⟩ (.int .u8 (t3.toNat : Int))) B 46 (tokC (t1, t2, t3)) := ((k2.store 0 _).store 1 _).store 2 _
    have hB9 : Below B w (((W.setCell ⟨B, 0, none⟩ (.int .i64 (t1 : Int))).setCell ⟨B, 1, none⟩ (.int .i64 (t2 : Int))).setCell ⟨B, 2, none⟩ (.int .u8 (t3.toNat : Int))) := ((hB.setCell (p := ⟨B, 0, none⟩) (Nat.le_refl _) _).setCell (p := ⟨B, 1, none⟩) (Nat.le_refl _) _).setCell (p := ⟨B, 2, none⟩) (Nat.le_refl _) _
    obtain ⟨W9, hW9⟩ : ∃ W9, (((W.setCell ⟨B, 0, none⟩ (.int .i64 (t1 : Int))).setCell ⟨B, 1, none⟩ (.int .i64 (t2 : Int))).setCell ⟨B, 2, none⟩ (.int .u8 (t3.toNat : Int))) = W9 := ⟨_, rfl⟩
    rw [hW9] at hK9 k9 hB9 ⊢
    refine ⟨by simp, .inl ⟨_, _, rfl, run_takeDeferred hK9, ?_⟩⟩
    have hDz : B + 4 ≤ D := by rw [← hz3]; exact hD
    have k10 : Blk (W9.putObj D (.deferred none)) B 46 (tokC (t1, t2, t3)) := (World.putObj_heap_other (by omega)).trans k9
    exact ⟨_, result_one rfl _ _ B rfl k10, _, rfl, h1, by rw [← HBE.out]; exact hB9.trans (belowK_b (w := w) (by rw [← HBE.out]; exact Nat.le_refl _) W9 D _ _ (by rw [← HBE.out]; omega) hK9 rfl rfl)⟩
  case stop =>
    rintro D c pre W _ _ h _
    exact h.elim
set_option maxRecDepth 100000 in
theorem Longest_ok (A : Option Addr) (c N a : Nat) (b : Bs) (hlb : b.length = N) (hN6 : N ≤ 65536) (ha : a < N) (w : World) (hS : Sl u8 w w.heap.size A b) :
    Calls Try.prog 17 #[.slice A N c, .int .i64 (a : Int)] w fun e w' => ∃ t, e = .returned (.tuple #[tokV t, .int .i64 0]) ∧ okAt b a t ∧ Below w.heap.size w w' := by
  have hB0 : Below w.heap.size w (w.alloc (.cells #[.int .i64 0, .int .i64 0, .int .u8 0] 46)) := (Below.refl _ _).alloc (Nat.le_refl _) _
  have hk0 : Blk (w.alloc (.cells #[.int .i64 0, .int .i64 0, .int .u8 0] 46)) w.heap.size 46 #[.int .i64 0, .int .i64 0, .int .u8 0] := Blk.new _ _ _
  have IN := Lib.hid (fun W => in_ok (a : Int) 0 ((N : Int) - 1) (by omega) (by omega) W)
  have LG := Lib.hid (fun W (hW : Below w.heap.size w W) => longest_ok A c N a b hlb hN6 ha W (hS.later hW))
  have u1 : IntKind.i64.wrap ((N : Int) - 1) = (N : Int) - 1 := by rw [IntKind.wrap_i64]; omega
  clear hS hlb
  go_enter Try.func17, Try.ntmps17
  go_wp2_with (first
    | (go_at_call 29; refine (IN.out _).mono ?_; rintro e w1 ⟨rfl, rfl⟩)
    | (go_at_call 30; refine (LG.out _ hB0).mono ?_; rintro e w2 ⟨⟨t1, t2, t3⟩, rfl, hok, hb2⟩; have hk := hk0.later hb2; have hB := bsa hB0 hb2; have c0 := hk.cell 0; have c1 := hk.cell 1; have c2 := hk.cell 2; have f0 := hk.frozen 0; have f1 := hk.frozen 1; have f2 := hk.frozen 2; unfold tokV))
  refine bodyPost_ret (result_tk rfl _ _ w.heap.size rfl (t := (t1, t2, t3)) (((hk.store 0 _).store 1 _).store 2 _) rfl) rfl ⟨_, rfl, hok, ?_⟩
  exact ((hB.setCell (p := ⟨w.heap.size, 0, none⟩) (Nat.le_refl _) _).setCell (p := ⟨w.heap.size, 1, none⟩) (Nat.le_refl _) _).setCell (p := ⟨w.heap.size, 2, none⟩) (Nat.le_refl _) _
end Go.Proofs.Ytfahfbkkgcekgaa.H
