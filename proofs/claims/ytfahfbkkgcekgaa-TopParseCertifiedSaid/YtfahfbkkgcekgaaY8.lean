/- parse.best (printed by gen_y8.py). -/
import Derived.Test.YtfahfbkkgcekgaaY7
import Derived.Laws.ResultCell
namespace Go.Proofs.Ytfahfbkkgcekgaa.H
set_option linter.unusedVariables false
set_option linter.unusedSimpArgs false
open Go Go.RowKit Go.Shelf Go.Proofs.Ytfahfbkkgcekgaa Go.Proofs.Ytfahfbkkgcekgaa.W Go.Proofs.Ytfahfbkkgcekgaa.M
attribute [local go_sem] Oper.semAt_some

def i64 (x : Nat) : Value := .int .i64 (x : Int)
theorem onlyN_normal {R : Act → World → Prop} {a : Act} {w : World} (h : R a w) : onlyN R .normal a w := h
theorem region_round' {P : Program} {ops : Array Oper} {l n id : Nat} (S : World → Prop) {Q : Exit → Act → World → Prop} {a : Act} {w : World} (hm : P.follows .mixedOrders = true) (hnd : ops.all (fun o => match o.op with | .defer _ => false | _ => true) = true)
    (hS : S w.drew) (h : S w.drew → wpAnyH P .any ops (onlyN fun a w => Q .normal a w) S ops.size (Array.replicate ops.size false) a w.drew) : (Code.region id ops true).wpIn (Fence.wide.inRound l) n P Q a w :=
  region_round _ S hm hnd hS h (fun _ _ h => h)
theorem keepsO {W W' : World} (h : Below W.heap.size W W') : KeepsOthers W W' := ⟨h.size, fun k o hk _ => (h.block k (Array.getElem?_eq_some_iff.1 hk).1).trans hk⟩
/-- A token that can stand at place a. -/
abbrev CT (b : Bs) (a : Nat) := { t : Tok // okAt b a t }
theorem choices_stops2 (n : Nat) (hn : 1 ≤ n) (g n₀ : Nat) (A : Option Addr) (c N a : Nat) (b : Bs) (hlb : b.length = N) (hN6 : N ≤ 65536) (ha : a < N) (w : World) (hn₀ : n₀ ≤ w.heap.size)
    (hc : Blk w g 22 #[.slice A N c]) (hi : Blk w (g + 1) 3 #[.int .i64 (a : Int)]) (hS : Sl u8 w n₀ A b) :
    SeqStopsK Fence.wide n Try.prog 40 #[.pointer (some ⟨g, 0, none⟩), .pointer (some ⟨g + 1, 0, none⟩)] (fun x : CT b a => encT x.val) (KeepC n₀ g) (fun ys => ys.map Subtype.val = chs b a) (fun _ => True) (chs b a).length w := fun l J Jx W hW hA _ hY h0 => by
  have key := choices1_in n hn l g n₀ A c N a b hlb hN6 ha (fun p W => ∃ q : List (CT b a), q.map Subtype.val = p ∧ J q W) (fun p W => ∃ q : List (CT b a), q.map Subtype.val = p ∧ Jx q W) (fun pre x W1 h hp => by
      obtain ⟨q, rfl, hq⟩ := h
      have hx : okAt b a x := chs_ok (by omega) (hp.subset (by simp))
      obtain ⟨fn, tmps, assign, body, hy, hR⟩ := hY q ⟨x, hx⟩ W1 hq (by have := hp.length_le; simp at this; omega)
      refine ⟨fn, tmps, assign, body, hy, hR.mono ?_⟩
      rintro e W' (⟨he, hj, hk⟩ | ⟨he, hj⟩)
      · exact .inl ⟨he, ⟨q ++ [⟨x, hx⟩], by simp, hj⟩, hk⟩
      · exact .inr ⟨he, ⟨q ++ [⟨x, hx⟩], by simp, hj⟩⟩)
    W (fun p X Y row h hg hr => by obtain ⟨q, hq, hj⟩ := h; exact ⟨q, hq, hA q X Y row hj hg hr⟩) (hc.later hW) (hi.later hW) (hS.below (hW.mono hn₀)) (Nat.le_trans hn₀ hW.size) ⟨[], rfl, h0⟩
  refine key.mono ?_
  rintro e W' ⟨he, (⟨ys, rfl, q, hq, hj⟩ | ⟨pre, _, q, _, hj⟩)⟩
  · exact ⟨he, .inl ⟨q, hq, hj⟩⟩
  · exact ⟨he, .inr ⟨q, trivial, hj⟩⟩

def tokC (t : Tok) : Array Value := #[.int .i64 (t.1 : Int), .int .i64 (t.2.1 : Int), .int .u8 (t.2.2.toNat : Int)]
/-- What the round leaves alone. -/
def Rest (B a : Nat) (S0 P0 : Value) (W : World) : Prop := Blk W B 3 #[.int .i64 (a : Int)] ∧ Blk W (B + 1) 38 #[P0] ∧ Blk W (B + 2) 46 #[.int .i64 0, .int .i64 0, .int .u8 0] ∧ Blk W (B + 5) 22 #[S0] ∧ Blk W (B + 6) 3 #[.int .i64 (a : Int)]
def BSt {b : Bs} {a : Nat} (B : Nat) (S0 P0 : Value) (f : Tok → Nat) (pre : List (CT b a)) (W : World) : Prop :=
  Blk W (B + 3) 46 (tokC ((pre.map Subtype.val).foldl (pick f) none0).1) ∧ Blk W (B + 4) 3 #[.int .i64 ((pre.map Subtype.val).foldl (pick f) none0).2] ∧ Rest B a S0 P0 W
theorem BSt.own {b : Bs} {a B : Nat} {S0 P0 : Value} {f : Tok → Nat} : Own (BSt (b := b) (a := a) B S0 P0 f) := fun s X Y row hs hg hr =>
  ⟨blk_own s X Y row hs.1 hg hr, blk_own s X Y row hs.2.1 hg hr, blk_own s X Y row hs.2.2.1 hg hr, blk_own s X Y row hs.2.2.2.1 hg hr, blk_own s X Y row hs.2.2.2.2.1 hg hr, blk_own s X Y row hs.2.2.2.2.2.1 hg hr, blk_own s X Y row hs.2.2.2.2.2.2 hg hr⟩
theorem Rest.later {B a : Nat} {S0 P0 : Value} {W W' : World} (h : Rest B a S0 P0 W) (hb : Below W.heap.size W W') : Rest B a S0 P0 W' := ⟨h.1.later hb, h.2.1.later hb, h.2.2.1.later hb, h.2.2.2.1.later hb, h.2.2.2.2.later hb⟩
theorem Rest.far {B a : Nat} {S0 P0 : Value} {W : World} (h : Rest B a S0 P0 W) {p : Addr} (hp : p.block = B + 3 ∨ p.block = B + 4) (u : Value) : Rest B a S0 P0 (W.setCell p u) := ⟨h.1.far (by omega) u, h.2.1.far (by omega) u, h.2.2.1.far (by omega) u, h.2.2.2.1.far (by omega) u, h.2.2.2.2.far (by omega) u⟩
theorem BSt.skip {b : Bs} {a B : Nat} {S0 P0 : Value} {f : Tok → Nat} {pre : List (CT b a)} {x : CT b a} {w W W' : World} {s : Tok × Int} (h : BSt B S0 P0 f pre W) (hs : (pre.map Subtype.val).foldl (pick f) none0 = s) (hx : ¬ (s.2 < 0 ∨ (f x.val : Int) ≤ s.2)) (hB : Below B w W) (hb : Below W.heap.size W W') :
    KeepsOthers W W' ∧ KeepC B (B + 5) W W' ∧ BSt B S0 P0 f (pre ++ [x]) W' ∧ Below B w W' := by
  have e : ((pre ++ [x]).map Subtype.val).foldl (pick f) none0 = s := by
    rw [List.map_append, List.foldl_append, hs]; show pick f s x.val = s; exact if_neg hx
  have hz : B + 6 < W.heap.size := h.2.2.2.2.2.2.lt
  refine ⟨keepsO hb, KeepC.below (by omega) (by omega) hb, ⟨?_, ?_, h.2.2.later hb⟩, hB.trans (hb.mono (by omega))⟩
  · rw [e, ← hs]; exact h.1.later hb
  · rw [e, ← hs]; exact h.2.1.later hb
theorem BSt.put {b : Bs} {a B : Nat} {S0 P0 : Value} {f : Tok → Nat} {pre : List (CT b a)} {x : CT b a} {w W W' : World} {s : Tok × Int} (h : BSt B S0 P0 f pre W) (hs : (pre.map Subtype.val).foldl (pick f) none0 = s) (hx : s.2 < 0 ∨ (f x.val : Int) ≤ s.2) (hB : Below B w W) (hb : Below W.heap.size W W') {y1 y2 : Nat} {y3 : UInt8} (hy : x.val = (y1, y2, y3)) {m : Nat} (hm : f x.val = m) :
    let V := (((W'.setCell ⟨B + 3, 0, none⟩ (.int .i64 (y1 : Int))).setCell ⟨B + 3, 1, none⟩ (.int .i64 (y2 : Int))).setCell ⟨B + 3, 2, none⟩ (.int .u8 (y3.toNat : Int))).setCell ⟨B + 4, 0, none⟩ (.int .i64 (m : Int))
    KeepsOthers W V ∧ KeepC B (B + 5) W V ∧ BSt B S0 P0 f (pre ++ [x]) V ∧ Below B w V := by
  intro V
  have e : ((pre ++ [x]).map Subtype.val).foldl (pick f) none0 = (x.val, (f x.val : Int)) := by
    rw [List.map_append, List.foldl_append, hs]; show pick f s x.val = _; exact if_pos hx
  have hz : B + 6 < W.heap.size := h.2.2.2.2.2.2.lt
  have hz' := hb.size
  have r1 : Rest B a S0 P0 V := ((((h.2.2.later hb).far (p := ⟨B + 3, 0, none⟩) (.inl rfl) _).far (p := ⟨B + 3, 1, none⟩) (.inl rfl) _).far (p := ⟨B + 3, 2, none⟩) (.inl rfl) _).far (p := ⟨B + 4, 0, none⟩) (.inr rfl) _
  have hb' : Below B W V := ((((hb.mono (show B ≤ W.heap.size by omega)).setCell (p := ⟨B + 3, 0, none⟩) (by show B ≤ B + 3; omega) _).setCell (p := ⟨B + 3, 1, none⟩) (by show B ≤ B + 3; omega) _).setCell (p := ⟨B + 3, 2, none⟩) (by show B ≤ B + 3; omega) _).setCell (p := ⟨B + 4, 0, none⟩) (by show B ≤ B + 4; omega) _
  refine ⟨((((keepsO hb).trans (KeepsOthers.setCell _ _ _)).trans (KeepsOthers.setCell _ _ _)).trans (KeepsOthers.setCell _ _ _)).trans (KeepsOthers.setCell _ _ _), ⟨⟨hb', hb'.size⟩, ?_, ?_⟩, ⟨?_, ?_, r1⟩, hB.trans hb'⟩
  · exact (show _ = _ from r1.2.2.2.1).trans (show _ = _ from h.2.2.2.2.2.1).symm
  · exact (show _ = _ from r1.2.2.2.2).trans (show _ = _ from h.2.2.2.2.2.2).symm
  · rw [e]
    show Blk V (B + 3) _ (tokC x.val)
    rw [hy]
    exact ((((h.1.later hb).store 0 _).store 1 _).store 2 _).far (p := ⟨B + 4, 0, none⟩) (by show B + 3 ≠ B + 4; omega) _
  · rw [e]
    show Blk V (B + 4) _ #[.int .i64 (f x.val : Int)]
    rw [hm]
    exact ((((h.2.1.later hb).far (p := ⟨B + 3, 0, none⟩) (by show B + 4 ≠ B + 3; omega) _).far (p := ⟨B + 3, 1, none⟩) (by show B + 4 ≠ B + 3; omega) _).far (p := ⟨B + 3, 2, none⟩) (by show B + 4 ≠ B + 3; omega) _).store 0 _

set_option maxRecDepth 100000 in
theorem result_tk {fn : Func} {p u : Tmp} (h : fn.results = #[.cell p 46, .tmp u]) (tmps : Array Value) (W : World) (g : Nat) (hp : tmps.getD p undef = .pointer (some ⟨g, 0, none⟩)) {t : Tok} (hB : Blk W g 46 (tokC t)) {er : Int} (hu : tmps.getD u undef = .int .i64 er) :
    (results fn tmps).run Try.prog W = .ok (.tuple #[tokV t, .int .i64 er]) W := by
  have c0 : W.cell? ⟨g, 0, none⟩ = some (.int .i64 (t.1 : Int)) := hB.cell 0
  have c1 : W.cell? ⟨g, 1, none⟩ = some (.int .i64 (t.2.1 : Int)) := hB.cell 1
  have c2 : W.cell? ⟨g, 2, none⟩ = some (.int .u8 (t.2.2.toNat : Int)) := hB.cell 2
  rw [results_cell_tmp h, hp, hu]
  unfold tokV
  go_simp
set_option maxRecDepth 100000 in
set_option maxHeartbeats 4000000 in
theorem best_ok (A : Option Addr) (c N a : Nat) (b : Bs) (hlb : b.length = N) (hN6 : N ≤ 65536) (ha : a < N) (A' : Option Addr) (c' : Nat) (Q : List Nat) (hQ : Q.length = N + 1) (hQb : ∀ i, Q.getD i 0 ≤ 1000000) (t : Tok) (n : Nat) (hbest : best b a (fun x => Q.getD x 0) = (t, (n : Int))) (w : World) (hS : Sl u8 w w.heap.size A b) (hP : Sl i64 w w.heap.size A' Q) :
    Calls Try.prog 36 #[.slice A N c, .int .i64 (a : Int), .slice A' (N + 1) c'] w fun e w' => e = .returned (.tuple #[tokV t, .int .i64 (n : Int)]) ∧ Below w.heap.size w w' := by
  have HL := Lib.hid hlb
  obtain ⟨bp, op, hAe, hbp, hcs⟩ := hP.open_ (by omega)
  subst hAe
  have HP : Hid (∀ W, Below w.heap.size w W → ∀ k, k ≤ N → W.cell? ⟨bp, op + k, none⟩ = some (.int .i64 (Q.getD k 0 : Int))) := Lib.hid fun W hW k hk => by
    have := hcs k (Q.getD k 0) (by rw [List.getD_eq_getElem?_getD, List.getElem?_eq_getElem (by omega)]; rfl)
    exact (hW.cell (p := ⟨bp, op + k, none⟩) hbp).trans this
  have HB := Lib.hid hbest
  have HQB := Lib.hid hQb
  clear hbest hQb hcs hlb hP
  obtain ⟨f, hf⟩ : ∃ f : Tok → Nat, (fun t => price t + Q.getD (a + tsz t) 0) = f := ⟨_, rfl⟩
  have HF : Hid (∀ t, f t = price t + Q.getD (a + tsz t) 0) := Lib.hid fun t => by rw [← hf]
  have HB2 : Hid ((chs b a).foldl (pick f) none0 = (t, (n : Int))) := Lib.hid (by rw [← HB.out, ← hf]; rfl)
  clear hf HB
  refine (callsIn_wide (n := 4)).1 ?_
  refine callsIn_of_wp_marks Try.func36 rfl trivial ?_ rfl
  simp only [Try.ntmps36, List.size_toArray, List.length_cons, List.length_nil, Nat.reduceAdd, Nat.reduceSub, Array.replicate_succ, Array.replicate_zero, List.push_toArray, List.append_toArray, List.nil_append, List.cons_append]
  gi_wp2_with (refine ⟨trivial, ?_⟩; gi_at_call 27; refine (choices_in Fence.wide _ trivial rfl _ _ _ _ _).mono ?_; rintro e w3 ⟨rfl, rfl⟩)
  obtain ⟨B, hB⟩ : ∃ B, B = w.heap.size := ⟨_, rfl⟩
  obtain ⟨w3, hw3⟩ : ∃ w3, w3 = ((((((w.alloc (.cells #[.int .i64 (a : Int)] 3)).alloc (.cells #[.slice (some ⟨bp, op, none⟩) (N + 1) c'] 38)).alloc (.cells #[.int .i64 0, .int .i64 0, .int .u8 0] 46)).alloc (.cells #[.int .i64 0, .int .i64 0, .int .u8 0] 46)).alloc (.cells #[.int .i64 (-1)] 3)).alloc (.cells #[.slice A N c] 22)).alloc (.cells #[.int .i64 (a : Int)] 3) := ⟨_, rfl⟩
  have hz3 : w3.heap.size = B + 7 := by rw [hw3, hB]; simp
  have hBw : Below B w w3 := by rw [hw3, hB]; exact (((((((Below.refl _ w).alloc (Nat.le_refl _) _).alloc (by simp) _).alloc (by simp; omega) _).alloc (by simp; omega) _).alloc (by simp; omega) _).alloc (by simp; omega) _).alloc (by simp; omega) _
  have k3 : Blk w3 (B + 3) 46 #[.int .i64 0, .int .i64 0, .int .u8 0] := by rw [hw3, hB]; exact (((Blk.new' (by simp) _ _).alloc _).alloc _).alloc _
  have k4 : Blk w3 (B + 4) 3 #[.int .i64 (-1)] := by rw [hw3, hB]; exact ((Blk.new' (by simp) _ _).alloc _).alloc _
  have kR : Rest B a (.slice A N c) (.slice (some ⟨bp, op, none⟩) (N + 1) c') w3 := by
    rw [hw3, hB]
    exact ⟨((((((Blk.new _ _ _).alloc _).alloc _).alloc _).alloc _).alloc _).alloc _, (((((Blk.new' (by simp) _ _).alloc _).alloc _).alloc _).alloc _).alloc _, ((((Blk.new' (by simp) _ _).alloc _).alloc _).alloc _).alloc _, (Blk.new' (by simp) _ _).alloc _, Blk.new' (by simp) _ _⟩
  have hS3 : Sl u8 w3 B A b := by rw [hB] at hBw ⊢; exact hS.below hBw
  have HBE := Lib.hid hB
  rw [← hw3, ← hB]
  rw [← hB] at hbp
  simp only [Nat.add_assoc, Nat.reduceAdd]
  clear hw3 hB hS
  have eg := enters_of (P := Try.prog) Try.func40 (by kernel_rfl) rfl
  refine wpIn_rangeFunc_ownH rfl (by omega) (gf := 40) (lb := #[.pointer (some ⟨B + 5, 0, none⟩), .pointer (some ⟨B + 6, 0, none⟩)]) rfl trivial eg
    (choices_stops2 _ (by omega) (B + 5) B A c N a b HL.out hN6 ha w3 (by omega) kR.2.2.2.1 kR.2.2.2.2 hS3) (fun h k => h.trans k)
    (fun W l o o' hl ho h1 h2 => ⟨⟨belowK_b (w := w3) (by omega) W l o o' hl ho h1 h2, by simp⟩, World.putObj_heap_other (by omega), World.putObj_heap_other (by omega)⟩) (Below.refl _ _) (fun _ => rfl)
    (fun pre W => BSt B (.slice A N c) (.slice (some ⟨bp, op, none⟩) (N + 1) c') f pre W ∧ Below B w W)
    (fun _ _ _ => False)
    (OwnFrom.and (Own.from BSt.own _) (ownFrom_below (by rw [← HBE.out]; exact Nat.le_refl _) (by omega)))
    (fun _ _ _ _ _ hs _ _ => hs)
    ⟨⟨k3, k4, kR⟩, hBw⟩
    (fun x a' W => ∃ g, Blk W g 46 (tokC x.val) ∧ a' = { tmps := #[.slice A N c, .int .i64 (a : Int), .slice (some ⟨bp, op, none⟩) (N + 1) c', undef, .pointer (some ⟨B, 0, none⟩), .pointer (some ⟨B + 1, 0, none⟩), .pointer (some ⟨B + 2, 0, none⟩), .int .i64 0, .pointer (some ⟨B + 3, 0, none⟩), .pointer (some ⟨B + 4, 0, none⟩), .pointer (some ⟨g, 0, none⟩), undef, .slice A N c, .int .i64 (a : Int), .func (.func 40) #[] #[.pointer (some ⟨B + 5, 0, none⟩), .pointer (some ⟨B + 6, 0, none⟩)], tokV x.val, undef, undef, undef, undef, undef, undef, undef, undef, undef, undef, undef, undef, undef, undef, undef, undef, undef, undef, undef, undef, undef], defers := [] })
    (fun x a' s X Y row hs hg hr => by
      obtain ⟨g, hg1, hg2⟩ := hs
      exact ⟨g, blk_own s X Y row hg1 hg (fun r e => (hr r e).2), hg2⟩) ?assign ?body ?done ?stop
  case assign =>
    rintro l' pre ⟨⟨x1, x2, x3⟩, hx⟩ W K ⟨hst, hB⟩ hK
    have hzW : B + 6 < W.heap.size := hst.2.2.2.2.2.2.lt
    show Code.wpIn _ _ _ _ _ { tmps := ((#[15] : Array Nat).zip #[Value.agg #[.int .i64 (x1 : Int), .int .i64 (x2 : Int), .int .u8 (x3.toNat : Int)]]).foldl _ _, defers := _ } _
    gi_wp2
    refine hK _ _ ((KeepsOthers.alloc W _).from _) ⟨⟨(Below.refl _ _).alloc (by omega) _, by simp⟩, Below.heap_alloc _ _ _ (by omega), Below.heap_alloc _ _ _ (by omega)⟩ ⟨?_, hB.alloc (by omega) _⟩ ⟨W.heap.size, Blk.new _ _ _, rfl⟩
    exact ⟨hst.1.alloc _, hst.2.1.alloc _, hst.2.2.1.alloc _, hst.2.2.2.1.alloc _, hst.2.2.2.2.1.alloc _, hst.2.2.2.2.2.1.alloc _, hst.2.2.2.2.2.2.alloc _⟩
  case body =>
    rintro l' pre ⟨⟨x1, x2, x3⟩, hx⟩ a' W hl' _ ⟨hst, hB⟩ ⟨g, hgk, rfl⟩ hlt
    obtain ⟨hR, _⟩ := okAt_right hx
    have hend := okAt_end hx
    rw [HL.out] at hend
    have hp1 := (price_le hR).1
    have PR := Lib.hid (fun W => price_ok (x1, x2, x3) hR W)
    have SZ := Lib.hid (fun W => psize_ok (x1, x2, x3) (by have := hR.le; omega) W)
    have HFx := HF.out (x1, x2, x3)
    obtain ⟨z, hz⟩ : ∃ z, tsz (x1, x2, x3) = z := ⟨_, rfl⟩
    obtain ⟨p, hp⟩ : ∃ p, price (x1, x2, x3) = p := ⟨_, rfl⟩
    rw [hz] at SZ hend HFx
    rw [hp] at PR hp1 HFx
    obtain ⟨k, hk⟩ : ∃ k, a + z = k := ⟨_, rfl⟩
    obtain ⟨q, hq⟩ : ∃ q, Q.getD k 0 = q := ⟨_, rfl⟩
    obtain ⟨m, hm⟩ : ∃ m, p + q = m := ⟨_, rfl⟩
    have hq6 : q ≤ 1000000 := by rw [← hq]; exact HQB.out k
    rw [hk, hq, hm] at HFx
    have HFX := Lib.hid HFx
    have u1 : (a : Int) + (z : Int) = (k : Int) := by omega
    have u2 : (p : Int) + (q : Int) = (m : Int) := by omega
    have u3 : IntKind.i64.wrap (k : Int) = (k : Int) := by rw [IntKind.wrap_i64]; omega
    have u4 : IntKind.i64.wrap (m : Int) = (m : Int) := by rw [IntKind.wrap_i64]; omega
    have hkN : k < N + 1 := by omega
    have u5 : (k : Int) < (N : Int) + 1 := by omega
    have hPW : W.cell? ⟨bp, op + k, none⟩ = some (.int .i64 (q : Int)) := by rw [← hq]; exact HP.out W (by rw [← HBE.out]; exact hB) k (by omega)
    obtain ⟨s, hs⟩ : ∃ s, (pre.map Subtype.val).foldl (pick f) none0 = s := ⟨_, rfl⟩
    have KEEP : Hid (∀ V, Below W.heap.size W V → V.cell? ⟨g, 0, none⟩ = some (.int .i64 (x1 : Int)) ∧ V.cell? ⟨g, 1, none⟩ = some (.int .i64 (x2 : Int)) ∧ V.cell? ⟨g, 2, none⟩ = some (.int .u8 (x3.toNat : Int)) ∧ V.cell? ⟨B, 0, none⟩ = some (.int .i64 (a : Int)) ∧ V.cell? ⟨B + 1, 0, none⟩ = some (.slice (some ⟨bp, op, none⟩) (N + 1) c') ∧ V.cell? ⟨bp, op + k, none⟩ = some (.int .i64 (q : Int))) := Lib.hid fun V hV =>
      ⟨(hgk.later hV).cell 0, (hgk.later hV).cell 1, (hgk.later hV).cell 2, (hst.2.2.1.later hV).cell 0, (hst.2.2.2.1.later hV).cell 0, (hV.cell (p := ⟨bp, op + k, none⟩) (by show bp < W.heap.size; have := hst.1.lt; omega)).trans hPW⟩
    have k3 := hst.1
    have k4 := hst.2.1
    rw [hs] at k3 k4
    have POST : Hid (∀ V, Below W.heap.size W V → (s.2 < 0 ∨ (m : Int) ≤ s.2) → KeepsOthers W ((((V.setCell ⟨B + 3, 0, none⟩ (.int .i64 (x1 : Int))).setCell ⟨B + 3, 1, none⟩ (.int .i64 (x2 : Int))).setCell ⟨B + 3, 2, none⟩ (.int .u8 (x3.toNat : Int))).setCell ⟨B + 4, 0, none⟩ (.int .i64 (m : Int))) ∧ KeepC B (B + 5) W ((((V.setCell ⟨B + 3, 0, none⟩ (.int .i64 (x1 : Int))).setCell ⟨B + 3, 1, none⟩ (.int .i64 (x2 : Int))).setCell ⟨B + 3, 2, none⟩ (.int .u8 (x3.toNat : Int))).setCell ⟨B + 4, 0, none⟩ (.int .i64 (m : Int))) ∧ (BSt B (.slice A N c) (.slice (some ⟨bp, op, none⟩) (N + 1) c') f (pre ++ [⟨(x1, x2, x3), hx⟩]) ((((V.setCell ⟨B + 3, 0, none⟩ (.int .i64 (x1 : Int))).setCell ⟨B + 3, 1, none⟩ (.int .i64 (x2 : Int))).setCell ⟨B + 3, 2, none⟩ (.int .u8 (x3.toNat : Int))).setCell ⟨B + 4, 0, none⟩ (.int .i64 (m : Int))) ∧ Below B w ((((V.setCell ⟨B + 3, 0, none⟩ (.int .i64 (x1 : Int))).setCell ⟨B + 3, 1, none⟩ (.int .i64 (x2 : Int))).setCell ⟨B + 3, 2, none⟩ (.int .u8 (x3.toNat : Int))).setCell ⟨B + 4, 0, none⟩ (.int .i64 (m : Int))))) := Lib.hid fun V hV hc =>
      BSt.put (x := ⟨(x1, x2, x3), hx⟩) hst hs (by show s.2 < 0 ∨ (f (x1, x2, x3) : Int) ≤ s.2; rw [HFX.out]; exact hc) hB hV rfl HFX.out
    have SKIP : Hid (∀ V, Below W.heap.size W V → ¬ (s.2 < 0 ∨ (m : Int) ≤ s.2) → KeepsOthers W V ∧ KeepC B (B + 5) W V ∧ (BSt B (.slice A N c) (.slice (some ⟨bp, op, none⟩) (N + 1) c') f (pre ++ [⟨(x1, x2, x3), hx⟩]) V ∧ Below B w V)) := Lib.hid fun V hV hc =>
      BSt.skip (x := ⟨(x1, x2, x3), hx⟩) hst hs (by show ¬ (s.2 < 0 ∨ (f (x1, x2, x3) : Int) ≤ s.2); rw [HFX.out]; exact hc) hB hV
    obtain ⟨⟨y1, y2, y3⟩, v⟩ := s
    replace POST : Hid (∀ V, Below W.heap.size W V → (v < 0 ∨ (m : Int) ≤ v) → _) := POST
    replace SKIP : Hid (∀ V, Below W.heap.size W V → ¬ (v < 0 ∨ (m : Int) ≤ v) → _) := SKIP
    have k3' : Blk W (B + 3) 46 #[.int .i64 (y1 : Int), .int .i64 (y2 : Int), .int .u8 (y3.toNat : Int)] := k3
    have k4' : Blk W (B + 4) 3 #[.int .i64 v] := k4
    clear k3 k4 hs hst hB hgk hR hz hp hk hq hm hPW hlt HFx
    unfold tokV at PR SZ
    show Code.wpIn _ _ _ _ _ { tmps := #[_, _, _, _, _, _, _, _, _, _, _, _, _, _, _, .agg #[.int .i64 (x1 : Int), .int .i64 (x2 : Int), .int .u8 (x3.toNat : Int)], _, _, _, _, _, _, _, _, _, _, _, _, _, _, _, _, _, _, _, _, _], defers := _ } _
    gi_wp2_with fail
    have hH : Below W.heap.size W W.drew := (Below.refl _ _).drew
    refine region_round' (fun V => V.cell? ⟨g, 0, none⟩ = some (.int .i64 (x1 : Int)) ∧ V.cell? ⟨g, 1, none⟩ = some (.int .i64 (x2 : Int)) ∧ V.cell? ⟨g, 2, none⟩ = some (.int .u8 (x3.toNat : Int)) ∧ V.cell? ⟨B, 0, none⟩ = some (.int .i64 (a : Int)) ∧ V.cell? ⟨B + 1, 0, none⟩ = some (.slice (some ⟨bp, op, none⟩) (N + 1) c') ∧ V.cell? ⟨bp, op + k, none⟩ = some (.int .i64 (q : Int))) (by kernel_rfl) (by kernel_rfl) (KEEP.out _ hH) (fun hHeld => ?_)
    refine wpAnyH_take (i := 0) (v := ?_) rfl (by kernel_rfl) (by kernel_rfl) (by kernel_rfl) (fun _ _ _ h => h) (Or.inl ⟨by rfl, ?_⟩) hHeld ?_
    rotate_left
    · (intro W' hSw; obtain ⟨s0, s1, s2, s3, s4, s5⟩ := hSw; go_simp; try with_reducible rfl)
    try simp only [Act.put, List.setIfInBounds_toArray, List.set_cons_zero, List.set_cons_succ, List.getElem_toArray, List.getElem_cons_succ, List.getElem_cons_zero]
    refine wpAnyH_take (i := 2) (v := ?_) rfl (by kernel_rfl) (by kernel_rfl) (by kernel_rfl) (fun _ _ _ h => h) (Or.inl ⟨by rfl, ?_⟩) hHeld ?_
    rotate_left
    · (intro W' hSw; obtain ⟨s0, s1, s2, s3, s4, s5⟩ := hSw; go_simp; try with_reducible rfl)
    try simp only [Act.put, List.setIfInBounds_toArray, List.set_cons_zero, List.set_cons_succ, List.getElem_toArray, List.getElem_cons_succ, List.getElem_cons_zero]
    refine wpAnyH_take (i := 3) (v := ?_) rfl (by kernel_rfl) (by kernel_rfl) (by kernel_rfl) (fun _ _ _ h => h) (Or.inl ⟨by rfl, ?_⟩) hHeld ?_
    rotate_left
    · (intro W' hSw; obtain ⟨s0, s1, s2, s3, s4, s5⟩ := hSw; go_simp; try with_reducible rfl)
    try simp only [Act.put, List.setIfInBounds_toArray, List.set_cons_zero, List.set_cons_succ, List.getElem_toArray, List.getElem_cons_succ, List.getElem_cons_zero]
    refine wpAnyH_take (i := 4) (v := ?_) rfl (by kernel_rfl) (by kernel_rfl) (by kernel_rfl) (fun _ _ _ h => h) (Or.inl ⟨by rfl, ?_⟩) hHeld ?_
    rotate_left
    · (intro W' hSw; obtain ⟨s0, s1, s2, s3, s4, s5⟩ := hSw; go_simp; try with_reducible rfl)
    try simp only [Act.put, List.setIfInBounds_toArray, List.set_cons_zero, List.set_cons_succ, List.getElem_toArray, List.getElem_cons_succ, List.getElem_cons_zero]
    refine wpAnyH_ready (rs := [1]) (by kernel_rfl) (by simp) ?_
    refine AllReadyH.cons (o := ?_) ?_ (fun K' hK => ?_) AllReadyH.nil
    rotate_left
    · (simp only [List.getElem?_toArray, List.getElem?_cons_succ, List.getElem?_cons_zero] <;> rfl)
    go_simp
    go_at_call 19; refine (PR.out _).mono ?_; rintro e w5 ⟨rfl, hb5⟩; have hH := bsa hH hb5
    refine hK.out _ _ (KEEP.out _ hH) (fun hHeld' => ?_)
    clear hK K' hHeld
    have hHeld := hHeld'
    clear hHeld'
    try simp only [Act.put, List.setIfInBounds_toArray, List.set_cons_zero, List.set_cons_succ, List.getElem_toArray, List.getElem_cons_succ, List.getElem_cons_zero]
    refine wpAnyH_ready (rs := [5]) (by kernel_rfl) (by simp) ?_
    refine AllReadyH.cons (o := ?_) ?_ (fun K' hK => ?_) AllReadyH.nil
    rotate_left
    · (simp only [List.getElem?_toArray, List.getElem?_cons_succ, List.getElem?_cons_zero] <;> rfl)
    go_simp
    go_at_call 22; refine (SZ.out _).mono ?_; rintro e w6 ⟨rfl, hb6⟩; have hH := bsa hH hb6
    refine hK.out _ _ (KEEP.out _ hH) (fun hHeld' => ?_)
    clear hK K' hHeld
    have hHeld := hHeld'
    clear hHeld'
    try simp only [Act.put, List.setIfInBounds_toArray, List.set_cons_zero, List.set_cons_succ, List.getElem_toArray, List.getElem_cons_succ, List.getElem_cons_zero]
    refine wpAnyH_take (i := 6) (v := ?_) rfl (by kernel_rfl) (by kernel_rfl) (by kernel_rfl) (fun _ _ _ h => h) (Or.inl ⟨by rfl, ?_⟩) hHeld ?_
    rotate_left
    · (intro W' hSw; obtain ⟨s0, s1, s2, s3, s4, s5⟩ := hSw; go_simp; try with_reducible rfl)
    try simp only [Act.put, List.setIfInBounds_toArray, List.set_cons_zero, List.set_cons_succ, List.getElem_toArray, List.getElem_cons_succ, List.getElem_cons_zero]
    refine wpAnyH_take (i := 7) (v := ?_) rfl (by kernel_rfl) (by kernel_rfl) (by kernel_rfl) (fun _ _ _ h => h) (Or.inl ⟨by rfl, ?_⟩) hHeld ?_
    rotate_left
    · (intro W' hSw; obtain ⟨s0, s1, s2, s3, s4, s5⟩ := hSw; go_simp; try with_reducible rfl)
    try simp only [Act.put, List.setIfInBounds_toArray, List.set_cons_zero, List.set_cons_succ, List.getElem_toArray, List.getElem_cons_succ, List.getElem_cons_zero]
    refine wpAnyH_take (i := 8) (v := ?_) rfl (by kernel_rfl) (by kernel_rfl) (by kernel_rfl) (fun _ _ _ h => h) (Or.inl ⟨by rfl, ?_⟩) hHeld ?_
    rotate_left
    · (intro W' hSw; obtain ⟨s0, s1, s2, s3, s4, s5⟩ := hSw; go_simp; try with_reducible rfl)
    try simp only [Act.put, List.setIfInBounds_toArray, List.set_cons_zero, List.set_cons_succ, List.getElem_toArray, List.getElem_cons_succ, List.getElem_cons_zero]
    refine wpAnyH_take (i := 9) (v := ?_) rfl (by kernel_rfl) (by kernel_rfl) (by kernel_rfl) (fun _ _ _ h => h) (Or.inl ⟨by rfl, ?_⟩) hHeld ?_
    rotate_left
    · (intro W' hSw; obtain ⟨s0, s1, s2, s3, s4, s5⟩ := hSw; go_simp; try with_reducible rfl)
    try simp only [Act.put, List.setIfInBounds_toArray, List.set_cons_zero, List.set_cons_succ, List.getElem_toArray, List.getElem_cons_succ, List.getElem_cons_zero]
    refine wpAnyH_take (i := 10) (v := ?_) rfl (by kernel_rfl) (by kernel_rfl) (by kernel_rfl) (fun _ _ _ h => h) (Or.inl ⟨by rfl, ?_⟩) hHeld ?_
    rotate_left
    · (intro W' hSw; obtain ⟨s0, s1, s2, s3, s4, s5⟩ := hSw; go_simp; try with_reducible rfl)
    try simp only [Act.put, List.setIfInBounds_toArray, List.set_cons_zero, List.set_cons_succ, List.getElem_toArray, List.getElem_cons_succ, List.getElem_cons_zero]
    refine wpAnyH_done (by kernel_rfl) ?_ _
    refine onlyN_normal ?_
    have z3 := k3'.later hH
    have z4 := k4'.later hH
    have c0 := z3.cell 0
    have c1 := z3.cell 1
    have c2 := z3.cell 2
    have c4 := z4.cell0
    obtain ⟨d0, d1, d2, _⟩ := hHeld
    have f0 := z3.frozen 0
    have f1 := z3.frozen 1
    have f2 := z3.frozen 2
    have f4 := z4.frozen 0
    by_cases hv : v < 0
    · have PP := Lib.hid (POST.out _ hH (.inl hv))
      clear POST SKIP
      gi_wp2
      exact ⟨PP.out.1.from _, PP.out.2.1, PP.out.2.2⟩
    · by_cases hmv : (m : Int) ≤ v
      · have PP := Lib.hid (POST.out _ hH (.inr hmv))
        clear POST SKIP
        gi_wp2
        exact ⟨PP.out.1.from _, PP.out.2.1, PP.out.2.2⟩
      · have PP := Lib.hid (SKIP.out _ hH (fun h => h.elim hv hmv))
        clear POST SKIP
        gi_wp2
        exact ⟨PP.out.1.from _, PP.out.2.1, PP.out.2.2⟩
  case done =>
    rintro D ys W hD hys ⟨hst, hB⟩ hK
    have k3 := hst.1
    have k4 := hst.2.1
    rw [hys, HB2.out] at k3 k4
    obtain ⟨t1, t2, t3⟩ := t
    have k3' : Blk W (B + 3) 46 #[.int .i64 (t1 : Int), .int .i64 (t2 : Int), .int .u8 (t3.toNat : Int)] := k3
    have k4' : Blk W (B + 4) 3 #[.int .i64 (n : Int)] := k4
    have k2 := hst.2.2.2.2.1
    have c0 := k3'.cell 0
    have c1 := k3'.cell 1
    have c2 := k3'.cell 2
    have c4 := k4'.cell0
    have e0 := k2.cell 0
    have e1 := k2.cell 1
    have e2 := k2.cell 2
    have g0 := k2.frozen 0
    have g1 := k2.frozen 1
    have g2 := k2.frozen 2
    clear k3 k4
    gi_wp2
    refine wpIn_wide.2 ?_
    go_region
    gi_wp2
    have hK9 : ((((W.setCell ⟨B + 2, 0, none⟩ (.int .i64 (t1 : Int))).setCell ⟨B + 2, 1, none⟩ (.int .i64 (t2 : Int))).setCell ⟨B + 2, 2, none⟩ (.int .u8 (t3.toNat : Int))).drew).heap[D]? = some (.deferred (some [])) := ((((KeepsOthers.refl W).trans (KeepsOthers.setCell _ _ _)).trans (KeepsOthers.setCell _ _ _)).trans (KeepsOthers.setCell _ _ _)).same D _ hK rfl
    have k9 : Blk ((((W.setCell ⟨B + 2, 0, none⟩ (.int .i64 (t1 : Int))).setCell ⟨B + 2, 1, none⟩ (.int .i64 (t2 : Int))).setCell ⟨B + 2, 2, none⟩ (.int .u8 (t3.toNat : Int))).drew) (B + 2) 46 (tokC (t1, t2, t3)) := (((k2.store 0 _).store 1 _).store 2 _).drew
    have hB9 : Below B w ((((W.setCell ⟨B + 2, 0, none⟩ (.int .i64 (t1 : Int))).setCell ⟨B + 2, 1, none⟩ (.int .i64 (t2 : Int))).setCell ⟨B + 2, 2, none⟩ (.int .u8 (t3.toNat : Int))).drew) := (((hB.setCell (p := ⟨B + 2, 0, none⟩) (by show B ≤ B + 2; omega) _).setCell (p := ⟨B + 2, 1, none⟩) (by show B ≤ B + 2; omega) _).setCell (p := ⟨B + 2, 2, none⟩) (by show B ≤ B + 2; omega) _).drew
    obtain ⟨W9, hW9⟩ : ∃ W9, ((((W.setCell ⟨B + 2, 0, none⟩ (.int .i64 (t1 : Int))).setCell ⟨B + 2, 1, none⟩ (.int .i64 (t2 : Int))).setCell ⟨B + 2, 2, none⟩ (.int .u8 (t3.toNat : Int))).drew) = W9 := ⟨_, rfl⟩
    rw [hW9] at hK9 k9 hB9 ⊢
    refine ⟨by simp, .inl ⟨_, _, rfl, run_takeDeferred hK9, ?_⟩⟩
    have hDz : B + 7 ≤ D := by rw [← hz3]; exact hD
    have k10 : Blk (W9.putObj D (.deferred none)) (B + 2) 46 (tokC (t1, t2, t3)) := (World.putObj_heap_other (by omega)).trans k9
    exact ⟨_, result_tk rfl _ _ (B + 2) rfl k10 rfl, rfl, by rw [← HBE.out]; exact hB9.trans (belowK_b (w := w) (by rw [← HBE.out]; exact Nat.le_refl _) W9 D _ _ (by rw [← HBE.out]; omega) hK9 rfl rfl)⟩
  case stop =>
    rintro D c pre W _ _ h _
    exact h.elim
end Go.Proofs.Ytfahfbkkgcekgaa.H
