/- bits.Read. -/
import Derived.Test.YtfahfbkkgcekgaaYI
namespace Go.Proofs.Ytfahfbkkgcekgaa.H
set_option linter.unusedVariables false
set_option linter.unusedSimpArgs false
open Go Go.RowKit Go.Shelf Go.Proofs.Ytfahfbkkgcekgaa Go.Proofs.Ytfahfbkkgcekgaa.W Go.Proofs.Ytfahfbkkgcekgaa.M
attribute [local go_sem] Oper.semAt_some

theorem places_in (F : Fence) (n : Nat) (h5 : F.fn 53) (hro : F.round = none) (T : Nat) (a e : Int) (w : World) :
    CallsIn F n Try.prog 53 #[.pointer (some ⟨T, 0, none⟩), .int .i64 a, .int .i64 e] w fun en w' => en = .returned (.func (.func 55) #[] #[.pointer (some ⟨w.heap.size + 1, 0, none⟩), .pointer (some ⟨w.heap.size + 2, 0, none⟩), .pointer (some ⟨w.heap.size, 0, none⟩)]) ∧
      w' = ((w.alloc (.cells #[.pointer (some ⟨T, 0, none⟩)] 93)).alloc (.cells #[.int .i64 a] 3)).alloc (.cells #[.int .i64 e] 3) := by
  refine callsIn_of_wp Try.func53 rfl h5 ?_ hro
  simp only [Try.ntmps53, List.size_toArray, List.length_cons, List.length_nil, Nat.reduceAdd, Nat.reduceSub, Array.replicate_succ, Array.replicate_zero, List.push_toArray, List.append_toArray, List.nil_append, List.cons_append]
  gi_wp2
  go_ret
  exact ⟨rfl, rfl⟩
def encO (x : Bool) : Array Value := #[.bool x]
theorem places_stops (n : Nat) (hn : 1 ≤ n) (g n₀ T : Nat) (A : Option Addr) (c L K a e : Nat) (D : Bs) (hD : D.length = L) (hK : K = 8 * L) (hL : L ≤ 65536) (hae : a ≤ e) (heK : e ≤ K) (hTn : T < n₀) (w : World) (hn₀ : n₀ ≤ w.heap.size)
    (hb0 : Blk w g 93 #[.pointer (some ⟨T, 0, none⟩)]) (hb1 : Blk w (g + 1) 3 #[.int .i64 (a : Int)]) (hb2 : Blk w (g + 2) 3 #[.int .i64 (e : Int)]) (hT : Blk w T 95 #[.slice A L c, .int .i64 (K : Int)]) (hS : Sl u8 w n₀ A D) :
    SeqStopsK Fence.wide n Try.prog 55 #[.pointer (some ⟨g + 1, 0, none⟩), .pointer (some ⟨g + 2, 0, none⟩), .pointer (some ⟨g, 0, none⟩)] encO (KeepP n₀ g) (fun ys => ys = bitsD D a (e - a)) (fun pre => pre <+: bitsD D a (e - a)) (bitsD D a (e - a)).length w := fun l J Jx W hW hA _ hY h0 => by
  have key := places1_in n hn l g n₀ T A c L K a e D hD hK hL hae heK hTn J Jx (fun pre p W1 hJ hp => hY pre p W1 hJ (by have := hp.length_le; simp at this; omega))
    W hA (hb0.later hW) (hb1.later hW) (hb2.later hW) (hT.later hW) (hS.below (hW.mono hn₀)) (Nat.le_trans hn₀ hW.size) h0
  refine key.mono ?_
  rintro en W' ⟨he, (⟨ys, rfl, hj⟩ | ⟨pre, hp, hj⟩)⟩
  · exact ⟨he, .inl ⟨_, rfl, hj⟩⟩
  · exact ⟨he, .inr ⟨pre, hp, hj⟩⟩
theorem valB_from : ∀ (l : List Bool) (s : Nat), l.foldl (fun n x => 2 * n + x.toNat) s < (s + 1) * 2 ^ l.length
  | [], s => by show s < (s + 1) * 1; omega
  | x :: l, s => by
    have h1 := valB_from l (2 * s + x.toNat)
    have h2 : x.toNat ≤ 1 := by cases x <;> decide
    rw [List.foldl_cons, List.length_cons]
    refine Nat.lt_of_lt_of_le h1 ?_
    rw [Nat.pow_succ, Nat.mul_comm (2 ^ l.length) 2, ← Nat.mul_assoc]
    exact Nat.mul_le_mul_right _ (by omega)
theorem valB_lt (l : List Bool) : valB l < 2 ^ l.length := by
  have h := valB_from l 0
  rwa [Nat.zero_add, Nat.one_mul] at h
/-- Between two bits: the number so far in block B + 1. -/
def RSt (B T a e : Nat) (pre : List Bool) (W : World) : Prop := Blk W (B + 1) 84 #[.int .u32 (valB pre : Int)] ∧ Blk W (B + 2) 93 #[.pointer (some ⟨T, 0, none⟩)] ∧ Blk W (B + 3) 3 #[.int .i64 (a : Int)] ∧ Blk W (B + 4) 3 #[.int .i64 (e : Int)]
theorem RSt.own {B T a e : Nat} : Own (RSt B T a e) := fun s X Y row hs hg hr =>
  ⟨blk_own s X Y row hs.1 hg hr, blk_own s X Y row hs.2.1 hg hr, blk_own s X Y row hs.2.2.1 hg hr, blk_own s X Y row hs.2.2.2 hg hr⟩
theorem RSt.put {B T a e u : Nat} {pre pre' : List Bool} {w W : World} (h : RSt B T a e pre W) (hB : Below B w W) (hv : valB pre' = u) :
    KeepsOthers W (W.setCell ⟨B + 1, 0, none⟩ (.int .u32 (u : Int))) ∧ KeepP (B + 1) (B + 2) W (W.setCell ⟨B + 1, 0, none⟩ (.int .u32 (u : Int))) ∧ RSt B T a e pre' (W.setCell ⟨B + 1, 0, none⟩ (.int .u32 (u : Int))) ∧ Below B w (W.setCell ⟨B + 1, 0, none⟩ (.int .u32 (u : Int))) := by
  obtain ⟨h1, h2, h3, h4⟩ := h
  have hb' : Below (B + 1) W (W.setCell ⟨B + 1, 0, none⟩ (.int .u32 (u : Int))) := (Below.refl _ W).setCell (p := ⟨B + 1, 0, none⟩) (Nat.le_refl _) _
  have r2 := h2.far (p := ⟨B + 1, 0, none⟩) (by show B + 2 ≠ B + 1; omega) (.int .u32 (u : Int))
  have r3 := h3.far (p := ⟨B + 1, 0, none⟩) (by show B + 3 ≠ B + 1; omega) (.int .u32 (u : Int))
  have r4 := h4.far (p := ⟨B + 1, 0, none⟩) (by show B + 4 ≠ B + 1; omega) (.int .u32 (u : Int))
  exact ⟨(KeepsOthers.refl W).trans (KeepsOthers.setCell _ _ _), ⟨⟨hb', hb'.size⟩, (show _ = _ from r2).trans (show _ = _ from h2).symm, (show _ = _ from r3).trans (show _ = _ from h3).symm, (show _ = _ from r4).trans (show _ = _ from h4).symm⟩, ⟨by rw [hv]; exact h1.store 0 _, r2, r3, r4⟩, hB.trans (hb'.mono (by omega))⟩
theorem RSt.put2 {B T a e u v : Nat} {pre pre' : List Bool} {w W : World} (h : RSt B T a e pre W) (hB : Below B w W) (hv : valB pre' = v) :
    KeepsOthers W ((W.setCell ⟨B + 1, 0, none⟩ (.int .u32 (u : Int))).setCell ⟨B + 1, 0, none⟩ (.int .u32 (v : Int))) ∧ KeepP (B + 1) (B + 2) W ((W.setCell ⟨B + 1, 0, none⟩ (.int .u32 (u : Int))).setCell ⟨B + 1, 0, none⟩ (.int .u32 (v : Int))) ∧ RSt B T a e pre' ((W.setCell ⟨B + 1, 0, none⟩ (.int .u32 (u : Int))).setCell ⟨B + 1, 0, none⟩ (.int .u32 (v : Int))) ∧ Below B w ((W.setCell ⟨B + 1, 0, none⟩ (.int .u32 (u : Int))).setCell ⟨B + 1, 0, none⟩ (.int .u32 (v : Int))) := by
  obtain ⟨h1, h2, h3, h4⟩ := h
  have hb' : Below (B + 1) W ((W.setCell ⟨B + 1, 0, none⟩ (.int .u32 (u : Int))).setCell ⟨B + 1, 0, none⟩ (.int .u32 (v : Int))) := ((Below.refl _ W).setCell (p := ⟨B + 1, 0, none⟩) (Nat.le_refl _) _).setCell (p := ⟨B + 1, 0, none⟩) (Nat.le_refl _) _
  have r2 := (h2.far (p := ⟨B + 1, 0, none⟩) (by show B + 2 ≠ B + 1; omega) (.int .u32 (u : Int))).far (p := ⟨B + 1, 0, none⟩) (by show B + 2 ≠ B + 1; omega) (.int .u32 (v : Int))
  have r3 := (h3.far (p := ⟨B + 1, 0, none⟩) (by show B + 3 ≠ B + 1; omega) (.int .u32 (u : Int))).far (p := ⟨B + 1, 0, none⟩) (by show B + 3 ≠ B + 1; omega) (.int .u32 (v : Int))
  have r4 := (h4.far (p := ⟨B + 1, 0, none⟩) (by show B + 4 ≠ B + 1; omega) (.int .u32 (u : Int))).far (p := ⟨B + 1, 0, none⟩) (by show B + 4 ≠ B + 1; omega) (.int .u32 (v : Int))
  exact ⟨((KeepsOthers.refl W).trans (KeepsOthers.setCell _ _ _)).trans (KeepsOthers.setCell _ _ _), ⟨⟨hb', hb'.size⟩, (show _ = _ from r2).trans (show _ = _ from h2).symm, (show _ = _ from r3).trans (show _ = _ from h3).symm, (show _ = _ from r4).trans (show _ = _ from h4).symm⟩, ⟨by rw [hv]; exact (h1.store 0 _).store 0 _, r2, r3, r4⟩, hB.trans (hb'.mono (by omega))⟩
set_option maxRecDepth 100000 in
set_option maxHeartbeats 4000000 in
theorem bread_ok (A : Option Addr) (c L K a k : Nat) (D : Bs) (hD : D.length = L) (hK : K = 8 * L) (hL : L ≤ 65536) (hk : k ≤ 32) (hak : a + k ≤ K) (n : Nat) (hn : rd D a k = n) (w : World) (hS : Sl u8 w w.heap.size A D) :
    Calls Try.prog 46 #[.agg #[.slice A L c, .int .i64 (K : Int)], .int .i64 (a : Int), .int .i64 (k : Int)] w fun e w' => e = .returned (.tuple #[.int .u32 (n : Int), .int .i64 0]) ∧ Below w.heap.size w w' := by
  have hB0 : Below w.heap.size w (w.alloc (.cells #[.slice A L c, .int .i64 (K : Int)] 53)) := (Below.refl _ _).alloc (Nat.le_refl _) _
  have hb0 : Blk (w.alloc (.cells #[.slice A L c, .int .i64 (K : Int)] 53)) w.heap.size 53 #[.slice A L c, .int .i64 (K : Int)] := Blk.new _ _ _
  have CK := Lib.hid (fun W => bcheck_ok A L c K hK hL W)
  have HD := Lib.hid hD
  have HK := Lib.hid hK
  have HN : Hid (valB (bitsD D a k) = n) := Lib.hid hn
  have hK6 : K ≤ 524288 := by omega
  have v1 : ¬ (k : Int) < 0 := by omega
  have v2 : ¬ (32 : Int) < (k : Int) := by omega
  have v3 : ¬ (a : Int) < 0 := by omega
  obtain ⟨m, hm⟩ : ∃ m, K - k = m := ⟨_, rfl⟩
  have v4 : (K : Int) - (k : Int) = (m : Int) := by omega
  have v5 : IntKind.i64.wrap (m : Int) = (m : Int) := by rw [IntKind.wrap_i64]; omega
  have v6 : ¬ (m : Int) < (a : Int) := by omega
  obtain ⟨e, he⟩ : ∃ e, a + k = e := ⟨_, rfl⟩
  have v7 : (a : Int) + (k : Int) = (e : Int) := by omega
  have v8 : IntKind.i64.wrap (e : Int) = (e : Int) := by rw [IntKind.wrap_i64]; omega
  have hea : e - a = k := by omega
  have hae : a ≤ e := by omega
  have heK : e ≤ K := by omega
  have HEA := Lib.hid hea
  clear hD hK hn hm he hea
  refine (callsIn_wide (n := 4)).1 ?_
  refine callsIn_of_wp_marks Try.func46 rfl trivial ?_ rfl
  simp only [Try.ntmps46, List.size_toArray, List.length_cons, List.length_nil, Nat.reduceAdd, Nat.reduceSub, Array.replicate_succ, Array.replicate_zero, List.push_toArray, List.append_toArray, List.nil_append, List.cons_append]
  gi_wp2_with (first
    | (refine ⟨trivial, ?_⟩; gi_at_call 52; refine (callsIn_wide.2 (CK.out _)).mono ?_; rintro en w1 ⟨rfl, hb1⟩; have hB1 := bsa hB0 hb1; have hk1 := hb0.later hb1; have c0 := hk1.cell 0; have c1 := hk1.cell 1)
    | (refine ⟨trivial, ?_⟩; gi_at_call 53; refine (places_in Fence.wide _ trivial rfl _ _ _ _).mono ?_; rintro en w3 ⟨rfl, rfl⟩))
  obtain ⟨B, hB⟩ : ∃ B, B = w1.heap.size := ⟨_, rfl⟩
  obtain ⟨w3, hw3⟩ : ∃ w3, w3 = ((((w1.alloc (.cells #[.slice A L c, .int .i64 (K : Int)] 95)).alloc (.cells #[.int .u32 0] 84)).alloc (.cells #[.pointer (some ⟨w1.heap.size, 0, none⟩)] 93)).alloc (.cells #[.int .i64 (a : Int)] 3)).alloc (.cells #[.int .i64 (e : Int)] 3) := ⟨_, rfl⟩
  have hz3 : w3.heap.size = B + 5 := by rw [hw3, hB]; simp
  have hBw : Below B w1 w3 := by rw [hw3, hB]; exact (((((Below.refl _ w1).alloc (Nat.le_refl _) _).alloc (by simp) _).alloc (by simp; omega) _).alloc (by simp; omega) _).alloc (by simp; omega) _
  have kT : Blk w3 B 95 #[.slice A L c, .int .i64 (K : Int)] := by rw [hw3, hB]; exact ((((Blk.new _ _ _).alloc _).alloc _).alloc _).alloc _
  have kR : RSt B B a e [] w3 := by
    rw [hw3, hB]
    exact ⟨(((Blk.new' (by simp) _ _).alloc _).alloc _).alloc _, ((Blk.new' (by simp) _ _).alloc _).alloc _, (Blk.new' (by simp) _ _).alloc _, Blk.new' (by simp) _ _⟩
  have hB3 : Below w.heap.size w w3 := hB1.trans (hBw.mono (by rw [hB]; exact hB1.size))
  have hz1 := hB1.size
  have hS3 : Sl u8 w3 (B + 1) A D := (hS.below hB3).more (by omega)
  have HBE := Lib.hid hB
  have HB3 := Lib.hid hB3
  rw [← hw3, ← hB]
  simp only [Nat.add_assoc, Nat.reduceAdd]
  clear hw3 hB hS hB3 hBw
  have eg := enters_of (P := Try.prog) Try.func55 (by kernel_rfl) rfl
  refine wpIn_rangeFunc_ownH rfl (by omega) (gf := 55) (lb := #[.pointer (some ⟨B + 3, 0, none⟩), .pointer (some ⟨B + 4, 0, none⟩), .pointer (some ⟨B + 2, 0, none⟩)]) rfl trivial eg
    (places_stops _ (by omega) (B + 2) (B + 1) B A c L K a e D HD.out HK.out hL hae heK (by omega) w3 (by omega) kR.2.1 kR.2.2.1 kR.2.2.2 kT hS3) (fun h k => h.trans k)
    (fun W l o o' hl ho h1 h2 => ⟨⟨belowK_b (w := w3) (by omega) W l o o' hl ho h1 h2, by simp⟩, World.putObj_heap_other (by omega), World.putObj_heap_other (by omega), World.putObj_heap_other (by omega)⟩) (Below.refl _ _) (fun _ => rfl)
    (fun pre W => RSt B B a e pre W ∧ Below B w3 W)
    (fun _ _ _ => False)
    (OwnFrom.and (Own.from RSt.own _) (ownFrom_below (by omega) (by omega)))
    (fun _ _ _ _ _ hs _ _ => hs)
    ⟨kR, Below.refl _ _⟩
    (fun x a' W => a' = { tmps := #[.agg #[.slice A L c, .int .i64 (K : Int)], .int .i64 (a : Int), .int .i64 (k : Int), .pointer (some ⟨w.heap.size, 0, none⟩), undef, undef, .int .u32 0, .int .i64 0, .int .i64 0, .pointer (some ⟨B, 0, none⟩), .pointer (some ⟨B + 1, 0, none⟩), .bool x, .agg #[.slice A L c, .int .i64 (K : Int)], .int .i64 0, .bool false, .int .i64 0, .bool false, undef, .bool (decide ((k : Int) < 0) || decide ((32 : Int) < (k : Int)) || decide ((a : Int) < 0)), .int .i64 (k : Int), .bool (decide ((k : Int) < 0)), .bool (decide ((k : Int) < 0)), .int .i64 (k : Int), .bool (decide ((32 : Int) < (k : Int))), .bool (decide ((k : Int) < 0) || decide ((32 : Int) < (k : Int))), .bool (decide ((k : Int) < 0) || decide ((32 : Int) < (k : Int))), .int .i64 (a : Int), .bool (decide ((a : Int) < 0)), .bool (decide ((k : Int) < 0) || decide ((32 : Int) < (k : Int)) || decide ((a : Int) < 0)), .bool false, .int .i64 (a : Int), .pointer (some ⟨w.heap.size, 1, none⟩), .int .i64 (K : Int), .int .i64 (k : Int), .int .i64 (m : Int), .bool false, .agg #[.slice A L c, .int .i64 (K : Int)], .agg #[.slice A L c, .int .i64 (K : Int)], .pointer (some ⟨B, 0, none⟩), .pointer (some ⟨B, 0, none⟩), .int .i64 (a : Int), .int .i64 (a : Int), .int .i64 (k : Int), .int .i64 (e : Int), .func (.func 55) #[] #[.pointer (some ⟨B + 3, 0, none⟩), .pointer (some ⟨B + 4, 0, none⟩), .pointer (some ⟨B + 2, 0, none⟩)], .bool x, undef, undef, undef, undef, undef, undef], defers := [] })
    (fun x a' s X Y row hs hg hr => hs) ?assign ?body ?done ?stop
  case assign =>
    rintro l' pre x W K1 hst hK1
    unfold encO
    gi_wp2
    exact hK1 _ _ (KeepsFrom.refl _ _) (KeepP.refl _ _ _) hst rfl
  case body =>
    rintro l' pre x a' W hl' _ ⟨hst, hb⟩ rfl hlt
    have hlt2 : pre.length < 32 := by unfold bitsD at hlt; simp at hlt; have := HEA.out; omega
    obtain ⟨v, hv⟩ : ∃ v, valB pre = v := ⟨_, rfl⟩
    have hv1 : v < 2 ^ 31 := by rw [← hv]; exact Nat.lt_of_lt_of_le (valB_lt pre) (Nat.pow_le_pow_right (by decide) (by omega))
    have hvx : ∀ x : Bool, valB (pre ++ [x]) = 2 * v + x.toNat := fun x => by rw [valB_snoc, hv]
    have c0 : W.cell? ⟨B + 1, 0, none⟩ = some (.int .u32 (v : Int)) := by rw [← hv]; exact hst.1.cell0
    have f0 := hst.1.frozen 0
    obtain ⟨v2, hv2⟩ : ∃ v2, 2 * v = v2 := ⟨_, rfl⟩
    obtain ⟨v3, hv3⟩ : ∃ v3, v2 + 1 = v3 := ⟨_, rfl⟩
    have u1 : (v : Int) * 2 = (v2 : Int) := by omega
    have u2 : IntKind.u32.wrap (v2 : Int) = (v2 : Int) := by rw [IntKind.wrap_u32]; omega
    have u3 : (v2 : Int) + 1 = (v3 : Int) := by omega
    have u4 : IntKind.u32.wrap (v3 : Int) = (v3 : Int) := by rw [IntKind.wrap_u32]; omega
    have P1 := fun h => Lib.hid (RSt.put (pre' := pre ++ [false]) (u := v2) hst hb h)
    have P2 := fun h => Lib.hid (RSt.put2 (pre' := pre ++ [true]) (u := v2) (v := v3) hst hb h)
    replace P1 := P1 (by rw [hvx]; show _ + 0 = _; omega)
    replace P2 := P2 (by rw [hvx]; show _ + 1 = _; omega)
    clear hst hv hv1 hvx hv2 hv3
    cases x with
    | true =>
      gi_wp2
      exact ⟨P2.out.1.from _, P2.out.2.1, P2.out.2.2.1, P2.out.2.2.2⟩
    | false =>
      gi_wp2
      exact ⟨P1.out.1.from _, P1.out.2.1, P1.out.2.2.1, P1.out.2.2.2⟩
  case done =>
    rintro D' ys W hD hys ⟨hst, hb⟩ hK
    have hvn : valB ys = n := by rw [hys, HEA.out]; exact HN.out
    have c0 : W.cell? ⟨B + 1, 0, none⟩ = some (.int .u32 (n : Int)) := by rw [← hvn]; exact hst.1.cell0
    gi_wp2
    have hBz := HBE.out
    have hDz : B + 5 ≤ D' := by rw [← hz3]; exact hD
    refine ⟨by simp, .inl ⟨_, _, rfl, run_takeDeferred hK, ?_⟩⟩
    exact ⟨_, results_tmp2 rfl _ _ _, rfl, HB3.out.trans (hb.mono (by omega) |>.trans (belowK_b (w := w3) (by omega) W D' _ _ (by omega) hK rfl rfl))⟩
  case stop =>
    rintro D c pre W _ _ h _
    exact h.elim
end Go.Proofs.Ytfahfbkkgcekgaa.H
