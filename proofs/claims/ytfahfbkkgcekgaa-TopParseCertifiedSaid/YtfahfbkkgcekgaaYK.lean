/- bits.ReadGamma. -/
import Derived.Test.YtfahfbkkgcekgaaYJ
namespace Go.Proofs.Ytfahfbkkgcekgaa.H
set_option linter.unusedVariables false
set_option linter.unusedSimpArgs false
open Go Go.RowKit Go.Shelf Go.Proofs.Ytfahfbkkgcekgaa Go.Proofs.Ytfahfbkkgcekgaa.W Go.Proofs.Ytfahfbkkgcekgaa.M
attribute [local go_sem] Oper.semAt_some

theorem bitsD_get {D : Bs} {a c i : Nat} (h : i < c) : (bitsD D a c)[i]? = some (bitD D (a + i)) := by simp [bitsD, h]
theorem first_true {D : Bs} {a c z : Nat} {p : List Bool} (hz : ∀ i, i < z → bitD D (a + i) = false) (h1 : bitD D (a + z) = true) (hp : p ++ [true] <+: bitsD D a c) (h0 : ∀ x ∈ p, x = false) : p.length = z := by
  have hg : ∀ i x, (p ++ [true])[i]? = some x → bitD D (a + i) = x := fun i x hx => by
    have h2 : (bitsD D a c)[i]? = some x := by
      obtain ⟨r, hr⟩ := hp
      rw [← hr, List.getElem?_append_left (List.getElem?_eq_some_iff.1 hx).1]; exact hx
    have h3 : i < c := by have := (List.getElem?_eq_some_iff.1 h2).1; unfold bitsD at this; simpa using this
    rw [bitsD_get h3] at h2
    injection h2
  rcases Nat.lt_trichotomy p.length z with h | h | h
  · have e1 := hg p.length true (by simp)
    rw [hz _ h] at e1; cases e1
  · exact h
  · have e1 := hg z p[z] (by rw [List.getElem?_append_left h, List.getElem?_eq_getElem h])
    rw [h1, h0 _ (List.getElem_mem h)] at e1; cases e1
theorem no_true {D : Bs} {a c z : Nat} (h1 : bitD D (a + z) = true) (hz : z < c) (h0 : ∀ x ∈ bitsD D a c, x = false) : False := by
  have := h0 true (by rw [← h1]; exact List.mem_of_getElem? (bitsD_get hz))
  cases this
/-- Between two bits: how many there were in block B + 1. -/
def GSt (B T a e : Nat) (v : Nat) (W : World) : Prop := Blk W (B + 1) 3 #[.int .i64 (v : Int)] ∧ Blk W (B + 2) 93 #[.pointer (some ⟨T, 0, none⟩)] ∧ Blk W (B + 3) 3 #[.int .i64 (a : Int)] ∧ Blk W (B + 4) 3 #[.int .i64 (e : Int)]
theorem GSt.put {B T a e u v : Nat} {w W : World} (h : GSt B T a e v W) (hB : Below B w W) :
    KeepsOthers W (W.setCell ⟨B + 1, 0, none⟩ (.int .i64 (u : Int))) ∧ KeepP (B + 1) (B + 2) W (W.setCell ⟨B + 1, 0, none⟩ (.int .i64 (u : Int))) ∧ GSt B T a e u (W.setCell ⟨B + 1, 0, none⟩ (.int .i64 (u : Int))) ∧ Below B w (W.setCell ⟨B + 1, 0, none⟩ (.int .i64 (u : Int))) := by
  obtain ⟨h1, h2, h3, h4⟩ := h
  have hb' : Below (B + 1) W (W.setCell ⟨B + 1, 0, none⟩ (.int .i64 (u : Int))) := (Below.refl _ W).setCell (p := ⟨B + 1, 0, none⟩) (Nat.le_refl _) _
  have r2 := h2.far (p := ⟨B + 1, 0, none⟩) (by show B + 2 ≠ B + 1; omega) (.int .i64 (u : Int))
  have r3 := h3.far (p := ⟨B + 1, 0, none⟩) (by show B + 3 ≠ B + 1; omega) (.int .i64 (u : Int))
  have r4 := h4.far (p := ⟨B + 1, 0, none⟩) (by show B + 4 ≠ B + 1; omega) (.int .i64 (u : Int))
  exact ⟨(KeepsOthers.refl W).trans (KeepsOthers.setCell _ _ _), ⟨⟨hb', hb'.size⟩, (show _ = _ from r2).trans (show _ = _ from h2).symm, (show _ = _ from r3).trans (show _ = _ from h3).symm, (show _ = _ from r4).trans (show _ = _ from h4).symm⟩, ⟨h1.store 0 _, r2, r3, r4⟩, hB.trans (hb'.mono (by omega))⟩
def GI (B T a e : Nat) (pre : List Bool) (W : World) : Prop := (∀ x ∈ pre, x = false) ∧ GSt B T a e pre.length W
def GX (k B T a e : Nat) (c : Code) (pre : List Bool) (W : World) : Prop := c = .exit k ∧ ∃ p, pre = p ++ [true] ∧ (∀ x ∈ p, x = false) ∧ GSt B T a e p.length W
theorem GSt.own {B T a e : Nat} {β : Type} (f : β → Nat) : Own (fun (s : β) W => GSt B T a e (f s) W) := fun s X Y row hs hg hr =>
  ⟨blk_own s X Y row hs.1 hg hr, blk_own s X Y row hs.2.1 hg hr, blk_own s X Y row hs.2.2.1 hg hr, blk_own s X Y row hs.2.2.2 hg hr⟩
theorem GI.own {B T a e : Nat} : Own (GI B T a e) := fun s X Y row hs hg hr => ⟨hs.1, GSt.own (fun s : List Bool => s.length) s X Y row hs.2 hg hr⟩
theorem GX.own {k B T a e : Nat} {c : Code} : Own (GX k B T a e c) := fun s X Y row hs hg hr => by
  obtain ⟨h1, p, h2, h3, h4⟩ := hs
  exact ⟨h1, p, h2, h3, GSt.own (fun s : List Bool => s.length) p X Y row h4 hg hr⟩
set_option maxRecDepth 100000 in
set_option maxHeartbeats 4000000 in
theorem rgamma_ok (A : Option Addr) (c L K a z : Nat) (D : Bs) (hD : D.length = L) (hK : K = 8 * L) (hL : L ≤ 65536) (hz : ∀ i, i < z → bitD D (a + i) = false) (h1 : bitD D (a + z) = true) (hz3 : z ≤ 30) (haz : a + 2 * z + 1 ≤ K) (n : Nat) (hn : rd D (a + z) (z + 1) = n) (w : World) (hS : Sl u8 w w.heap.size A D) :
    Calls Try.prog 54 #[.agg #[.slice A L c, .int .i64 (K : Int)], .int .i64 (a : Int)] w fun e w' => e = .returned (.tuple #[.int .i64 (n : Int), .int .i64 ((a + 2 * z + 1 : Nat) : Int), .int .i64 0]) ∧ Below w.heap.size w w' := by
  have hB0 : Below w.heap.size w (w.alloc (.cells #[.slice A L c, .int .i64 (K : Int)] 53)) := (Below.refl _ _).alloc (Nat.le_refl _) _
  have hb0 : Blk (w.alloc (.cells #[.slice A L c, .int .i64 (K : Int)] 53)) w.heap.size 53 #[.slice A L c, .int .i64 (K : Int)] := Blk.new _ _ _
  have CK := Lib.hid (fun W => bcheck_ok A L c K hK hL W)
  have RD : Hid (∀ W, Sl u8 W W.heap.size A D → Calls Try.prog 46 #[.agg #[.slice A L c, .int .i64 (K : Int)], .int .i64 ((a : Int) + (z : Int)), .int .i64 ((z : Int) + 1)] W fun e w' => e = .returned (.tuple #[.int .u32 (n : Int), .int .i64 0]) ∧ Below W.heap.size W w') :=
    Lib.hid (fun W h => bread_ok A c L K (a + z) (z + 1) D hD hK hL (by omega) (by omega) n hn W h)
  have hn31 : n < 2147483648 := by rw [← hn]; exact Nat.lt_of_lt_of_le (rd_lt D _ _) (Nat.le_trans (Nat.pow_le_pow_right (by decide) (show z + 1 ≤ 31 by omega)) (by decide))
  have HS := Lib.hid hS
  have u5 : IntKind.i64.wrap (n : Int) = (n : Int) := by rw [IntKind.wrap_i64]; omega
  have HD := Lib.hid hD
  have HK := Lib.hid hK
  have HZ := Lib.hid hz
  have H1 := Lib.hid h1
  have hK6 : K ≤ 524288 := by omega
  have v3 : ¬ (a : Int) < 0 := by omega
  clear hD hK hn hz h1
  refine (callsIn_wide (n := 4)).1 ?_
  refine callsIn_of_wp_marks Try.func54 rfl trivial ?_ rfl
  simp only [Try.ntmps54, List.size_toArray, List.length_cons, List.length_nil, Nat.reduceAdd, Nat.reduceSub, Array.replicate_succ, Array.replicate_zero, List.push_toArray, List.append_toArray, List.nil_append, List.cons_append]
  gi_wp2_with (first
    | (refine ⟨trivial, ?_⟩; gi_at_call 52; refine (callsIn_wide.2 (CK.out _)).mono ?_; rintro en w1 ⟨rfl, hb1⟩; have hB1 := bsa hB0 hb1; have hk1 := hb0.later hb1; have c0 := hk1.cell 0; have c1 := hk1.cell 1; have d1 := ((hk1.alloc (.cells #[.slice A L c, .int .i64 (K : Int)] 95)).alloc (.cells #[.int .i64 0] 3)).cell 1)
    | (refine ⟨trivial, ?_⟩; gi_at_call 53; refine (places_in Fence.wide _ trivial rfl _ _ _ _).mono ?_; rintro en w3 ⟨rfl, rfl⟩))
  obtain ⟨B, hB⟩ : ∃ B, B = w1.heap.size := ⟨_, rfl⟩
  obtain ⟨w3, hw3⟩ : ∃ w3, w3 = ((((w1.alloc (.cells #[.slice A L c, .int .i64 (K : Int)] 95)).alloc (.cells #[.int .i64 0] 3)).alloc (.cells #[.pointer (some ⟨w1.heap.size, 0, none⟩)] 93)).alloc (.cells #[.int .i64 (a : Int)] 3)).alloc (.cells #[.int .i64 (K : Int)] 3) := ⟨_, rfl⟩
  have hz3' : w3.heap.size = B + 5 := by rw [hw3, hB]; simp
  have hBw : Below B w1 w3 := by rw [hw3, hB]; exact (((((Below.refl _ w1).alloc (Nat.le_refl _) _).alloc (by simp) _).alloc (by simp; omega) _).alloc (by simp; omega) _).alloc (by simp; omega) _
  have kT : Blk w3 B 95 #[.slice A L c, .int .i64 (K : Int)] := by rw [hw3, hB]; exact ((((Blk.new _ _ _).alloc _).alloc _).alloc _).alloc _
  have kR : GSt B B a K 0 w3 := by
    rw [hw3, hB]
    exact ⟨(((Blk.new' (by simp) _ _).alloc _).alloc _).alloc _, ((Blk.new' (by simp) _ _).alloc _).alloc _, (Blk.new' (by simp) _ _).alloc _, Blk.new' (by simp) _ _⟩
  have hB3 : Below w.heap.size w w3 := hB1.trans (hBw.mono (by rw [hB]; exact hB1.size))
  have hz1 := hB1.size
  have hb1l := hk1.lt
  have hk3 := hk1.below hBw (by omega)
  have hS3 : Sl u8 w3 (B + 1) A D := (hS.below hB3).more (by omega)
  have HBE := Lib.hid hB
  have HB3 := Lib.hid hB3
  rw [← hw3, ← hB]
  simp only [Nat.add_assoc, Nat.reduceAdd]
  clear hw3 hB hS hB3 hBw c0 c1 d1 hk1
  have eg := enters_of (P := Try.prog) Try.func55 (by kernel_rfl) rfl
  have haK : a ≤ K := by omega
  refine wpIn_rangeFunc_ownH rfl (by omega) (gf := 55) (lb := #[.pointer (some ⟨B + 3, 0, none⟩), .pointer (some ⟨B + 4, 0, none⟩), .pointer (some ⟨B + 2, 0, none⟩)]) rfl trivial eg
    (places_stops _ (by omega) (B + 2) (B + 1) B A c L K a K D HD.out HK.out hL haK (Nat.le_refl _) (by omega) w3 (by omega) kR.2.1 kR.2.2.1 kR.2.2.2 kT hS3) (fun h k => h.trans k)
    (fun W l o o' hl ho h1 h2 => ⟨⟨belowK_b (w := w3) (by omega) W l o o' hl ho h1 h2, by simp⟩, World.putObj_heap_other (by omega), World.putObj_heap_other (by omega), World.putObj_heap_other (by omega)⟩) (Below.refl _ _) (fun _ => rfl)
    (fun pre W => GI B B a K pre W ∧ Below B w3 W)
    (fun c pre W => GX 0 B B a K c pre W ∧ Below B w3 W)
    (OwnFrom.and (Own.from GI.own _) (ownFrom_below (by omega) (by omega)))
    (fun c => OwnFrom.and (Own.from GX.own _) (ownFrom_below (by omega) (by omega)))
    ⟨⟨by simp, kR⟩, Below.refl _ _⟩
    (fun x a' W => a' = { tmps := #[.agg #[.slice A L c, .int .i64 (K : Int)], .int .i64 (a : Int), .pointer (some ⟨w.heap.size, 0, none⟩), undef, .int .i64 0, .int .i64 0, .int .i64 0, .int .i64 0, .pointer (some ⟨B, 0, none⟩), .pointer (some ⟨B + 1, 0, none⟩), .bool x, undef, undef, .agg #[.slice A L c, .int .i64 (K : Int)], .int .i64 0, .int .i64 0, .bool false, undef, .int .i64 (a : Int), .bool (decide ((a : Int) < 0)), .agg #[.slice A L c, .int .i64 (K : Int)], .agg #[.slice A L c, .int .i64 (K : Int)], .pointer (some ⟨B, 0, none⟩), .pointer (some ⟨B, 0, none⟩), .int .i64 (a : Int), .pointer (some ⟨w.heap.size, 1, none⟩), .int .i64 (K : Int), .func (.func 55) #[] #[.pointer (some ⟨B + 3, 0, none⟩), .pointer (some ⟨B + 4, 0, none⟩), .pointer (some ⟨B + 2, 0, none⟩)], .bool x, undef, undef, undef, undef, undef, undef, undef, undef, undef, undef, undef, undef, undef, undef, undef, undef, undef, undef, undef, undef, undef, undef, undef, undef, undef, undef, undef, undef, undef, undef, undef], defers := [] })
    (fun x a' s X Y row hs hg hr => hs) ?assign ?body ?done ?stop
  case assign =>
    rintro l' pre x W K1 hst hK1
    unfold encO
    gi_wp2
    exact hK1 _ _ (KeepsFrom.refl _ _) (KeepP.refl _ _ _) hst rfl
  case body =>
    rintro l' pre x a' W hl' _ ⟨⟨hst0, hst⟩, hb⟩ rfl hlt
    cases x with
    | true =>
      have P2 : Hid (GX 0 B B a K (.exit 0) (pre ++ [true]) W ∧ Below B w3 W) := Lib.hid ⟨⟨rfl, _, rfl, hst0, hst⟩, hb⟩
      clear hst hst0 hlt hb
      gi_wp2
      exact ⟨KeepsFrom.refl _ _, P2.out⟩
    | false =>
      have hlt2 : pre.length < 524288 := by unfold bitsD at hlt; simp at hlt; omega
      obtain ⟨v, hv⟩ : ∃ v, pre.length = v := ⟨_, rfl⟩
      rw [hv] at hst hlt2
      have c0 := hst.1.cell0
      have f0 := hst.1.frozen 0
      obtain ⟨v3, hv3⟩ : ∃ v3, v + 1 = v3 := ⟨_, rfl⟩
      have u3 : (v : Int) + 1 = (v3 : Int) := by omega
      have u4 : IntKind.i64.wrap (v3 : Int) = (v3 : Int) := by rw [IntKind.wrap_i64]; omega
      have P1 := Lib.hid (GSt.put (u := v3) hst hb)
      have P3 : Hid ((∀ x ∈ pre ++ [false], x = false) ∧ (pre ++ [false]).length = v3) := Lib.hid ⟨fun x hx => by
        rcases List.mem_append.1 hx with h | h
        · exact hst0 x h
        · simpa using h, by rw [List.length_append, hv]; exact hv3⟩
      clear hst hst0 hv hv3 hlt hb
      gi_wp2
      exact ⟨P1.out.1.from _, P1.out.2.1, ⟨P3.out.1, by rw [P3.out.2]; exact P1.out.2.2.1⟩, P1.out.2.2.2⟩
  case done =>
    rintro D' ys W hD hys ⟨⟨h0, hst⟩, hb⟩ hK
    rw [hys] at h0
    exact (no_true H1.out (by omega) h0).elim
  case stop =>
    rintro D' c' pre W hD hSp ⟨⟨rfl, p, rfl, hp0, hst⟩, hb⟩ hK
    have hpz := first_true HZ.out H1.out hSp hp0
    rw [hpz] at hst
    have c0 := hst.1.cell0
    have hBE := HBE.out
    have hk4 := hk3.below hb (by omega)
    have e0 := hk4.cell 0
    have e1 := hk4.cell 1
    have hB4 : Below w.heap.size w W := HB3.out.trans (hb.mono (by omega))
    clear hp0 hSp hb hk3
    have k1 := hst.1
    clear hst hBE
    gi_wp2_with (refine ⟨trivial, ?_⟩; gi_at_call 46; refine (callsIn_wide.2 (RD.out _ (HS.out.later hB4))).mono ?_; rintro en w5 ⟨rfl, hb5⟩; have k5 := (k1.later hb5).cell0; have hB5 := bsa hB4 hb5)
    refine wpIn_wide.2 ?_
    go_region
    gi_wp2
    have hK5 : w5.drew.heap[D']? = some (.deferred (some [])) := (show w5.heap[D']? = _ from (hb5.block D' (Array.getElem?_eq_some_iff.1 hK).1).trans hK)
    have hBE := HBE.out
    have hDz : B + 5 ≤ D' := by rw [← hz3']; exact hD
    refine ⟨by simp, .inl ⟨_, _, rfl, run_takeDeferred hK5, ?_⟩⟩
    refine ⟨_, results_tmp3 rfl _ _ _, ?_, hB5.drew.trans (belowK_b (w := w) (Nat.le_refl _) w5.drew D' _ _ (by omega) hK5 rfl rfl)⟩
    show Ending.returned (.tuple #[.int .i64 (n : Int), .int .i64 ((a : Int) + 2 * (z : Int) + 1), .int .i64 0]) = _
    rw [show ((a + 2 * z + 1 : Nat) : Int) = (a : Int) + 2 * (z : Int) + 1 by omega]
end Go.Proofs.Ytfahfbkkgcekgaa.H
