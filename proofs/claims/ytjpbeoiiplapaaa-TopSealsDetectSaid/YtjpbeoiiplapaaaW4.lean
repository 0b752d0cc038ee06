/- parity: matrix; the function that combines parts by a row (printed by gen_w4.py). -/
import Derived.Test.YtjpbeoiiplapaaaW3
import Derived.Deep.RegionHeld3
namespace Go.Proofs.Ytjpbeoiiplapaaa.C
set_option linter.unusedVariables false
set_option linter.unusedSimpArgs false
open Go Go.RowKit Go.Shelf Go.Proofs.Ytjpbeoiiplapaaa Go.Proofs.Ytjpbeoiiplapaaa.W Go.Proofs.Ytjpbeoiiplapaaa.M Go.Proofs.Ytjpbeoiiplapaaa.B

/-- A block that is just these bytes. -/
def BB (w : World) (g : Nat) (l : Bs) : Prop := Blk w g 5 (l.map u8).toArray
section
variable {w w' : World} {g : Nat} {l : Bs}
theorem BB.later (h : BB w g l) (hb : Below w.heap.size w w') : BB w' g l := Blk.later h hb
theorem BB.cell (h : BB w g l) (i : Nat) : w.cell? ⟨g, i, none⟩ = (l.map u8).toArray[i]? := Blk.cell h i
theorem BB.frozen (h : BB w g l) (i : Nat) : w.frozen? ⟨g, i, none⟩ = false := Blk.frozen h i
theorem BB.at_ (_h : BB w g l) {i : Nat} (hi : i < l.length) : ∃ y : UInt8, (l.map u8).toArray[i]? = some (.int .u8 (y.toNat : Int)) := ⟨l[i], by rw [List.getElem?_toArray, List.getElem?_map, List.getElem?_eq_getElem hi]; rfl⟩
theorem BB.put (h : BB w g l) (i : Nat) (u : UInt8) : BB (w.setCell ⟨g, i, none⟩ (.int .u8 (u.toNat : Int))) g (l.set i u) := by
  have := Blk.store h i (.int .u8 (u.toNat : Int))
  unfold BB
  rw [List.map_set, ← List.setIfInBounds_toArray]
  exact this
theorem BB.ts (h : BB w g l) : TS w (some ⟨g, 0, none⟩) l := TS.of_blk (cs := (l.map u8).toArray) h fun j x hx => by rw [Nat.zero_add, List.getElem?_toArray, List.getElem?_map, hx]; rfl
end
theorem mat_step {wr w : World} {g i d r base : Nat} {ps : List Part} (hb : Blk wr g 22 (ps.map pv ++ List.replicate (d + r - i) (Value.slice none 0 0)).toArray) (hl : ps.length = i) (hi : i < d) (hd : d ≤ 30) (hA : Are wr d ps) (hB : Below base w wr) (hg : base ≤ g) :
    let W := (wr.setCell ⟨g, i, none⟩ (.slice (some ⟨wr.heap.size, 0, none⟩) d d)).alloc (.cells (((List.replicate d (0 : UInt8)).map u8).toArray.setIfInBounds i (.int .u8 1)) 5)
    ∃ p : Part, Blk W g 22 ((ps ++ [p]).map pv ++ List.replicate (d + r - (i + 1)) (Value.slice none 0 0)).toArray ∧ Are W d (ps ++ [p]) ∧ Below base w W := by
  intro W
  have hgz : g < wr.heap.size := hb.lt
  have b1 : Blk W wr.heap.size 5 (((List.replicate d (0 : UInt8)).map u8).toArray.setIfInBounds i (.int .u8 1)) := Blk.new' (by simp) _ _
  have b2 : Blk W g 22 _ := (hb.store i (.slice (some ⟨wr.heap.size, 0, none⟩) d d)).alloc _
  obtain ⟨p, hp⟩ : ∃ p : Part, p = (some ⟨wr.heap.size, 0, none⟩, d, (List.replicate d (0 : UInt8)).set i 1) := ⟨_, rfl⟩
  have hpv : pv p = .slice (some ⟨wr.heap.size, 0, none⟩) d d := by rw [hp]; simp [pv]
  refine ⟨p, ?_, ?_, ?_⟩
  · have e1 : ((ps.map pv ++ List.replicate (d + r - i) (Value.slice none 0 0)).toArray).setIfInBounds i (.slice (some ⟨wr.heap.size, 0, none⟩) d d) = ((ps ++ [p]).map pv ++ List.replicate (d + r - (i + 1)) (Value.slice none 0 0)).toArray := by
      have e2 : d + r - i = (d + r - (i + 1)) + 1 := by omega
      rw [List.setIfInBounds_toArray, List.set_append, List.length_map, hl, if_neg (Nat.lt_irrefl _), List.map_append, List.append_assoc, Nat.sub_self, e2, List.replicate_succ, List.set_cons_zero, ← hpv]
      rfl
    rw [← e1]; exact b2
  · refine Are.append ?_ ?_
    · refine hA.keep fun b cs fr h1 => ?_
      have hb1 : b < wr.heap.size := (Array.getElem?_eq_some_iff.1 h1).1
      have hbg : b ≠ g := by
        rintro rfl
        have := h1.symm.trans (show wr.heap[_]? = _ from hb)
        simp at this
      exact (Below.heap_alloc _ _ _ (by simpa using hb1)).trans (Below.heap_setCell _ _ _ b (by show b ≠ g; exact hbg))
    · intro q hq
      rw [List.mem_singleton] at hq; subst hq; subst hp
      refine ⟨TS.of_blk b1 fun j x hx => ?_, by simp, Nat.le_refl _, by show d ≤ maxLen; unfold maxLen; omega⟩
      rw [Nat.zero_add, List.setIfInBounds_toArray, List.getElem?_toArray]
      have : ((List.replicate d (0 : UInt8)).map u8).set i (.int .u8 1) = ((List.replicate d (0 : UInt8)).set i 1).map u8 := by rw [List.map_set]; rfl
      rw [this, List.getElem?_map, hx]; rfl
  · have hz := hB.size
    exact (hB.setCell (p := ⟨g, i, none⟩) hg _).alloc (by simp; omega) _
set_option maxRecDepth 100000 in
set_option maxHeartbeats 2000000 in
theorem matrix_ok (d r : Nat) (hd : 1 ≤ d) (hd6 : d ≤ 30) (hr6 : r ≤ 30) (w : World) :
    Calls Try.prog 22 #[.int .i64 (d : Int), .int .i64 (r : Int)] w fun e w' => ∃ (A : Option Addr) (c : Nat) (ps : List Part), e = .returned (.slice A (d + r) c) ∧ ps.length = d + r ∧ d + r ≤ c ∧ w'.ownsRow w.heap.size 22 1 (.slice A (d + r) c) (d + r) (ps.map pv) ∧ Are w' d ps ∧ Below w.heap.size w w' := by
  obtain ⟨j0, hj, hy0, hy1, hy2⟩ := info_parts infoR
  have mk1 := fun W => make_rows d (d + r) (by omega) (by omega) W
  rw [Int.natCast_add] at mk1
  have mk2 := fun W => make_bytes d (by omega) W
  obtain ⟨Z, hZ⟩ : ∃ Z, ((List.replicate d (0 : UInt8)).map u8).toArray = Z := ⟨_, rfl⟩
  obtain ⟨Y, hY⟩ : ∃ Y, (List.replicate (d + r) (Value.slice none 0 0)).toArray = Y := ⟨_, rfl⟩
  rw [hZ] at mk2
  rw [hY] at mk1
  have HY := Lib.hid hY
  have HZ := Lib.hid hZ
  clear hY hZ
  go_enter Try.func22, Try.ntmps22
  go_wp2_with fail
  have hb0 : Blk (w.alloc (.cells Y 22)) w.heap.size 22 (([] : List Part).map pv ++ List.replicate (d + r - 0) (Value.slice none 0 0)).toArray := by
    have := Blk.new w 22 Y
    rw [← HY.out] at this ⊢
    exact this
  have hB0 : Below w.heap.size w (w.alloc (.cells Y 22)) := (Below.refl _ _).alloc (Nat.le_refl _) _
  obtain ⟨w0, hw0⟩ : ∃ w0, w.alloc (.cells Y 22) = w0 := ⟨_, rfl⟩
  rw [hw0] at hb0 hB0 ⊢
  clear hw0
  go_loopw [16] (fun iv wm => ∃ (i : Nat) (ps : List Part), i ≤ d ∧ iv = .int .i64 (i : Int) ∧ Hid (ps.length = i) ∧ Blk wm w.heap.size 22 (ps.map pv ++ List.replicate (d + r - i) (Value.slice none 0 0)).toArray ∧ Are wm d ps ∧ Below w.heap.size w wm) (fun iv _ => d - (intOf iv).toNat)
  case atStart => exact ⟨0, [], Nat.zero_le _, rfl, Lib.hid rfl, hb0, Are.nil, hB0⟩
  case round =>
    obtain ⟨i, ps, hi, rfl, hps, hb, hA, hB⟩ := hrel
    clear hb0 hB0
    by_cases hlt : i < d
    · obtain ⟨p, hb', hA', hB'⟩ := mat_step (r := r) hb hps.out hlt hd6 hA hB (Nat.le_refl _)
      rw [HZ.out] at hb' hA' hB'
      have hgz : w.heap.size < wr.heap.size := hb.lt
      have hf := hb.frozen i
      obtain ⟨x1, hc1⟩ : ∃ v, wr.cell? ⟨w.heap.size, i, none⟩ = some v := ⟨_, by rw [hb.cell]; exact Array.getElem?_eq_getElem (by simp [hps.out]; omega)⟩
      have hbn : Blk ((wr.setCell ⟨w.heap.size, i, none⟩ (.slice (some ⟨wr.heap.size, 0, none⟩) d d)).alloc (.cells Z 5)) wr.heap.size 5 Z := Blk.new' (by simp) _ _
      have hf2 := hbn.frozen i
      obtain ⟨x2, hc2⟩ : ∃ v, ((wr.setCell ⟨w.heap.size, i, none⟩ (.slice (some ⟨wr.heap.size, 0, none⟩) d d)).alloc (.cells Z 5)).cell? ⟨wr.heap.size, i, none⟩ = some v := ⟨_, by rw [hbn.cell, ← HZ.out]; exact Array.getElem?_eq_getElem (by simp; omega)⟩
      have hps' := Lib.hid (show (ps ++ [p]).length = i + 1 by rw [List.length_append, hps.out]; rfl)
      have Hb := Lib.hid hb'
      have HA := Lib.hid hA'
      have HB := Lib.hid hB'
      clear hb hA hbn hb' hA' hB'
      go_wp2_with fail
      go_roundw
      case rel => exact ⟨i + 1, ps ++ [p], by omega, by go_num, hps', Hb.out, HA.out, HB.out⟩
      case measure => simp [intOf]; omega
    · obtain rfl : i = d := by omega
      have o1 : wr.ownsRow w.heap.size 22 1 (.slice (some ⟨w.heap.size, 0, none⟩) i (i + r)) i (ps.map pv) := by
        refine ⟨by simp [hps.out], .inr ⟨w.heap.size, i + r, _, rfl, Nat.le_refl _, hb, by omega, by unfold maxLen; omega, by simp [hps.out], ?_⟩⟩
        rw [List.toList_toArray, Nat.mul_one]
        exact List.take_left' (by simp [hps.out])
      clear hb
      by_cases hr0 : r = 0
      · subst hr0
        go_wp2
        go_ret
        exact ⟨_, _, ps, rfl, hps.out, Nat.le_refl _, o1, hA, hB⟩
      · have hrp : (0 : Int) < (r : Int) := by omega
        have C1 := Lib.hid (cauchy_ok r i (by omega) hr6 hd hd6 wr)
        go_wp2_with (first
          | (go_at_call 32; refine C1.out.mono ?_; rintro e w2 ⟨A2, c2, qs, rfl, hqs, hrc, o2, hA2, hb2⟩; have o12 := own_later o1 hb2; have hA12 := hA.later hb2; have hB2 := bs hB hb2; have hqs' := Lib.hid hqs; clear hqs)
          | (at_builtin; refine wpList_append_sl _ pv_one rfl _ _ 29 rfl w.heap.size 22 j0 (.slice none 0 0) 24 Try.underlying29 hj hy0 hy1 hy2 rfl (.slice (some ⟨w.heap.size, 0, none⟩) i (i + r)) i _ rfl o12 _ _ _ qs r rfl (Sl.of_own o2) hqs'.out (by unfold maxLen; omega) (by omega) hB2.size ?_; intro v5 w5 o5 g5; have hA5 := (hA12.append hA2).row o12 g5; have hB5 := hB2.grown g5 hB2.size (fun j hj => (o12.lt j hj).1); rw [← List.map_append] at o5; obtain ⟨A5, c5, rfl, hnc, _⟩ := own_form o5))
        go_ret
        exact ⟨A5, c5, ps ++ qs, rfl, by rw [List.length_append, hps.out, hqs'.out], hnc, o5, hA5, hB5⟩
set_option maxRecDepth 100000 in
set_option maxHeartbeats 4000000 in
theorem combine_ok (g d s : Nat) (A : Option Addr) (c : Nat) (ps : List Part) (hps : ps.length = d) (hd : 1 ≤ d) (hd6 : d ≤ 30) (hs6 : s ≤ 65536) (A' : Option Addr) (c' : Nat) (row : Bs) (hrow : row.length = d) (w : World) (hg : Blk w g 29 #[.slice A d c]) (hS : Sl pv w w.heap.size A ps) (hA : Are w s ps) (hR : TS w A' row) :
    Calls Try.prog 30 #[.slice A' d c', .pointer (some ⟨g, 0, none⟩)] w fun e w' => ∃ (A2 : Option Addr) (l : Bs), e = .returned (.slice A2 s s) ∧ l.length = s ∧ TS w' A2 l ∧ Below w.heap.size w w' := by
  have mk2 := fun W => make_bytes s hs6 W
  obtain ⟨Z, hZ⟩ : ∃ Z, ((List.replicate s (0 : UInt8)).map u8).toArray = Z := ⟨_, rfl⟩
  rw [hZ] at mk2
  have HZ := Lib.hid hZ
  have HPS := Lib.hid hps
  have HROW := Lib.hid hrow
  have G : Hid (∀ k, k < d → ∃ b o p, A = some ⟨b, o, none⟩ ∧ b < w.heap.size ∧ ps[k]? = some p ∧ w.cell? ⟨b, o + k, none⟩ = some (.slice p.1 s p.2.1)) := Lib.hid fun k hk => by
    obtain ⟨b, o, p, e, hlt, hp, hc⟩ := hS.at_ (j := k) (by rw [hps]; exact hk)
    have := (hA p (List.mem_of_getElem? hp)).2.1
    exact ⟨b, o, p, e, hlt, hp, by rw [hc]; unfold pv; rw [this]⟩
  obtain ⟨bA, oA, p0, rfl, hbA, hp0, hc0⟩ := G.out 0 (by omega)
  have hg0 := hg.cell 0
  rw [Nat.add_zero] at hc0
  clear hZ hps hrow
  go_enter Try.func30, Try.ntmps30
  go_wp2_with fail
  have hb0 : Blk (w.alloc (.cells Z 5)) w.heap.size 5 ((List.replicate s (0 : UInt8)).map u8).toArray := by rw [HZ.out]; exact Blk.new w _ _
  have hB0 : Below w.heap.size w (w.alloc (.cells Z 5)) := (Below.refl _ _).alloc (Nat.le_refl _) _
  obtain ⟨w0, hw0⟩ : ∃ w0, w.alloc (.cells Z 5) = w0 := ⟨_, rfl⟩
  rw [hw0] at hb0 hB0 ⊢
  clear hw0 hc0 hg0 hp0
  have START : Hid (∃ l : Bs, l.length = s ∧ Blk w0 w.heap.size 5 (l.map u8).toArray) := Lib.hid ⟨_, by simp, hb0⟩
  clear hb0 mk2
  go_loopw [16] (fun kv wm => ∃ (k : Nat) (l : Bs), k ≤ d ∧ kv = .int .i64 (k : Int) ∧ Hid (l.length = s) ∧ BB wm w.heap.size l ∧ Below w.heap.size w wm) (fun kv _ => d - (intOf kv).toNat)
  case atStart =>
    obtain ⟨l, h1, h2⟩ := START.out
    exact ⟨0, l, Nat.zero_le _, rfl, Lib.hid h1, h2, hB0⟩
  case round =>
    obtain ⟨k, l, hk, rfl, hl, hb, hB⟩ := hrel
    clear START hB0
    by_cases hlt : k < d
    · obtain ⟨b1, o1, p, e, _, hp, hc1⟩ := G.out k hlt
      injection e with e
      injection e with e1 e2 _
      subst e1 e2
      have hpA := hA p (List.mem_of_getElem? hp)
      obtain ⟨Ap, cp, lp⟩ := p
      obtain ⟨hT, hlp, hcp, _⟩ := hpA
      replace hlp : List.length lp = s := hlp
      replace hT : TS w Ap lp := hT
      replace hc1 : w.cell? ⟨bA, oA + k, none⟩ = some (.slice Ap s cp) := hc1
      obtain ⟨bR, oR, f0, rfl, hbR, hf0, hcR⟩ := hR.sl.byte (j := k) (by rw [HROW.out]; exact hlt)
      have k1 : wr.cell? ⟨bR, oR + k, none⟩ = some (.int .u8 (f0.toNat : Int)) := (hB.cell hbR).trans hcR
      have k2 : wr.cell? ⟨bA, oA + k, none⟩ = some (.slice Ap s cp) := (hB.cell hbA).trans hc1
      have k3 := (hg.below hB hg.lt).cell 0
      have HLP := Lib.hid hlp
      clear hlp hc1 hcR hf0 hp
      go_wp2_with fail
      have hBk := hB
      clear hB k1 k2 k3
      go_loopw [26] (fun xv wm => ∃ (x : Nat) (l : Bs), x ≤ s ∧ xv = .int .i64 (x : Int) ∧ Hid (l.length = s) ∧ BB wm w.heap.size l ∧ Below w.heap.size w wm) (fun xv _ => s - (intOf xv).toNat)
      case atStart => exact ⟨0, l, Nat.zero_le _, rfl, hl, hb, hBk⟩
      case round =>
        obtain ⟨x, l', hx, rfl, hl', hX, hB⟩ := hrel
        clear hb hBk
        by_cases hlt' : x < s
        · obtain ⟨bP, oP, b0, rfl, hbP, _, hcP⟩ := hT.sl.byte (j := x) (by rw [HLP.out]; exact hlt')
          have k1 : wr.cell? ⟨bP, oP + x, none⟩ = some (.int .u8 (b0.toNat : Int)) := (hB.cell hbP).trans hcP
          have hxs : (x : Int) < (s : Int) := by omega
          obtain ⟨y, hy⟩ := hX.at_ (i := x) (by rw [hl'.out]; exact hlt')
          have EN : Hid (∀ (w5 : World) (v : UInt8), Below wr.heap.size wr w5 → ∀ u : UInt8, ∃ (x' : Nat) (l'' : Bs), x' ≤ s ∧ Value.int .i64 ((x : Int) + 1) = .int .i64 (x' : Int) ∧ Hid (l''.length = s) ∧ BB (w5.setCell ⟨w.heap.size, x, none⟩ (.int .u8 (u.toNat : Int))) w.heap.size l'' ∧ Below w.heap.size w (w5.setCell ⟨w.heap.size, x, none⟩ (.int .u8 (u.toNat : Int)))) := Lib.hid fun w5 v h5 u =>
            ⟨x + 1, l'.set x u, by omega, by go_num, Lib.hid (by rw [List.length_set, hl'.out]), (hX.later h5).put x u, (bs hB h5).setCell (p := ⟨w.heap.size, x, none⟩) (Nat.le_refl _) _⟩
          have k4 := hX.cell x
          rw [hy] at k4
          clear hcP
          go_wp2_with fail
          refine wp_region_held_drew (S := fun _ => True) (by kernel_rfl) trivial (fun hHeld => ?_)
          refine wpAnyH_take (i := 0) (v := ?_) rfl (by kernel_rfl) (by kernel_rfl) (by kernel_rfl) (fun _ _ _ h => h) (Or.inl ⟨by rfl, ?_⟩) hHeld ?_
          rotate_left
          · (intro W hSw; (try dsimp only at hSw); go_simp; try with_reducible rfl)
          try simp only [Act.put, List.setIfInBounds_toArray, List.set_cons_zero, List.set_cons_succ, List.getElem_toArray, List.getElem_cons_succ, List.getElem_cons_zero]
          refine wpAnyH_take (i := 1) (v := ?_) rfl (by kernel_rfl) (by kernel_rfl) (by kernel_rfl) (fun _ _ _ h => h) (Or.inl ⟨by rfl, ?_⟩) hHeld ?_
          rotate_left
          · (intro W hSw; (try dsimp only at hSw); go_simp; try with_reducible rfl)
          try simp only [Act.put, List.setIfInBounds_toArray, List.set_cons_zero, List.set_cons_succ, List.getElem_toArray, List.getElem_cons_succ, List.getElem_cons_zero]
          refine wpAnyH_take (i := 2) (v := ?_) rfl (by kernel_rfl) (by kernel_rfl) (by kernel_rfl) (fun _ _ _ h => h) (Or.inl ⟨by rfl, ?_⟩) hHeld ?_
          rotate_left
          · (intro W hSw; (try dsimp only at hSw); go_simp; try with_reducible rfl)
          try simp only [Act.put, List.setIfInBounds_toArray, List.set_cons_zero, List.set_cons_succ, List.getElem_toArray, List.getElem_cons_succ, List.getElem_cons_zero]
          refine wpAnyH_take (i := 4) (v := ?_) rfl (by kernel_rfl) (by kernel_rfl) (by kernel_rfl) (fun _ _ _ h => h) (Or.inl ⟨by rfl, ?_⟩) hHeld ?_
          rotate_left
          · (intro W hSw; (try dsimp only at hSw); go_simp; try with_reducible rfl)
          try simp only [Act.put, List.setIfInBounds_toArray, List.set_cons_zero, List.set_cons_succ, List.getElem_toArray, List.getElem_cons_succ, List.getElem_cons_zero]
          refine wpAnyH_take (i := 5) (v := ?_) rfl (by kernel_rfl) (by kernel_rfl) (by kernel_rfl) (fun _ _ _ h => h) (Or.inl ⟨by rfl, ?_⟩) hHeld ?_
          rotate_left
          · (intro W hSw; (try dsimp only at hSw); go_simp; try with_reducible rfl)
          try simp only [Act.put, List.setIfInBounds_toArray, List.set_cons_zero, List.set_cons_succ, List.getElem_toArray, List.getElem_cons_succ, List.getElem_cons_zero]
          refine wpAnyH_ready (rs := [3, 6]) (by kernel_rfl) (by simp) ?_
          refine AllReadyH.cons (o := ?_) ?_ (fun K' hK => ?_) ?_
          rotate_left
          · (simp only [List.getElem?_toArray, List.getElem?_cons_succ, List.getElem?_cons_zero] <;> rfl)
          · go_simp
            refine hK.out _ _ trivial (fun hHeld' => ?_)
            clear hK K' hHeld
            have hHeld := hHeld'
            clear hHeld'
            try simp only [Act.put, List.setIfInBounds_toArray, List.set_cons_zero, List.set_cons_succ, List.getElem_toArray, List.getElem_cons_succ, List.getElem_cons_zero]
            refine wpAnyH_ready (rs := [6]) (by kernel_rfl) (by simp) ?_
            refine AllReadyH.cons (o := ?_) ?_ (fun K' hK => ?_) ?_
            rotate_left
            · (simp only [List.getElem?_toArray, List.getElem?_cons_succ, List.getElem?_cons_zero] <;> rfl)
            · go_simp; go_at_call 31; refine (gmul_ok f0 b0 _).mono ?_; rintro e w5 ⟨v, rfl, hb5⟩; have hb5 := (Below.refl _ wr).drew.trans hb5; have y5 := (hX.later hb5).cell x; rw [hy] at y5; go_wp2_with fail
              refine hK.out _ _ trivial (fun hHeld' => ?_)
              clear hK K' hHeld
              have hHeld := hHeld'
              clear hHeld'
              try simp only [Act.put, List.setIfInBounds_toArray, List.set_cons_zero, List.set_cons_succ, List.getElem_toArray, List.getElem_cons_succ, List.getElem_cons_zero]
              have ST := Lib.hid (EN.out w5 v hb5)
              have z5 := (hX.later hb5).frozen x
              obtain ⟨u, hu⟩ : ∃ u : UInt8, bits .xor .u8 (y.toNat : Int) (v.toNat : Int) = (u.toNat : Int) := some_bits .xor _ _
              have ST := Lib.hid (ST.out u)
              refine wpAnyH_take (i := 7) (v := ?_) rfl (by kernel_rfl) (by kernel_rfl) (by kernel_rfl) (fun _ _ _ h => h) (Or.inl ⟨by rfl, ?_⟩) hHeld ?_
              rotate_left
              · (intro W hSw; (try dsimp only at hSw); go_simp; try with_reducible rfl)
              try simp only [Act.put, List.setIfInBounds_toArray, List.set_cons_zero, List.set_cons_succ, List.getElem_toArray, List.getElem_cons_succ, List.getElem_cons_zero]
              refine wpAnyH_take (i := 8) (v := ?_) rfl (by kernel_rfl) (by kernel_rfl) (by kernel_rfl) (fun _ _ _ h => h) (Or.inl ⟨by rfl, ?_⟩) hHeld ?_
              rotate_left
              · (intro W hSw; (try dsimp only at hSw); go_simp; try with_reducible rfl)
              try simp only [Act.put, List.setIfInBounds_toArray, List.set_cons_zero, List.set_cons_succ, List.getElem_toArray, List.getElem_cons_succ, List.getElem_cons_zero]
              refine wpAnyH_ready (rs := [9]) (by kernel_rfl) (by simp) ?_
              refine AllReadyH.cons (o := ?_) ?_ (fun K' hK => ?_) ?_
              rotate_left
              · (simp only [List.getElem?_toArray, List.getElem?_cons_succ, List.getElem?_cons_zero] <;> rfl)
              · go_simp
                refine hK.out _ _ trivial (fun hHeld' => ?_)
                clear hK K' hHeld
                have hHeld := hHeld'
                clear hHeld'
                try simp only [Act.put, List.setIfInBounds_toArray, List.set_cons_zero, List.set_cons_succ, List.getElem_toArray, List.getElem_cons_succ, List.getElem_cons_zero]
                refine wpAnyH_done (by kernel_rfl) ?_ _
                go_wp2_with fail
                go_roundw
                case rel => exact ST.out
                case measure => simp [intOf]; omega
              exact AllReadyH.nil
            exact AllReadyH.nil
          refine AllReadyH.cons (o := ?_) ?_ (fun K' hK => ?_) ?_
          rotate_left
          · (simp only [List.getElem?_toArray, List.getElem?_cons_succ, List.getElem?_cons_zero] <;> rfl)
          · go_simp; go_at_call 31; refine (gmul_ok f0 b0 _).mono ?_; rintro e w5 ⟨v, rfl, hb5⟩; have hb5 := (Below.refl _ wr).drew.trans hb5; have y5 := (hX.later hb5).cell x; rw [hy] at y5; go_wp2_with fail
            refine hK.out _ _ trivial (fun hHeld' => ?_)
            clear hK K' hHeld
            have hHeld := hHeld'
            clear hHeld'
            try simp only [Act.put, List.setIfInBounds_toArray, List.set_cons_zero, List.set_cons_succ, List.getElem_toArray, List.getElem_cons_succ, List.getElem_cons_zero]
            refine wpAnyH_ready (rs := [3]) (by kernel_rfl) (by simp) ?_
            refine AllReadyH.cons (o := ?_) ?_ (fun K' hK => ?_) ?_
            rotate_left
            · (simp only [List.getElem?_toArray, List.getElem?_cons_succ, List.getElem?_cons_zero] <;> rfl)
            · go_simp
              refine hK.out _ _ trivial (fun hHeld' => ?_)
              clear hK K' hHeld
              have hHeld := hHeld'
              clear hHeld'
              try simp only [Act.put, List.setIfInBounds_toArray, List.set_cons_zero, List.set_cons_succ, List.getElem_toArray, List.getElem_cons_succ, List.getElem_cons_zero]
              have ST := Lib.hid (EN.out w5 v hb5)
              have z5 := (hX.later hb5).frozen x
              obtain ⟨u, hu⟩ : ∃ u : UInt8, bits .xor .u8 (y.toNat : Int) (v.toNat : Int) = (u.toNat : Int) := some_bits .xor _ _
              have ST := Lib.hid (ST.out u)
              refine wpAnyH_take (i := 7) (v := ?_) rfl (by kernel_rfl) (by kernel_rfl) (by kernel_rfl) (fun _ _ _ h => h) (Or.inl ⟨by rfl, ?_⟩) hHeld ?_
              rotate_left
              · (intro W hSw; (try dsimp only at hSw); go_simp; try with_reducible rfl)
              try simp only [Act.put, List.setIfInBounds_toArray, List.set_cons_zero, List.set_cons_succ, List.getElem_toArray, List.getElem_cons_succ, List.getElem_cons_zero]
              refine wpAnyH_take (i := 8) (v := ?_) rfl (by kernel_rfl) (by kernel_rfl) (by kernel_rfl) (fun _ _ _ h => h) (Or.inl ⟨by rfl, ?_⟩) hHeld ?_
              rotate_left
              · (intro W hSw; (try dsimp only at hSw); go_simp; try with_reducible rfl)
              try simp only [Act.put, List.setIfInBounds_toArray, List.set_cons_zero, List.set_cons_succ, List.getElem_toArray, List.getElem_cons_succ, List.getElem_cons_zero]
              refine wpAnyH_ready (rs := [9]) (by kernel_rfl) (by simp) ?_
              refine AllReadyH.cons (o := ?_) ?_ (fun K' hK => ?_) ?_
              rotate_left
              · (simp only [List.getElem?_toArray, List.getElem?_cons_succ, List.getElem?_cons_zero] <;> rfl)
              · go_simp
                refine hK.out _ _ trivial (fun hHeld' => ?_)
                clear hK K' hHeld
                have hHeld := hHeld'
                clear hHeld'
                try simp only [Act.put, List.setIfInBounds_toArray, List.set_cons_zero, List.set_cons_succ, List.getElem_toArray, List.getElem_cons_succ, List.getElem_cons_zero]
                refine wpAnyH_done (by kernel_rfl) ?_ _
                go_wp2_with fail
                go_roundw
                case rel => exact ST.out
                case measure => simp [intOf]; omega
              exact AllReadyH.nil
            exact AllReadyH.nil
          exact AllReadyH.nil
        · obtain rfl : x = s := by omega
          go_wp2_with fail
          go_roundw
          case rel => exact ⟨k + 1, l', by omega, by go_num, hl', hX, hB⟩
          case measure => simp [intOf]; omega
    · obtain rfl : k = d := by omega
      go_wp2
      go_ret
      exact ⟨_, l, rfl, hl.out, hb.ts, hB⟩
end Go.Proofs.Ytjpbeoiiplapaaa.C
