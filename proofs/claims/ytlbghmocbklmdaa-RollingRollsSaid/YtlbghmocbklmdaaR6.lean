/- Roll in both texts: the errors; the reference's Roll. -/
import Derived.Test.YtlbghmocbklmdaaR5
import Derived.Deep.RegionWith
import Derived.Deep.RegionHeld3
namespace Go.Proofs.Ytlbghmocbklmdaa.H
set_option linter.unusedVariables false
open Go Go.RowKit Go.Proofs.Ytlbghmocbklmdaa Go.Proofs.Ytlbghmocbklmdaa.W Go.Proofs.Ytlbghmocbklmdaa.M

set_option maxRecDepth 100000 in
set_option maxHeartbeats 2000000 in
theorem Roll_bad (k : Int) (A : Option Addr) (n c : Nat) (b : Bs) (hv : R) (x : UInt8) (er : Int) (he : chk k b hv = er) (h0 : er ≠ 0) (hl : b.length = n) (w : World) (B : Nat) (h : Sl u8 w B A b) :
    Calls Try.prog 18 #[.agg #[.int .i64 k, .slice A n c, .int .u32 (hv.toNat : Int)], .int .u8 (x.toNat : Int)] w fun e w' => e = .returned (.tuple #[.agg #[.int .i64 0, .slice none 0 0, .int .u32 0], .int .i64 er]) ∧ Below w.heap.size w w' := by
  have hS := h.lt
  clear h
  have h0' : (er == 0) = false := by rw [beq_eq_false_iff_ne]; exact h0
  have C : Hid (∀ W, Below w.heap.size w W → Calls Try.prog 20 #[.agg #[.int .i64 k, .slice A n c, .int .u32 (hv.toNat : Int)]] W fun e w' => e = .returned (.int .i64 er) ∧ Below W.heap.size W w') := Lib.hid fun W hW => by rw [← he]; exact Check_ok k A n c b hv hl W _ (hS.later hW)
  have hB0 : Below w.heap.size w ((w.alloc (.cells #[.int .i64 k, .slice A n c, .int .u32 (hv.toNat : Int)] 26)).alloc (.cells #[.int .i64 0, .slice none 0 0, .int .u32 0] 26)) := ((Below.refl _ _).alloc (Nat.le_refl _) _).alloc (by simp) _
  have hk0 : Blk ((w.alloc (.cells #[.int .i64 k, .slice A n c, .int .u32 (hv.toNat : Int)] 26)).alloc (.cells #[.int .i64 0, .slice none 0 0, .int .u32 0] 26)) (w.heap.size + 1) 26 #[.int .i64 0, .slice none 0 0, .int .u32 0] := Blk.new' (by simp) _ _
  clear he h0 hl hS
  go_enter Try.func18, Try.ntmps18
  go_wp2_with (go_at_call 20; refine (C.out _ hB0).mono ?_; rintro e w2 ⟨rfl, hb2⟩; have hk2 := hk0.later hb2; obtain ⟨c0, c1, c2, f0, f1, f2⟩ := three hk2)
  exact bodyPost_ret (result_st rfl _ _ (w.heap.size + 1) rfl (put3 hk2 _ _ _) rfl) rfl ⟨rfl, put3_below (hB0.trans (hb2.mono hB0.size)) (by omega) _ _ _⟩

theorem own_cap {w : World} {base : Nat} {e : TypeId} {size n c : Nat} {A : Option Addr} {xs : List Value} (h : w.ownsRow base e size (.slice A n c) n xs) : n ≤ c ∧ c ≤ maxLen := by
  obtain ⟨_, _, hv, h1, h2⟩ := own_form h
  injection hv with _ _ h3
  subst h3
  exact ⟨h1, h2⟩
theorem put3_own {l : Bs} {w : World} {base g : Nat} {v : Value} {n : Nat} (h : w.ownsRow base 5 1 v n (l.map u8)) (hg : g < base) (x y z : Value) : (((w.setCell ⟨g, 0, none⟩ x).setCell ⟨g, 1, none⟩ y).setCell ⟨g, 2, none⟩ z).ownsRow base 5 1 v n (l.map u8) :=
  ownsRow_setCell_below (ownsRow_setCell_below (ownsRow_setCell_below h (a := ⟨g, 0, none⟩) hg x) (a := ⟨g, 1, none⟩) hg y) (a := ⟨g, 2, none⟩) hg z
theorem chk_good {K : Nat} {b : Bs} {hv : R} (h : chk (K : Int) b hv = 0) : 1 ≤ K ∧ K ≤ 64 ∧ b.length ≤ K ∧ hv = hsh b := by
  unfold chk at h
  split at h
  · cases h
  · split at h
    · cases h
    · split at h
      · cases h
      · rename_i h1 h2 h3
        exact ⟨by omega, by omega, by omega, by simpa using h3⟩

set_option maxRecDepth 100000 in
set_option maxHeartbeats 4000000 in
theorem rRoll_ok (K : Nat) (A : Option Addr) (n c : Nat) (b l : Bs) (hv : R) (x : UInt8) (he : chk (K : Int) b hv = 0) (hl : b.length = n) (m : Nat) (hr : rollL K b x = l) (hm : l.length = m) (w : World) (B : Nat) (h : Sl u8 w B A b) :
    Calls Try.prog 19 #[.agg #[.int .i64 (K : Int), .slice A n c, .int .u32 (hv.toNat : Int)], .int .u8 (x.toNat : Int)] w fun e w' => ∃ A' c', e = .returned (.tuple #[.agg #[.int .i64 (K : Int), .slice A' m c', .int .u32 ((hsh l).toNat : Int)], .int .i64 0]) ∧ Sl u8 w' w'.heap.size A' l ∧ m ≤ c' ∧ c' ≤ maxLen ∧ Below w.heap.size w w' := by
  obtain ⟨i0, hi, hz0, hz1, hz2⟩ := info_parts info5
  obtain ⟨g1, g2, g3, g4⟩ := chk_good he
  rw [hl] at g3
  have hS := h.lt
  have HL := Lib.hid hl
  have C : Hid (∀ W, Below w.heap.size w W → Calls Try.prog 21 #[.agg #[.int .i64 (K : Int), .slice A n c, .int .u32 (hv.toNat : Int)]] W fun e w' => e = .returned (.int .i64 0) ∧ Below W.heap.size W w') := Lib.hid fun W hW => by rw [← he]; exact rCheck_ok K A n c b hv hl W _ (hS.later hW)
  have hB0 : Below w.heap.size w ((w.alloc (.cells #[.int .i64 (K : Int), .slice A n c, .int .u32 (hv.toNat : Int)] 26)).alloc (.cells #[.int .i64 0, .slice none 0 0, .int .u32 0] 26)) := ((Below.refl _ _).alloc (Nat.le_refl _) _).alloc (by simp) _
  have hk0 : Blk ((w.alloc (.cells #[.int .i64 (K : Int), .slice A n c, .int .u32 (hv.toNat : Int)] 26)).alloc (.cells #[.int .i64 0, .slice none 0 0, .int .u32 0] 26)) (w.heap.size + 1) 26 #[.int .i64 0, .slice none 0 0, .int .u32 0] := Blk.new' (by simp) _ _
  have hj0 : Blk ((w.alloc (.cells #[.int .i64 (K : Int), .slice A n c, .int .u32 (hv.toNat : Int)] 26)).alloc (.cells #[.int .i64 0, .slice none 0 0, .int .u32 0] 26)) w.heap.size 26 #[.int .i64 (K : Int), .slice A n c, .int .u32 (hv.toNat : Int)] := (Blk.new _ _ _).alloc _
  have HR : Hid (rollL K b x = l) := Lib.hid hr
  have HM : Hid (l.length = m) := Lib.hid hm
  have D : Hid (∀ W A c, Sl u8 W W.heap.size A l → Calls Try.prog 16 #[.slice A m c] W fun e w' => e = .returned (.int .u32 ((hsh l).toNat : Int)) ∧ w' = W) := Lib.hid fun W A c hW => rHash_ok A c m l hm (by
    rw [← hm, ← hr]; unfold rollL; split <;> simp <;> omega) W _ hW
  obtain ⟨H, hH⟩ : ∃ H, hsh l = H := ⟨_, rfl⟩
  rw [hH] at D ⊢
  have hcase : (¬ (K : Int) < (n : Int) + 1 ∧ Hid (l = b ++ [x]) ∧ n + 1 = m) ∨ ((K : Int) < (n : Int) + 1 ∧ Hid (l = (b ++ [x]).drop 1) ∧ n = m) := by
    by_cases hk : K < n + 1
    · have e : l = (b ++ [x]).drop 1 := by rw [← hr]; unfold rollL; rw [hl, if_pos hk]
      exact .inr ⟨by omega, Lib.hid e, by rw [← hm, e]; simp [hl]⟩
    · have e : l = b ++ [x] := by rw [← hr]; unfold rollL; rw [hl, if_neg hk]
      exact .inl ⟨by omega, Lib.hid e, by rw [← hm, e]; simp [hl]⟩
  clear he g4 hl h hr hm hH
  rcases hcase with ⟨h5, hle, rfl⟩ | ⟨h5, hle, rfl⟩
  · go_enter Try.func19, Try.ntmps19
    go_wp2_with (first
      | (go_at_call 21; refine (C.out _ hB0).mono ?_; rintro e w2 ⟨rfl, hb2⟩; have hk2 := hk0.later hb2; have hj2 := hj0.later hb2; have c1 := (hj2.alloc (.cells #[] 5)).cell 1; have hB2 := hB0.trans (hb2.mono hB0.size); have hz2' : w.heap.size + 1 < w2.heap.size := hk2.lt; have o2 : (w2.alloc (.cells #[] 5)).ownsRow w2.heap.size 5 1 (.slice (some ⟨w2.heap.size, 0, none⟩) 0 0) 0 [] := World.ownsRow_made w2 #[] 0 (Nat.le_refl _) (by decide) rfl)
      | (at_builtin; refine wpList_append_sl _ u8_one' rfl _ _ 22 rfl w2.heap.size 5 i0 (.int .u8 0) 1 Try.underlying22 hi hz0 hz1 hz2 rfl (.slice (some ⟨w2.heap.size, 0, none⟩) 0 0) 0 [] rfl o2 _ A c b n rfl (hS.below (hB2.alloc hB2.size _)) HL.out (by unfold maxLen; omega) (by omega) (by simp) ?_; intro v3 w3 o3 g3; have hb3 := ((Below.refl w2.heap.size w2).alloc (Nat.le_refl _) (.cells #[] 5)).grown g3 (by simp) (fun q hq => (o2.lt q hq).1); simp only [Nat.zero_add, List.nil_append] at o3; obtain ⟨A3, c3, rfl, _, _⟩ := own_form o3; clear o2 g3 c1)
      | (at_builtin; refine wpList_append_at _ u8_one' rfl _ _ 22 rfl w2.heap.size 5 i0 (.int .u8 0) 1 Try.underlying22 hi hz0 hz1 hz2 rfl (.slice A3 n c3) n _ rfl (o3.alloc _) _ _ 1 [x] 1 rfl (Sl.of_new rfl rfl) rfl (by unfold maxLen; omega) (by omega) (by have := hb3.size; simp; omega) ?_; intro v4 w4 o4 g4 _; have hb4 := (hb3.alloc hb3.size _).grown g4 (by have := hb3.size; simp; omega) (fun j hj => (o3.lt j hj).1); rw [← List.map_append] at o4; obtain ⟨q4, c4, rfl, _, _⟩ := o4.form (by omega); obtain ⟨hn4, hm4⟩ := own_cap o4; have hj4 := hj2.later hb4; have hk4 := hk2.later hb4; have d0 := hj4.cell 0; clear o3 g4 hb3))
    have t4 : Sl u8 w4.drew w4.heap.size (some ⟨q4, 0, none⟩) l := by rw [hle.out]; exact Sl.of_own o4
    have T4 := Lib.hid (put3_own o4 hz2')
    obtain ⟨e0, e1, e2, f0, f1, f2⟩ := three hk4
    go_region_held3 (fun W => W.cell? ⟨w.heap.size, 0, none⟩ = some (.int .i64 (K : Int)))
      (first
      | go_keep
      | exact hj4.cell 0)
      ((go_at_call 16; refine (D.out _ _ _ t4).mono ?_; rintro e w5 ⟨rfl, rfl⟩))
    all_goals go_wp2
    all_goals exact bodyPost_ret (result_st rfl _ _ (w.heap.size + 1) rfl (put3 hk4 _ _ _).drew rfl) rfl ⟨_, _, rfl, by rw [hle.out]; exact (Sl.of_own (T4.out _ _ _)).drew, by omega, by omega, (put3_below (g := w.heap.size + 1) (hB2.trans (hb4.mono hB2.size)) (Nat.le_succ _) _ _ _).drew⟩
  · go_enter Try.func19, Try.ntmps19
    go_wp2_with (first
      | (go_at_call 21; refine (C.out _ hB0).mono ?_; rintro e w2 ⟨rfl, hb2⟩; have hk2 := hk0.later hb2; have hj2 := hj0.later hb2; have c1 := (hj2.alloc (.cells #[] 5)).cell 1; have hB2 := hB0.trans (hb2.mono hB0.size); have hz2' : w.heap.size + 1 < w2.heap.size := hk2.lt; have o2 : (w2.alloc (.cells #[] 5)).ownsRow w2.heap.size 5 1 (.slice (some ⟨w2.heap.size, 0, none⟩) 0 0) 0 [] := World.ownsRow_made w2 #[] 0 (Nat.le_refl _) (by decide) rfl)
      | (at_builtin; refine wpList_append_sl _ u8_one' rfl _ _ 22 rfl w2.heap.size 5 i0 (.int .u8 0) 1 Try.underlying22 hi hz0 hz1 hz2 rfl (.slice (some ⟨w2.heap.size, 0, none⟩) 0 0) 0 [] rfl o2 _ A c b n rfl (hS.below (hB2.alloc hB2.size _)) HL.out (by unfold maxLen; omega) (by omega) (by simp) ?_; intro v3 w3 o3 g3; have hb3 := ((Below.refl w2.heap.size w2).alloc (Nat.le_refl _) (.cells #[] 5)).grown g3 (by simp) (fun q hq => (o2.lt q hq).1); simp only [Nat.zero_add, List.nil_append] at o3; obtain ⟨A3, c3, rfl, _, _⟩ := own_form o3; clear o2 g3 c1)
      | (at_builtin; refine wpList_append_at _ u8_one' rfl _ _ 22 rfl w2.heap.size 5 i0 (.int .u8 0) 1 Try.underlying22 hi hz0 hz1 hz2 rfl (.slice A3 n c3) n _ rfl (o3.alloc _) _ _ 1 [x] 1 rfl (Sl.of_new rfl rfl) rfl (by unfold maxLen; omega) (by omega) (by have := hb3.size; simp; omega) ?_; intro v4 w4 o4 g4 _; have hb4 := (hb3.alloc hb3.size _).grown g4 (by have := hb3.size; simp; omega) (fun j hj => (o3.lt j hj).1); rw [← List.map_append] at o4; obtain ⟨q4, c4, rfl, _, _⟩ := o4.form (by omega); obtain ⟨hn4, hm4⟩ := own_cap o4; have hj4 := hj2.later hb4; have hk4 := hk2.later hb4; have d0 := hj4.cell 0; clear o3 g4 hb3))
    have hc1 : ¬ c4 = 1 := by omega
    have T5 : Hid (∀ W : World, W.ownsRow w2.heap.size 5 1 (.slice (some ⟨q4, 0, none⟩) (n + 1) c4) (n + 1) ((b ++ [x]).map u8) → Sl u8 W W.heap.size (some ⟨q4, 1, none⟩) l) := Lib.hid fun W hW => by
      have := (Sl.of_own hW).drop (k := 1) (cap := c4) (by rw [List.length_append, HL.out]; exact hn4)
      rw [if_neg hc1] at this
      rw [hle.out]; exact this
    have t4 : Sl u8 w4.drew w4.heap.size (some ⟨q4, 1, none⟩) l := by
      have := (Sl.of_own o4).drop (k := 1) (cap := c4) (by rw [List.length_append, HL.out]; exact hn4)
      rw [if_neg hc1] at this
      rw [hle.out]; exact this
    have T4 := Lib.hid (put3_own o4 hz2')
    obtain ⟨e0, e1, e2, f0, f1, f2⟩ := three hk4

    go_region_held3 (fun W => W.cell? ⟨w.heap.size, 0, none⟩ = some (.int .i64 (K : Int)))
      (first
      | go_keep
      | exact hj4.cell 0)
      ((go_at_call 16; refine (D.out _ _ _ t4).mono ?_; rintro e w5 ⟨rfl, rfl⟩))
    all_goals go_wp2
    all_goals exact bodyPost_ret (result_st rfl _ _ (w.heap.size + 1) rfl (put3 hk4 _ _ _).drew rfl) rfl ⟨_, _, rfl, (T5.out _ (T4.out _ _ _)).drew, by omega, by omega, (put3_below (g := w.heap.size + 1) (hB2.trans (hb4.mono hB2.size)) (Nat.le_succ _) _ _ _).drew⟩
end Go.Proofs.Ytlbghmocbklmdaa.H
