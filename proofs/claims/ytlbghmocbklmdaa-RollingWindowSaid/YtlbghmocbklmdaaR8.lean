/- rolling.Roll, the good way, the window full (printed by gen_roll.py). -/
import Derived.Test.YtlbghmocbklmdaaR7
import Derived.Deep.RegionHeld3
import Derived.Deep.DeepCutAuto
namespace Go.Proofs.Ytlbghmocbklmdaa.H
set_option linter.unusedVariables false
set_option linter.unusedSimpArgs false
open Go Go.RowKit Go.Proofs.Ytlbghmocbklmdaa Go.Proofs.Ytlbghmocbklmdaa.W Go.Proofs.Ytlbghmocbklmdaa.M

theorem put3z {w : World} {g : Nat} (h : Blk w g 26 #[.int .i64 0, .slice none 0 0, .int .u32 0]) (x' y' z' : Value) : Blk (((w.setCell ⟨g, 0, none⟩ x').setCell ⟨g, 1, none⟩ y').setCell ⟨g, 2, none⟩ z') g 26 #[x', y', z'] := put3 h x' y' z'
set_option maxRecDepth 100000 in
set_option maxHeartbeats 16000000 in
theorem Roll_full (n : Nat) (A : Option Addr) (m c : Nat) (z : UInt8) (r : Bs) (hv : R) (x : UInt8) (he : chk (n : Int) (z :: r) hv = 0) (hm : r.length = m) (hmn : m + 1 = n) (H : R) (hH : hsh (r ++ [x]) = H) (w : World) (B : Nat) (h : Sl u8 w B A (z :: r)) (hc : n ≤ c) :
    Calls Try.prog 18 #[.agg #[.int .i64 (n : Int), .slice A n c, .int .u32 (hv.toNat : Int)], .int .u8 (x.toNat : Int)] w fun e w' => ∃ A' c', e = .returned (.tuple #[.agg #[.int .i64 (n : Int), .slice A' (m + 1) c', .int .u32 (H.toNat : Int)], .int .i64 0]) ∧ Sl u8 w' w'.heap.size A' (r ++ [x]) ∧ m + 1 ≤ c' ∧ c' ≤ maxLen ∧ Below w.heap.size w w' := by
  have hl : (z :: r).length = n := by simp [hm, hmn]
  obtain ⟨i0, hi, hz0, hz1, hz2⟩ := info_parts info5
  obtain ⟨g1, g2, g3, g4⟩ := chk_good he
  have hS := h.lt
  have HL := Lib.hid hl
  have C : Hid (∀ W, Below w.heap.size w W → Calls Try.prog 20 #[.agg #[.int .i64 (n : Int), .slice A n c, .int .u32 (hv.toNat : Int)]] W fun e w' => e = .returned (.int .i64 0) ∧ Below W.heap.size W w') := Lib.hid fun W hW => by rw [← he]; exact Check_ok n A n c (z :: r) hv hl W _ (hS.later hW)
  have D : Hid (∀ W g, W.cell? ⟨g, 0, none⟩ = some (.int .i64 (n : Int)) → Calls Try.prog 34 #[.int .u32 (hv.toNat : Int), .int .u8 (x.toNat : Int), .bool true, .int .u8 (z.toNat : Int), .pointer (some ⟨g, 0, none⟩)] W fun e w' => e = .returned (.int .u32 (H.toNat : Int)) ∧ ∃ q, w' = W.drewN q) := Lib.hid fun W g hg => roll_full hv x z g n (by omega) H (by rw [← hH, g4]; exact hsh_roll z x r (by omega)) W hg
  have HM := Lib.hid hm
  obtain ⟨bA, oA, hA, _⟩ := hS.open_ (by simp)
  subst hA
  have hcase : (c = 1 ∧ Hid (Sl u8 w w.heap.size (some ⟨bA, oA, none⟩) r)) ∨ (¬ c = 1 ∧ Hid (Sl u8 w w.heap.size (some ⟨bA, oA + 1, none⟩) r)) := by
    have hd := hS.drop (k := 1) (cap := c) (by rw [hl]; exact hc)
    by_cases hc1 : c = 1
    · rw [if_pos hc1] at hd; exact .inl ⟨hc1, Lib.hid hd⟩
    · rw [if_neg hc1] at hd; exact .inr ⟨hc1, Lib.hid hd⟩
  obtain ⟨y, hy⟩ : ∃ y, y = z := ⟨_, rfl⟩
  subst hy
  obtain ⟨b, hb⟩ : ∃ b, y :: r = b := ⟨_, rfl⟩
  have HY : Hid ((b ++ [x])[0]? = some y) := Lib.hid (by rw [← hb]; rfl)
  rw [hb] at hS HL
  have hn1 : 1 ≤ n := by omega
  have hnm : n - 1 = m := by omega
  have hB0 : Below w.heap.size w ((w.alloc (.cells #[.int .i64 (n : Int), .slice (some ⟨bA, oA, none⟩) n c, .int .u32 (hv.toNat : Int)] 26)).alloc (.cells #[.int .i64 0, .slice none 0 0, .int .u32 0] 26)) := ((Below.refl _ _).alloc (Nat.le_refl _) _).alloc (by simp) _
  have hk0 : Blk ((w.alloc (.cells #[.int .i64 (n : Int), .slice (some ⟨bA, oA, none⟩) n c, .int .u32 (hv.toNat : Int)] 26)).alloc (.cells #[.int .i64 0, .slice none 0 0, .int .u32 0] 26)) (w.heap.size + 1) 26 #[.int .i64 0, .slice none 0 0, .int .u32 0] := Blk.new' (by simp) _ _
  have hj0 : Blk ((w.alloc (.cells #[.int .i64 (n : Int), .slice (some ⟨bA, oA, none⟩) n c, .int .u32 (hv.toNat : Int)] 26)).alloc (.cells #[.int .i64 0, .slice none 0 0, .int .u32 0] 26)) w.heap.size 26 #[.int .i64 (n : Int), .slice (some ⟨bA, oA, none⟩) n c, .int .u32 (hv.toNat : Int)] := (Blk.new _ _ _).alloc _
  clear he g4 hm hH g3 hmn hl h hb
  go_enter Try.func18, Try.ntmps18
  go_upto_region 5 with (go_at_call 20; refine (C.out _ hB0).mono ?_; rintro e w2 ⟨rfl, hb2⟩; have hk2 := hk0.later hb2; have hj2 := hj0.later hb2; obtain ⟨j0, j1, j2, _, _, _⟩ := three hj2; have hB2 := hB0.trans (hb2.mono hB0.size); have hz2' : w.heap.size + 1 < w2.heap.size := hk2.lt)
  have hH : Below w2.heap.size w2 w2 := Below.refl _ _
  have KEEP : Hid (∀ W, Below w2.heap.size w2 W → (Below w2.heap.size w2 W ∧ W.cell? ⟨w.heap.size, 0, none⟩ = some (.int .i64 (n : Int)) ∧ W.cell? ⟨w.heap.size, 1, none⟩ = some (.slice (some ⟨bA, oA, none⟩) n c) ∧ W.cell? ⟨w.heap.size, 2, none⟩ = some (.int .u32 (hv.toNat : Int)))) := Lib.hid fun W hW => ⟨hW, (hj2.later hW).cell 0, (hj2.later hW).cell 1, (hj2.later hW).cell 2⟩
  have SB : Hid (∀ W, Below w2.heap.size w2 W → Sl u8 W w.heap.size (some ⟨bA, oA, none⟩) b) := Lib.hid fun W hW => hS.below (hB2.trans (hW.mono hB2.size))
  have hbb : 0 < w2.heap.size := by omega
  go_cut [8] (fun v wx => Made w2 n H v wx)
  case first =>
    refine wp_region_held_drew (S := fun W => Below w2.heap.size w2 W ∧ W.cell? ⟨w.heap.size, 0, none⟩ = some (.int .i64 (n : Int)) ∧ W.cell? ⟨w.heap.size, 1, none⟩ = some (.slice (some ⟨bA, oA, none⟩) n c) ∧ W.cell? ⟨w.heap.size, 2, none⟩ = some (.int .u32 (hv.toNat : Int))) (by kernel_rfl) ?_ (fun hHeld => ?_)
    · exact KEEP.out _ (by (repeat' (first | exact Below.refl _ _ | assumption | refine Below.drew ?_ | refine W.below_drewN ?_ _ | (refine Below.alloc ?_ (by simp <;> omega) _) | (refine Below.setCell ?_ (by simp <;> omega) _))))
    refine wpAnyH_take (i := 0) (v := ?_) rfl (by kernel_rfl) (by kernel_rfl) (by kernel_rfl) (fun _ _ _ h => h) (Or.inl ⟨by rfl, ?_⟩) hHeld ?_
    rotate_left
    · (intro W hSw; (try dsimp only at hSw); go_simp; try with_reducible rfl)
    try simp only [Act.put, List.setIfInBounds_toArray, List.set_cons_zero, List.set_cons_succ, List.getElem_toArray, List.getElem_cons_succ, List.getElem_cons_zero]
    refine wpAnyH_take (i := 1) (v := ?_) rfl (by kernel_rfl) (by kernel_rfl) (by kernel_rfl) (fun _ _ _ h => h) (Or.inl ⟨by rfl, ?_⟩) hHeld ?_
    rotate_left
    · (intro W hSw; (try dsimp only at hSw); go_simp; try with_reducible rfl)
    try simp only [Act.put, List.setIfInBounds_toArray, List.set_cons_zero, List.set_cons_succ, List.getElem_toArray, List.getElem_cons_succ, List.getElem_cons_zero]
    refine wpAnyH_take (i := 2) (v := ?_) rfl (by kernel_rfl) (by kernel_rfl) (by kernel_rfl) (fun _ _ _ h => h) (Or.inl ⟨by rfl, ?_⟩) hHeld ?_
    rotate_left
    · (intro W hSw; (try dsimp only at hSw); go_simp; try with_reducible rfl)
    try simp only [Act.put, List.setIfInBounds_toArray, List.set_cons_zero, List.set_cons_succ, List.getElem_toArray, List.getElem_cons_succ, List.getElem_cons_zero]
    refine wpAnyH_take (i := 3) (v := ?_) rfl (by kernel_rfl) (by kernel_rfl) (by kernel_rfl) (fun _ _ _ h => h) (Or.inl ⟨by rfl, ?_⟩) hHeld ?_
    rotate_left
    · (intro W hSw; (try dsimp only at hSw); go_simp; try with_reducible rfl)
    try simp only [Act.put, List.setIfInBounds_toArray, List.set_cons_zero, List.set_cons_succ, List.getElem_toArray, List.getElem_cons_succ, List.getElem_cons_zero]
    refine wpAnyH_take (i := 5) (v := ?_) rfl (by kernel_rfl) (by kernel_rfl) (by kernel_rfl) (fun _ _ _ h => h) (Or.inl ⟨by rfl, ?_⟩) hHeld ?_
    rotate_left
    · (intro W hSw; (try dsimp only at hSw); go_simp; try with_reducible rfl)
    try simp only [Act.put, List.setIfInBounds_toArray, List.set_cons_zero, List.set_cons_succ, List.getElem_toArray, List.getElem_cons_succ, List.getElem_cons_zero]
    refine wpAnyH_take (i := 6) (v := ?_) rfl (by kernel_rfl) (by kernel_rfl) (by kernel_rfl) (fun _ _ _ h => h) (Or.inl ⟨by rfl, ?_⟩) hHeld ?_
    rotate_left
    · (intro W hSw; (try dsimp only at hSw); go_simp; try with_reducible rfl)
    try simp only [Act.put, List.setIfInBounds_toArray, List.set_cons_zero, List.set_cons_succ, List.getElem_toArray, List.getElem_cons_succ, List.getElem_cons_zero]
    refine wpAnyH_take (i := 7) (v := ?_) rfl (by kernel_rfl) (by kernel_rfl) (by kernel_rfl) (fun _ _ _ h => h) (Or.inl ⟨by rfl, ?_⟩) hHeld ?_
    rotate_left
    · (intro W hSw; (try dsimp only at hSw); go_simp; try with_reducible rfl)
    try simp only [Act.put, List.setIfInBounds_toArray, List.set_cons_zero, List.set_cons_succ, List.getElem_toArray, List.getElem_cons_succ, List.getElem_cons_zero]
    refine wpAnyH_take (i := 8) (v := ?_) rfl (by kernel_rfl) (by kernel_rfl) (by kernel_rfl) (fun _ _ _ h => h) (Or.inl ⟨by rfl, ?_⟩) hHeld ?_
    rotate_left
    · (intro W hSw; (try dsimp only at hSw); go_simp; try with_reducible rfl)
    try simp only [Act.put, List.setIfInBounds_toArray, List.set_cons_zero, List.set_cons_succ, List.getElem_toArray, List.getElem_cons_succ, List.getElem_cons_zero]
    refine wpAnyH_take (i := 9) (v := ?_) rfl (by kernel_rfl) (by kernel_rfl) (by kernel_rfl) (fun _ _ _ h => h) (Or.inl ⟨by rfl, ?_⟩) hHeld ?_
    rotate_left
    · (intro W hSw; (try dsimp only at hSw); go_simp; try with_reducible rfl)
    try simp only [Act.put, List.setIfInBounds_toArray, List.set_cons_zero, List.set_cons_succ, List.getElem_toArray, List.getElem_cons_succ, List.getElem_cons_zero]
    refine wpAnyH_take (i := 10) (v := ?_) rfl (by kernel_rfl) (by kernel_rfl) (by kernel_rfl) (fun _ _ _ h => h) (Or.inl ⟨by rfl, ?_⟩) hHeld ?_
    rotate_left
    · (intro W hSw; (try dsimp only at hSw); go_simp; try with_reducible rfl)
    try simp only [Act.put, List.setIfInBounds_toArray, List.set_cons_zero, List.set_cons_succ, List.getElem_toArray, List.getElem_cons_succ, List.getElem_cons_zero]
    refine wpAnyH_take (i := 11) (v := ?_) rfl (by kernel_rfl) (by kernel_rfl) (by kernel_rfl) (fun _ _ _ h => h) (Or.inl ⟨by rfl, ?_⟩) hHeld ?_
    rotate_left
    · (intro W hSw; (try dsimp only at hSw); go_simp; try with_reducible rfl)
    try simp only [Act.put, List.setIfInBounds_toArray, List.set_cons_zero, List.set_cons_succ, List.getElem_toArray, List.getElem_cons_succ, List.getElem_cons_zero]
    refine wpAnyH_take (i := 12) (v := ?_) rfl (by kernel_rfl) (by kernel_rfl) (by kernel_rfl) (fun _ _ _ h => h) (Or.inl ⟨by rfl, ?_⟩) hHeld ?_
    rotate_left
    · (intro W hSw; (try dsimp only at hSw); go_simp; try with_reducible rfl)
    try simp only [Act.put, List.setIfInBounds_toArray, List.set_cons_zero, List.set_cons_succ, List.getElem_toArray, List.getElem_cons_succ, List.getElem_cons_zero]
    refine wpAnyH_take (i := 13) (v := ?_) rfl (by kernel_rfl) (by kernel_rfl) (by kernel_rfl) (fun _ _ _ h => h) (Or.inl ⟨by rfl, ?_⟩) hHeld ?_
    rotate_left
    · (intro W hSw; (try dsimp only at hSw); go_simp; try with_reducible rfl)
    try simp only [Act.put, List.setIfInBounds_toArray, List.set_cons_zero, List.set_cons_succ, List.getElem_toArray, List.getElem_cons_succ, List.getElem_cons_zero]
    refine wpAnyH_take (i := 14) (v := ?_) rfl (by kernel_rfl) (by kernel_rfl) (by kernel_rfl) (fun _ _ _ h => h) (Or.inl ⟨by rfl, ?_⟩) hHeld ?_
    rotate_left
    · (intro W hSw; (try dsimp only at hSw); go_simp; try with_reducible rfl)
    try simp only [Act.put, List.setIfInBounds_toArray, List.set_cons_zero, List.set_cons_succ, List.getElem_toArray, List.getElem_cons_succ, List.getElem_cons_zero]
    refine wpAnyH_take (i := 15) (v := ?_) rfl (by kernel_rfl) (by kernel_rfl) (by kernel_rfl) (fun _ _ _ h => h) (Or.inl ⟨by rfl, ?_⟩) hHeld ?_
    rotate_left
    · (intro W hSw; (try dsimp only at hSw); go_simp; try with_reducible rfl)
    try simp only [Act.put, List.setIfInBounds_toArray, List.set_cons_zero, List.set_cons_succ, List.getElem_toArray, List.getElem_cons_succ, List.getElem_cons_zero]
    refine wpAnyH_take (i := 16) (v := ?_) rfl (by kernel_rfl) (by kernel_rfl) (by kernel_rfl) (fun _ _ _ h => h) (Or.inl ⟨by rfl, ?_⟩) hHeld ?_
    rotate_left
    · (intro W hSw; (try dsimp only at hSw); go_simp; try with_reducible rfl)
    try simp only [Act.put, List.setIfInBounds_toArray, List.set_cons_zero, List.set_cons_succ, List.getElem_toArray, List.getElem_cons_succ, List.getElem_cons_zero]
    refine wpAnyH_take (i := 17) (v := ?_) rfl (by kernel_rfl) (by kernel_rfl) (by kernel_rfl) (fun _ _ _ h => h) (Or.inl ⟨by rfl, ?_⟩) hHeld ?_
    rotate_left
    · (intro W hSw; (try dsimp only at hSw); go_simp; try with_reducible rfl)
    try simp only [Act.put, List.setIfInBounds_toArray, List.set_cons_zero, List.set_cons_succ, List.getElem_toArray, List.getElem_cons_succ, List.getElem_cons_zero]
    refine wpAnyH_take (i := 18) (v := ?_) rfl (by kernel_rfl) (by kernel_rfl) (by kernel_rfl) (fun _ _ _ h => h) (Or.inl ⟨by rfl, ?_⟩) hHeld ?_
    rotate_left
    · (intro W hSw; (try dsimp only at hSw); go_simp; try with_reducible rfl)
    try simp only [Act.put, List.setIfInBounds_toArray, List.set_cons_zero, List.set_cons_succ, List.getElem_toArray, List.getElem_cons_succ, List.getElem_cons_zero]
    refine wpAnyH_ready (rs := [4, 19, 25]) (by kernel_rfl) (by simp) ?_
    refine AllReadyH.cons (o := ?_) ?_ (fun K' hK => ?_) ?_
    rotate_left
    · (simp only [List.getElem?_toArray, List.getElem?_cons_succ, List.getElem?_cons_zero] <;> rfl)
    · skip
      go_simp; go_at_call 28; refine (roller_ok (n : Int) _).mono ?_; rintro e w3 ⟨rfl, rfl⟩; go_wp2_with fail
      refine hK.out _ _ ?_ (fun hHeld' => ?_)
      · exact KEEP.out _ (by (repeat' (first | exact Below.refl _ _ | assumption | refine Below.drew ?_ | refine W.below_drewN ?_ _ | (refine Below.alloc ?_ (by simp <;> omega) _) | (refine Below.setCell ?_ (by simp <;> omega) _))))
      clear hK K' hHeld
      have hHeld := hHeld'
      clear hHeld'
      try simp only [Act.put, List.setIfInBounds_toArray, List.set_cons_zero, List.set_cons_succ, List.getElem_toArray, List.getElem_cons_succ, List.getElem_cons_zero]
      refine wpAnyH_ready (rs := [19, 25]) (by kernel_rfl) (by simp) ?_
      refine AllReadyH.cons (o := ?_) ?_ (fun K' hK => ?_) ?_
      rotate_left
      · (simp only [List.getElem?_toArray, List.getElem?_cons_succ, List.getElem?_cons_zero] <;> rfl)
      · skip
        go_simp
        refine hK.out _ _ ?_ (fun hHeld' => ?_)
        · exact KEEP.out _ (by (repeat' (first | exact Below.refl _ _ | assumption | refine Below.drew ?_ | refine W.below_drewN ?_ _ | (refine Below.alloc ?_ (by simp <;> omega) _) | (refine Below.setCell ?_ (by simp <;> omega) _))))
        clear hK K' hHeld
        have hHeld := hHeld'
        clear hHeld'
        try simp only [Act.put, List.setIfInBounds_toArray, List.set_cons_zero, List.set_cons_succ, List.getElem_toArray, List.getElem_cons_succ, List.getElem_cons_zero]
        refine wpAnyH_ready (rs := [20, 25]) (by kernel_rfl) (by simp) ?_
        refine AllReadyH.cons (o := ?_) ?_ (fun K' hK => ?_) ?_
        rotate_left
        · (simp only [List.getElem?_toArray, List.getElem?_cons_succ, List.getElem?_cons_zero] <;> rfl)
        · skip
          refine step_append_new _ u8_one' (by rfl) _ _ 22 (by rfl) 5 i0 (.int .u8 0) 1 Try.underlying22 hi hz0 hz1 hz2 rfl w.heap.size (some ⟨bA, oA, none⟩) n b (by rfl) (SB.out _ ?_) HL.out _ x (by rfl) ?_ y HY.out (by unfold maxLen; omega) (by omega) ?_
          · exact hHeld.1
          · first | exact cell_one_new _ _ _ | (go_simp; done) | (go_simp; rfl)
          intro c5 C5 k5 hc5; rw [u8_def] at k5; try simp only [Act.put, List.setIfInBounds_toArray, List.set_cons_zero, List.set_cons_succ, List.getElem_toArray, List.getElem_cons_succ, List.getElem_cons_zero]
          refine hK.out _ _ ?_ (fun hHeld' => ?_)
          · exact KEEP.out _ (by (repeat' (first | exact Below.refl _ _ | assumption | refine Below.drew ?_ | refine W.below_drewN ?_ _ | (refine Below.alloc ?_ (by simp <;> omega) _) | (refine Below.setCell ?_ (by simp <;> omega) _))))
          clear hK K' hHeld
          have hHeld := hHeld'
          clear hHeld'
          try simp only [Act.put, List.setIfInBounds_toArray, List.set_cons_zero, List.set_cons_succ, List.getElem_toArray, List.getElem_cons_succ, List.getElem_cons_zero]
          refine wpAnyH_take (i := 21) (v := ?_) rfl (by kernel_rfl) (by kernel_rfl) (by kernel_rfl) (fun _ _ _ h => h) (Or.inl ⟨by rfl, ?_⟩) hHeld ?_
          rotate_left
          · (intro W hSw; (try dsimp only at hSw); go_simp; try with_reducible rfl)
          try simp only [Act.put, List.setIfInBounds_toArray, List.set_cons_zero, List.set_cons_succ, List.getElem_toArray, List.getElem_cons_succ, List.getElem_cons_zero]
          refine wpAnyH_more (T := fun W => (Below w2.heap.size w2 W ∧ W.cell? ⟨w.heap.size, 0, none⟩ = some (.int .i64 (n : Int)) ∧ W.cell? ⟨w.heap.size, 1, none⟩ = some (.slice (some ⟨bA, oA, none⟩) n c) ∧ W.cell? ⟨w.heap.size, 2, none⟩ = some (.int .u32 (hv.toNat : Int))) ∧ W.cell? ⟨w2.heap.size + 1 + 1, 0, none⟩ = some (.int .u8 (y.toNat : Int))) (fun _ h => h.1) ⟨hHeld, ?_⟩ (fun hHeld1 => ?_)
          · (first | exact cell_new_row (by simp) k5 | exact cell_new_row_d (by simp) k5 | go_simp)
          clear hHeld
          have hHeld := hHeld1
          clear hHeld1
          refine wpAnyH_take (i := 22) (v := ?_) rfl (by kernel_rfl) (by kernel_rfl) (by kernel_rfl) (fun _ _ _ h => h) (Or.inl ⟨by rfl, ?_⟩) hHeld ?_
          rotate_left
          · (intro W hSw; (try dsimp only at hSw); go_simp; try with_reducible rfl)
          try simp only [Act.put, List.setIfInBounds_toArray, List.set_cons_zero, List.set_cons_succ, List.getElem_toArray, List.getElem_cons_succ, List.getElem_cons_zero]
          refine wpAnyH_ready (rs := [23, 25]) (by kernel_rfl) (by simp) ?_
          refine AllReadyH.cons (o := ?_) ?_ (fun K' hK => ?_) ?_
          rotate_left
          · (simp only [List.getElem?_toArray, List.getElem?_cons_succ, List.getElem?_cons_zero] <;> rfl)
          · skip
            go_simp; go_at_call 34; refine (D.out _ _ (Eq.trans (Blk.cell (g := w2.heap.size) (t := 3) (cs := #[.int .i64 (n : Int)]) (by (repeat' (first | (with_reducible exact Blk.new' (by simp) _ _) | (with_reducible refine Blk.alloc ?_ _) | (with_reducible refine Blk.drew ?_) | (with_reducible refine Blk.drewN ?_ _) | (with_reducible refine put3z ?_ _ _ _) | (with_reducible refine Blk.far ?_ ?_ _) | (simp; done) | (simp <;> omega)))) 0) rfl)).mono ?_; rintro e w6 ⟨rfl, m6, rfl⟩; go_wp2_with fail
            refine hK.out _ _ ?_ (fun hHeld' => ?_)
            · exact ⟨KEEP.out _ (by (repeat' (first | exact Below.refl _ _ | assumption | refine Below.drew ?_ | refine W.below_drewN ?_ _ | (refine Below.alloc ?_ (by simp <;> omega) _) | (refine Below.setCell ?_ (by simp <;> omega) _)))), by (refine Eq.trans (Blk.cell (t := 5) (cs := C5) ?_ 0) k5; (repeat' (first | (with_reducible exact Blk.new' (by simp) _ _) | (with_reducible refine Blk.alloc ?_ _) | (with_reducible refine Blk.drew ?_) | (with_reducible refine Blk.drewN ?_ _) | (with_reducible refine put3z ?_ _ _ _) | (with_reducible refine Blk.far ?_ ?_ _) | (simp; done) | (simp <;> omega))))⟩
            clear hK K' hHeld
            have hHeld := hHeld'
            clear hHeld'
            try simp only [Act.put, List.setIfInBounds_toArray, List.set_cons_zero, List.set_cons_succ, List.getElem_toArray, List.getElem_cons_succ, List.getElem_cons_zero]
            refine wpAnyH_take (i := 24) (v := ?_) rfl (by kernel_rfl) (by kernel_rfl) (by kernel_rfl) (fun _ _ _ h => h) (Or.inl ⟨by rfl, ?_⟩) hHeld ?_
            rotate_left
            · (intro W hSw; (try dsimp only at hSw); go_simp; try with_reducible rfl)
            try simp only [Act.put, List.setIfInBounds_toArray, List.set_cons_zero, List.set_cons_succ, List.getElem_toArray, List.getElem_cons_succ, List.getElem_cons_zero]
            refine wpAnyH_ready (rs := [25]) (by kernel_rfl) (by simp) ?_
            refine AllReadyH.cons (o := ?_) ?_ (fun K' hK => ?_) ?_
            rotate_left
            · (simp only [List.getElem?_toArray, List.getElem?_cons_succ, List.getElem?_cons_zero] <;> rfl)
            · skip
              go_simp
              refine hK.out _ _ ?_ (fun hHeld' => ?_)
              · exact ⟨KEEP.out _ (by (repeat' (first | exact Below.refl _ _ | assumption | refine Below.drew ?_ | refine W.below_drewN ?_ _ | (refine Below.alloc ?_ (by simp <;> omega) _) | (refine Below.setCell ?_ (by simp <;> omega) _)))), by (refine Eq.trans (Blk.cell (t := 5) (cs := C5) ?_ 0) k5; (repeat' (first | (with_reducible exact Blk.new' (by simp) _ _) | (with_reducible refine Blk.alloc ?_ _) | (with_reducible refine Blk.drew ?_) | (with_reducible refine Blk.drewN ?_ _) | (with_reducible refine put3z ?_ _ _ _) | (with_reducible refine Blk.far ?_ ?_ _) | (simp; done) | (simp <;> omega))))⟩
              clear hK K' hHeld
              have hHeld := hHeld'
              clear hHeld'
              try simp only [Act.put, List.setIfInBounds_toArray, List.set_cons_zero, List.set_cons_succ, List.getElem_toArray, List.getElem_cons_succ, List.getElem_cons_zero]
              refine wpAnyH_ready (rs := [26]) (by kernel_rfl) (by simp) ?_
              refine AllReadyH.cons (o := ?_) ?_ (fun K' hK => ?_) ?_
              rotate_left
              · (simp only [List.getElem?_toArray, List.getElem?_cons_succ, List.getElem?_cons_zero] <;> rfl)
              · skip
                go_simp
                refine hK.out _ _ ?_ (fun hHeld' => ?_)
                · exact ⟨KEEP.out _ (by (repeat' (first | exact Below.refl _ _ | assumption | refine Below.drew ?_ | refine W.below_drewN ?_ _ | (refine Below.alloc ?_ (by simp <;> omega) _) | (refine Below.setCell ?_ (by simp <;> omega) _)))), by (refine Eq.trans (Blk.cell (t := 5) (cs := C5) ?_ 0) k5; (repeat' (first | (with_reducible exact Blk.new' (by simp) _ _) | (with_reducible refine Blk.alloc ?_ _) | (with_reducible refine Blk.drew ?_) | (with_reducible refine Blk.drewN ?_ _) | (with_reducible refine put3z ?_ _ _ _) | (with_reducible refine Blk.far ?_ ?_ _) | (simp; done) | (simp <;> omega))))⟩
                clear hK K' hHeld
                have hHeld := hHeld'
                clear hHeld'
                try simp only [Act.put, List.setIfInBounds_toArray, List.set_cons_zero, List.set_cons_succ, List.getElem_toArray, List.getElem_cons_succ, List.getElem_cons_zero]
                refine wpAnyH_done (by kernel_rfl) ?_ _
                go_wp2_with fail
                go_meet
                exact ⟨_, rfl, by (first | exact Nat.le_refl _ | omega | (simp <;> omega)), by (repeat' (first | (with_reducible exact Blk.new' (by simp) _ _) | (with_reducible refine Blk.alloc ?_ _) | (with_reducible refine Blk.drew ?_) | (with_reducible refine Blk.drewN ?_ _) | (with_reducible refine put3z ?_ _ _ _) | (with_reducible refine Blk.far ?_ ?_ _) | (simp; done) | (simp <;> omega))), by (repeat' (first | exact Below.refl _ _ | assumption | refine Below.drew ?_ | refine W.below_drewN ?_ _ | (refine Below.alloc ?_ (by simp <;> omega) _) | (refine Below.setCell ?_ (by simp <;> omega) _)))⟩
              exact AllReadyH.nil
            exact AllReadyH.nil
          refine AllReadyH.cons (o := ?_) ?_ (fun K' hK => ?_) ?_
          rotate_left
          · (simp only [List.getElem?_toArray, List.getElem?_cons_succ, List.getElem?_cons_zero] <;> rfl)
          · skip
            go_simp
            refine hK.out _ _ ?_ (fun hHeld' => ?_)
            · exact ⟨KEEP.out _ (by (repeat' (first | exact Below.refl _ _ | assumption | refine Below.drew ?_ | refine W.below_drewN ?_ _ | (refine Below.alloc ?_ (by simp <;> omega) _) | (refine Below.setCell ?_ (by simp <;> omega) _)))), by (refine Eq.trans (Blk.cell (t := 5) (cs := C5) ?_ 0) k5; (repeat' (first | (with_reducible exact Blk.new' (by simp) _ _) | (with_reducible refine Blk.alloc ?_ _) | (with_reducible refine Blk.drew ?_) | (with_reducible refine Blk.drewN ?_ _) | (with_reducible refine put3z ?_ _ _ _) | (with_reducible refine Blk.far ?_ ?_ _) | (simp; done) | (simp <;> omega))))⟩
            clear hK K' hHeld
            have hHeld := hHeld'
            clear hHeld'
            try simp only [Act.put, List.setIfInBounds_toArray, List.set_cons_zero, List.set_cons_succ, List.getElem_toArray, List.getElem_cons_succ, List.getElem_cons_zero]
            refine wpAnyH_ready (rs := [23]) (by kernel_rfl) (by simp) ?_
            refine AllReadyH.cons (o := ?_) ?_ (fun K' hK => ?_) ?_
            rotate_left
            · (simp only [List.getElem?_toArray, List.getElem?_cons_succ, List.getElem?_cons_zero] <;> rfl)
            · skip
              go_simp; go_at_call 34; refine (D.out _ _ (Eq.trans (Blk.cell (g := w2.heap.size) (t := 3) (cs := #[.int .i64 (n : Int)]) (by (repeat' (first | (with_reducible exact Blk.new' (by simp) _ _) | (with_reducible refine Blk.alloc ?_ _) | (with_reducible refine Blk.drew ?_) | (with_reducible refine Blk.drewN ?_ _) | (with_reducible refine put3z ?_ _ _ _) | (with_reducible refine Blk.far ?_ ?_ _) | (simp; done) | (simp <;> omega)))) 0) rfl)).mono ?_; rintro e w6 ⟨rfl, m6, rfl⟩; go_wp2_with fail
              refine hK.out _ _ ?_ (fun hHeld' => ?_)
              · exact ⟨KEEP.out _ (by (repeat' (first | exact Below.refl _ _ | assumption | refine Below.drew ?_ | refine W.below_drewN ?_ _ | (refine Below.alloc ?_ (by simp <;> omega) _) | (refine Below.setCell ?_ (by simp <;> omega) _)))), by (refine Eq.trans (Blk.cell (t := 5) (cs := C5) ?_ 0) k5; (repeat' (first | (with_reducible exact Blk.new' (by simp) _ _) | (with_reducible refine Blk.alloc ?_ _) | (with_reducible refine Blk.drew ?_) | (with_reducible refine Blk.drewN ?_ _) | (with_reducible refine put3z ?_ _ _ _) | (with_reducible refine Blk.far ?_ ?_ _) | (simp; done) | (simp <;> omega))))⟩
              clear hK K' hHeld
              have hHeld := hHeld'
              clear hHeld'
              try simp only [Act.put, List.setIfInBounds_toArray, List.set_cons_zero, List.set_cons_succ, List.getElem_toArray, List.getElem_cons_succ, List.getElem_cons_zero]
              refine wpAnyH_take (i := 24) (v := ?_) rfl (by kernel_rfl) (by kernel_rfl) (by kernel_rfl) (fun _ _ _ h => h) (Or.inl ⟨by rfl, ?_⟩) hHeld ?_
              rotate_left
              · (intro W hSw; (try dsimp only at hSw); go_simp; try with_reducible rfl)
              try simp only [Act.put, List.setIfInBounds_toArray, List.set_cons_zero, List.set_cons_succ, List.getElem_toArray, List.getElem_cons_succ, List.getElem_cons_zero]
              refine wpAnyH_ready (rs := [26]) (by kernel_rfl) (by simp) ?_
              refine AllReadyH.cons (o := ?_) ?_ (fun K' hK => ?_) ?_
              rotate_left
              · (simp only [List.getElem?_toArray, List.getElem?_cons_succ, List.getElem?_cons_zero] <;> rfl)
              · skip
                go_simp
                refine hK.out _ _ ?_ (fun hHeld' => ?_)
                · exact ⟨KEEP.out _ (by (repeat' (first | exact Below.refl _ _ | assumption | refine Below.drew ?_ | refine W.below_drewN ?_ _ | (refine Below.alloc ?_ (by simp <;> omega) _) | (refine Below.setCell ?_ (by simp <;> omega) _)))), by (refine Eq.trans (Blk.cell (t := 5) (cs := C5) ?_ 0) k5; (repeat' (first | (with_reducible exact Blk.new' (by simp) _ _) | (with_reducible refine Blk.alloc ?_ _) | (with_reducible refine Blk.drew ?_) | (with_reducible refine Blk.drewN ?_ _) | (with_reducible refine put3z ?_ _ _ _) | (with_reducible refine Blk.far ?_ ?_ _) | (simp; done) | (simp <;> omega))))⟩
                clear hK K' hHeld
                have hHeld := hHeld'
                clear hHeld'
                try simp only [Act.put, List.setIfInBounds_toArray, List.set_cons_zero, List.set_cons_succ, List.getElem_toArray, List.getElem_cons_succ, List.getElem_cons_zero]
                refine wpAnyH_done (by kernel_rfl) ?_ _
                go_wp2_with fail
                go_meet
                exact ⟨_, rfl, by (first | exact Nat.le_refl _ | omega | (simp <;> omega)), by (repeat' (first | (with_reducible exact Blk.new' (by simp) _ _) | (with_reducible refine Blk.alloc ?_ _) | (with_reducible refine Blk.drew ?_) | (with_reducible refine Blk.drewN ?_ _) | (with_reducible refine put3z ?_ _ _ _) | (with_reducible refine Blk.far ?_ ?_ _) | (simp; done) | (simp <;> omega))), by (repeat' (first | exact Below.refl _ _ | assumption | refine Below.drew ?_ | refine W.below_drewN ?_ _ | (refine Below.alloc ?_ (by simp <;> omega) _) | (refine Below.setCell ?_ (by simp <;> omega) _)))⟩
              exact AllReadyH.nil
            exact AllReadyH.nil
          exact AllReadyH.nil
        refine AllReadyH.cons (o := ?_) ?_ (fun K' hK => ?_) ?_
        rotate_left
        · (simp only [List.getElem?_toArray, List.getElem?_cons_succ, List.getElem?_cons_zero] <;> rfl)
        · skip
          go_simp
          refine hK.out _ _ ?_ (fun hHeld' => ?_)
          · exact KEEP.out _ (by (repeat' (first | exact Below.refl _ _ | assumption | refine Below.drew ?_ | refine W.below_drewN ?_ _ | (refine Below.alloc ?_ (by simp <;> omega) _) | (refine Below.setCell ?_ (by simp <;> omega) _))))
          clear hK K' hHeld
          have hHeld := hHeld'
          clear hHeld'
          try simp only [Act.put, List.setIfInBounds_toArray, List.set_cons_zero, List.set_cons_succ, List.getElem_toArray, List.getElem_cons_succ, List.getElem_cons_zero]
          refine wpAnyH_ready (rs := [20]) (by kernel_rfl) (by simp) ?_
          refine AllReadyH.cons (o := ?_) ?_ (fun K' hK => ?_) ?_
          rotate_left
          · (simp only [List.getElem?_toArray, List.getElem?_cons_succ, List.getElem?_cons_zero] <;> rfl)
          · skip
            refine step_append_new _ u8_one' (by rfl) _ _ 22 (by rfl) 5 i0 (.int .u8 0) 1 Try.underlying22 hi hz0 hz1 hz2 rfl w.heap.size (some ⟨bA, oA, none⟩) n b (by rfl) (SB.out _ ?_) HL.out _ x (by rfl) ?_ y HY.out (by unfold maxLen; omega) (by omega) ?_
            · exact hHeld.1
            · first | exact cell_one_new _ _ _ | (go_simp; done) | (go_simp; rfl)
            intro c5 C5 k5 hc5; rw [u8_def] at k5; try simp only [Act.put, List.setIfInBounds_toArray, List.set_cons_zero, List.set_cons_succ, List.getElem_toArray, List.getElem_cons_succ, List.getElem_cons_zero]
            refine hK.out _ _ ?_ (fun hHeld' => ?_)
            · exact KEEP.out _ (by (repeat' (first | exact Below.refl _ _ | assumption | refine Below.drew ?_ | refine W.below_drewN ?_ _ | (refine Below.alloc ?_ (by simp <;> omega) _) | (refine Below.setCell ?_ (by simp <;> omega) _))))
            clear hK K' hHeld
            have hHeld := hHeld'
            clear hHeld'
            try simp only [Act.put, List.setIfInBounds_toArray, List.set_cons_zero, List.set_cons_succ, List.getElem_toArray, List.getElem_cons_succ, List.getElem_cons_zero]
            refine wpAnyH_take (i := 21) (v := ?_) rfl (by kernel_rfl) (by kernel_rfl) (by kernel_rfl) (fun _ _ _ h => h) (Or.inl ⟨by rfl, ?_⟩) hHeld ?_
            rotate_left
            · (intro W hSw; (try dsimp only at hSw); go_simp; try with_reducible rfl)
            try simp only [Act.put, List.setIfInBounds_toArray, List.set_cons_zero, List.set_cons_succ, List.getElem_toArray, List.getElem_cons_succ, List.getElem_cons_zero]
            refine wpAnyH_more (T := fun W => (Below w2.heap.size w2 W ∧ W.cell? ⟨w.heap.size, 0, none⟩ = some (.int .i64 (n : Int)) ∧ W.cell? ⟨w.heap.size, 1, none⟩ = some (.slice (some ⟨bA, oA, none⟩) n c) ∧ W.cell? ⟨w.heap.size, 2, none⟩ = some (.int .u32 (hv.toNat : Int))) ∧ W.cell? ⟨w2.heap.size + 1 + 1 + 1, 0, none⟩ = some (.int .u8 (y.toNat : Int))) (fun _ h => h.1) ⟨hHeld, ?_⟩ (fun hHeld1 => ?_)
            · (first | exact cell_new_row (by simp) k5 | exact cell_new_row_d (by simp) k5 | go_simp)
            clear hHeld
            have hHeld := hHeld1
            clear hHeld1
            refine wpAnyH_take (i := 22) (v := ?_) rfl (by kernel_rfl) (by kernel_rfl) (by kernel_rfl) (fun _ _ _ h => h) (Or.inl ⟨by rfl, ?_⟩) hHeld ?_
            rotate_left
            · (intro W hSw; (try dsimp only at hSw); go_simp; try with_reducible rfl)
            try simp only [Act.put, List.setIfInBounds_toArray, List.set_cons_zero, List.set_cons_succ, List.getElem_toArray, List.getElem_cons_succ, List.getElem_cons_zero]
            refine wpAnyH_ready (rs := [23]) (by kernel_rfl) (by simp) ?_
            refine AllReadyH.cons (o := ?_) ?_ (fun K' hK => ?_) ?_
            rotate_left
            · (simp only [List.getElem?_toArray, List.getElem?_cons_succ, List.getElem?_cons_zero] <;> rfl)
            · skip
              go_simp; go_at_call 34; refine (D.out _ _ (Eq.trans (Blk.cell (g := w2.heap.size) (t := 3) (cs := #[.int .i64 (n : Int)]) (by (repeat' (first | (with_reducible exact Blk.new' (by simp) _ _) | (with_reducible refine Blk.alloc ?_ _) | (with_reducible refine Blk.drew ?_) | (with_reducible refine Blk.drewN ?_ _) | (with_reducible refine put3z ?_ _ _ _) | (with_reducible refine Blk.far ?_ ?_ _) | (simp; done) | (simp <;> omega)))) 0) rfl)).mono ?_; rintro e w6 ⟨rfl, m6, rfl⟩; go_wp2_with fail
              refine hK.out _ _ ?_ (fun hHeld' => ?_)
              · exact ⟨KEEP.out _ (by (repeat' (first | exact Below.refl _ _ | assumption | refine Below.drew ?_ | refine W.below_drewN ?_ _ | (refine Below.alloc ?_ (by simp <;> omega) _) | (refine Below.setCell ?_ (by simp <;> omega) _)))), by (refine Eq.trans (Blk.cell (t := 5) (cs := C5) ?_ 0) k5; (repeat' (first | (with_reducible exact Blk.new' (by simp) _ _) | (with_reducible refine Blk.alloc ?_ _) | (with_reducible refine Blk.drew ?_) | (with_reducible refine Blk.drewN ?_ _) | (with_reducible refine put3z ?_ _ _ _) | (with_reducible refine Blk.far ?_ ?_ _) | (simp; done) | (simp <;> omega))))⟩
              clear hK K' hHeld
              have hHeld := hHeld'
              clear hHeld'
              try simp only [Act.put, List.setIfInBounds_toArray, List.set_cons_zero, List.set_cons_succ, List.getElem_toArray, List.getElem_cons_succ, List.getElem_cons_zero]
              refine wpAnyH_take (i := 24) (v := ?_) rfl (by kernel_rfl) (by kernel_rfl) (by kernel_rfl) (fun _ _ _ h => h) (Or.inl ⟨by rfl, ?_⟩) hHeld ?_
              rotate_left
              · (intro W hSw; (try dsimp only at hSw); go_simp; try with_reducible rfl)
              try simp only [Act.put, List.setIfInBounds_toArray, List.set_cons_zero, List.set_cons_succ, List.getElem_toArray, List.getElem_cons_succ, List.getElem_cons_zero]
              refine wpAnyH_ready (rs := [26]) (by kernel_rfl) (by simp) ?_
              refine AllReadyH.cons (o := ?_) ?_ (fun K' hK => ?_) ?_
              rotate_left
              · (simp only [List.getElem?_toArray, List.getElem?_cons_succ, List.getElem?_cons_zero] <;> rfl)
              · skip
                go_simp
                refine hK.out _ _ ?_ (fun hHeld' => ?_)
                · exact ⟨KEEP.out _ (by (repeat' (first | exact Below.refl _ _ | assumption | refine Below.drew ?_ | refine W.below_drewN ?_ _ | (refine Below.alloc ?_ (by simp <;> omega) _) | (refine Below.setCell ?_ (by simp <;> omega) _)))), by (refine Eq.trans (Blk.cell (t := 5) (cs := C5) ?_ 0) k5; (repeat' (first | (with_reducible exact Blk.new' (by simp) _ _) | (with_reducible refine Blk.alloc ?_ _) | (with_reducible refine Blk.drew ?_) | (with_reducible refine Blk.drewN ?_ _) | (with_reducible refine put3z ?_ _ _ _) | (with_reducible refine Blk.far ?_ ?_ _) | (simp; done) | (simp <;> omega))))⟩
                clear hK K' hHeld
                have hHeld := hHeld'
                clear hHeld'
                try simp only [Act.put, List.setIfInBounds_toArray, List.set_cons_zero, List.set_cons_succ, List.getElem_toArray, List.getElem_cons_succ, List.getElem_cons_zero]
                refine wpAnyH_done (by kernel_rfl) ?_ _
                go_wp2_with fail
                go_meet
                exact ⟨_, rfl, by (first | exact Nat.le_refl _ | omega | (simp <;> omega)), by (repeat' (first | (with_reducible exact Blk.new' (by simp) _ _) | (with_reducible refine Blk.alloc ?_ _) | (with_reducible refine Blk.drew ?_) | (with_reducible refine Blk.drewN ?_ _) | (with_reducible refine put3z ?_ _ _ _) | (with_reducible refine Blk.far ?_ ?_ _) | (simp; done) | (simp <;> omega))), by (repeat' (first | exact Below.refl _ _ | assumption | refine Below.drew ?_ | refine W.below_drewN ?_ _ | (refine Below.alloc ?_ (by simp <;> omega) _) | (refine Below.setCell ?_ (by simp <;> omega) _)))⟩
              exact AllReadyH.nil
            exact AllReadyH.nil
          exact AllReadyH.nil
        exact AllReadyH.nil
      refine AllReadyH.cons (o := ?_) ?_ (fun K' hK => ?_) ?_
      rotate_left
      · (simp only [List.getElem?_toArray, List.getElem?_cons_succ, List.getElem?_cons_zero] <;> rfl)
      · skip
        go_simp
        refine hK.out _ _ ?_ (fun hHeld' => ?_)
        · exact KEEP.out _ (by (repeat' (first | exact Below.refl _ _ | assumption | refine Below.drew ?_ | refine W.below_drewN ?_ _ | (refine Below.alloc ?_ (by simp <;> omega) _) | (refine Below.setCell ?_ (by simp <;> omega) _))))
        clear hK K' hHeld
        have hHeld := hHeld'
        clear hHeld'
        try simp only [Act.put, List.setIfInBounds_toArray, List.set_cons_zero, List.set_cons_succ, List.getElem_toArray, List.getElem_cons_succ, List.getElem_cons_zero]
        refine wpAnyH_ready (rs := [19]) (by kernel_rfl) (by simp) ?_
        refine AllReadyH.cons (o := ?_) ?_ (fun K' hK => ?_) ?_
        rotate_left
        · (simp only [List.getElem?_toArray, List.getElem?_cons_succ, List.getElem?_cons_zero] <;> rfl)
        · skip
          go_simp
          refine hK.out _ _ ?_ (fun hHeld' => ?_)
          · exact KEEP.out _ (by (repeat' (first | exact Below.refl _ _ | assumption | refine Below.drew ?_ | refine W.below_drewN ?_ _ | (refine Below.alloc ?_ (by simp <;> omega) _) | (refine Below.setCell ?_ (by simp <;> omega) _))))
          clear hK K' hHeld
          have hHeld := hHeld'
          clear hHeld'
          try simp only [Act.put, List.setIfInBounds_toArray, List.set_cons_zero, List.set_cons_succ, List.getElem_toArray, List.getElem_cons_succ, List.getElem_cons_zero]
          refine wpAnyH_ready (rs := [20]) (by kernel_rfl) (by simp) ?_
          refine AllReadyH.cons (o := ?_) ?_ (fun K' hK => ?_) ?_
          rotate_left
          · (simp only [List.getElem?_toArray, List.getElem?_cons_succ, List.getElem?_cons_zero] <;> rfl)
          · skip
            refine step_append_new _ u8_one' (by rfl) _ _ 22 (by rfl) 5 i0 (.int .u8 0) 1 Try.underlying22 hi hz0 hz1 hz2 rfl w.heap.size (some ⟨bA, oA, none⟩) n b (by rfl) (SB.out _ ?_) HL.out _ x (by rfl) ?_ y HY.out (by unfold maxLen; omega) (by omega) ?_
            · exact hHeld.1
            · first | exact cell_one_new _ _ _ | (go_simp; done) | (go_simp; rfl)
            intro c5 C5 k5 hc5; rw [u8_def] at k5; try simp only [Act.put, List.setIfInBounds_toArray, List.set_cons_zero, List.set_cons_succ, List.getElem_toArray, List.getElem_cons_succ, List.getElem_cons_zero]
            refine hK.out _ _ ?_ (fun hHeld' => ?_)
            · exact KEEP.out _ (by (repeat' (first | exact Below.refl _ _ | assumption | refine Below.drew ?_ | refine W.below_drewN ?_ _ | (refine Below.alloc ?_ (by simp <;> omega) _) | (refine Below.setCell ?_ (by simp <;> omega) _))))
            clear hK K' hHeld
            have hHeld := hHeld'
            clear hHeld'
            try simp only [Act.put, List.setIfInBounds_toArray, List.set_cons_zero, List.set_cons_succ, List.getElem_toArray, List.getElem_cons_succ, List.getElem_cons_zero]
            refine wpAnyH_take (i := 21) (v := ?_) rfl (by kernel_rfl) (by kernel_rfl) (by kernel_rfl) (fun _ _ _ h => h) (Or.inl ⟨by rfl, ?_⟩) hHeld ?_
            rotate_left
            · (intro W hSw; (try dsimp only at hSw); go_simp; try with_reducible rfl)
            try simp only [Act.put, List.setIfInBounds_toArray, List.set_cons_zero, List.set_cons_succ, List.getElem_toArray, List.getElem_cons_succ, List.getElem_cons_zero]
            refine wpAnyH_more (T := fun W => (Below w2.heap.size w2 W ∧ W.cell? ⟨w.heap.size, 0, none⟩ = some (.int .i64 (n : Int)) ∧ W.cell? ⟨w.heap.size, 1, none⟩ = some (.slice (some ⟨bA, oA, none⟩) n c) ∧ W.cell? ⟨w.heap.size, 2, none⟩ = some (.int .u32 (hv.toNat : Int))) ∧ W.cell? ⟨w2.heap.size + 1 + 1 + 1, 0, none⟩ = some (.int .u8 (y.toNat : Int))) (fun _ h => h.1) ⟨hHeld, ?_⟩ (fun hHeld1 => ?_)
            · (first | exact cell_new_row (by simp) k5 | exact cell_new_row_d (by simp) k5 | go_simp)
            clear hHeld
            have hHeld := hHeld1
            clear hHeld1
            refine wpAnyH_take (i := 22) (v := ?_) rfl (by kernel_rfl) (by kernel_rfl) (by kernel_rfl) (fun _ _ _ h => h) (Or.inl ⟨by rfl, ?_⟩) hHeld ?_
            rotate_left
            · (intro W hSw; (try dsimp only at hSw); go_simp; try with_reducible rfl)
            try simp only [Act.put, List.setIfInBounds_toArray, List.set_cons_zero, List.set_cons_succ, List.getElem_toArray, List.getElem_cons_succ, List.getElem_cons_zero]
            refine wpAnyH_ready (rs := [23]) (by kernel_rfl) (by simp) ?_
            refine AllReadyH.cons (o := ?_) ?_ (fun K' hK => ?_) ?_
            rotate_left
            · (simp only [List.getElem?_toArray, List.getElem?_cons_succ, List.getElem?_cons_zero] <;> rfl)
            · skip
              go_simp; go_at_call 34; refine (D.out _ _ (Eq.trans (Blk.cell (g := w2.heap.size) (t := 3) (cs := #[.int .i64 (n : Int)]) (by (repeat' (first | (with_reducible exact Blk.new' (by simp) _ _) | (with_reducible refine Blk.alloc ?_ _) | (with_reducible refine Blk.drew ?_) | (with_reducible refine Blk.drewN ?_ _) | (with_reducible refine put3z ?_ _ _ _) | (with_reducible refine Blk.far ?_ ?_ _) | (simp; done) | (simp <;> omega)))) 0) rfl)).mono ?_; rintro e w6 ⟨rfl, m6, rfl⟩; go_wp2_with fail
              refine hK.out _ _ ?_ (fun hHeld' => ?_)
              · exact ⟨KEEP.out _ (by (repeat' (first | exact Below.refl _ _ | assumption | refine Below.drew ?_ | refine W.below_drewN ?_ _ | (refine Below.alloc ?_ (by simp <;> omega) _) | (refine Below.setCell ?_ (by simp <;> omega) _)))), by (refine Eq.trans (Blk.cell (t := 5) (cs := C5) ?_ 0) k5; (repeat' (first | (with_reducible exact Blk.new' (by simp) _ _) | (with_reducible refine Blk.alloc ?_ _) | (with_reducible refine Blk.drew ?_) | (with_reducible refine Blk.drewN ?_ _) | (with_reducible refine put3z ?_ _ _ _) | (with_reducible refine Blk.far ?_ ?_ _) | (simp; done) | (simp <;> omega))))⟩
              clear hK K' hHeld
              have hHeld := hHeld'
              clear hHeld'
              try simp only [Act.put, List.setIfInBounds_toArray, List.set_cons_zero, List.set_cons_succ, List.getElem_toArray, List.getElem_cons_succ, List.getElem_cons_zero]
              refine wpAnyH_take (i := 24) (v := ?_) rfl (by kernel_rfl) (by kernel_rfl) (by kernel_rfl) (fun _ _ _ h => h) (Or.inl ⟨by rfl, ?_⟩) hHeld ?_
              rotate_left
              · (intro W hSw; (try dsimp only at hSw); go_simp; try with_reducible rfl)
              try simp only [Act.put, List.setIfInBounds_toArray, List.set_cons_zero, List.set_cons_succ, List.getElem_toArray, List.getElem_cons_succ, List.getElem_cons_zero]
              refine wpAnyH_ready (rs := [26]) (by kernel_rfl) (by simp) ?_
              refine AllReadyH.cons (o := ?_) ?_ (fun K' hK => ?_) ?_
              rotate_left
              · (simp only [List.getElem?_toArray, List.getElem?_cons_succ, List.getElem?_cons_zero] <;> rfl)
              · skip
                go_simp
                refine hK.out _ _ ?_ (fun hHeld' => ?_)
                · exact ⟨KEEP.out _ (by (repeat' (first | exact Below.refl _ _ | assumption | refine Below.drew ?_ | refine W.below_drewN ?_ _ | (refine Below.alloc ?_ (by simp <;> omega) _) | (refine Below.setCell ?_ (by simp <;> omega) _)))), by (refine Eq.trans (Blk.cell (t := 5) (cs := C5) ?_ 0) k5; (repeat' (first | (with_reducible exact Blk.new' (by simp) _ _) | (with_reducible refine Blk.alloc ?_ _) | (with_reducible refine Blk.drew ?_) | (with_reducible refine Blk.drewN ?_ _) | (with_reducible refine put3z ?_ _ _ _) | (with_reducible refine Blk.far ?_ ?_ _) | (simp; done) | (simp <;> omega))))⟩
                clear hK K' hHeld
                have hHeld := hHeld'
                clear hHeld'
                try simp only [Act.put, List.setIfInBounds_toArray, List.set_cons_zero, List.set_cons_succ, List.getElem_toArray, List.getElem_cons_succ, List.getElem_cons_zero]
                refine wpAnyH_done (by kernel_rfl) ?_ _
                go_wp2_with fail
                go_meet
                exact ⟨_, rfl, by (first | exact Nat.le_refl _ | omega | (simp <;> omega)), by (repeat' (first | (with_reducible exact Blk.new' (by simp) _ _) | (with_reducible refine Blk.alloc ?_ _) | (with_reducible refine Blk.drew ?_) | (with_reducible refine Blk.drewN ?_ _) | (with_reducible refine put3z ?_ _ _ _) | (with_reducible refine Blk.far ?_ ?_ _) | (simp; done) | (simp <;> omega))), by (repeat' (first | exact Below.refl _ _ | assumption | refine Below.drew ?_ | refine W.below_drewN ?_ _ | (refine Below.alloc ?_ (by simp <;> omega) _) | (refine Below.setCell ?_ (by simp <;> omega) _)))⟩
              exact AllReadyH.nil
            exact AllReadyH.nil
          exact AllReadyH.nil
        exact AllReadyH.nil
      exact AllReadyH.nil
    refine AllReadyH.cons (o := ?_) ?_ (fun K' hK => ?_) ?_
    rotate_left
    · (simp only [List.getElem?_toArray, List.getElem?_cons_succ, List.getElem?_cons_zero] <;> rfl)
    · skip
      go_simp
      refine hK.out _ _ ?_ (fun hHeld' => ?_)
      · exact KEEP.out _ (by (repeat' (first | exact Below.refl _ _ | assumption | refine Below.drew ?_ | refine W.below_drewN ?_ _ | (refine Below.alloc ?_ (by simp <;> omega) _) | (refine Below.setCell ?_ (by simp <;> omega) _))))
      clear hK K' hHeld
      have hHeld := hHeld'
      clear hHeld'
      try simp only [Act.put, List.setIfInBounds_toArray, List.set_cons_zero, List.set_cons_succ, List.getElem_toArray, List.getElem_cons_succ, List.getElem_cons_zero]
      refine wpAnyH_ready (rs := [4, 25]) (by kernel_rfl) (by simp) ?_
      refine AllReadyH.cons (o := ?_) ?_ (fun K' hK => ?_) ?_
      rotate_left
      · (simp only [List.getElem?_toArray, List.getElem?_cons_succ, List.getElem?_cons_zero] <;> rfl)
      · skip
        go_simp; go_at_call 28; refine (roller_ok (n : Int) _).mono ?_; rintro e w3 ⟨rfl, rfl⟩; go_wp2_with fail
        refine hK.out _ _ ?_ (fun hHeld' => ?_)
        · exact KEEP.out _ (by (repeat' (first | exact Below.refl _ _ | assumption | refine Below.drew ?_ | refine W.below_drewN ?_ _ | (refine Below.alloc ?_ (by simp <;> omega) _) | (refine Below.setCell ?_ (by simp <;> omega) _))))
        clear hK K' hHeld
        have hHeld := hHeld'
        clear hHeld'
        try simp only [Act.put, List.setIfInBounds_toArray, List.set_cons_zero, List.set_cons_succ, List.getElem_toArray, List.getElem_cons_succ, List.getElem_cons_zero]
        refine wpAnyH_ready (rs := [20, 25]) (by kernel_rfl) (by simp) ?_
        refine AllReadyH.cons (o := ?_) ?_ (fun K' hK => ?_) ?_
        rotate_left
        · (simp only [List.getElem?_toArray, List.getElem?_cons_succ, List.getElem?_cons_zero] <;> rfl)
        · skip
          refine step_append_new _ u8_one' (by rfl) _ _ 22 (by rfl) 5 i0 (.int .u8 0) 1 Try.underlying22 hi hz0 hz1 hz2 rfl w.heap.size (some ⟨bA, oA, none⟩) n b (by rfl) (SB.out _ ?_) HL.out _ x (by rfl) ?_ y HY.out (by unfold maxLen; omega) (by omega) ?_
          · exact hHeld.1
          · first | exact cell_one_new _ _ _ | (go_simp; done) | (go_simp; rfl)
          intro c5 C5 k5 hc5; rw [u8_def] at k5; try simp only [Act.put, List.setIfInBounds_toArray, List.set_cons_zero, List.set_cons_succ, List.getElem_toArray, List.getElem_cons_succ, List.getElem_cons_zero]
          refine hK.out _ _ ?_ (fun hHeld' => ?_)
          · exact KEEP.out _ (by (repeat' (first | exact Below.refl _ _ | assumption | refine Below.drew ?_ | refine W.below_drewN ?_ _ | (refine Below.alloc ?_ (by simp <;> omega) _) | (refine Below.setCell ?_ (by simp <;> omega) _))))
          clear hK K' hHeld
          have hHeld := hHeld'
          clear hHeld'
          try simp only [Act.put, List.setIfInBounds_toArray, List.set_cons_zero, List.set_cons_succ, List.getElem_toArray, List.getElem_cons_succ, List.getElem_cons_zero]
          refine wpAnyH_take (i := 21) (v := ?_) rfl (by kernel_rfl) (by kernel_rfl) (by kernel_rfl) (fun _ _ _ h => h) (Or.inl ⟨by rfl, ?_⟩) hHeld ?_
          rotate_left
          · (intro W hSw; (try dsimp only at hSw); go_simp; try with_reducible rfl)
          try simp only [Act.put, List.setIfInBounds_toArray, List.set_cons_zero, List.set_cons_succ, List.getElem_toArray, List.getElem_cons_succ, List.getElem_cons_zero]
          refine wpAnyH_more (T := fun W => (Below w2.heap.size w2 W ∧ W.cell? ⟨w.heap.size, 0, none⟩ = some (.int .i64 (n : Int)) ∧ W.cell? ⟨w.heap.size, 1, none⟩ = some (.slice (some ⟨bA, oA, none⟩) n c) ∧ W.cell? ⟨w.heap.size, 2, none⟩ = some (.int .u32 (hv.toNat : Int))) ∧ W.cell? ⟨w2.heap.size + 1 + 1, 0, none⟩ = some (.int .u8 (y.toNat : Int))) (fun _ h => h.1) ⟨hHeld, ?_⟩ (fun hHeld1 => ?_)
          · (first | exact cell_new_row (by simp) k5 | exact cell_new_row_d (by simp) k5 | go_simp)
          clear hHeld
          have hHeld := hHeld1
          clear hHeld1
          refine wpAnyH_take (i := 22) (v := ?_) rfl (by kernel_rfl) (by kernel_rfl) (by kernel_rfl) (fun _ _ _ h => h) (Or.inl ⟨by rfl, ?_⟩) hHeld ?_
          rotate_left
          · (intro W hSw; (try dsimp only at hSw); go_simp; try with_reducible rfl)
          try simp only [Act.put, List.setIfInBounds_toArray, List.set_cons_zero, List.set_cons_succ, List.getElem_toArray, List.getElem_cons_succ, List.getElem_cons_zero]
          refine wpAnyH_ready (rs := [23, 25]) (by kernel_rfl) (by simp) ?_
          refine AllReadyH.cons (o := ?_) ?_ (fun K' hK => ?_) ?_
          rotate_left
          · (simp only [List.getElem?_toArray, List.getElem?_cons_succ, List.getElem?_cons_zero] <;> rfl)
          · skip
            go_simp; go_at_call 34; refine (D.out _ _ (Eq.trans (Blk.cell (g := w2.heap.size + 1) (t := 3) (cs := #[.int .i64 (n : Int)]) (by (repeat' (first | (with_reducible exact Blk.new' (by simp) _ _) | (with_reducible refine Blk.alloc ?_ _) | (with_reducible refine Blk.drew ?_) | (with_reducible refine Blk.drewN ?_ _) | (with_reducible refine put3z ?_ _ _ _) | (with_reducible refine Blk.far ?_ ?_ _) | (simp; done) | (simp <;> omega)))) 0) rfl)).mono ?_; rintro e w6 ⟨rfl, m6, rfl⟩; go_wp2_with fail
            refine hK.out _ _ ?_ (fun hHeld' => ?_)
            · exact ⟨KEEP.out _ (by (repeat' (first | exact Below.refl _ _ | assumption | refine Below.drew ?_ | refine W.below_drewN ?_ _ | (refine Below.alloc ?_ (by simp <;> omega) _) | (refine Below.setCell ?_ (by simp <;> omega) _)))), by (refine Eq.trans (Blk.cell (t := 5) (cs := C5) ?_ 0) k5; (repeat' (first | (with_reducible exact Blk.new' (by simp) _ _) | (with_reducible refine Blk.alloc ?_ _) | (with_reducible refine Blk.drew ?_) | (with_reducible refine Blk.drewN ?_ _) | (with_reducible refine put3z ?_ _ _ _) | (with_reducible refine Blk.far ?_ ?_ _) | (simp; done) | (simp <;> omega))))⟩
            clear hK K' hHeld
            have hHeld := hHeld'
            clear hHeld'
            try simp only [Act.put, List.setIfInBounds_toArray, List.set_cons_zero, List.set_cons_succ, List.getElem_toArray, List.getElem_cons_succ, List.getElem_cons_zero]
            refine wpAnyH_take (i := 24) (v := ?_) rfl (by kernel_rfl) (by kernel_rfl) (by kernel_rfl) (fun _ _ _ h => h) (Or.inl ⟨by rfl, ?_⟩) hHeld ?_
            rotate_left
            · (intro W hSw; (try dsimp only at hSw); go_simp; try with_reducible rfl)
            try simp only [Act.put, List.setIfInBounds_toArray, List.set_cons_zero, List.set_cons_succ, List.getElem_toArray, List.getElem_cons_succ, List.getElem_cons_zero]
            refine wpAnyH_ready (rs := [25]) (by kernel_rfl) (by simp) ?_
            refine AllReadyH.cons (o := ?_) ?_ (fun K' hK => ?_) ?_
            rotate_left
            · (simp only [List.getElem?_toArray, List.getElem?_cons_succ, List.getElem?_cons_zero] <;> rfl)
            · skip
              go_simp
              refine hK.out _ _ ?_ (fun hHeld' => ?_)
              · exact ⟨KEEP.out _ (by (repeat' (first | exact Below.refl _ _ | assumption | refine Below.drew ?_ | refine W.below_drewN ?_ _ | (refine Below.alloc ?_ (by simp <;> omega) _) | (refine Below.setCell ?_ (by simp <;> omega) _)))), by (refine Eq.trans (Blk.cell (t := 5) (cs := C5) ?_ 0) k5; (repeat' (first | (with_reducible exact Blk.new' (by simp) _ _) | (with_reducible refine Blk.alloc ?_ _) | (with_reducible refine Blk.drew ?_) | (with_reducible refine Blk.drewN ?_ _) | (with_reducible refine put3z ?_ _ _ _) | (with_reducible refine Blk.far ?_ ?_ _) | (simp; done) | (simp <;> omega))))⟩
              clear hK K' hHeld
              have hHeld := hHeld'
              clear hHeld'
              try simp only [Act.put, List.setIfInBounds_toArray, List.set_cons_zero, List.set_cons_succ, List.getElem_toArray, List.getElem_cons_succ, List.getElem_cons_zero]
              refine wpAnyH_ready (rs := [26]) (by kernel_rfl) (by simp) ?_
              refine AllReadyH.cons (o := ?_) ?_ (fun K' hK => ?_) ?_
              rotate_left
              · (simp only [List.getElem?_toArray, List.getElem?_cons_succ, List.getElem?_cons_zero] <;> rfl)
              · skip
                go_simp
                refine hK.out _ _ ?_ (fun hHeld' => ?_)
                · exact ⟨KEEP.out _ (by (repeat' (first | exact Below.refl _ _ | assumption | refine Below.drew ?_ | refine W.below_drewN ?_ _ | (refine Below.alloc ?_ (by simp <;> omega) _) | (refine Below.setCell ?_ (by simp <;> omega) _)))), by (refine Eq.trans (Blk.cell (t := 5) (cs := C5) ?_ 0) k5; (repeat' (first | (with_reducible exact Blk.new' (by simp) _ _) | (with_reducible refine Blk.alloc ?_ _) | (with_reducible refine Blk.drew ?_) | (with_reducible refine Blk.drewN ?_ _) | (with_reducible refine put3z ?_ _ _ _) | (with_reducible refine Blk.far ?_ ?_ _) | (simp; done) | (simp <;> omega))))⟩
                clear hK K' hHeld
                have hHeld := hHeld'
                clear hHeld'
                try simp only [Act.put, List.setIfInBounds_toArray, List.set_cons_zero, List.set_cons_succ, List.getElem_toArray, List.getElem_cons_succ, List.getElem_cons_zero]
                refine wpAnyH_done (by kernel_rfl) ?_ _
                go_wp2_with fail
                go_meet
                exact ⟨_, rfl, by (first | exact Nat.le_refl _ | omega | (simp <;> omega)), by (repeat' (first | (with_reducible exact Blk.new' (by simp) _ _) | (with_reducible refine Blk.alloc ?_ _) | (with_reducible refine Blk.drew ?_) | (with_reducible refine Blk.drewN ?_ _) | (with_reducible refine put3z ?_ _ _ _) | (with_reducible refine Blk.far ?_ ?_ _) | (simp; done) | (simp <;> omega))), by (repeat' (first | exact Below.refl _ _ | assumption | refine Below.drew ?_ | refine W.below_drewN ?_ _ | (refine Below.alloc ?_ (by simp <;> omega) _) | (refine Below.setCell ?_ (by simp <;> omega) _)))⟩
              exact AllReadyH.nil
            exact AllReadyH.nil
          refine AllReadyH.cons (o := ?_) ?_ (fun K' hK => ?_) ?_
          rotate_left
          · (simp only [List.getElem?_toArray, List.getElem?_cons_succ, List.getElem?_cons_zero] <;> rfl)
          · skip
            go_simp
            refine hK.out _ _ ?_ (fun hHeld' => ?_)
            · exact ⟨KEEP.out _ (by (repeat' (first | exact Below.refl _ _ | assumption | refine Below.drew ?_ | refine W.below_drewN ?_ _ | (refine Below.alloc ?_ (by simp <;> omega) _) | (refine Below.setCell ?_ (by simp <;> omega) _)))), by (refine Eq.trans (Blk.cell (t := 5) (cs := C5) ?_ 0) k5; (repeat' (first | (with_reducible exact Blk.new' (by simp) _ _) | (with_reducible refine Blk.alloc ?_ _) | (with_reducible refine Blk.drew ?_) | (with_reducible refine Blk.drewN ?_ _) | (with_reducible refine put3z ?_ _ _ _) | (with_reducible refine Blk.far ?_ ?_ _) | (simp; done) | (simp <;> omega))))⟩
            clear hK K' hHeld
            have hHeld := hHeld'
            clear hHeld'
            try simp only [Act.put, List.setIfInBounds_toArray, List.set_cons_zero, List.set_cons_succ, List.getElem_toArray, List.getElem_cons_succ, List.getElem_cons_zero]
            refine wpAnyH_ready (rs := [23]) (by kernel_rfl) (by simp) ?_
            refine AllReadyH.cons (o := ?_) ?_ (fun K' hK => ?_) ?_
            rotate_left
            · (simp only [List.getElem?_toArray, List.getElem?_cons_succ, List.getElem?_cons_zero] <;> rfl)
            · skip
              go_simp; go_at_call 34; refine (D.out _ _ (Eq.trans (Blk.cell (g := w2.heap.size + 1) (t := 3) (cs := #[.int .i64 (n : Int)]) (by (repeat' (first | (with_reducible exact Blk.new' (by simp) _ _) | (with_reducible refine Blk.alloc ?_ _) | (with_reducible refine Blk.drew ?_) | (with_reducible refine Blk.drewN ?_ _) | (with_reducible refine put3z ?_ _ _ _) | (with_reducible refine Blk.far ?_ ?_ _) | (simp; done) | (simp <;> omega)))) 0) rfl)).mono ?_; rintro e w6 ⟨rfl, m6, rfl⟩; go_wp2_with fail
              refine hK.out _ _ ?_ (fun hHeld' => ?_)
              · exact ⟨KEEP.out _ (by (repeat' (first | exact Below.refl _ _ | assumption | refine Below.drew ?_ | refine W.below_drewN ?_ _ | (refine Below.alloc ?_ (by simp <;> omega) _) | (refine Below.setCell ?_ (by simp <;> omega) _)))), by (refine Eq.trans (Blk.cell (t := 5) (cs := C5) ?_ 0) k5; (repeat' (first | (with_reducible exact Blk.new' (by simp) _ _) | (with_reducible refine Blk.alloc ?_ _) | (with_reducible refine Blk.drew ?_) | (with_reducible refine Blk.drewN ?_ _) | (with_reducible refine put3z ?_ _ _ _) | (with_reducible refine Blk.far ?_ ?_ _) | (simp; done) | (simp <;> omega))))⟩
              clear hK K' hHeld
              have hHeld := hHeld'
              clear hHeld'
              try simp only [Act.put, List.setIfInBounds_toArray, List.set_cons_zero, List.set_cons_succ, List.getElem_toArray, List.getElem_cons_succ, List.getElem_cons_zero]
              refine wpAnyH_take (i := 24) (v := ?_) rfl (by kernel_rfl) (by kernel_rfl) (by kernel_rfl) (fun _ _ _ h => h) (Or.inl ⟨by rfl, ?_⟩) hHeld ?_
              rotate_left
              · (intro W hSw; (try dsimp only at hSw); go_simp; try with_reducible rfl)
              try simp only [Act.put, List.setIfInBounds_toArray, List.set_cons_zero, List.set_cons_succ, List.getElem_toArray, List.getElem_cons_succ, List.getElem_cons_zero]
              refine wpAnyH_ready (rs := [26]) (by kernel_rfl) (by simp) ?_
              refine AllReadyH.cons (o := ?_) ?_ (fun K' hK => ?_) ?_
              rotate_left
              · (simp only [List.getElem?_toArray, List.getElem?_cons_succ, List.getElem?_cons_zero] <;> rfl)
              · skip
                go_simp
                refine hK.out _ _ ?_ (fun hHeld' => ?_)
                · exact ⟨KEEP.out _ (by (repeat' (first | exact Below.refl _ _ | assumption | refine Below.drew ?_ | refine W.below_drewN ?_ _ | (refine Below.alloc ?_ (by simp <;> omega) _) | (refine Below.setCell ?_ (by simp <;> omega) _)))), by (refine Eq.trans (Blk.cell (t := 5) (cs := C5) ?_ 0) k5; (repeat' (first | (with_reducible exact Blk.new' (by simp) _ _) | (with_reducible refine Blk.alloc ?_ _) | (with_reducible refine Blk.drew ?_) | (with_reducible refine Blk.drewN ?_ _) | (with_reducible refine put3z ?_ _ _ _) | (with_reducible refine Blk.far ?_ ?_ _) | (simp; done) | (simp <;> omega))))⟩
                clear hK K' hHeld
                have hHeld := hHeld'
                clear hHeld'
                try simp only [Act.put, List.setIfInBounds_toArray, List.set_cons_zero, List.set_cons_succ, List.getElem_toArray, List.getElem_cons_succ, List.getElem_cons_zero]
                refine wpAnyH_done (by kernel_rfl) ?_ _
                go_wp2_with fail
                go_meet
                exact ⟨_, rfl, by (first | exact Nat.le_refl _ | omega | (simp <;> omega)), by (repeat' (first | (with_reducible exact Blk.new' (by simp) _ _) | (with_reducible refine Blk.alloc ?_ _) | (with_reducible refine Blk.drew ?_) | (with_reducible refine Blk.drewN ?_ _) | (with_reducible refine put3z ?_ _ _ _) | (with_reducible refine Blk.far ?_ ?_ _) | (simp; done) | (simp <;> omega))), by (repeat' (first | exact Below.refl _ _ | assumption | refine Below.drew ?_ | refine W.below_drewN ?_ _ | (refine Below.alloc ?_ (by simp <;> omega) _) | (refine Below.setCell ?_ (by simp <;> omega) _)))⟩
              exact AllReadyH.nil
            exact AllReadyH.nil
          exact AllReadyH.nil
        refine AllReadyH.cons (o := ?_) ?_ (fun K' hK => ?_) ?_
        rotate_left
        · (simp only [List.getElem?_toArray, List.getElem?_cons_succ, List.getElem?_cons_zero] <;> rfl)
        · skip
          go_simp
          refine hK.out _ _ ?_ (fun hHeld' => ?_)
          · exact KEEP.out _ (by (repeat' (first | exact Below.refl _ _ | assumption | refine Below.drew ?_ | refine W.below_drewN ?_ _ | (refine Below.alloc ?_ (by simp <;> omega) _) | (refine Below.setCell ?_ (by simp <;> omega) _))))
          clear hK K' hHeld
          have hHeld := hHeld'
          clear hHeld'
          try simp only [Act.put, List.setIfInBounds_toArray, List.set_cons_zero, List.set_cons_succ, List.getElem_toArray, List.getElem_cons_succ, List.getElem_cons_zero]
          refine wpAnyH_ready (rs := [20]) (by kernel_rfl) (by simp) ?_
          refine AllReadyH.cons (o := ?_) ?_ (fun K' hK => ?_) ?_
          rotate_left
          · (simp only [List.getElem?_toArray, List.getElem?_cons_succ, List.getElem?_cons_zero] <;> rfl)
          · skip
            refine step_append_new _ u8_one' (by rfl) _ _ 22 (by rfl) 5 i0 (.int .u8 0) 1 Try.underlying22 hi hz0 hz1 hz2 rfl w.heap.size (some ⟨bA, oA, none⟩) n b (by rfl) (SB.out _ ?_) HL.out _ x (by rfl) ?_ y HY.out (by unfold maxLen; omega) (by omega) ?_
            · exact hHeld.1
            · first | exact cell_one_new _ _ _ | (go_simp; done) | (go_simp; rfl)
            intro c5 C5 k5 hc5; rw [u8_def] at k5; try simp only [Act.put, List.setIfInBounds_toArray, List.set_cons_zero, List.set_cons_succ, List.getElem_toArray, List.getElem_cons_succ, List.getElem_cons_zero]
            refine hK.out _ _ ?_ (fun hHeld' => ?_)
            · exact KEEP.out _ (by (repeat' (first | exact Below.refl _ _ | assumption | refine Below.drew ?_ | refine W.below_drewN ?_ _ | (refine Below.alloc ?_ (by simp <;> omega) _) | (refine Below.setCell ?_ (by simp <;> omega) _))))
            clear hK K' hHeld
            have hHeld := hHeld'
            clear hHeld'
            try simp only [Act.put, List.setIfInBounds_toArray, List.set_cons_zero, List.set_cons_succ, List.getElem_toArray, List.getElem_cons_succ, List.getElem_cons_zero]
            refine wpAnyH_take (i := 21) (v := ?_) rfl (by kernel_rfl) (by kernel_rfl) (by kernel_rfl) (fun _ _ _ h => h) (Or.inl ⟨by rfl, ?_⟩) hHeld ?_
            rotate_left
            · (intro W hSw; (try dsimp only at hSw); go_simp; try with_reducible rfl)
            try simp only [Act.put, List.setIfInBounds_toArray, List.set_cons_zero, List.set_cons_succ, List.getElem_toArray, List.getElem_cons_succ, List.getElem_cons_zero]
            refine wpAnyH_more (T := fun W => (Below w2.heap.size w2 W ∧ W.cell? ⟨w.heap.size, 0, none⟩ = some (.int .i64 (n : Int)) ∧ W.cell? ⟨w.heap.size, 1, none⟩ = some (.slice (some ⟨bA, oA, none⟩) n c) ∧ W.cell? ⟨w.heap.size, 2, none⟩ = some (.int .u32 (hv.toNat : Int))) ∧ W.cell? ⟨w2.heap.size + 1 + 1 + 1, 0, none⟩ = some (.int .u8 (y.toNat : Int))) (fun _ h => h.1) ⟨hHeld, ?_⟩ (fun hHeld1 => ?_)
            · (first | exact cell_new_row (by simp) k5 | exact cell_new_row_d (by simp) k5 | go_simp)
            clear hHeld
            have hHeld := hHeld1
            clear hHeld1
            refine wpAnyH_take (i := 22) (v := ?_) rfl (by kernel_rfl) (by kernel_rfl) (by kernel_rfl) (fun _ _ _ h => h) (Or.inl ⟨by rfl, ?_⟩) hHeld ?_
            rotate_left
            · (intro W hSw; (try dsimp only at hSw); go_simp; try with_reducible rfl)
            try simp only [Act.put, List.setIfInBounds_toArray, List.set_cons_zero, List.set_cons_succ, List.getElem_toArray, List.getElem_cons_succ, List.getElem_cons_zero]
            refine wpAnyH_ready (rs := [23]) (by kernel_rfl) (by simp) ?_
            refine AllReadyH.cons (o := ?_) ?_ (fun K' hK => ?_) ?_
            rotate_left
            · (simp only [List.getElem?_toArray, List.getElem?_cons_succ, List.getElem?_cons_zero] <;> rfl)
            · skip
              go_simp; go_at_call 34; refine (D.out _ _ (Eq.trans (Blk.cell (g := w2.heap.size + 1) (t := 3) (cs := #[.int .i64 (n : Int)]) (by (repeat' (first | (with_reducible exact Blk.new' (by simp) _ _) | (with_reducible refine Blk.alloc ?_ _) | (with_reducible refine Blk.drew ?_) | (with_reducible refine Blk.drewN ?_ _) | (with_reducible refine put3z ?_ _ _ _) | (with_reducible refine Blk.far ?_ ?_ _) | (simp; done) | (simp <;> omega)))) 0) rfl)).mono ?_; rintro e w6 ⟨rfl, m6, rfl⟩; go_wp2_with fail
              refine hK.out _ _ ?_ (fun hHeld' => ?_)
              · exact ⟨KEEP.out _ (by (repeat' (first | exact Below.refl _ _ | assumption | refine Below.drew ?_ | refine W.below_drewN ?_ _ | (refine Below.alloc ?_ (by simp <;> omega) _) | (refine Below.setCell ?_ (by simp <;> omega) _)))), by (refine Eq.trans (Blk.cell (t := 5) (cs := C5) ?_ 0) k5; (repeat' (first | (with_reducible exact Blk.new' (by simp) _ _) | (with_reducible refine Blk.alloc ?_ _) | (with_reducible refine Blk.drew ?_) | (with_reducible refine Blk.drewN ?_ _) | (with_reducible refine put3z ?_ _ _ _) | (with_reducible refine Blk.far ?_ ?_ _) | (simp; done) | (simp <;> omega))))⟩
              clear hK K' hHeld
              have hHeld := hHeld'
              clear hHeld'
              try simp only [Act.put, List.setIfInBounds_toArray, List.set_cons_zero, List.set_cons_succ, List.getElem_toArray, List.getElem_cons_succ, List.getElem_cons_zero]
              refine wpAnyH_take (i := 24) (v := ?_) rfl (by kernel_rfl) (by kernel_rfl) (by kernel_rfl) (fun _ _ _ h => h) (Or.inl ⟨by rfl, ?_⟩) hHeld ?_
              rotate_left
              · (intro W hSw; (try dsimp only at hSw); go_simp; try with_reducible rfl)
              try simp only [Act.put, List.setIfInBounds_toArray, List.set_cons_zero, List.set_cons_succ, List.getElem_toArray, List.getElem_cons_succ, List.getElem_cons_zero]
              refine wpAnyH_ready (rs := [26]) (by kernel_rfl) (by simp) ?_
              refine AllReadyH.cons (o := ?_) ?_ (fun K' hK => ?_) ?_
              rotate_left
              · (simp only [List.getElem?_toArray, List.getElem?_cons_succ, List.getElem?_cons_zero] <;> rfl)
              · skip
                go_simp
                refine hK.out _ _ ?_ (fun hHeld' => ?_)
                · exact ⟨KEEP.out _ (by (repeat' (first | exact Below.refl _ _ | assumption | refine Below.drew ?_ | refine W.below_drewN ?_ _ | (refine Below.alloc ?_ (by simp <;> omega) _) | (refine Below.setCell ?_ (by simp <;> omega) _)))), by (refine Eq.trans (Blk.cell (t := 5) (cs := C5) ?_ 0) k5; (repeat' (first | (with_reducible exact Blk.new' (by simp) _ _) | (with_reducible refine Blk.alloc ?_ _) | (with_reducible refine Blk.drew ?_) | (with_reducible refine Blk.drewN ?_ _) | (with_reducible refine put3z ?_ _ _ _) | (with_reducible refine Blk.far ?_ ?_ _) | (simp; done) | (simp <;> omega))))⟩
                clear hK K' hHeld
                have hHeld := hHeld'
                clear hHeld'
                try simp only [Act.put, List.setIfInBounds_toArray, List.set_cons_zero, List.set_cons_succ, List.getElem_toArray, List.getElem_cons_succ, List.getElem_cons_zero]
                refine wpAnyH_done (by kernel_rfl) ?_ _
                go_wp2_with fail
                go_meet
                exact ⟨_, rfl, by (first | exact Nat.le_refl _ | omega | (simp <;> omega)), by (repeat' (first | (with_reducible exact Blk.new' (by simp) _ _) | (with_reducible refine Blk.alloc ?_ _) | (with_reducible refine Blk.drew ?_) | (with_reducible refine Blk.drewN ?_ _) | (with_reducible refine put3z ?_ _ _ _) | (with_reducible refine Blk.far ?_ ?_ _) | (simp; done) | (simp <;> omega))), by (repeat' (first | exact Below.refl _ _ | assumption | refine Below.drew ?_ | refine W.below_drewN ?_ _ | (refine Below.alloc ?_ (by simp <;> omega) _) | (refine Below.setCell ?_ (by simp <;> omega) _)))⟩
              exact AllReadyH.nil
            exact AllReadyH.nil
          exact AllReadyH.nil
        exact AllReadyH.nil
      refine AllReadyH.cons (o := ?_) ?_ (fun K' hK => ?_) ?_
      rotate_left
      · (simp only [List.getElem?_toArray, List.getElem?_cons_succ, List.getElem?_cons_zero] <;> rfl)
      · skip
        go_simp
        refine hK.out _ _ ?_ (fun hHeld' => ?_)
        · exact KEEP.out _ (by (repeat' (first | exact Below.refl _ _ | assumption | refine Below.drew ?_ | refine W.below_drewN ?_ _ | (refine Below.alloc ?_ (by simp <;> omega) _) | (refine Below.setCell ?_ (by simp <;> omega) _))))
        clear hK K' hHeld
        have hHeld := hHeld'
        clear hHeld'
        try simp only [Act.put, List.setIfInBounds_toArray, List.set_cons_zero, List.set_cons_succ, List.getElem_toArray, List.getElem_cons_succ, List.getElem_cons_zero]
        refine wpAnyH_ready (rs := [4]) (by kernel_rfl) (by simp) ?_
        refine AllReadyH.cons (o := ?_) ?_ (fun K' hK => ?_) ?_
        rotate_left
        · (simp only [List.getElem?_toArray, List.getElem?_cons_succ, List.getElem?_cons_zero] <;> rfl)
        · skip
          go_simp; go_at_call 28; refine (roller_ok (n : Int) _).mono ?_; rintro e w3 ⟨rfl, rfl⟩; go_wp2_with fail
          refine hK.out _ _ ?_ (fun hHeld' => ?_)
          · exact KEEP.out _ (by (repeat' (first | exact Below.refl _ _ | assumption | refine Below.drew ?_ | refine W.below_drewN ?_ _ | (refine Below.alloc ?_ (by simp <;> omega) _) | (refine Below.setCell ?_ (by simp <;> omega) _))))
          clear hK K' hHeld
          have hHeld := hHeld'
          clear hHeld'
          try simp only [Act.put, List.setIfInBounds_toArray, List.set_cons_zero, List.set_cons_succ, List.getElem_toArray, List.getElem_cons_succ, List.getElem_cons_zero]
          refine wpAnyH_ready (rs := [20]) (by kernel_rfl) (by simp) ?_
          refine AllReadyH.cons (o := ?_) ?_ (fun K' hK => ?_) ?_
          rotate_left
          · (simp only [List.getElem?_toArray, List.getElem?_cons_succ, List.getElem?_cons_zero] <;> rfl)
          · skip
            refine step_append_new _ u8_one' (by rfl) _ _ 22 (by rfl) 5 i0 (.int .u8 0) 1 Try.underlying22 hi hz0 hz1 hz2 rfl w.heap.size (some ⟨bA, oA, none⟩) n b (by rfl) (SB.out _ ?_) HL.out _ x (by rfl) ?_ y HY.out (by unfold maxLen; omega) (by omega) ?_
            · exact hHeld.1
            · first | exact cell_one_new _ _ _ | (go_simp; done) | (go_simp; rfl)
            intro c5 C5 k5 hc5; rw [u8_def] at k5; try simp only [Act.put, List.setIfInBounds_toArray, List.set_cons_zero, List.set_cons_succ, List.getElem_toArray, List.getElem_cons_succ, List.getElem_cons_zero]
            refine hK.out _ _ ?_ (fun hHeld' => ?_)
            · exact KEEP.out _ (by (repeat' (first | exact Below.refl _ _ | assumption | refine Below.drew ?_ | refine W.below_drewN ?_ _ | (refine Below.alloc ?_ (by simp <;> omega) _) | (refine Below.setCell ?_ (by simp <;> omega) _))))
            clear hK K' hHeld
            have hHeld := hHeld'
            clear hHeld'
            try simp only [Act.put, List.setIfInBounds_toArray, List.set_cons_zero, List.set_cons_succ, List.getElem_toArray, List.getElem_cons_succ, List.getElem_cons_zero]
            refine wpAnyH_take (i := 21) (v := ?_) rfl (by kernel_rfl) (by kernel_rfl) (by kernel_rfl) (fun _ _ _ h => h) (Or.inl ⟨by rfl, ?_⟩) hHeld ?_
            rotate_left
            · (intro W hSw; (try dsimp only at hSw); go_simp; try with_reducible rfl)
            try simp only [Act.put, List.setIfInBounds_toArray, List.set_cons_zero, List.set_cons_succ, List.getElem_toArray, List.getElem_cons_succ, List.getElem_cons_zero]
            refine wpAnyH_more (T := fun W => (Below w2.heap.size w2 W ∧ W.cell? ⟨w.heap.size, 0, none⟩ = some (.int .i64 (n : Int)) ∧ W.cell? ⟨w.heap.size, 1, none⟩ = some (.slice (some ⟨bA, oA, none⟩) n c) ∧ W.cell? ⟨w.heap.size, 2, none⟩ = some (.int .u32 (hv.toNat : Int))) ∧ W.cell? ⟨w2.heap.size + 1 + 1 + 1, 0, none⟩ = some (.int .u8 (y.toNat : Int))) (fun _ h => h.1) ⟨hHeld, ?_⟩ (fun hHeld1 => ?_)
            · (first | exact cell_new_row (by simp) k5 | exact cell_new_row_d (by simp) k5 | go_simp)
            clear hHeld
            have hHeld := hHeld1
            clear hHeld1
            refine wpAnyH_take (i := 22) (v := ?_) rfl (by kernel_rfl) (by kernel_rfl) (by kernel_rfl) (fun _ _ _ h => h) (Or.inl ⟨by rfl, ?_⟩) hHeld ?_
            rotate_left
            · (intro W hSw; (try dsimp only at hSw); go_simp; try with_reducible rfl)
            try simp only [Act.put, List.setIfInBounds_toArray, List.set_cons_zero, List.set_cons_succ, List.getElem_toArray, List.getElem_cons_succ, List.getElem_cons_zero]
            refine wpAnyH_ready (rs := [23]) (by kernel_rfl) (by simp) ?_
            refine AllReadyH.cons (o := ?_) ?_ (fun K' hK => ?_) ?_
            rotate_left
            · (simp only [List.getElem?_toArray, List.getElem?_cons_succ, List.getElem?_cons_zero] <;> rfl)
            · skip
              go_simp; go_at_call 34; refine (D.out _ _ (Eq.trans (Blk.cell (g := w2.heap.size + 1 + 1) (t := 3) (cs := #[.int .i64 (n : Int)]) (by (repeat' (first | (with_reducible exact Blk.new' (by simp) _ _) | (with_reducible refine Blk.alloc ?_ _) | (with_reducible refine Blk.drew ?_) | (with_reducible refine Blk.drewN ?_ _) | (with_reducible refine put3z ?_ _ _ _) | (with_reducible refine Blk.far ?_ ?_ _) | (simp; done) | (simp <;> omega)))) 0) rfl)).mono ?_; rintro e w6 ⟨rfl, m6, rfl⟩; go_wp2_with fail
              refine hK.out _ _ ?_ (fun hHeld' => ?_)
              · exact ⟨KEEP.out _ (by (repeat' (first | exact Below.refl _ _ | assumption | refine Below.drew ?_ | refine W.below_drewN ?_ _ | (refine Below.alloc ?_ (by simp <;> omega) _) | (refine Below.setCell ?_ (by simp <;> omega) _)))), by (refine Eq.trans (Blk.cell (t := 5) (cs := C5) ?_ 0) k5; (repeat' (first | (with_reducible exact Blk.new' (by simp) _ _) | (with_reducible refine Blk.alloc ?_ _) | (with_reducible refine Blk.drew ?_) | (with_reducible refine Blk.drewN ?_ _) | (with_reducible refine put3z ?_ _ _ _) | (with_reducible refine Blk.far ?_ ?_ _) | (simp; done) | (simp <;> omega))))⟩
              clear hK K' hHeld
              have hHeld := hHeld'
              clear hHeld'
              try simp only [Act.put, List.setIfInBounds_toArray, List.set_cons_zero, List.set_cons_succ, List.getElem_toArray, List.getElem_cons_succ, List.getElem_cons_zero]
              refine wpAnyH_take (i := 24) (v := ?_) rfl (by kernel_rfl) (by kernel_rfl) (by kernel_rfl) (fun _ _ _ h => h) (Or.inl ⟨by rfl, ?_⟩) hHeld ?_
              rotate_left
              · (intro W hSw; (try dsimp only at hSw); go_simp; try with_reducible rfl)
              try simp only [Act.put, List.setIfInBounds_toArray, List.set_cons_zero, List.set_cons_succ, List.getElem_toArray, List.getElem_cons_succ, List.getElem_cons_zero]
              refine wpAnyH_ready (rs := [26]) (by kernel_rfl) (by simp) ?_
              refine AllReadyH.cons (o := ?_) ?_ (fun K' hK => ?_) ?_
              rotate_left
              · (simp only [List.getElem?_toArray, List.getElem?_cons_succ, List.getElem?_cons_zero] <;> rfl)
              · skip
                go_simp
                refine hK.out _ _ ?_ (fun hHeld' => ?_)
                · exact ⟨KEEP.out _ (by (repeat' (first | exact Below.refl _ _ | assumption | refine Below.drew ?_ | refine W.below_drewN ?_ _ | (refine Below.alloc ?_ (by simp <;> omega) _) | (refine Below.setCell ?_ (by simp <;> omega) _)))), by (refine Eq.trans (Blk.cell (t := 5) (cs := C5) ?_ 0) k5; (repeat' (first | (with_reducible exact Blk.new' (by simp) _ _) | (with_reducible refine Blk.alloc ?_ _) | (with_reducible refine Blk.drew ?_) | (with_reducible refine Blk.drewN ?_ _) | (with_reducible refine put3z ?_ _ _ _) | (with_reducible refine Blk.far ?_ ?_ _) | (simp; done) | (simp <;> omega))))⟩
                clear hK K' hHeld
                have hHeld := hHeld'
                clear hHeld'
                try simp only [Act.put, List.setIfInBounds_toArray, List.set_cons_zero, List.set_cons_succ, List.getElem_toArray, List.getElem_cons_succ, List.getElem_cons_zero]
                refine wpAnyH_done (by kernel_rfl) ?_ _
                go_wp2_with fail
                go_meet
                exact ⟨_, rfl, by (first | exact Nat.le_refl _ | omega | (simp <;> omega)), by (repeat' (first | (with_reducible exact Blk.new' (by simp) _ _) | (with_reducible refine Blk.alloc ?_ _) | (with_reducible refine Blk.drew ?_) | (with_reducible refine Blk.drewN ?_ _) | (with_reducible refine put3z ?_ _ _ _) | (with_reducible refine Blk.far ?_ ?_ _) | (simp; done) | (simp <;> omega))), by (repeat' (first | exact Below.refl _ _ | assumption | refine Below.drew ?_ | refine W.below_drewN ?_ _ | (refine Below.alloc ?_ (by simp <;> omega) _) | (refine Below.setCell ?_ (by simp <;> omega) _)))⟩
              exact AllReadyH.nil
            exact AllReadyH.nil
          exact AllReadyH.nil
        exact AllReadyH.nil
      exact AllReadyH.nil
    refine AllReadyH.cons (o := ?_) ?_ (fun K' hK => ?_) ?_
    rotate_left
    · (simp only [List.getElem?_toArray, List.getElem?_cons_succ, List.getElem?_cons_zero] <;> rfl)
    · skip
      go_simp
      refine hK.out _ _ ?_ (fun hHeld' => ?_)
      · exact KEEP.out _ (by (repeat' (first | exact Below.refl _ _ | assumption | refine Below.drew ?_ | refine W.below_drewN ?_ _ | (refine Below.alloc ?_ (by simp <;> omega) _) | (refine Below.setCell ?_ (by simp <;> omega) _))))
      clear hK K' hHeld
      have hHeld := hHeld'
      clear hHeld'
      try simp only [Act.put, List.setIfInBounds_toArray, List.set_cons_zero, List.set_cons_succ, List.getElem_toArray, List.getElem_cons_succ, List.getElem_cons_zero]
      refine wpAnyH_ready (rs := [4, 19]) (by kernel_rfl) (by simp) ?_
      refine AllReadyH.cons (o := ?_) ?_ (fun K' hK => ?_) ?_
      rotate_left
      · (simp only [List.getElem?_toArray, List.getElem?_cons_succ, List.getElem?_cons_zero] <;> rfl)
      · skip
        go_simp; go_at_call 28; refine (roller_ok (n : Int) _).mono ?_; rintro e w3 ⟨rfl, rfl⟩; go_wp2_with fail
        refine hK.out _ _ ?_ (fun hHeld' => ?_)
        · exact KEEP.out _ (by (repeat' (first | exact Below.refl _ _ | assumption | refine Below.drew ?_ | refine W.below_drewN ?_ _ | (refine Below.alloc ?_ (by simp <;> omega) _) | (refine Below.setCell ?_ (by simp <;> omega) _))))
        clear hK K' hHeld
        have hHeld := hHeld'
        clear hHeld'
        try simp only [Act.put, List.setIfInBounds_toArray, List.set_cons_zero, List.set_cons_succ, List.getElem_toArray, List.getElem_cons_succ, List.getElem_cons_zero]
        refine wpAnyH_ready (rs := [19]) (by kernel_rfl) (by simp) ?_
        refine AllReadyH.cons (o := ?_) ?_ (fun K' hK => ?_) ?_
        rotate_left
        · (simp only [List.getElem?_toArray, List.getElem?_cons_succ, List.getElem?_cons_zero] <;> rfl)
        · skip
          go_simp
          refine hK.out _ _ ?_ (fun hHeld' => ?_)
          · exact KEEP.out _ (by (repeat' (first | exact Below.refl _ _ | assumption | refine Below.drew ?_ | refine W.below_drewN ?_ _ | (refine Below.alloc ?_ (by simp <;> omega) _) | (refine Below.setCell ?_ (by simp <;> omega) _))))
          clear hK K' hHeld
          have hHeld := hHeld'
          clear hHeld'
          try simp only [Act.put, List.setIfInBounds_toArray, List.set_cons_zero, List.set_cons_succ, List.getElem_toArray, List.getElem_cons_succ, List.getElem_cons_zero]
          refine wpAnyH_ready (rs := [20]) (by kernel_rfl) (by simp) ?_
          refine AllReadyH.cons (o := ?_) ?_ (fun K' hK => ?_) ?_
          rotate_left
          · (simp only [List.getElem?_toArray, List.getElem?_cons_succ, List.getElem?_cons_zero] <;> rfl)
          · skip
            refine step_append_new _ u8_one' (by rfl) _ _ 22 (by rfl) 5 i0 (.int .u8 0) 1 Try.underlying22 hi hz0 hz1 hz2 rfl w.heap.size (some ⟨bA, oA, none⟩) n b (by rfl) (SB.out _ ?_) HL.out _ x (by rfl) ?_ y HY.out (by unfold maxLen; omega) (by omega) ?_
            · exact hHeld.1
            · first | exact cell_one_new _ _ _ | (go_simp; done) | (go_simp; rfl)
            intro c5 C5 k5 hc5; rw [u8_def] at k5; try simp only [Act.put, List.setIfInBounds_toArray, List.set_cons_zero, List.set_cons_succ, List.getElem_toArray, List.getElem_cons_succ, List.getElem_cons_zero]
            refine hK.out _ _ ?_ (fun hHeld' => ?_)
            · exact KEEP.out _ (by (repeat' (first | exact Below.refl _ _ | assumption | refine Below.drew ?_ | refine W.below_drewN ?_ _ | (refine Below.alloc ?_ (by simp <;> omega) _) | (refine Below.setCell ?_ (by simp <;> omega) _))))
            clear hK K' hHeld
            have hHeld := hHeld'
            clear hHeld'
            try simp only [Act.put, List.setIfInBounds_toArray, List.set_cons_zero, List.set_cons_succ, List.getElem_toArray, List.getElem_cons_succ, List.getElem_cons_zero]
            refine wpAnyH_take (i := 21) (v := ?_) rfl (by kernel_rfl) (by kernel_rfl) (by kernel_rfl) (fun _ _ _ h => h) (Or.inl ⟨by rfl, ?_⟩) hHeld ?_
            rotate_left
            · (intro W hSw; (try dsimp only at hSw); go_simp; try with_reducible rfl)
            try simp only [Act.put, List.setIfInBounds_toArray, List.set_cons_zero, List.set_cons_succ, List.getElem_toArray, List.getElem_cons_succ, List.getElem_cons_zero]
            refine wpAnyH_more (T := fun W => (Below w2.heap.size w2 W ∧ W.cell? ⟨w.heap.size, 0, none⟩ = some (.int .i64 (n : Int)) ∧ W.cell? ⟨w.heap.size, 1, none⟩ = some (.slice (some ⟨bA, oA, none⟩) n c) ∧ W.cell? ⟨w.heap.size, 2, none⟩ = some (.int .u32 (hv.toNat : Int))) ∧ W.cell? ⟨w2.heap.size + 1 + 1 + 1, 0, none⟩ = some (.int .u8 (y.toNat : Int))) (fun _ h => h.1) ⟨hHeld, ?_⟩ (fun hHeld1 => ?_)
            · (first | exact cell_new_row (by simp) k5 | exact cell_new_row_d (by simp) k5 | go_simp)
            clear hHeld
            have hHeld := hHeld1
            clear hHeld1
            refine wpAnyH_take (i := 22) (v := ?_) rfl (by kernel_rfl) (by kernel_rfl) (by kernel_rfl) (fun _ _ _ h => h) (Or.inl ⟨by rfl, ?_⟩) hHeld ?_
            rotate_left
            · (intro W hSw; (try dsimp only at hSw); go_simp; try with_reducible rfl)
            try simp only [Act.put, List.setIfInBounds_toArray, List.set_cons_zero, List.set_cons_succ, List.getElem_toArray, List.getElem_cons_succ, List.getElem_cons_zero]
            refine wpAnyH_ready (rs := [23]) (by kernel_rfl) (by simp) ?_
            refine AllReadyH.cons (o := ?_) ?_ (fun K' hK => ?_) ?_
            rotate_left
            · (simp only [List.getElem?_toArray, List.getElem?_cons_succ, List.getElem?_cons_zero] <;> rfl)
            · skip
              go_simp; go_at_call 34; refine (D.out _ _ (Eq.trans (Blk.cell (g := w2.heap.size + 1) (t := 3) (cs := #[.int .i64 (n : Int)]) (by (repeat' (first | (with_reducible exact Blk.new' (by simp) _ _) | (with_reducible refine Blk.alloc ?_ _) | (with_reducible refine Blk.drew ?_) | (with_reducible refine Blk.drewN ?_ _) | (with_reducible refine put3z ?_ _ _ _) | (with_reducible refine Blk.far ?_ ?_ _) | (simp; done) | (simp <;> omega)))) 0) rfl)).mono ?_; rintro e w6 ⟨rfl, m6, rfl⟩; go_wp2_with fail
              refine hK.out _ _ ?_ (fun hHeld' => ?_)
              · exact ⟨KEEP.out _ (by (repeat' (first | exact Below.refl _ _ | assumption | refine Below.drew ?_ | refine W.below_drewN ?_ _ | (refine Below.alloc ?_ (by simp <;> omega) _) | (refine Below.setCell ?_ (by simp <;> omega) _)))), by (refine Eq.trans (Blk.cell (t := 5) (cs := C5) ?_ 0) k5; (repeat' (first | (with_reducible exact Blk.new' (by simp) _ _) | (with_reducible refine Blk.alloc ?_ _) | (with_reducible refine Blk.drew ?_) | (with_reducible refine Blk.drewN ?_ _) | (with_reducible refine put3z ?_ _ _ _) | (with_reducible refine Blk.far ?_ ?_ _) | (simp; done) | (simp <;> omega))))⟩
              clear hK K' hHeld
              have hHeld := hHeld'
              clear hHeld'
              try simp only [Act.put, List.setIfInBounds_toArray, List.set_cons_zero, List.set_cons_succ, List.getElem_toArray, List.getElem_cons_succ, List.getElem_cons_zero]
              refine wpAnyH_take (i := 24) (v := ?_) rfl (by kernel_rfl) (by kernel_rfl) (by kernel_rfl) (fun _ _ _ h => h) (Or.inl ⟨by rfl, ?_⟩) hHeld ?_
              rotate_left
              · (intro W hSw; (try dsimp only at hSw); go_simp; try with_reducible rfl)
              try simp only [Act.put, List.setIfInBounds_toArray, List.set_cons_zero, List.set_cons_succ, List.getElem_toArray, List.getElem_cons_succ, List.getElem_cons_zero]
              refine wpAnyH_ready (rs := [26]) (by kernel_rfl) (by simp) ?_
              refine AllReadyH.cons (o := ?_) ?_ (fun K' hK => ?_) ?_
              rotate_left
              · (simp only [List.getElem?_toArray, List.getElem?_cons_succ, List.getElem?_cons_zero] <;> rfl)
              · skip
                go_simp
                refine hK.out _ _ ?_ (fun hHeld' => ?_)
                · exact ⟨KEEP.out _ (by (repeat' (first | exact Below.refl _ _ | assumption | refine Below.drew ?_ | refine W.below_drewN ?_ _ | (refine Below.alloc ?_ (by simp <;> omega) _) | (refine Below.setCell ?_ (by simp <;> omega) _)))), by (refine Eq.trans (Blk.cell (t := 5) (cs := C5) ?_ 0) k5; (repeat' (first | (with_reducible exact Blk.new' (by simp) _ _) | (with_reducible refine Blk.alloc ?_ _) | (with_reducible refine Blk.drew ?_) | (with_reducible refine Blk.drewN ?_ _) | (with_reducible refine put3z ?_ _ _ _) | (with_reducible refine Blk.far ?_ ?_ _) | (simp; done) | (simp <;> omega))))⟩
                clear hK K' hHeld
                have hHeld := hHeld'
                clear hHeld'
                try simp only [Act.put, List.setIfInBounds_toArray, List.set_cons_zero, List.set_cons_succ, List.getElem_toArray, List.getElem_cons_succ, List.getElem_cons_zero]
                refine wpAnyH_done (by kernel_rfl) ?_ _
                go_wp2_with fail
                go_meet
                exact ⟨_, rfl, by (first | exact Nat.le_refl _ | omega | (simp <;> omega)), by (repeat' (first | (with_reducible exact Blk.new' (by simp) _ _) | (with_reducible refine Blk.alloc ?_ _) | (with_reducible refine Blk.drew ?_) | (with_reducible refine Blk.drewN ?_ _) | (with_reducible refine put3z ?_ _ _ _) | (with_reducible refine Blk.far ?_ ?_ _) | (simp; done) | (simp <;> omega))), by (repeat' (first | exact Below.refl _ _ | assumption | refine Below.drew ?_ | refine W.below_drewN ?_ _ | (refine Below.alloc ?_ (by simp <;> omega) _) | (refine Below.setCell ?_ (by simp <;> omega) _)))⟩
              exact AllReadyH.nil
            exact AllReadyH.nil
          exact AllReadyH.nil
        exact AllReadyH.nil
      refine AllReadyH.cons (o := ?_) ?_ (fun K' hK => ?_) ?_
      rotate_left
      · (simp only [List.getElem?_toArray, List.getElem?_cons_succ, List.getElem?_cons_zero] <;> rfl)
      · skip
        go_simp
        refine hK.out _ _ ?_ (fun hHeld' => ?_)
        · exact KEEP.out _ (by (repeat' (first | exact Below.refl _ _ | assumption | refine Below.drew ?_ | refine W.below_drewN ?_ _ | (refine Below.alloc ?_ (by simp <;> omega) _) | (refine Below.setCell ?_ (by simp <;> omega) _))))
        clear hK K' hHeld
        have hHeld := hHeld'
        clear hHeld'
        try simp only [Act.put, List.setIfInBounds_toArray, List.set_cons_zero, List.set_cons_succ, List.getElem_toArray, List.getElem_cons_succ, List.getElem_cons_zero]
        refine wpAnyH_ready (rs := [4]) (by kernel_rfl) (by simp) ?_
        refine AllReadyH.cons (o := ?_) ?_ (fun K' hK => ?_) ?_
        rotate_left
        · (simp only [List.getElem?_toArray, List.getElem?_cons_succ, List.getElem?_cons_zero] <;> rfl)
        · skip
          go_simp; go_at_call 28; refine (roller_ok (n : Int) _).mono ?_; rintro e w3 ⟨rfl, rfl⟩; go_wp2_with fail
          refine hK.out _ _ ?_ (fun hHeld' => ?_)
          · exact KEEP.out _ (by (repeat' (first | exact Below.refl _ _ | assumption | refine Below.drew ?_ | refine W.below_drewN ?_ _ | (refine Below.alloc ?_ (by simp <;> omega) _) | (refine Below.setCell ?_ (by simp <;> omega) _))))
          clear hK K' hHeld
          have hHeld := hHeld'
          clear hHeld'
          try simp only [Act.put, List.setIfInBounds_toArray, List.set_cons_zero, List.set_cons_succ, List.getElem_toArray, List.getElem_cons_succ, List.getElem_cons_zero]
          refine wpAnyH_ready (rs := [20]) (by kernel_rfl) (by simp) ?_
          refine AllReadyH.cons (o := ?_) ?_ (fun K' hK => ?_) ?_
          rotate_left
          · (simp only [List.getElem?_toArray, List.getElem?_cons_succ, List.getElem?_cons_zero] <;> rfl)
          · skip
            refine step_append_new _ u8_one' (by rfl) _ _ 22 (by rfl) 5 i0 (.int .u8 0) 1 Try.underlying22 hi hz0 hz1 hz2 rfl w.heap.size (some ⟨bA, oA, none⟩) n b (by rfl) (SB.out _ ?_) HL.out _ x (by rfl) ?_ y HY.out (by unfold maxLen; omega) (by omega) ?_
            · exact hHeld.1
            · first | exact cell_one_new _ _ _ | (go_simp; done) | (go_simp; rfl)
            intro c5 C5 k5 hc5; rw [u8_def] at k5; try simp only [Act.put, List.setIfInBounds_toArray, List.set_cons_zero, List.set_cons_succ, List.getElem_toArray, List.getElem_cons_succ, List.getElem_cons_zero]
            refine hK.out _ _ ?_ (fun hHeld' => ?_)
            · exact KEEP.out _ (by (repeat' (first | exact Below.refl _ _ | assumption | refine Below.drew ?_ | refine W.below_drewN ?_ _ | (refine Below.alloc ?_ (by simp <;> omega) _) | (refine Below.setCell ?_ (by simp <;> omega) _))))
            clear hK K' hHeld
            have hHeld := hHeld'
            clear hHeld'
            try simp only [Act.put, List.setIfInBounds_toArray, List.set_cons_zero, List.set_cons_succ, List.getElem_toArray, List.getElem_cons_succ, List.getElem_cons_zero]
            refine wpAnyH_take (i := 21) (v := ?_) rfl (by kernel_rfl) (by kernel_rfl) (by kernel_rfl) (fun _ _ _ h => h) (Or.inl ⟨by rfl, ?_⟩) hHeld ?_
            rotate_left
            · (intro W hSw; (try dsimp only at hSw); go_simp; try with_reducible rfl)
            try simp only [Act.put, List.setIfInBounds_toArray, List.set_cons_zero, List.set_cons_succ, List.getElem_toArray, List.getElem_cons_succ, List.getElem_cons_zero]
            refine wpAnyH_more (T := fun W => (Below w2.heap.size w2 W ∧ W.cell? ⟨w.heap.size, 0, none⟩ = some (.int .i64 (n : Int)) ∧ W.cell? ⟨w.heap.size, 1, none⟩ = some (.slice (some ⟨bA, oA, none⟩) n c) ∧ W.cell? ⟨w.heap.size, 2, none⟩ = some (.int .u32 (hv.toNat : Int))) ∧ W.cell? ⟨w2.heap.size + 1 + 1 + 1, 0, none⟩ = some (.int .u8 (y.toNat : Int))) (fun _ h => h.1) ⟨hHeld, ?_⟩ (fun hHeld1 => ?_)
            · (first | exact cell_new_row (by simp) k5 | exact cell_new_row_d (by simp) k5 | go_simp)
            clear hHeld
            have hHeld := hHeld1
            clear hHeld1
            refine wpAnyH_take (i := 22) (v := ?_) rfl (by kernel_rfl) (by kernel_rfl) (by kernel_rfl) (fun _ _ _ h => h) (Or.inl ⟨by rfl, ?_⟩) hHeld ?_
            rotate_left
            · (intro W hSw; (try dsimp only at hSw); go_simp; try with_reducible rfl)
            try simp only [Act.put, List.setIfInBounds_toArray, List.set_cons_zero, List.set_cons_succ, List.getElem_toArray, List.getElem_cons_succ, List.getElem_cons_zero]
            refine wpAnyH_ready (rs := [23]) (by kernel_rfl) (by simp) ?_
            refine AllReadyH.cons (o := ?_) ?_ (fun K' hK => ?_) ?_
            rotate_left
            · (simp only [List.getElem?_toArray, List.getElem?_cons_succ, List.getElem?_cons_zero] <;> rfl)
            · skip
              go_simp; go_at_call 34; refine (D.out _ _ (Eq.trans (Blk.cell (g := w2.heap.size + 1 + 1) (t := 3) (cs := #[.int .i64 (n : Int)]) (by (repeat' (first | (with_reducible exact Blk.new' (by simp) _ _) | (with_reducible refine Blk.alloc ?_ _) | (with_reducible refine Blk.drew ?_) | (with_reducible refine Blk.drewN ?_ _) | (with_reducible refine put3z ?_ _ _ _) | (with_reducible refine Blk.far ?_ ?_ _) | (simp; done) | (simp <;> omega)))) 0) rfl)).mono ?_; rintro e w6 ⟨rfl, m6, rfl⟩; go_wp2_with fail
              refine hK.out _ _ ?_ (fun hHeld' => ?_)
              · exact ⟨KEEP.out _ (by (repeat' (first | exact Below.refl _ _ | assumption | refine Below.drew ?_ | refine W.below_drewN ?_ _ | (refine Below.alloc ?_ (by simp <;> omega) _) | (refine Below.setCell ?_ (by simp <;> omega) _)))), by (refine Eq.trans (Blk.cell (t := 5) (cs := C5) ?_ 0) k5; (repeat' (first | (with_reducible exact Blk.new' (by simp) _ _) | (with_reducible refine Blk.alloc ?_ _) | (with_reducible refine Blk.drew ?_) | (with_reducible refine Blk.drewN ?_ _) | (with_reducible refine put3z ?_ _ _ _) | (with_reducible refine Blk.far ?_ ?_ _) | (simp; done) | (simp <;> omega))))⟩
              clear hK K' hHeld
              have hHeld := hHeld'
              clear hHeld'
              try simp only [Act.put, List.setIfInBounds_toArray, List.set_cons_zero, List.set_cons_succ, List.getElem_toArray, List.getElem_cons_succ, List.getElem_cons_zero]
              refine wpAnyH_take (i := 24) (v := ?_) rfl (by kernel_rfl) (by kernel_rfl) (by kernel_rfl) (fun _ _ _ h => h) (Or.inl ⟨by rfl, ?_⟩) hHeld ?_
              rotate_left
              · (intro W hSw; (try dsimp only at hSw); go_simp; try with_reducible rfl)
              try simp only [Act.put, List.setIfInBounds_toArray, List.set_cons_zero, List.set_cons_succ, List.getElem_toArray, List.getElem_cons_succ, List.getElem_cons_zero]
              refine wpAnyH_ready (rs := [26]) (by kernel_rfl) (by simp) ?_
              refine AllReadyH.cons (o := ?_) ?_ (fun K' hK => ?_) ?_
              rotate_left
              · (simp only [List.getElem?_toArray, List.getElem?_cons_succ, List.getElem?_cons_zero] <;> rfl)
              · skip
                go_simp
                refine hK.out _ _ ?_ (fun hHeld' => ?_)
                · exact ⟨KEEP.out _ (by (repeat' (first | exact Below.refl _ _ | assumption | refine Below.drew ?_ | refine W.below_drewN ?_ _ | (refine Below.alloc ?_ (by simp <;> omega) _) | (refine Below.setCell ?_ (by simp <;> omega) _)))), by (refine Eq.trans (Blk.cell (t := 5) (cs := C5) ?_ 0) k5; (repeat' (first | (with_reducible exact Blk.new' (by simp) _ _) | (with_reducible refine Blk.alloc ?_ _) | (with_reducible refine Blk.drew ?_) | (with_reducible refine Blk.drewN ?_ _) | (with_reducible refine put3z ?_ _ _ _) | (with_reducible refine Blk.far ?_ ?_ _) | (simp; done) | (simp <;> omega))))⟩
                clear hK K' hHeld
                have hHeld := hHeld'
                clear hHeld'
                try simp only [Act.put, List.setIfInBounds_toArray, List.set_cons_zero, List.set_cons_succ, List.getElem_toArray, List.getElem_cons_succ, List.getElem_cons_zero]
                refine wpAnyH_done (by kernel_rfl) ?_ _
                go_wp2_with fail
                go_meet
                exact ⟨_, rfl, by (first | exact Nat.le_refl _ | omega | (simp <;> omega)), by (repeat' (first | (with_reducible exact Blk.new' (by simp) _ _) | (with_reducible refine Blk.alloc ?_ _) | (with_reducible refine Blk.drew ?_) | (with_reducible refine Blk.drewN ?_ _) | (with_reducible refine put3z ?_ _ _ _) | (with_reducible refine Blk.far ?_ ?_ _) | (simp; done) | (simp <;> omega))), by (repeat' (first | exact Below.refl _ _ | assumption | refine Below.drew ?_ | refine W.below_drewN ?_ _ | (refine Below.alloc ?_ (by simp <;> omega) _) | (refine Below.setCell ?_ (by simp <;> omega) _)))⟩
              exact AllReadyH.nil
            exact AllReadyH.nil
          exact AllReadyH.nil
        exact AllReadyH.nil
      exact AllReadyH.nil
    exact AllReadyH.nil
  case rest =>
    obtain ⟨g, rfl, hg, hG, hBW⟩ := hcut
    have hj3 := hj2.later hBW
    have hk3 := hk2.later hBW
    have hgz := hG.lt
    have c1 := hj3.cell 1
    have hB3 := hB2.trans (hBW.mono hB2.size)
    have hgw : w.heap.size + 1 < g := by omega
    have hgn : ¬ (g = w.heap.size + 1) := by omega
    have hgn2 : ¬ (w.heap.size + 1 = g) := by omega
    clear KEEP SB hH C D hB0 hk0 hj0 hb2 hB2 hBW hj2 hk2 j0 j1 j2
    rcases hcase with ⟨hc1, hL⟩ | ⟨hc1, hL⟩
    all_goals go_wp2_with (first
      | (go_at_call 30; refine (clone_any _ _ m r HM.out _ _ (hL.out.below hB3) (by omega)).mono ?_; rintro e w4 ⟨A4, c4, rfl, o4, hb4⟩)
      | (at_builtin; refine wpList_append_at _ u8_one' rfl _ _ 22 rfl wc.heap.size 5 i0 (.int .u8 0) 1 Try.underlying22 hi hz0 hz1 hz2 rfl (.slice A4 m c4) m _ rfl (o4.alloc _) _ _ 1 [x] 1 rfl (Sl.of_new rfl rfl) rfl (by unfold maxLen; omega) (by omega) (by have := hb4.size; simp; omega) ?_; intro v5 w5 o5 g5 _; have hb5 := (hb4.alloc hb4.size _).grown g5 (by have := hb4.size; simp; omega) (fun j hj => (o4.lt j hj).1); rw [← List.map_append] at o5; obtain ⟨q5, c5, rfl, _, _⟩ := o5.form (by omega); obtain ⟨hn5, hm5⟩ := own_cap o5; have hG5 := hG.later hb5; have hk5 := hk3.later hb5; have hB5 := hB3.trans (hb5.mono hB3.size); obtain ⟨e0, e1, e2, f0, f1, f2⟩ := three hG5; obtain ⟨d0, d1, d2, q0, q1, q2⟩ := three hk5; clear o4 g5 hb4))
    all_goals have hk6 : Blk (w5.setCell ⟨g, 1, none⟩ (.slice (some ⟨q5, 0, none⟩) (m + 1) c5)) (w.heap.size + 1) 26 #[.int .i64 0, .slice none 0 0, .int .u32 0] := hk5.far (by simpa using hgn2) _
    all_goals have o6 := put3_own (ownsRow_setCell_below o5 (a := ⟨g, 1, none⟩) hgz (.slice (some ⟨q5, 0, none⟩) (m + 1) c5)) (show w.heap.size + 1 < wc.heap.size by omega) (.int .i64 (n : Int)) (.slice (some ⟨q5, 0, none⟩) (m + 1) c5) (.int .u32 (H.toNat : Int))
    all_goals exact bodyPost_ret (result_st rfl _ _ (w.heap.size + 1) rfl (put3 hk6 _ _ _) rfl) rfl ⟨_, _, rfl, Sl.of_own o6, by omega, by omega, put3_below (hB5.setCell (p := ⟨g, 1, none⟩) (by show w.heap.size ≤ g; omega) _) (Nat.le_succ _) _ _ _⟩
end Go.Proofs.Ytlbghmocbklmdaa.H
