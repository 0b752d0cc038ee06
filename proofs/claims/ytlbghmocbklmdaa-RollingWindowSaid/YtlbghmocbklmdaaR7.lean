/- rolling.Roll, the good way (printed by gen_roll.py). -/
import Derived.Test.YtlbghmocbklmdaaR6
import Derived.Deep.RegionHeld3
import Derived.Deep.DeepCutAuto
namespace Go.Proofs.Ytlbghmocbklmdaa.H
set_option linter.unusedVariables false
set_option linter.unusedSimpArgs false
open Go Go.RowKit Go.Proofs.Ytlbghmocbklmdaa Go.Proofs.Ytlbghmocbklmdaa.W Go.Proofs.Ytlbghmocbklmdaa.M

/-- A stronger condition serves a weaker one's end. -/
theorem wpAnyH_mono {P : Program} {ops : Array Oper} {Q : Exit → Act → World → Prop} {md : Region.Mode} {S T : World → Prop} (hST : ∀ W, T W → S W) :
    ∀ (fuel : Nat) (listed : Array Bool) (a : Act) (w : World), wpAnyH P md ops Q T fuel listed a w → wpAnyH P md ops Q S fuel listed a w
  | 0, _, _, _, h => h
  | fuel + 1, _, _, _, h => ⟨h.1, fun i hi => wpOp_mono (fun a' w' h' => ⟨hST _ h'.1, wpAnyH_mono hST fuel _ a' w' h'.2⟩) (h.2 i hi)⟩
theorem wpAnyH_more {P : Program} {ops : Array Oper} {Q : Exit → Act → World → Prop} {md : Region.Mode} {S T : World → Prop} {fuel : Nat} {listed : Array Bool} {a : Act} {w : World} (hST : ∀ W, T W → S W) (hT : T w)
    (h : T w → wpAnyH P md ops Q T fuel listed a w) : wpAnyH P md ops Q S fuel listed a w := wpAnyH_mono hST _ _ _ _ (h hT)
/-- What region 5 leaves: the new state's block. -/
def Made (w2 : World) (K : Nat) (H : R) (v : Value) (W : World) : Prop := ∃ g, v = .pointer (some ⟨g, 0, none⟩) ∧ w2.heap.size ≤ g ∧ Blk W g 26 #[.int .i64 (K : Int), .slice none 0 0, .int .u32 (H.toNat : Int)] ∧ Below w2.heap.size w2 W
theorem cell_new_row {w : World} {C : Array Value} {e : TypeId} {g : Nat} {v : Value} (hg : g = w.heap.size) (h : C[0]? = some v) : (w.alloc (.cells C e)).cell? ⟨g, 0, none⟩ = some v := by
  rw [(Blk.new' hg e C).cell 0, h]

theorem cell_new_row_d {w : World} {C : Array Value} {e : TypeId} {g : Nat} {v : Value} (hg : g = w.heap.size) (h : C[0]? = some v) : (w.alloc (.cells C e)).drew.cell? ⟨g, 0, none⟩ = some v := cell_new_row hg h

set_option maxRecDepth 100000 in
set_option maxHeartbeats 16000000 in
theorem Roll_not (K : Nat) (A : Option Addr) (n c : Nat) (b : Bs) (hv : R) (x : UInt8) (he : chk (K : Int) b hv = 0) (hl : b.length = n) (hnK : n < K) (H : R) (hH : hsh (b ++ [x]) = H) (w : World) (B : Nat) (h : Sl u8 w B A b) (hc : n ≤ c) :
    Calls Try.prog 18 #[.agg #[.int .i64 (K : Int), .slice A n c, .int .u32 (hv.toNat : Int)], .int .u8 (x.toNat : Int)] w fun e w' => ∃ A' c', e = .returned (.tuple #[.agg #[.int .i64 (K : Int), .slice A' (n + 1) c', .int .u32 (H.toNat : Int)], .int .i64 0]) ∧ Sl u8 w' w'.heap.size A' (b ++ [x]) ∧ n + 1 ≤ c' ∧ c' ≤ maxLen ∧ Below w.heap.size w w' := by
  obtain ⟨i0, hi, hz0, hz1, hz2⟩ := info_parts info5
  obtain ⟨g1, g2, g3, g4⟩ := chk_good he
  have hS := h.lt
  have HL := Lib.hid hl
  have C : Hid (∀ W, Below w.heap.size w W → Calls Try.prog 20 #[.agg #[.int .i64 (K : Int), .slice A n c, .int .u32 (hv.toNat : Int)]] W fun e w' => e = .returned (.int .i64 0) ∧ Below W.heap.size W w') := Lib.hid fun W hW => by rw [← he]; exact Check_ok K A n c b hv hl W _ (hS.later hW)
  have D : Hid (∀ W g (y : UInt8), Calls Try.prog 34 #[.int .u32 (hv.toNat : Int), .int .u8 (x.toNat : Int), .bool false, .int .u8 (y.toNat : Int), .pointer (some ⟨g, 0, none⟩)] W fun e w' => e = .returned (.int .u32 (H.toNat : Int)) ∧ w' = W) := Lib.hid fun W g y => roll_not hv x y g H (by rw [← hH, hsh_snoc, g4]) W
  obtain ⟨y, hy⟩ : ∃ y, (b ++ [x])[0]? = some y := ⟨_, List.getElem?_eq_getElem (by simp)⟩
  have HY := Lib.hid hy
  have hB0 : Below w.heap.size w ((w.alloc (.cells #[.int .i64 (K : Int), .slice A n c, .int .u32 (hv.toNat : Int)] 26)).alloc (.cells #[.int .i64 0, .slice none 0 0, .int .u32 0] 26)) := ((Below.refl _ _).alloc (Nat.le_refl _) _).alloc (by simp) _
  have hk0 : Blk ((w.alloc (.cells #[.int .i64 (K : Int), .slice A n c, .int .u32 (hv.toNat : Int)] 26)).alloc (.cells #[.int .i64 0, .slice none 0 0, .int .u32 0] 26)) (w.heap.size + 1) 26 #[.int .i64 0, .slice none 0 0, .int .u32 0] := Blk.new' (by simp) _ _
  have hj0 : Blk ((w.alloc (.cells #[.int .i64 (K : Int), .slice A n c, .int .u32 (hv.toNat : Int)] 26)).alloc (.cells #[.int .i64 0, .slice none 0 0, .int .u32 0] 26)) w.heap.size 26 #[.int .i64 (K : Int), .slice A n c, .int .u32 (hv.toNat : Int)] := (Blk.new _ _ _).alloc _
  have hnk : ((n : Int) == (K : Int)) = false := by rw [beq_eq_false_iff_ne]; omega
  have hnk2 : ¬ ((n : Int) = (K : Int)) := by omega
  clear he g4 hl h hH hy g3
  go_enter Try.func18, Try.ntmps18
  go_upto_region 5 with (go_at_call 20; refine (C.out _ hB0).mono ?_; rintro e w2 ⟨rfl, hb2⟩; have hk2 := hk0.later hb2; have hj2 := hj0.later hb2; obtain ⟨j0, j1, j2, _, _, _⟩ := three hj2; have hB2 := hB0.trans (hb2.mono hB0.size); have hz2' : w.heap.size + 1 < w2.heap.size := hk2.lt)
  have hH : Below w2.heap.size w2 w2 := Below.refl _ _
  have KEEP : Hid (∀ W, Below w2.heap.size w2 W → (Below w2.heap.size w2 W ∧ W.cell? ⟨w.heap.size, 0, none⟩ = some (.int .i64 (K : Int)) ∧ W.cell? ⟨w.heap.size, 1, none⟩ = some (.slice A n c) ∧ W.cell? ⟨w.heap.size, 2, none⟩ = some (.int .u32 (hv.toNat : Int)))) := Lib.hid fun W hW => ⟨hW, (hj2.later hW).cell 0, (hj2.later hW).cell 1, (hj2.later hW).cell 2⟩
  have SB : Hid (∀ W, Below w2.heap.size w2 W → Sl u8 W w.heap.size A b) := Lib.hid fun W hW => hS.below (hB2.trans (hW.mono hB2.size))
  have hbb : 0 < w2.heap.size := by omega
  go_cut [8] (fun v wx => Made w2 K H v wx)
  case first =>
    refine wp_region_held_drew (S := fun W => Below w2.heap.size w2 W ∧ W.cell? ⟨w.heap.size, 0, none⟩ = some (.int .i64 (K : Int)) ∧ W.cell? ⟨w.heap.size, 1, none⟩ = some (.slice A n c) ∧ W.cell? ⟨w.heap.size, 2, none⟩ = some (.int .u32 (hv.toNat : Int))) (by kernel_rfl) ?_ (fun hHeld => ?_)
    · exact KEEP.out _ (by (repeat' (first | exact Below.refl _ _ | assumption | refine Below.drew ?_ | refine W.below_drewN ?_ _ | (refine Below.alloc ?_ (by simp <;> omega) _) | (refine Below.setCell ?_ (by simp <;> omega) _))))
    refine wpAnyH_take (i := 0) (v := ?_) rfl (by kernel_rfl) (by kernel_rfl) (by kernel_rfl) (fun _ _ _ h => h) (Or.inl ⟨by rfl, ?_⟩) hHeld ?_
    rotate_left
    · (intro W hSw; (try dsimp only at hSw); go_simp; try with_reducible rfl)
    try simp only [Act.put, List.setIfInBounds_toArray, List.set_cons_zero, List.set_cons_succ, List.getElem_toArray, List.getElem_cons_succ, List.getElem_cons_zero]
    refine wpAnyH_take (i := 1) (v := ?_) rfl (by kernel_rfl) (by kernel_rfl) (by kernel_rfl) (fun _ _ _ h => h) (Or.inl ⟨by rfl, ?_⟩) hHeld ?_
    rotate_left
    · (intro W hSw; (try dsimp only at hSw); go_simp; try with_reducible rfl)
    try simp only [Act.put, List.setIfInBounds_toArray, List.set_cons_zero, List.set_cons_succ, List.getElem_toArray, List.getElem_cons_succ, List.getElem_cons_zero]
    refine wpAnyH_take (i := 2) (v := ?_) rfl (by kernel_rfl) (by kernel_rfl) (by kernel_rfl) (fun _ _ _ h => h) (Or.inl ⟨by rfl, ?_⟩) hHeld ?_
    rotate_left
    · (intro W hSw; (try dsimp only at hSw); go_simp; try with_reducible rfl)
    try simp only [Act.put, List.setIfInBounds_toArray, List.set_cons_zero, List.set_cons_succ, List.getElem_toArray, List.getElem_cons_succ, List.getElem_cons_zero]
    refine wpAnyH_take (i := 3) (v := ?_) rfl (by kernel_rfl) (by kernel_rfl) (by kernel_rfl) (fun _ _ _ h => h) (Or.inl ⟨by rfl, ?_⟩) hHeld ?_
    rotate_left
    · (intro W hSw; (try dsimp only at hSw); go_simp; try with_reducible rfl)
    try simp only [Act.put, List.setIfInBounds_toArray, List.set_cons_zero, List.set_cons_succ, List.getElem_toArray, List.getElem_cons_succ, List.getElem_cons_zero]
    refine wpAnyH_take (i := 5) (v := ?_) rfl (by kernel_rfl) (by kernel_rfl) (by kernel_rfl) (fun _ _ _ h => h) (Or.inl ⟨by rfl, ?_⟩) hHeld ?_
    rotate_left
    · (intro W hSw; (try dsimp only at hSw); go_simp; try with_reducible rfl)
    try simp only [Act.put, List.setIfInBounds_toArray, List.set_cons_zero, List.set_cons_succ, List.getElem_toArray, List.getElem_cons_succ, List.getElem_cons_zero]
    refine wpAnyH_take (i := 6) (v := ?_) rfl (by kernel_rfl) (by kernel_rfl) (by kernel_rfl) (fun _ _ _ h => h) (Or.inl ⟨by rfl, ?_⟩) hHeld ?_
    rotate_left
    · (intro W hSw; (try dsimp only at hSw); go_simp; try with_reducible rfl)
    try simp only [Act.put, List.setIfInBounds_toArray, List.set_cons_zero, List.set_cons_succ, List.getElem_toArray, List.getElem_cons_succ, List.getElem_cons_zero]
    refine wpAnyH_take (i := 7) (v := ?_) rfl (by kernel_rfl) (by kernel_rfl) (by kernel_rfl) (fun _ _ _ h => h) (Or.inl ⟨by rfl, ?_⟩) hHeld ?_
    rotate_left
    · (intro W hSw; (try dsimp only at hSw); go_simp; try with_reducible rfl)
    try simp only [Act.put, List.setIfInBounds_toArray, List.set_cons_zero, List.set_cons_succ, List.getElem_toArray, List.getElem_cons_succ, List.getElem_cons_zero]
    refine wpAnyH_take (i := 8) (v := ?_) rfl (by kernel_rfl) (by kernel_rfl) (by kernel_rfl) (fun _ _ _ h => h) (Or.inl ⟨by rfl, ?_⟩) hHeld ?_
    rotate_left
    · (intro W hSw; (try dsimp only at hSw); go_simp; try with_reducible rfl)
    try simp only [Act.put, List.setIfInBounds_toArray, List.set_cons_zero, List.set_cons_succ, List.getElem_toArray, List.getElem_cons_succ, List.getElem_cons_zero]
    refine wpAnyH_take (i := 9) (v := ?_) rfl (by kernel_rfl) (by kernel_rfl) (by kernel_rfl) (fun _ _ _ h => h) (Or.inl ⟨by rfl, ?_⟩) hHeld ?_
    rotate_left
    · (intro W hSw; (try dsimp only at hSw); go_simp; try with_reducible rfl)
    try simp only [Act.put, List.setIfInBounds_toArray, List.set_cons_zero, List.set_cons_succ, List.getElem_toArray, List.getElem_cons_succ, List.getElem_cons_zero]
    refine wpAnyH_take (i := 10) (v := ?_) rfl (by kernel_rfl) (by kernel_rfl) (by kernel_rfl) (fun _ _ _ h => h) (Or.inl ⟨by rfl, ?_⟩) hHeld ?_
    rotate_left
    · (intro W hSw; (try dsimp only at hSw); go_simp; try with_reducible rfl)
    try simp only [Act.put, List.setIfInBounds_toArray, List.set_cons_zero, List.set_cons_succ, List.getElem_toArray, List.getElem_cons_succ, List.getElem_cons_zero]
    refine wpAnyH_take (i := 11) (v := ?_) rfl (by kernel_rfl) (by kernel_rfl) (by kernel_rfl) (fun _ _ _ h => h) (Or.inl ⟨by rfl, ?_⟩) hHeld ?_
    rotate_left
    · (intro W hSw; (try dsimp only at hSw); go_simp; try with_reducible rfl)
    try simp only [Act.put, List.setIfInBounds_toArray, List.set_cons_zero, List.set_cons_succ, List.getElem_toArray, List.getElem_cons_succ, List.getElem_cons_zero]
    refine wpAnyH_take (i := 12) (v := ?_) rfl (by kernel_rfl) (by kernel_rfl) (by kernel_rfl) (fun _ _ _ h => h) (Or.inl ⟨by rfl, ?_⟩) hHeld ?_
    rotate_left
    · (intro W hSw; (try dsimp only at hSw); go_simp; try with_reducible rfl)
    try simp only [Act.put, List.setIfInBounds_toArray, List.set_cons_zero, List.set_cons_succ, List.getElem_toArray, List.getElem_cons_succ, List.getElem_cons_zero]
    refine wpAnyH_take (i := 13) (v := ?_) rfl (by kernel_rfl) (by kernel_rfl) (by kernel_rfl) (fun _ _ _ h => h) (Or.inl ⟨by rfl, ?_⟩) hHeld ?_
    rotate_left
    · (intro W hSw; (try dsimp only at hSw); go_simp; try with_reducible rfl)
    try simp only [Act.put, List.setIfInBounds_toArray, List.set_cons_zero, List.set_cons_succ, List.getElem_toArray, List.getElem_cons_succ, List.getElem_cons_zero]
    refine wpAnyH_take (i := 14) (v := ?_) rfl (by kernel_rfl) (by kernel_rfl) (by kernel_rfl) (fun _ _ _ h => h) (Or.inl ⟨by rfl, ?_⟩) hHeld ?_
    rotate_left
    · (intro W hSw; (try dsimp only at hSw); go_simp; try with_reducible rfl)
    try simp only [Act.put, List.setIfInBounds_toArray, List.set_cons_zero, List.set_cons_succ, List.getElem_toArray, List.getElem_cons_succ, List.getElem_cons_zero]
    refine wpAnyH_take (i := 15) (v := ?_) rfl (by kernel_rfl) (by kernel_rfl) (by kernel_rfl) (fun _ _ _ h => h) (Or.inl ⟨by rfl, ?_⟩) hHeld ?_
    rotate_left
    · (intro W hSw; (try dsimp only at hSw); go_simp; try with_reducible rfl)
    try simp only [Act.put, List.setIfInBounds_toArray, List.set_cons_zero, List.set_cons_succ, List.getElem_toArray, List.getElem_cons_succ, List.getElem_cons_zero]
    refine wpAnyH_take (i := 16) (v := ?_) rfl (by kernel_rfl) (by kernel_rfl) (by kernel_rfl) (fun _ _ _ h => h) (Or.inl ⟨by rfl, ?_⟩) hHeld ?_
    rotate_left
    · (intro W hSw; (try dsimp only at hSw); go_simp; try with_reducible rfl)
    try simp only [Act.put, List.setIfInBounds_toArray, List.set_cons_zero, List.set_cons_succ, List.getElem_toArray, List.getElem_cons_succ, List.getElem_cons_zero]
    refine wpAnyH_take (i := 17) (v := ?_) rfl (by kernel_rfl) (by kernel_rfl) (by kernel_rfl) (fun _ _ _ h => h) (Or.inl ⟨by rfl, ?_⟩) hHeld ?_
    rotate_left
    · (intro W hSw; (try dsimp only at hSw); go_simp; try with_reducible rfl)
    try simp only [Act.put, List.setIfInBounds_toArray, List.set_cons_zero, List.set_cons_succ, List.getElem_toArray, List.getElem_cons_succ, List.getElem_cons_zero]
    refine wpAnyH_take (i := 18) (v := ?_) rfl (by kernel_rfl) (by kernel_rfl) (by kernel_rfl) (fun _ _ _ h => h) (Or.inl ⟨by rfl, ?_⟩) hHeld ?_
    rotate_left
    · (intro W hSw; (try dsimp only at hSw); go_simp; try with_reducible rfl)
    try simp only [Act.put, List.setIfInBounds_toArray, List.set_cons_zero, List.set_cons_succ, List.getElem_toArray, List.getElem_cons_succ, List.getElem_cons_zero]
    refine wpAnyH_ready (rs := [4, 19, 25]) (by kernel_rfl) (by simp) ?_
    refine AllReadyH.cons (o := ?_) ?_ (fun K' hK => ?_) ?_
    rotate_left
    · (simp only [List.getElem?_toArray, List.getElem?_cons_succ, List.getElem?_cons_zero] <;> rfl)
    · skip
      go_simp; go_at_call 28; refine (roller_ok (K : Int) _).mono ?_; rintro e w3 ⟨rfl, rfl⟩; go_wp2_with fail
      refine hK.out _ _ ?_ (fun hHeld' => ?_)
      · exact KEEP.out _ (by (repeat' (first | exact Below.refl _ _ | assumption | refine Below.drew ?_ | refine W.below_drewN ?_ _ | (refine Below.alloc ?_ (by simp <;> omega) _) | (refine Below.setCell ?_ (by simp <;> omega) _))))
      clear hK K' hHeld
      have hHeld := hHeld'
      clear hHeld'
      try simp only [Act.put, List.setIfInBounds_toArray, List.set_cons_zero, List.set_cons_succ, List.getElem_toArray, List.getElem_cons_succ, List.getElem_cons_zero]
      refine wpAnyH_ready (rs := [19, 25]) (by kernel_rfl) (by simp) ?_
      refine AllReadyH.cons (o := ?_) ?_ (fun K' hK => ?_) ?_
      rotate_left
      · (simp only [List.getElem?_toArray, List.getElem?_cons_succ, List.getElem?_cons_zero] <;> rfl)
      · skip
        go_simp
        refine hK.out _ _ ?_ (fun hHeld' => ?_)
        · exact KEEP.out _ (by (repeat' (first | exact Below.refl _ _ | assumption | refine Below.drew ?_ | refine W.below_drewN ?_ _ | (refine Below.alloc ?_ (by simp <;> omega) _) | (refine Below.setCell ?_ (by simp <;> omega) _))))
        clear hK K' hHeld
        have hHeld := hHeld'
        clear hHeld'
        try simp only [Act.put, List.setIfInBounds_toArray, List.set_cons_zero, List.set_cons_succ, List.getElem_toArray, List.getElem_cons_succ, List.getElem_cons_zero]
        refine wpAnyH_ready (rs := [20, 25]) (by kernel_rfl) (by simp) ?_
        refine AllReadyH.cons (o := ?_) ?_ (fun K' hK => ?_) ?_
        rotate_left
        · (simp only [List.getElem?_toArray, List.getElem?_cons_succ, List.getElem?_cons_zero] <;> rfl)
        · skip
          refine step_append_new _ u8_one' (by rfl) _ _ 22 (by rfl) 5 i0 (.int .u8 0) 1 Try.underlying22 hi hz0 hz1 hz2 rfl w.heap.size A n b (by rfl) (SB.out _ ?_) HL.out _ x (by rfl) ?_ y HY.out (by unfold maxLen; omega) (by omega) ?_
          · exact hHeld.1
          · first | exact cell_one_new _ _ _ | (go_simp; done) | (go_simp; rfl)
          intro c5 C5 k5 hc5; rw [u8_def] at k5; try simp only [Act.put, List.setIfInBounds_toArray, List.set_cons_zero, List.set_cons_succ, List.getElem_toArray, List.getElem_cons_succ, List.getElem_cons_zero]
          refine hK.out _ _ ?_ (fun hHeld' => ?_)
          · exact KEEP.out _ (by (repeat' (first | exact Below.refl _ _ | assumption | refine Below.drew ?_ | refine W.below_drewN ?_ _ | (refine Below.alloc ?_ (by simp <;> omega) _) | (refine Below.setCell ?_ (by simp <;> omega) _))))
          clear hK K' hHeld
          have hHeld := hHeld'
          clear hHeld'
          try simp only [Act.put, List.setIfInBounds_toArray, List.set_cons_zero, List.set_cons_succ, List.getElem_toArray, List.getElem_cons_succ, List.getElem_cons_zero]
          refine wpAnyH_take (i := 21) (v := ?_) rfl (by kernel_rfl) (by kernel_rfl) (by kernel_rfl) (fun _ _ _ h => h) (Or.inl ⟨by rfl, ?_⟩) hHeld ?_
          rotate_left
          · (intro W hSw; (try dsimp only at hSw); go_simp; try with_reducible rfl)
          try simp only [Act.put, List.setIfInBounds_toArray, List.set_cons_zero, List.set_cons_succ, List.getElem_toArray, List.getElem_cons_succ, List.getElem_cons_zero]
          refine wpAnyH_more (T := fun W => (Below w2.heap.size w2 W ∧ W.cell? ⟨w.heap.size, 0, none⟩ = some (.int .i64 (K : Int)) ∧ W.cell? ⟨w.heap.size, 1, none⟩ = some (.slice A n c) ∧ W.cell? ⟨w.heap.size, 2, none⟩ = some (.int .u32 (hv.toNat : Int))) ∧ W.cell? ⟨w2.heap.size + 1 + 1, 0, none⟩ = some (.int .u8 (y.toNat : Int))) (fun _ h => h.1) ⟨hHeld, ?_⟩ (fun hHeld1 => ?_)
          · (first | exact cell_new_row (by simp) k5 | exact cell_new_row_d (by simp) k5 | go_simp)
          clear hHeld
          have hHeld := hHeld1
          clear hHeld1
          refine wpAnyH_take (i := 22) (v := ?_) rfl (by kernel_rfl) (by kernel_rfl) (by kernel_rfl) (fun _ _ _ h => h) (Or.inl ⟨by rfl, ?_⟩) hHeld ?_
          rotate_left
          · (intro W hSw; (try dsimp only at hSw); go_simp; try with_reducible rfl)
          try simp only [Act.put, List.setIfInBounds_toArray, List.set_cons_zero, List.set_cons_succ, List.getElem_toArray, List.getElem_cons_succ, List.getElem_cons_zero]
          refine wpAnyH_ready (rs := [23, 25]) (by kernel_rfl) (by simp) ?_
          refine AllReadyH.cons (o := ?_) ?_ (fun K' hK => ?_) ?_
          rotate_left
          · (simp only [List.getElem?_toArray, List.getElem?_cons_succ, List.getElem?_cons_zero] <;> rfl)
          · skip
            go_simp; go_at_call 34; refine (D.out _ _ _).mono ?_; rintro e w6 ⟨rfl, rfl⟩; go_wp2_with fail
            refine hK.out _ _ ?_ (fun hHeld' => ?_)
            · exact ⟨KEEP.out _ (by (repeat' (first | exact Below.refl _ _ | assumption | refine Below.drew ?_ | refine W.below_drewN ?_ _ | (refine Below.alloc ?_ (by simp <;> omega) _) | (refine Below.setCell ?_ (by simp <;> omega) _)))), by (refine Eq.trans (Blk.cell (t := 5) (cs := C5) ?_ 0) k5; (repeat' (first | (with_reducible exact Blk.new' (by simp) _ _) | (with_reducible refine Blk.alloc ?_ _) | (with_reducible refine Blk.drew ?_) | (with_reducible refine Blk.drewN ?_ _))))⟩
            clear hK K' hHeld
            have hHeld := hHeld'
            clear hHeld'
            try simp only [Act.put, List.setIfInBounds_toArray, List.set_cons_zero, List.set_cons_succ, List.getElem_toArray, List.getElem_cons_succ, List.getElem_cons_zero]
            refine wpAnyH_take (i := 24) (v := ?_) rfl (by kernel_rfl) (by kernel_rfl) (by kernel_rfl) (fun _ _ _ h => h) (Or.inl ⟨by rfl, ?_⟩) hHeld ?_
            rotate_left
            · (intro W hSw; (try dsimp only at hSw); go_simp; try with_reducible rfl)
            try simp only [Act.put, List.setIfInBounds_toArray, List.set_cons_zero, List.set_cons_succ, List.getElem_toArray, List.getElem_cons_succ, List.getElem_cons_zero]
            refine wpAnyH_ready (rs := [25]) (by kernel_rfl) (by simp) ?_
            refine AllReadyH.cons (o := ?_) ?_ (fun K' hK => ?_) ?_
            rotate_left
            · (simp only [List.getElem?_toArray, List.getElem?_cons_succ, List.getElem?_cons_zero] <;> rfl)
            · skip
              go_simp
              refine hK.out _ _ ?_ (fun hHeld' => ?_)
              · exact ⟨KEEP.out _ (by (repeat' (first | exact Below.refl _ _ | assumption | refine Below.drew ?_ | refine W.below_drewN ?_ _ | (refine Below.alloc ?_ (by simp <;> omega) _) | (refine Below.setCell ?_ (by simp <;> omega) _)))), by (refine Eq.trans (Blk.cell (t := 5) (cs := C5) ?_ 0) k5; (repeat' (first | (with_reducible exact Blk.new' (by simp) _ _) | (with_reducible refine Blk.alloc ?_ _) | (with_reducible refine Blk.drew ?_) | (with_reducible refine Blk.drewN ?_ _))))⟩
              clear hK K' hHeld
              have hHeld := hHeld'
              clear hHeld'
              try simp only [Act.put, List.setIfInBounds_toArray, List.set_cons_zero, List.set_cons_succ, List.getElem_toArray, List.getElem_cons_succ, List.getElem_cons_zero]
              refine wpAnyH_ready (rs := [26]) (by kernel_rfl) (by simp) ?_
              refine AllReadyH.cons (o := ?_) ?_ (fun K' hK => ?_) ?_
              rotate_left
              · (simp only [List.getElem?_toArray, List.getElem?_cons_succ, List.getElem?_cons_zero] <;> rfl)
              · skip
                go_simp
                refine hK.out _ _ ?_ (fun hHeld' => ?_)
                · exact ⟨KEEP.out _ (by (repeat' (first | exact Below.refl _ _ | assumption | refine Below.drew ?_ | refine W.below_drewN ?_ _ | (refine Below.alloc ?_ (by simp <;> omega) _) | (refine Below.setCell ?_ (by simp <;> omega) _)))), by (refine Eq.trans (Blk.cell (t := 5) (cs := C5) ?_ 0) k5; (repeat' (first | (with_reducible exact Blk.new' (by simp) _ _) | (with_reducible refine Blk.alloc ?_ _) | (with_reducible refine Blk.drew ?_) | (with_reducible refine Blk.drewN ?_ _))))⟩
                clear hK K' hHeld
                have hHeld := hHeld'
                clear hHeld'
                try simp only [Act.put, List.setIfInBounds_toArray, List.set_cons_zero, List.set_cons_succ, List.getElem_toArray, List.getElem_cons_succ, List.getElem_cons_zero]
                refine wpAnyH_done (by kernel_rfl) ?_ _
                go_wp2_with fail
                go_meet
                exact ⟨_, rfl, by (first | exact Nat.le_refl _ | omega | (simp <;> omega)), by (repeat' (first | (with_reducible exact Blk.new' (by simp) _ _) | (with_reducible refine Blk.alloc ?_ _) | (with_reducible refine Blk.drew ?_) | (with_reducible refine Blk.drewN ?_ _))), by (repeat' (first | exact Below.refl _ _ | assumption | refine Below.drew ?_ | refine W.below_drewN ?_ _ | (refine Below.alloc ?_ (by simp <;> omega) _) | (refine Below.setCell ?_ (by simp <;> omega) _)))⟩
              exact AllReadyH.nil
            exact AllReadyH.nil
          refine AllReadyH.cons (o := ?_) ?_ (fun K' hK => ?_) ?_
          rotate_left
          · (simp only [List.getElem?_toArray, List.getElem?_cons_succ, List.getElem?_cons_zero] <;> rfl)
          · skip
            go_simp
            refine hK.out _ _ ?_ (fun hHeld' => ?_)
            · exact ⟨KEEP.out _ (by (repeat' (first | exact Below.refl _ _ | assumption | refine Below.drew ?_ | refine W.below_drewN ?_ _ | (refine Below.alloc ?_ (by simp <;> omega) _) | (refine Below.setCell ?_ (by simp <;> omega) _)))), by (refine Eq.trans (Blk.cell (t := 5) (cs := C5) ?_ 0) k5; (repeat' (first | (with_reducible exact Blk.new' (by simp) _ _) | (with_reducible refine Blk.alloc ?_ _) | (with_reducible refine Blk.drew ?_) | (with_reducible refine Blk.drewN ?_ _))))⟩
            clear hK K' hHeld
            have hHeld := hHeld'
            clear hHeld'
            try simp only [Act.put, List.setIfInBounds_toArray, List.set_cons_zero, List.set_cons_succ, List.getElem_toArray, List.getElem_cons_succ, List.getElem_cons_zero]
            refine wpAnyH_ready (rs := [23]) (by kernel_rfl) (by simp) ?_
            refine AllReadyH.cons (o := ?_) ?_ (fun K' hK => ?_) ?_
            rotate_left
            · (simp only [List.getElem?_toArray, List.getElem?_cons_succ, List.getElem?_cons_zero] <;> rfl)
            · skip
              go_simp; go_at_call 34; refine (D.out _ _ _).mono ?_; rintro e w6 ⟨rfl, rfl⟩; go_wp2_with fail
              refine hK.out _ _ ?_ (fun hHeld' => ?_)
              · exact ⟨KEEP.out _ (by (repeat' (first | exact Below.refl _ _ | assumption | refine Below.drew ?_ | refine W.below_drewN ?_ _ | (refine Below.alloc ?_ (by simp <;> omega) _) | (refine Below.setCell ?_ (by simp <;> omega) _)))), by (refine Eq.trans (Blk.cell (t := 5) (cs := C5) ?_ 0) k5; (repeat' (first | (with_reducible exact Blk.new' (by simp) _ _) | (with_reducible refine Blk.alloc ?_ _) | (with_reducible refine Blk.drew ?_) | (with_reducible refine Blk.drewN ?_ _))))⟩
              clear hK K' hHeld
              have hHeld := hHeld'
              clear hHeld'
              try simp only [Act.put, List.setIfInBounds_toArray, List.set_cons_zero, List.set_cons_succ, List.getElem_toArray, List.getElem_cons_succ, List.getElem_cons_zero]
              refine wpAnyH_take (i := 24) (v := ?_) rfl (by kernel_rfl) (by kernel_rfl) (by kernel_rfl) (fun _ _ _ h => h) (Or.inl ⟨by rfl, ?_⟩) hHeld ?_
              rotate_left
              · (intro W hSw; (try dsimp only at hSw); go_simp; try with_reducible rfl)
              try simp only [Act.put, List.setIfInBounds_toArray, List.set_cons_zero, List.set_cons_succ, List.getElem_toArray, List.getElem_cons_succ, List.getElem_cons_zero]
              refine wpAnyH_ready (rs := [26]) (by kernel_rfl) (by simp) ?_
              refine AllReadyH.cons (o := ?_) ?_ (fun K' hK => ?_) ?_
              rotate_left
              · (simp only [List.getElem?_toArray, List.getElem?_cons_succ, List.getElem?_cons_zero] <;> rfl)
              · skip
                go_simp
                refine hK.out _ _ ?_ (fun hHeld' => ?_)
                · exact ⟨KEEP.out _ (by (repeat' (first | exact Below.refl _ _ | assumption | refine Below.drew ?_ | refine W.below_drewN ?_ _ | (refine Below.alloc ?_ (by simp <;> omega) _) | (refine Below.setCell ?_ (by simp <;> omega) _)))), by (refine Eq.trans (Blk.cell (t := 5) (cs := C5) ?_ 0) k5; (repeat' (first | (with_reducible exact Blk.new' (by simp) _ _) | (with_reducible refine Blk.alloc ?_ _) | (with_reducible refine Blk.drew ?_) | (with_reducible refine Blk.drewN ?_ _))))⟩
                clear hK K' hHeld
                have hHeld := hHeld'
                clear hHeld'
                try simp only [Act.put, List.setIfInBounds_toArray, List.set_cons_zero, List.set_cons_succ, List.getElem_toArray, List.getElem_cons_succ, List.getElem_cons_zero]
                refine wpAnyH_done (by kernel_rfl) ?_ _
                go_wp2_with fail
                go_meet
                exact ⟨_, rfl, by (first | exact Nat.le_refl _ | omega | (simp <;> omega)), by (repeat' (first | (with_reducible exact Blk.new' (by simp) _ _) | (with_reducible refine Blk.alloc ?_ _) | (with_reducible refine Blk.drew ?_) | (with_reducible refine Blk.drewN ?_ _))), by (repeat' (first | exact Below.refl _ _ | assumption | refine Below.drew ?_ | refine W.below_drewN ?_ _ | (refine Below.alloc ?_ (by simp <;> omega) _) | (refine Below.setCell ?_ (by simp <;> omega) _)))⟩
              exact AllReadyH.nil
            exact AllReadyH.nil
          exact AllReadyH.nil
        refine AllReadyH.cons (o := ?_) ?_ (fun K' hK => ?_) ?_
        rotate_left
        · (simp only [List.getElem?_toArray, List.getElem?_cons_succ, List.getElem?_cons_zero] <;> rfl)
        · skip
          go_simp
          refine hK.out _ _ ?_ (fun hHeld' => ?_)
          · exact KEEP.out _ (by (repeat' (first | exact Below.refl _ _ | assumption | refine Below.drew ?_ | refine W.below_drewN ?_ _ | (refine Below.alloc ?_ (by simp <;> omega) _) | (refine Below.setCell ?_ (by simp <;> omega) _))))
          clear hK K' hHeld
          have hHeld := hHeld'
          clear hHeld'
          try simp only [Act.put, List.setIfInBounds_toArray, List.set_cons_zero, List.set_cons_succ, List.getElem_toArray, List.getElem_cons_succ, List.getElem_cons_zero]
          refine wpAnyH_ready (rs := [20]) (by kernel_rfl) (by simp) ?_
          refine AllReadyH.cons (o := ?_) ?_ (fun K' hK => ?_) ?_
          rotate_left
          · (simp only [List.getElem?_toArray, List.getElem?_cons_succ, List.getElem?_cons_zero] <;> rfl)
          · skip
            refine step_append_new _ u8_one' (by rfl) _ _ 22 (by rfl) 5 i0 (.int .u8 0) 1 Try.underlying22 hi hz0 hz1 hz2 rfl w.heap.size A n b (by rfl) (SB.out _ ?_) HL.out _ x (by rfl) ?_ y HY.out (by unfold maxLen; omega) (by omega) ?_
            · exact hHeld.1
            · first | exact cell_one_new _ _ _ | (go_simp; done) | (go_simp; rfl)
            intro c5 C5 k5 hc5; rw [u8_def] at k5; try simp only [Act.put, List.setIfInBounds_toArray, List.set_cons_zero, List.set_cons_succ, List.getElem_toArray, List.getElem_cons_succ, List.getElem_cons_zero]
            refine hK.out _ _ ?_ (fun hHeld' => ?_)
            · exact KEEP.out _ (by (repeat' (first | exact Below.refl _ _ | assumption | refine Below.drew ?_ | refine W.below_drewN ?_ _ | (refine Below.alloc ?_ (by simp <;> omega) _) | (refine Below.setCell ?_ (by simp <;> omega) _))))
            clear hK K' hHeld
            have hHeld := hHeld'
            clear hHeld'
            try simp only [Act.put, List.setIfInBounds_toArray, List.set_cons_zero, List.set_cons_succ, List.getElem_toArray, List.getElem_cons_succ, List.getElem_cons_zero]
            refine wpAnyH_take (i := 21) (v := ?_) rfl (by kernel_rfl) (by kernel_rfl) (by kernel_rfl) (fun _ _ _ h => h) (Or.inl ⟨by rfl, ?_⟩) hHeld ?_
            rotate_left
            · (intro W hSw; (try dsimp only at hSw); go_simp; try with_reducible rfl)
            try simp only [Act.put, List.setIfInBounds_toArray, List.set_cons_zero, List.set_cons_succ, List.getElem_toArray, List.getElem_cons_succ, List.getElem_cons_zero]
            refine wpAnyH_more (T := fun W => (Below w2.heap.size w2 W ∧ W.cell? ⟨w.heap.size, 0, none⟩ = some (.int .i64 (K : Int)) ∧ W.cell? ⟨w.heap.size, 1, none⟩ = some (.slice A n c) ∧ W.cell? ⟨w.heap.size, 2, none⟩ = some (.int .u32 (hv.toNat : Int))) ∧ W.cell? ⟨w2.heap.size + 1 + 1 + 1, 0, none⟩ = some (.int .u8 (y.toNat : Int))) (fun _ h => h.1) ⟨hHeld, ?_⟩ (fun hHeld1 => ?_)
            · (first | exact cell_new_row (by simp) k5 | exact cell_new_row_d (by simp) k5 | go_simp)
            clear hHeld
            have hHeld := hHeld1
            clear hHeld1
            refine wpAnyH_take (i := 22) (v := ?_) rfl (by kernel_rfl) (by kernel_rfl) (by kernel_rfl) (fun _ _ _ h => h) (Or.inl ⟨by rfl, ?_⟩) hHeld ?_
            rotate_left
            · (intro W hSw; (try dsimp only at hSw); go_simp; try with_reducible rfl)
            try simp only [Act.put, List.setIfInBounds_toArray, List.set_cons_zero, List.set_cons_succ, List.getElem_toArray, List.getElem_cons_succ, List.getElem_cons_zero]
            refine wpAnyH_ready (rs := [23]) (by kernel_rfl) (by simp) ?_
            refine AllReadyH.cons (o := ?_) ?_ (fun K' hK => ?_) ?_
            rotate_left
            · (simp only [List.getElem?_toArray, List.getElem?_cons_succ, List.getElem?_cons_zero] <;> rfl)
            · skip
              go_simp; go_at_call 34; refine (D.out _ _ _).mono ?_; rintro e w6 ⟨rfl, rfl⟩; go_wp2_with fail
              refine hK.out _ _ ?_ (fun hHeld' => ?_)
              · exact ⟨KEEP.out _ (by (repeat' (first | exact Below.refl _ _ | assumption | refine Below.drew ?_ | refine W.below_drewN ?_ _ | (refine Below.alloc ?_ (by simp <;> omega) _) | (refine Below.setCell ?_ (by simp <;> omega) _)))), by (refine Eq.trans (Blk.cell (t := 5) (cs := C5) ?_ 0) k5; (repeat' (first | (with_reducible exact Blk.new' (by simp) _ _) | (with_reducible refine Blk.alloc ?_ _) | (with_reducible refine Blk.drew ?_) | (with_reducible refine Blk.drewN ?_ _))))⟩
              clear hK K' hHeld
              have hHeld := hHeld'
              clear hHeld'
              try simp only [Act.put, List.setIfInBounds_toArray, List.set_cons_zero, List.set_cons_succ, List.getElem_toArray, List.getElem_cons_succ, List.getElem_cons_zero]
              refine wpAnyH_take (i := 24) (v := ?_) rfl (by kernel_rfl) (by kernel_rfl) (by kernel_rfl) (fun _ _ _ h => h) (Or.inl ⟨by rfl, ?_⟩) hHeld ?_
              rotate_left
              · (intro W hSw; (try dsimp only at hSw); go_simp; try with_reducible rfl)
              try simp only [Act.put, List.setIfInBounds_toArray, List.set_cons_zero, List.set_cons_succ, List.getElem_toArray, List.getElem_cons_succ, List.getElem_cons_zero]
              refine wpAnyH_ready (rs := [26]) (by kernel_rfl) (by simp) ?_
              refine AllReadyH.cons (o := ?_) ?_ (fun K' hK => ?_) ?_
              rotate_left
              · (simp only [List.getElem?_toArray, List.getElem?_cons_succ, List.getElem?_cons_zero] <;> rfl)
              · skip
                go_simp
                refine hK.out _ _ ?_ (fun hHeld' => ?_)
                · exact ⟨KEEP.out _ (by (repeat' (first | exact Below.refl _ _ | assumption | refine Below.drew ?_ | refine W.below_drewN ?_ _ | (refine Below.alloc ?_ (by simp <;> omega) _) | (refine Below.setCell ?_ (by simp <;> omega) _)))), by (refine Eq.trans (Blk.cell (t := 5) (cs := C5) ?_ 0) k5; (repeat' (first | (with_reducible exact Blk.new' (by simp) _ _) | (with_reducible refine Blk.alloc ?_ _) | (with_reducible refine Blk.drew ?_) | (with_reducible refine Blk.drewN ?_ _))))⟩
                clear hK K' hHeld
                have hHeld := hHeld'
                clear hHeld'
                try simp only [Act.put, List.setIfInBounds_toArray, List.set_cons_zero, List.set_cons_succ, List.getElem_toArray, List.getElem_cons_succ, List.getElem_cons_zero]
                refine wpAnyH_done (by kernel_rfl) ?_ _
                go_wp2_with fail
                go_meet
                exact ⟨_, rfl, by (first | exact Nat.le_refl _ | omega | (simp <;> omega)), by (repeat' (first | (with_reducible exact Blk.new' (by simp) _ _) | (with_reducible refine Blk.alloc ?_ _) | (with_reducible refine Blk.drew ?_) | (with_reducible refine Blk.drewN ?_ _))), by (repeat' (first | exact Below.refl _ _ | assumption | refine Below.drew ?_ | refine W.below_drewN ?_ _ | (refine Below.alloc ?_ (by simp <;> omega) _) | (refine Below.setCell ?_ (by simp <;> omega) _)))⟩
              exact AllReadyH.nil
            exact AllReadyH.nil
          exact AllReadyH.nil
        exact AllReadyH.nil
      refine AllReadyH.cons (o := ?_) ?_ (fun K' hK => ?_) ?_
      rotate_left
      · (simp only [List.getElem?_toArray, List.getElem?_cons_succ, List.getElem?_cons_zero] <;> rfl)
      · skip
        go_simp
        refine hK.out _ _ ?_ (fun hHeld' => ?_)
        · exact KEEP.out _ (by (repeat' (first | exact Below.refl _ _ | assumption | refine Below.drew ?_ | refine W.below_drewN ?_ _ | (refine Below.alloc ?_ (by simp <;> omega) _) | (refine Below.setCell ?_ (by simp <;> omega) _))))
        clear hK K' hHeld
        have hHeld := hHeld'
        clear hHeld'
        try simp only [Act.put, List.setIfInBounds_toArray, List.set_cons_zero, List.set_cons_succ, List.getElem_toArray, List.getElem_cons_succ, List.getElem_cons_zero]
        refine wpAnyH_ready (rs := [19]) (by kernel_rfl) (by simp) ?_
        refine AllReadyH.cons (o := ?_) ?_ (fun K' hK => ?_) ?_
        rotate_left
        · (simp only [List.getElem?_toArray, List.getElem?_cons_succ, List.getElem?_cons_zero] <;> rfl)
        · skip
          go_simp
          refine hK.out _ _ ?_ (fun hHeld' => ?_)
          · exact KEEP.out _ (by (repeat' (first | exact Below.refl _ _ | assumption | refine Below.drew ?_ | refine W.below_drewN ?_ _ | (refine Below.alloc ?_ (by simp <;> omega) _) | (refine Below.setCell ?_ (by simp <;> omega) _))))
          clear hK K' hHeld
          have hHeld := hHeld'
          clear hHeld'
          try simp only [Act.put, List.setIfInBounds_toArray, List.set_cons_zero, List.set_cons_succ, List.getElem_toArray, List.getElem_cons_succ, List.getElem_cons_zero]
          refine wpAnyH_ready (rs := [20]) (by kernel_rfl) (by simp) ?_
          refine AllReadyH.cons (o := ?_) ?_ (fun K' hK => ?_) ?_
          rotate_left
          · (simp only [List.getElem?_toArray, List.getElem?_cons_succ, List.getElem?_cons_zero] <;> rfl)
          · skip
            refine step_append_new _ u8_one' (by rfl) _ _ 22 (by rfl) 5 i0 (.int .u8 0) 1 Try.underlying22 hi hz0 hz1 hz2 rfl w.heap.size A n b (by rfl) (SB.out _ ?_) HL.out _ x (by rfl) ?_ y HY.out (by unfold maxLen; omega) (by omega) ?_
            · exact hHeld.1
            · first | exact cell_one_new _ _ _ | (go_simp; done) | (go_simp; rfl)
            intro c5 C5 k5 hc5; rw [u8_def] at k5; try simp only [Act.put, List.setIfInBounds_toArray, List.set_cons_zero, List.set_cons_succ, List.getElem_toArray, List.getElem_cons_succ, List.getElem_cons_zero]
            refine hK.out _ _ ?_ (fun hHeld' => ?_)
            · exact KEEP.out _ (by (repeat' (first | exact Below.refl _ _ | assumption | refine Below.drew ?_ | refine W.below_drewN ?_ _ | (refine Below.alloc ?_ (by simp <;> omega) _) | (refine Below.setCell ?_ (by simp <;> omega) _))))
            clear hK K' hHeld
            have hHeld := hHeld'
            clear hHeld'
            try simp only [Act.put, List.setIfInBounds_toArray, List.set_cons_zero, List.set_cons_succ, List.getElem_toArray, List.getElem_cons_succ, List.getElem_cons_zero]
            refine wpAnyH_take (i := 21) (v := ?_) rfl (by kernel_rfl) (by kernel_rfl) (by kernel_rfl) (fun _ _ _ h => h) (Or.inl ⟨by rfl, ?_⟩) hHeld ?_
            rotate_left
            · (intro W hSw; (try dsimp only at hSw); go_simp; try with_reducible rfl)
            try simp only [Act.put, List.setIfInBounds_toArray, List.set_cons_zero, List.set_cons_succ, List.getElem_toArray, List.getElem_cons_succ, List.getElem_cons_zero]
            refine wpAnyH_more (T := fun W => (Below w2.heap.size w2 W ∧ W.cell? ⟨w.heap.size, 0, none⟩ = some (.int .i64 (K : Int)) ∧ W.cell? ⟨w.heap.size, 1, none⟩ = some (.slice A n c) ∧ W.cell? ⟨w.heap.size, 2, none⟩ = some (.int .u32 (hv.toNat : Int))) ∧ W.cell? ⟨w2.heap.size + 1 + 1 + 1, 0, none⟩ = some (.int .u8 (y.toNat : Int))) (fun _ h => h.1) ⟨hHeld, ?_⟩ (fun hHeld1 => ?_)
            · (first | exact cell_new_row (by simp) k5 | exact cell_new_row_d (by simp) k5 | go_simp)
            clear hHeld
            have hHeld := hHeld1
            clear hHeld1
            refine wpAnyH_take (i := 22) (v := ?_) rfl (by kernel_rfl) (by kernel_rfl) (by kernel_rfl) (fun _ _ _ h => h) (Or.inl ⟨by rfl, ?_⟩) hHeld ?_
            rotate_left
            · (intro W hSw; (try dsimp only at hSw); go_simp; try with_reducible rfl)
            try simp only [Act.put, List.setIfInBounds_toArray, List.set_cons_zero, List.set_cons_succ, List.getElem_toArray, List.getElem_cons_succ, List.getElem_cons_zero]
            refine wpAnyH_ready (rs := [23]) (by kernel_rfl) (by simp) ?_
            refine AllReadyH.cons (o := ?_) ?_ (fun K' hK => ?_) ?_
            rotate_left
            · (simp only [List.getElem?_toArray, List.getElem?_cons_succ, List.getElem?_cons_zero] <;> rfl)
            · skip
              go_simp; go_at_call 34; refine (D.out _ _ _).mono ?_; rintro e w6 ⟨rfl, rfl⟩; go_wp2_with fail
              refine hK.out _ _ ?_ (fun hHeld' => ?_)
              · exact ⟨KEEP.out _ (by (repeat' (first | exact Below.refl _ _ | assumption | refine Below.drew ?_ | refine W.below_drewN ?_ _ | (refine Below.alloc ?_ (by simp <;> omega) _) | (refine Below.setCell ?_ (by simp <;> omega) _)))), by (refine Eq.trans (Blk.cell (t := 5) (cs := C5) ?_ 0) k5; (repeat' (first | (with_reducible exact Blk.new' (by simp) _ _) | (with_reducible refine Blk.alloc ?_ _) | (with_reducible refine Blk.drew ?_) | (with_reducible refine Blk.drewN ?_ _))))⟩
              clear hK K' hHeld
              have hHeld := hHeld'
              clear hHeld'
              try simp only [Act.put, List.setIfInBounds_toArray, List.set_cons_zero, List.set_cons_succ, List.getElem_toArray, List.getElem_cons_succ, List.getElem_cons_zero]
              refine wpAnyH_take (i := 24) (v := ?_) rfl (by kernel_rfl) (by kernel_rfl) (by kernel_rfl) (fun _ _ _ h => h) (Or.inl ⟨by rfl, ?_⟩) hHeld ?_
              rotate_left
              · (intro W hSw; (try dsimp only at hSw); go_simp; try with_reducible rfl)
              try simp only [Act.put, List.setIfInBounds_toArray, List.set_cons_zero, List.set_cons_succ, List.getElem_toArray, List.getElem_cons_succ, List.getElem_cons_zero]
              refine wpAnyH_ready (rs := [26]) (by kernel_rfl) (by simp) ?_
              refine AllReadyH.cons (o := ?_) ?_ (fun K' hK => ?_) ?_
              rotate_left
              · (simp only [List.getElem?_toArray, List.getElem?_cons_succ, List.getElem?_cons_zero] <;> rfl)
              · skip
                go_simp
                refine hK.out _ _ ?_ (fun hHeld' => ?_)
                · exact ⟨KEEP.out _ (by (repeat' (first | exact Below.refl _ _ | assumption | refine Below.drew ?_ | refine W.below_drewN ?_ _ | (refine Below.alloc ?_ (by simp <;> omega) _) | (refine Below.setCell ?_ (by simp <;> omega) _)))), by (refine Eq.trans (Blk.cell (t := 5) (cs := C5) ?_ 0) k5; (repeat' (first | (with_reducible exact Blk.new' (by simp) _ _) | (with_reducible refine Blk.alloc ?_ _) | (with_reducible refine Blk.drew ?_) | (with_reducible refine Blk.drewN ?_ _))))⟩
                clear hK K' hHeld
                have hHeld := hHeld'
                clear hHeld'
                try simp only [Act.put, List.setIfInBounds_toArray, List.set_cons_zero, List.set_cons_succ, List.getElem_toArray, List.getElem_cons_succ, List.getElem_cons_zero]
                refine wpAnyH_done (by kernel_rfl) ?_ _
                go_wp2_with fail
                go_meet
                exact ⟨_, rfl, by (first | exact Nat.le_refl _ | omega | (simp <;> omega)), by (repeat' (first | (with_reducible exact Blk.new' (by simp) _ _) | (with_reducible refine Blk.alloc ?_ _) | (with_reducible refine Blk.drew ?_) | (with_reducible refine Blk.drewN ?_ _))), by (repeat' (first | exact Below.refl _ _ | assumption | refine Below.drew ?_ | refine W.below_drewN ?_ _ | (refine Below.alloc ?_ (by simp <;> omega) _) | (refine Below.setCell ?_ (by simp <;> omega) _)))⟩
              exact AllReadyH.nil
            exact AllReadyH.nil
          exact AllReadyH.nil
        exact AllReadyH.nil
      exact AllReadyH.nil
    refine AllReadyH.cons (o := ?_) ?_ (fun K' hK => ?_) ?_
    rotate_left
    · (simp only [List.getElem?_toArray, List.getElem?_cons_succ, List.getElem?_cons_zero] <;> rfl)
    · skip
      go_simp
      refine hK.out _ _ ?_ (fun hHeld' => ?_)
      · exact KEEP.out _ (by (repeat' (first | exact Below.refl _ _ | assumption | refine Below.drew ?_ | refine W.below_drewN ?_ _ | (refine Below.alloc ?_ (by simp <;> omega) _) | (refine Below.setCell ?_ (by simp <;> omega) _))))
      clear hK K' hHeld
      have hHeld := hHeld'
      clear hHeld'
      try simp only [Act.put, List.setIfInBounds_toArray, List.set_cons_zero, List.set_cons_succ, List.getElem_toArray, List.getElem_cons_succ, List.getElem_cons_zero]
      refine wpAnyH_ready (rs := [4, 25]) (by kernel_rfl) (by simp) ?_
      refine AllReadyH.cons (o := ?_) ?_ (fun K' hK => ?_) ?_
      rotate_left
      · (simp only [List.getElem?_toArray, List.getElem?_cons_succ, List.getElem?_cons_zero] <;> rfl)
      · skip
        go_simp; go_at_call 28; refine (roller_ok (K : Int) _).mono ?_; rintro e w3 ⟨rfl, rfl⟩; go_wp2_with fail
        refine hK.out _ _ ?_ (fun hHeld' => ?_)
        · exact KEEP.out _ (by (repeat' (first | exact Below.refl _ _ | assumption | refine Below.drew ?_ | refine W.below_drewN ?_ _ | (refine Below.alloc ?_ (by simp <;> omega) _) | (refine Below.setCell ?_ (by simp <;> omega) _))))
        clear hK K' hHeld
        have hHeld := hHeld'
        clear hHeld'
        try simp only [Act.put, List.setIfInBounds_toArray, List.set_cons_zero, List.set_cons_succ, List.getElem_toArray, List.getElem_cons_succ, List.getElem_cons_zero]
        refine wpAnyH_ready (rs := [20, 25]) (by kernel_rfl) (by simp) ?_
        refine AllReadyH.cons (o := ?_) ?_ (fun K' hK => ?_) ?_
        rotate_left
        · (simp only [List.getElem?_toArray, List.getElem?_cons_succ, List.getElem?_cons_zero] <;> rfl)
        · skip
          refine step_append_new _ u8_one' (by rfl) _ _ 22 (by rfl) 5 i0 (.int .u8 0) 1 Try.underlying22 hi hz0 hz1 hz2 rfl w.heap.size A n b (by rfl) (SB.out _ ?_) HL.out _ x (by rfl) ?_ y HY.out (by unfold maxLen; omega) (by omega) ?_
          · exact hHeld.1
          · first | exact cell_one_new _ _ _ | (go_simp; done) | (go_simp; rfl)
          intro c5 C5 k5 hc5; rw [u8_def] at k5; try simp only [Act.put, List.setIfInBounds_toArray, List.set_cons_zero, List.set_cons_succ, List.getElem_toArray, List.getElem_cons_succ, List.getElem_cons_zero]
          refine hK.out _ _ ?_ (fun hHeld' => ?_)
          · exact KEEP.out _ (by (repeat' (first | exact Below.refl _ _ | assumption | refine Below.drew ?_ | refine W.below_drewN ?_ _ | (refine Below.alloc ?_ (by simp <;> omega) _) | (refine Below.setCell ?_ (by simp <;> omega) _))))
          clear hK K' hHeld
          have hHeld := hHeld'
          clear hHeld'
          try simp only [Act.put, List.setIfInBounds_toArray, List.set_cons_zero, List.set_cons_succ, List.getElem_toArray, List.getElem_cons_succ, List.getElem_cons_zero]
          refine wpAnyH_take (i := 21) (v := ?_) rfl (by kernel_rfl) (by kernel_rfl) (by kernel_rfl) (fun _ _ _ h => h) (Or.inl ⟨by rfl, ?_⟩) hHeld ?_
          rotate_left
          · (intro W hSw; (try dsimp only at hSw); go_simp; try with_reducible rfl)
          try simp only [Act.put, List.setIfInBounds_toArray, List.set_cons_zero, List.set_cons_succ, List.getElem_toArray, List.getElem_cons_succ, List.getElem_cons_zero]
          refine wpAnyH_more (T := fun W => (Below w2.heap.size w2 W ∧ W.cell? ⟨w.heap.size, 0, none⟩ = some (.int .i64 (K : Int)) ∧ W.cell? ⟨w.heap.size, 1, none⟩ = some (.slice A n c) ∧ W.cell? ⟨w.heap.size, 2, none⟩ = some (.int .u32 (hv.toNat : Int))) ∧ W.cell? ⟨w2.heap.size + 1 + 1, 0, none⟩ = some (.int .u8 (y.toNat : Int))) (fun _ h => h.1) ⟨hHeld, ?_⟩ (fun hHeld1 => ?_)
          · (first | exact cell_new_row (by simp) k5 | exact cell_new_row_d (by simp) k5 | go_simp)
          clear hHeld
          have hHeld := hHeld1
          clear hHeld1
          refine wpAnyH_take (i := 22) (v := ?_) rfl (by kernel_rfl) (by kernel_rfl) (by kernel_rfl) (fun _ _ _ h => h) (Or.inl ⟨by rfl, ?_⟩) hHeld ?_
          rotate_left
          · (intro W hSw; (try dsimp only at hSw); go_simp; try with_reducible rfl)
          try simp only [Act.put, List.setIfInBounds_toArray, List.set_cons_zero, List.set_cons_succ, List.getElem_toArray, List.getElem_cons_succ, List.getElem_cons_zero]
          refine wpAnyH_ready (rs := [23, 25]) (by kernel_rfl) (by simp) ?_
          refine AllReadyH.cons (o := ?_) ?_ (fun K' hK => ?_) ?_
          rotate_left
          · (simp only [List.getElem?_toArray, List.getElem?_cons_succ, List.getElem?_cons_zero] <;> rfl)
          · skip
            go_simp; go_at_call 34; refine (D.out _ _ _).mono ?_; rintro e w6 ⟨rfl, rfl⟩; go_wp2_with fail
            refine hK.out _ _ ?_ (fun hHeld' => ?_)
            · exact ⟨KEEP.out _ (by (repeat' (first | exact Below.refl _ _ | assumption | refine Below.drew ?_ | refine W.below_drewN ?_ _ | (refine Below.alloc ?_ (by simp <;> omega) _) | (refine Below.setCell ?_ (by simp <;> omega) _)))), by (refine Eq.trans (Blk.cell (t := 5) (cs := C5) ?_ 0) k5; (repeat' (first | (with_reducible exact Blk.new' (by simp) _ _) | (with_reducible refine Blk.alloc ?_ _) | (with_reducible refine Blk.drew ?_) | (with_reducible refine Blk.drewN ?_ _))))⟩
            clear hK K' hHeld
            have hHeld := hHeld'
            clear hHeld'
            try simp only [Act.put, List.setIfInBounds_toArray, List.set_cons_zero, List.set_cons_succ, List.getElem_toArray, List.getElem_cons_succ, List.getElem_cons_zero]
            refine wpAnyH_take (i := 24) (v := ?_) rfl (by kernel_rfl) (by kernel_rfl) (by kernel_rfl) (fun _ _ _ h => h) (Or.inl ⟨by rfl, ?_⟩) hHeld ?_
            rotate_left
            · (intro W hSw; (try dsimp only at hSw); go_simp; try with_reducible rfl)
            try simp only [Act.put, List.setIfInBounds_toArray, List.set_cons_zero, List.set_cons_succ, List.getElem_toArray, List.getElem_cons_succ, List.getElem_cons_zero]
            refine wpAnyH_ready (rs := [25]) (by kernel_rfl) (by simp) ?_
            refine AllReadyH.cons (o := ?_) ?_ (fun K' hK => ?_) ?_
            rotate_left
            · (simp only [List.getElem?_toArray, List.getElem?_cons_succ, List.getElem?_cons_zero] <;> rfl)
            · skip
              go_simp
              refine hK.out _ _ ?_ (fun hHeld' => ?_)
              · exact ⟨KEEP.out _ (by (repeat' (first | exact Below.refl _ _ | assumption | refine Below.drew ?_ | refine W.below_drewN ?_ _ | (refine Below.alloc ?_ (by simp <;> omega) _) | (refine Below.setCell ?_ (by simp <;> omega) _)))), by (refine Eq.trans (Blk.cell (t := 5) (cs := C5) ?_ 0) k5; (repeat' (first | (with_reducible exact Blk.new' (by simp) _ _) | (with_reducible refine Blk.alloc ?_ _) | (with_reducible refine Blk.drew ?_) | (with_reducible refine Blk.drewN ?_ _))))⟩
              clear hK K' hHeld
              have hHeld := hHeld'
              clear hHeld'
              try simp only [Act.put, List.setIfInBounds_toArray, List.set_cons_zero, List.set_cons_succ, List.getElem_toArray, List.getElem_cons_succ, List.getElem_cons_zero]
              refine wpAnyH_ready (rs := [26]) (by kernel_rfl) (by simp) ?_
              refine AllReadyH.cons (o := ?_) ?_ (fun K' hK => ?_) ?_
              rotate_left
              · (simp only [List.getElem?_toArray, List.getElem?_cons_succ, List.getElem?_cons_zero] <;> rfl)
              · skip
                go_simp
                refine hK.out _ _ ?_ (fun hHeld' => ?_)
                · exact ⟨KEEP.out _ (by (repeat' (first | exact Below.refl _ _ | assumption | refine Below.drew ?_ | refine W.below_drewN ?_ _ | (refine Below.alloc ?_ (by simp <;> omega) _) | (refine Below.setCell ?_ (by simp <;> omega) _)))), by (refine Eq.trans (Blk.cell (t := 5) (cs := C5) ?_ 0) k5; (repeat' (first | (with_reducible exact Blk.new' (by simp) _ _) | (with_reducible refine Blk.alloc ?_ _) | (with_reducible refine Blk.drew ?_) | (with_reducible refine Blk.drewN ?_ _))))⟩
                clear hK K' hHeld
                have hHeld := hHeld'
                clear hHeld'
                try simp only [Act.put, List.setIfInBounds_toArray, List.set_cons_zero, List.set_cons_succ, List.getElem_toArray, List.getElem_cons_succ, List.getElem_cons_zero]
                refine wpAnyH_done (by kernel_rfl) ?_ _
                go_wp2_with fail
                go_meet
                exact ⟨_, rfl, by (first | exact Nat.le_refl _ | omega | (simp <;> omega)), by (repeat' (first | (with_reducible exact Blk.new' (by simp) _ _) | (with_reducible refine Blk.alloc ?_ _) | (with_reducible refine Blk.drew ?_) | (with_reducible refine Blk.drewN ?_ _))), by (repeat' (first | exact Below.refl _ _ | assumption | refine Below.drew ?_ | refine W.below_drewN ?_ _ | (refine Below.alloc ?_ (by simp <;> omega) _) | (refine Below.setCell ?_ (by simp <;> omega) _)))⟩
              exact AllReadyH.nil
            exact AllReadyH.nil
          refine AllReadyH.cons (o := ?_) ?_ (fun K' hK => ?_) ?_
          rotate_left
          · (simp only [List.getElem?_toArray, List.getElem?_cons_succ, List.getElem?_cons_zero] <;> rfl)
          · skip
            go_simp
            refine hK.out _ _ ?_ (fun hHeld' => ?_)
            · exact ⟨KEEP.out _ (by (repeat' (first | exact Below.refl _ _ | assumption | refine Below.drew ?_ | refine W.below_drewN ?_ _ | (refine Below.alloc ?_ (by simp <;> omega) _) | (refine Below.setCell ?_ (by simp <;> omega) _)))), by (refine Eq.trans (Blk.cell (t := 5) (cs := C5) ?_ 0) k5; (repeat' (first | (with_reducible exact Blk.new' (by simp) _ _) | (with_reducible refine Blk.alloc ?_ _) | (with_reducible refine Blk.drew ?_) | (with_reducible refine Blk.drewN ?_ _))))⟩
            clear hK K' hHeld
            have hHeld := hHeld'
            clear hHeld'
            try simp only [Act.put, List.setIfInBounds_toArray, List.set_cons_zero, List.set_cons_succ, List.getElem_toArray, List.getElem_cons_succ, List.getElem_cons_zero]
            refine wpAnyH_ready (rs := [23]) (by kernel_rfl) (by simp) ?_
            refine AllReadyH.cons (o := ?_) ?_ (fun K' hK => ?_) ?_
            rotate_left
            · (simp only [List.getElem?_toArray, List.getElem?_cons_succ, List.getElem?_cons_zero] <;> rfl)
            · skip
              go_simp; go_at_call 34; refine (D.out _ _ _).mono ?_; rintro e w6 ⟨rfl, rfl⟩; go_wp2_with fail
              refine hK.out _ _ ?_ (fun hHeld' => ?_)
              · exact ⟨KEEP.out _ (by (repeat' (first | exact Below.refl _ _ | assumption | refine Below.drew ?_ | refine W.below_drewN ?_ _ | (refine Below.alloc ?_ (by simp <;> omega) _) | (refine Below.setCell ?_ (by simp <;> omega) _)))), by (refine Eq.trans (Blk.cell (t := 5) (cs := C5) ?_ 0) k5; (repeat' (first | (with_reducible exact Blk.new' (by simp) _ _) | (with_reducible refine Blk.alloc ?_ _) | (with_reducible refine Blk.drew ?_) | (with_reducible refine Blk.drewN ?_ _))))⟩
              clear hK K' hHeld
              have hHeld := hHeld'
              clear hHeld'
              try simp only [Act.put, List.setIfInBounds_toArray, List.set_cons_zero, List.set_cons_succ, List.getElem_toArray, List.getElem_cons_succ, List.getElem_cons_zero]
              refine wpAnyH_take (i := 24) (v := ?_) rfl (by kernel_rfl) (by kernel_rfl) (by kernel_rfl) (fun _ _ _ h => h) (Or.inl ⟨by rfl, ?_⟩) hHeld ?_
              rotate_left
              · (intro W hSw; (try dsimp only at hSw); go_simp; try with_reducible rfl)
              try simp only [Act.put, List.setIfInBounds_toArray, List.set_cons_zero, List.set_cons_succ, List.getElem_toArray, List.getElem_cons_succ, List.getElem_cons_zero]
              refine wpAnyH_ready (rs := [26]) (by kernel_rfl) (by simp) ?_
              refine AllReadyH.cons (o := ?_) ?_ (fun K' hK => ?_) ?_
              rotate_left
              · (simp only [List.getElem?_toArray, List.getElem?_cons_succ, List.getElem?_cons_zero] <;> rfl)
              · skip
                go_simp
                refine hK.out _ _ ?_ (fun hHeld' => ?_)
                · exact ⟨KEEP.out _ (by (repeat' (first | exact Below.refl _ _ | assumption | refine Below.drew ?_ | refine W.below_drewN ?_ _ | (refine Below.alloc ?_ (by simp <;> omega) _) | (refine Below.setCell ?_ (by simp <;> omega) _)))), by (refine Eq.trans (Blk.cell (t := 5) (cs := C5) ?_ 0) k5; (repeat' (first | (with_reducible exact Blk.new' (by simp) _ _) | (with_reducible refine Blk.alloc ?_ _) | (with_reducible refine Blk.drew ?_) | (with_reducible refine Blk.drewN ?_ _))))⟩
                clear hK K' hHeld
                have hHeld := hHeld'
                clear hHeld'
                try simp only [Act.put, List.setIfInBounds_toArray, List.set_cons_zero, List.set_cons_succ, List.getElem_toArray, List.getElem_cons_succ, List.getElem_cons_zero]
                refine wpAnyH_done (by kernel_rfl) ?_ _
                go_wp2_with fail
                go_meet
                exact ⟨_, rfl, by (first | exact Nat.le_refl _ | omega | (simp <;> omega)), by (repeat' (first | (with_reducible exact Blk.new' (by simp) _ _) | (with_reducible refine Blk.alloc ?_ _) | (with_reducible refine Blk.drew ?_) | (with_reducible refine Blk.drewN ?_ _))), by (repeat' (first | exact Below.refl _ _ | assumption | refine Below.drew ?_ | refine W.below_drewN ?_ _ | (refine Below.alloc ?_ (by simp <;> omega) _) | (refine Below.setCell ?_ (by simp <;> omega) _)))⟩
              exact AllReadyH.nil
            exact AllReadyH.nil
          exact AllReadyH.nil
        refine AllReadyH.cons (o := ?_) ?_ (fun K' hK => ?_) ?_
        rotate_left
        · (simp only [List.getElem?_toArray, List.getElem?_cons_succ, List.getElem?_cons_zero] <;> rfl)
        · skip
          go_simp
          refine hK.out _ _ ?_ (fun hHeld' => ?_)
          · exact KEEP.out _ (by (repeat' (first | exact Below.refl _ _ | assumption | refine Below.drew ?_ | refine W.below_drewN ?_ _ | (refine Below.alloc ?_ (by simp <;> omega) _) | (refine Below.setCell ?_ (by simp <;> omega) _))))
          clear hK K' hHeld
          have hHeld := hHeld'
          clear hHeld'
          try simp only [Act.put, List.setIfInBounds_toArray, List.set_cons_zero, List.set_cons_succ, List.getElem_toArray, List.getElem_cons_succ, List.getElem_cons_zero]
          refine wpAnyH_ready (rs := [20]) (by kernel_rfl) (by simp) ?_
          refine AllReadyH.cons (o := ?_) ?_ (fun K' hK => ?_) ?_
          rotate_left
          · (simp only [List.getElem?_toArray, List.getElem?_cons_succ, List.getElem?_cons_zero] <;> rfl)
          · skip
            refine step_append_new _ u8_one' (by rfl) _ _ 22 (by rfl) 5 i0 (.int .u8 0) 1 Try.underlying22 hi hz0 hz1 hz2 rfl w.heap.size A n b (by rfl) (SB.out _ ?_) HL.out _ x (by rfl) ?_ y HY.out (by unfold maxLen; omega) (by omega) ?_
            · exact hHeld.1
            · first | exact cell_one_new _ _ _ | (go_simp; done) | (go_simp; rfl)
            intro c5 C5 k5 hc5; rw [u8_def] at k5; try simp only [Act.put, List.setIfInBounds_toArray, List.set_cons_zero, List.set_cons_succ, List.getElem_toArray, List.getElem_cons_succ, List.getElem_cons_zero]
            refine hK.out _ _ ?_ (fun hHeld' => ?_)
            · exact KEEP.out _ (by (repeat' (first | exact Below.refl _ _ | assumption | refine Below.drew ?_ | refine W.below_drewN ?_ _ | (refine Below.alloc ?_ (by simp <;> omega) _) | (refine Below.setCell ?_ (by simp <;> omega) _))))
            clear hK K' hHeld
            have hHeld := hHeld'
            clear hHeld'
            try simp only [Act.put, List.setIfInBounds_toArray, List.set_cons_zero, List.set_cons_succ, List.getElem_toArray, List.getElem_cons_succ, List.getElem_cons_zero]
            refine wpAnyH_take (i := 21) (v := ?_) rfl (by kernel_rfl) (by kernel_rfl) (by kernel_rfl) (fun _ _ _ h => h) (Or.inl ⟨by rfl, ?_⟩) hHeld ?_
            rotate_left
            · (intro W hSw; (try dsimp only at hSw); go_simp; try with_reducible rfl)
            try simp only [Act.put, List.setIfInBounds_toArray, List.set_cons_zero, List.set_cons_succ, List.getElem_toArray, List.getElem_cons_succ, List.getElem_cons_zero]
            refine wpAnyH_more (T := fun W => (Below w2.heap.size w2 W ∧ W.cell? ⟨w.heap.size, 0, none⟩ = some (.int .i64 (K : Int)) ∧ W.cell? ⟨w.heap.size, 1, none⟩ = some (.slice A n c) ∧ W.cell? ⟨w.heap.size, 2, none⟩ = some (.int .u32 (hv.toNat : Int))) ∧ W.cell? ⟨w2.heap.size + 1 + 1 + 1, 0, none⟩ = some (.int .u8 (y.toNat : Int))) (fun _ h => h.1) ⟨hHeld, ?_⟩ (fun hHeld1 => ?_)
            · (first | exact cell_new_row (by simp) k5 | exact cell_new_row_d (by simp) k5 | go_simp)
            clear hHeld
            have hHeld := hHeld1
            clear hHeld1
            refine wpAnyH_take (i := 22) (v := ?_) rfl (by kernel_rfl) (by kernel_rfl) (by kernel_rfl) (fun _ _ _ h => h) (Or.inl ⟨by rfl, ?_⟩) hHeld ?_
            rotate_left
            · (intro W hSw; (try dsimp only at hSw); go_simp; try with_reducible rfl)
            try simp only [Act.put, List.setIfInBounds_toArray, List.set_cons_zero, List.set_cons_succ, List.getElem_toArray, List.getElem_cons_succ, List.getElem_cons_zero]
            refine wpAnyH_ready (rs := [23]) (by kernel_rfl) (by simp) ?_
            refine AllReadyH.cons (o := ?_) ?_ (fun K' hK => ?_) ?_
            rotate_left
            · (simp only [List.getElem?_toArray, List.getElem?_cons_succ, List.getElem?_cons_zero] <;> rfl)
            · skip
              go_simp; go_at_call 34; refine (D.out _ _ _).mono ?_; rintro e w6 ⟨rfl, rfl⟩; go_wp2_with fail
              refine hK.out _ _ ?_ (fun hHeld' => ?_)
              · exact ⟨KEEP.out _ (by (repeat' (first | exact Below.refl _ _ | assumption | refine Below.drew ?_ | refine W.below_drewN ?_ _ | (refine Below.alloc ?_ (by simp <;> omega) _) | (refine Below.setCell ?_ (by simp <;> omega) _)))), by (refine Eq.trans (Blk.cell (t := 5) (cs := C5) ?_ 0) k5; (repeat' (first | (with_reducible exact Blk.new' (by simp) _ _) | (with_reducible refine Blk.alloc ?_ _) | (with_reducible refine Blk.drew ?_) | (with_reducible refine Blk.drewN ?_ _))))⟩
              clear hK K' hHeld
              have hHeld := hHeld'
              clear hHeld'
              try simp only [Act.put, List.setIfInBounds_toArray, List.set_cons_zero, List.set_cons_succ, List.getElem_toArray, List.getElem_cons_succ, List.getElem_cons_zero]
              refine wpAnyH_take (i := 24) (v := ?_) rfl (by kernel_rfl) (by kernel_rfl) (by kernel_rfl) (fun _ _ _ h => h) (Or.inl ⟨by rfl, ?_⟩) hHeld ?_
              rotate_left
              · (intro W hSw; (try dsimp only at hSw); go_simp; try with_reducible rfl)
              try simp only [Act.put, List.setIfInBounds_toArray, List.set_cons_zero, List.set_cons_succ, List.getElem_toArray, List.getElem_cons_succ, List.getElem_cons_zero]
              refine wpAnyH_ready (rs := [26]) (by kernel_rfl) (by simp) ?_
              refine AllReadyH.cons (o := ?_) ?_ (fun K' hK => ?_) ?_
              rotate_left
              · (simp only [List.getElem?_toArray, List.getElem?_cons_succ, List.getElem?_cons_zero] <;> rfl)
              · skip
                go_simp
                refine hK.out _ _ ?_ (fun hHeld' => ?_)
                · exact ⟨KEEP.out _ (by (repeat' (first | exact Below.refl _ _ | assumption | refine Below.drew ?_ | refine W.below_drewN ?_ _ | (refine Below.alloc ?_ (by simp <;> omega) _) | (refine Below.setCell ?_ (by simp <;> omega) _)))), by (refine Eq.trans (Blk.cell (t := 5) (cs := C5) ?_ 0) k5; (repeat' (first | (with_reducible exact Blk.new' (by simp) _ _) | (with_reducible refine Blk.alloc ?_ _) | (with_reducible refine Blk.drew ?_) | (with_reducible refine Blk.drewN ?_ _))))⟩
                clear hK K' hHeld
                have hHeld := hHeld'
                clear hHeld'
                try simp only [Act.put, List.setIfInBounds_toArray, List.set_cons_zero, List.set_cons_succ, List.getElem_toArray, List.getElem_cons_succ, List.getElem_cons_zero]
                refine wpAnyH_done (by kernel_rfl) ?_ _
                go_wp2_with fail
                go_meet
                exact ⟨_, rfl, by (first | exact Nat.le_refl _ | omega | (simp <;> omega)), by (repeat' (first | (with_reducible exact Blk.new' (by simp) _ _) | (with_reducible refine Blk.alloc ?_ _) | (with_reducible refine Blk.drew ?_) | (with_reducible refine Blk.drewN ?_ _))), by (repeat' (first | exact Below.refl _ _ | assumption | refine Below.drew ?_ | refine W.below_drewN ?_ _ | (refine Below.alloc ?_ (by simp <;> omega) _) | (refine Below.setCell ?_ (by simp <;> omega) _)))⟩
              exact AllReadyH.nil
            exact AllReadyH.nil
          exact AllReadyH.nil
        exact AllReadyH.nil
      refine AllReadyH.cons (o := ?_) ?_ (fun K' hK => ?_) ?_
      rotate_left
      · (simp only [List.getElem?_toArray, List.getElem?_cons_succ, List.getElem?_cons_zero] <;> rfl)
      · skip
        go_simp
        refine hK.out _ _ ?_ (fun hHeld' => ?_)
        · exact KEEP.out _ (by (repeat' (first | exact Below.refl _ _ | assumption | refine Below.drew ?_ | refine W.below_drewN ?_ _ | (refine Below.alloc ?_ (by simp <;> omega) _) | (refine Below.setCell ?_ (by simp <;> omega) _))))
        clear hK K' hHeld
        have hHeld := hHeld'
        clear hHeld'
        try simp only [Act.put, List.setIfInBounds_toArray, List.set_cons_zero, List.set_cons_succ, List.getElem_toArray, List.getElem_cons_succ, List.getElem_cons_zero]
        refine wpAnyH_ready (rs := [4]) (by kernel_rfl) (by simp) ?_
        refine AllReadyH.cons (o := ?_) ?_ (fun K' hK => ?_) ?_
        rotate_left
        · (simp only [List.getElem?_toArray, List.getElem?_cons_succ, List.getElem?_cons_zero] <;> rfl)
        · skip
          go_simp; go_at_call 28; refine (roller_ok (K : Int) _).mono ?_; rintro e w3 ⟨rfl, rfl⟩; go_wp2_with fail
          refine hK.out _ _ ?_ (fun hHeld' => ?_)
          · exact KEEP.out _ (by (repeat' (first | exact Below.refl _ _ | assumption | refine Below.drew ?_ | refine W.below_drewN ?_ _ | (refine Below.alloc ?_ (by simp <;> omega) _) | (refine Below.setCell ?_ (by simp <;> omega) _))))
          clear hK K' hHeld
          have hHeld := hHeld'
          clear hHeld'
          try simp only [Act.put, List.setIfInBounds_toArray, List.set_cons_zero, List.set_cons_succ, List.getElem_toArray, List.getElem_cons_succ, List.getElem_cons_zero]
          refine wpAnyH_ready (rs := [20]) (by kernel_rfl) (by simp) ?_
          refine AllReadyH.cons (o := ?_) ?_ (fun K' hK => ?_) ?_
          rotate_left
          · (simp only [List.getElem?_toArray, List.getElem?_cons_succ, List.getElem?_cons_zero] <;> rfl)
          · skip
            refine step_append_new _ u8_one' (by rfl) _ _ 22 (by rfl) 5 i0 (.int .u8 0) 1 Try.underlying22 hi hz0 hz1 hz2 rfl w.heap.size A n b (by rfl) (SB.out _ ?_) HL.out _ x (by rfl) ?_ y HY.out (by unfold maxLen; omega) (by omega) ?_
            · exact hHeld.1
            · first | exact cell_one_new _ _ _ | (go_simp; done) | (go_simp; rfl)
            intro c5 C5 k5 hc5; rw [u8_def] at k5; try simp only [Act.put, List.setIfInBounds_toArray, List.set_cons_zero, List.set_cons_succ, List.getElem_toArray, List.getElem_cons_succ, List.getElem_cons_zero]
            refine hK.out _ _ ?_ (fun hHeld' => ?_)
            · exact KEEP.out _ (by (repeat' (first | exact Below.refl _ _ | assumption | refine Below.drew ?_ | refine W.below_drewN ?_ _ | (refine Below.alloc ?_ (by simp <;> omega) _) | (refine Below.setCell ?_ (by simp <;> omega) _))))
            clear hK K' hHeld
            have hHeld := hHeld'
            clear hHeld'
            try simp only [Act.put, List.setIfInBounds_toArray, List.set_cons_zero, List.set_cons_succ, List.getElem_toArray, List.getElem_cons_succ, List.getElem_cons_zero]
            refine wpAnyH_take (i := 21) (v := ?_) rfl (by kernel_rfl) (by kernel_rfl) (by kernel_rfl) (fun _ _ _ h => h) (Or.inl ⟨by rfl, ?_⟩) hHeld ?_
            rotate_left
            · (intro W hSw; (try dsimp only at hSw); go_simp; try with_reducible rfl)
            try simp only [Act.put, List.setIfInBounds_toArray, List.set_cons_zero, List.set_cons_succ, List.getElem_toArray, List.getElem_cons_succ, List.getElem_cons_zero]
            refine wpAnyH_more (T := fun W => (Below w2.heap.size w2 W ∧ W.cell? ⟨w.heap.size, 0, none⟩ = some (.int .i64 (K : Int)) ∧ W.cell? ⟨w.heap.size, 1, none⟩ = some (.slice A n c) ∧ W.cell? ⟨w.heap.size, 2, none⟩ = some (.int .u32 (hv.toNat : Int))) ∧ W.cell? ⟨w2.heap.size + 1 + 1 + 1, 0, none⟩ = some (.int .u8 (y.toNat : Int))) (fun _ h => h.1) ⟨hHeld, ?_⟩ (fun hHeld1 => ?_)
            · (first | exact cell_new_row (by simp) k5 | exact cell_new_row_d (by simp) k5 | go_simp)
            clear hHeld
            have hHeld := hHeld1
            clear hHeld1
            refine wpAnyH_take (i := 22) (v := ?_) rfl (by kernel_rfl) (by kernel_rfl) (by kernel_rfl) (fun _ _ _ h => h) (Or.inl ⟨by rfl, ?_⟩) hHeld ?_
            rotate_left
            · (intro W hSw; (try dsimp only at hSw); go_simp; try with_reducible rfl)
            try simp only [Act.put, List.setIfInBounds_toArray, List.set_cons_zero, List.set_cons_succ, List.getElem_toArray, List.getElem_cons_succ, List.getElem_cons_zero]
            refine wpAnyH_ready (rs := [23]) (by kernel_rfl) (by simp) ?_
            refine AllReadyH.cons (o := ?_) ?_ (fun K' hK => ?_) ?_
            rotate_left
            · (simp only [List.getElem?_toArray, List.getElem?_cons_succ, List.getElem?_cons_zero] <;> rfl)
            · skip
              go_simp; go_at_call 34; refine (D.out _ _ _).mono ?_; rintro e w6 ⟨rfl, rfl⟩; go_wp2_with fail
              refine hK.out _ _ ?_ (fun hHeld' => ?_)
              · exact ⟨KEEP.out _ (by (repeat' (first | exact Below.refl _ _ | assumption | refine Below.drew ?_ | refine W.below_drewN ?_ _ | (refine Below.alloc ?_ (by simp <;> omega) _) | (refine Below.setCell ?_ (by simp <;> omega) _)))), by (refine Eq.trans (Blk.cell (t := 5) (cs := C5) ?_ 0) k5; (repeat' (first | (with_reducible exact Blk.new' (by simp) _ _) | (with_reducible refine Blk.alloc ?_ _) | (with_reducible refine Blk.drew ?_) | (with_reducible refine Blk.drewN ?_ _))))⟩
              clear hK K' hHeld
              have hHeld := hHeld'
              clear hHeld'
              try simp only [Act.put, List.setIfInBounds_toArray, List.set_cons_zero, List.set_cons_succ, List.getElem_toArray, List.getElem_cons_succ, List.getElem_cons_zero]
              refine wpAnyH_take (i := 24) (v := ?_) rfl (by kernel_rfl) (by kernel_rfl) (by kernel_rfl) (fun _ _ _ h => h) (Or.inl ⟨by rfl, ?_⟩) hHeld ?_
              rotate_left
              · (intro W hSw; (try dsimp only at hSw); go_simp; try with_reducible rfl)
              try simp only [Act.put, List.setIfInBounds_toArray, List.set_cons_zero, List.set_cons_succ, List.getElem_toArray, List.getElem_cons_succ, List.getElem_cons_zero]
              refine wpAnyH_ready (rs := [26]) (by kernel_rfl) (by simp) ?_
              refine AllReadyH.cons (o := ?_) ?_ (fun K' hK => ?_) ?_
              rotate_left
              · (simp only [List.getElem?_toArray, List.getElem?_cons_succ, List.getElem?_cons_zero] <;> rfl)
              · skip
                go_simp
                refine hK.out _ _ ?_ (fun hHeld' => ?_)
                · exact ⟨KEEP.out _ (by (repeat' (first | exact Below.refl _ _ | assumption | refine Below.drew ?_ | refine W.below_drewN ?_ _ | (refine Below.alloc ?_ (by simp <;> omega) _) | (refine Below.setCell ?_ (by simp <;> omega) _)))), by (refine Eq.trans (Blk.cell (t := 5) (cs := C5) ?_ 0) k5; (repeat' (first | (with_reducible exact Blk.new' (by simp) _ _) | (with_reducible refine Blk.alloc ?_ _) | (with_reducible refine Blk.drew ?_) | (with_reducible refine Blk.drewN ?_ _))))⟩
                clear hK K' hHeld
                have hHeld := hHeld'
                clear hHeld'
                try simp only [Act.put, List.setIfInBounds_toArray, List.set_cons_zero, List.set_cons_succ, List.getElem_toArray, List.getElem_cons_succ, List.getElem_cons_zero]
                refine wpAnyH_done (by kernel_rfl) ?_ _
                go_wp2_with fail
                go_meet
                exact ⟨_, rfl, by (first | exact Nat.le_refl _ | omega | (simp <;> omega)), by (repeat' (first | (with_reducible exact Blk.new' (by simp) _ _) | (with_reducible refine Blk.alloc ?_ _) | (with_reducible refine Blk.drew ?_) | (with_reducible refine Blk.drewN ?_ _))), by (repeat' (first | exact Below.refl _ _ | assumption | refine Below.drew ?_ | refine W.below_drewN ?_ _ | (refine Below.alloc ?_ (by simp <;> omega) _) | (refine Below.setCell ?_ (by simp <;> omega) _)))⟩
              exact AllReadyH.nil
            exact AllReadyH.nil
          exact AllReadyH.nil
        exact AllReadyH.nil
      exact AllReadyH.nil
    refine AllReadyH.cons (o := ?_) ?_ (fun K' hK => ?_) ?_
    rotate_left
    · (simp only [List.getElem?_toArray, List.getElem?_cons_succ, List.getElem?_cons_zero] <;> rfl)
    · skip
      go_simp
      refine hK.out _ _ ?_ (fun hHeld' => ?_)
      · exact KEEP.out _ (by (repeat' (first | exact Below.refl _ _ | assumption | refine Below.drew ?_ | refine W.below_drewN ?_ _ | (refine Below.alloc ?_ (by simp <;> omega) _) | (refine Below.setCell ?_ (by simp <;> omega) _))))
      clear hK K' hHeld
      have hHeld := hHeld'
      clear hHeld'
      try simp only [Act.put, List.setIfInBounds_toArray, List.set_cons_zero, List.set_cons_succ, List.getElem_toArray, List.getElem_cons_succ, List.getElem_cons_zero]
      refine wpAnyH_ready (rs := [4, 19]) (by kernel_rfl) (by simp) ?_
      refine AllReadyH.cons (o := ?_) ?_ (fun K' hK => ?_) ?_
      rotate_left
      · (simp only [List.getElem?_toArray, List.getElem?_cons_succ, List.getElem?_cons_zero] <;> rfl)
      · skip
        go_simp; go_at_call 28; refine (roller_ok (K : Int) _).mono ?_; rintro e w3 ⟨rfl, rfl⟩; go_wp2_with fail
        refine hK.out _ _ ?_ (fun hHeld' => ?_)
        · exact KEEP.out _ (by (repeat' (first | exact Below.refl _ _ | assumption | refine Below.drew ?_ | refine W.below_drewN ?_ _ | (refine Below.alloc ?_ (by simp <;> omega) _) | (refine Below.setCell ?_ (by simp <;> omega) _))))
        clear hK K' hHeld
        have hHeld := hHeld'
        clear hHeld'
        try simp only [Act.put, List.setIfInBounds_toArray, List.set_cons_zero, List.set_cons_succ, List.getElem_toArray, List.getElem_cons_succ, List.getElem_cons_zero]
        refine wpAnyH_ready (rs := [19]) (by kernel_rfl) (by simp) ?_
        refine AllReadyH.cons (o := ?_) ?_ (fun K' hK => ?_) ?_
        rotate_left
        · (simp only [List.getElem?_toArray, List.getElem?_cons_succ, List.getElem?_cons_zero] <;> rfl)
        · skip
          go_simp
          refine hK.out _ _ ?_ (fun hHeld' => ?_)
          · exact KEEP.out _ (by (repeat' (first | exact Below.refl _ _ | assumption | refine Below.drew ?_ | refine W.below_drewN ?_ _ | (refine Below.alloc ?_ (by simp <;> omega) _) | (refine Below.setCell ?_ (by simp <;> omega) _))))
          clear hK K' hHeld
          have hHeld := hHeld'
          clear hHeld'
          try simp only [Act.put, List.setIfInBounds_toArray, List.set_cons_zero, List.set_cons_succ, List.getElem_toArray, List.getElem_cons_succ, List.getElem_cons_zero]
          refine wpAnyH_ready (rs := [20]) (by kernel_rfl) (by simp) ?_
          refine AllReadyH.cons (o := ?_) ?_ (fun K' hK => ?_) ?_
          rotate_left
          · (simp only [List.getElem?_toArray, List.getElem?_cons_succ, List.getElem?_cons_zero] <;> rfl)
          · skip
            refine step_append_new _ u8_one' (by rfl) _ _ 22 (by rfl) 5 i0 (.int .u8 0) 1 Try.underlying22 hi hz0 hz1 hz2 rfl w.heap.size A n b (by rfl) (SB.out _ ?_) HL.out _ x (by rfl) ?_ y HY.out (by unfold maxLen; omega) (by omega) ?_
            · exact hHeld.1
            · first | exact cell_one_new _ _ _ | (go_simp; done) | (go_simp; rfl)
            intro c5 C5 k5 hc5; rw [u8_def] at k5; try simp only [Act.put, List.setIfInBounds_toArray, List.set_cons_zero, List.set_cons_succ, List.getElem_toArray, List.getElem_cons_succ, List.getElem_cons_zero]
            refine hK.out _ _ ?_ (fun hHeld' => ?_)
            · exact KEEP.out _ (by (repeat' (first | exact Below.refl _ _ | assumption | refine Below.drew ?_ | refine W.below_drewN ?_ _ | (refine Below.alloc ?_ (by simp <;> omega) _) | (refine Below.setCell ?_ (by simp <;> omega) _))))
            clear hK K' hHeld
            have hHeld := hHeld'
            clear hHeld'
            try simp only [Act.put, List.setIfInBounds_toArray, List.set_cons_zero, List.set_cons_succ, List.getElem_toArray, List.getElem_cons_succ, List.getElem_cons_zero]
            refine wpAnyH_take (i := 21) (v := ?_) rfl (by kernel_rfl) (by kernel_rfl) (by kernel_rfl) (fun _ _ _ h => h) (Or.inl ⟨by rfl, ?_⟩) hHeld ?_
            rotate_left
            · (intro W hSw; (try dsimp only at hSw); go_simp; try with_reducible rfl)
            try simp only [Act.put, List.setIfInBounds_toArray, List.set_cons_zero, List.set_cons_succ, List.getElem_toArray, List.getElem_cons_succ, List.getElem_cons_zero]
            refine wpAnyH_more (T := fun W => (Below w2.heap.size w2 W ∧ W.cell? ⟨w.heap.size, 0, none⟩ = some (.int .i64 (K : Int)) ∧ W.cell? ⟨w.heap.size, 1, none⟩ = some (.slice A n c) ∧ W.cell? ⟨w.heap.size, 2, none⟩ = some (.int .u32 (hv.toNat : Int))) ∧ W.cell? ⟨w2.heap.size + 1 + 1 + 1, 0, none⟩ = some (.int .u8 (y.toNat : Int))) (fun _ h => h.1) ⟨hHeld, ?_⟩ (fun hHeld1 => ?_)
            · (first | exact cell_new_row (by simp) k5 | exact cell_new_row_d (by simp) k5 | go_simp)
            clear hHeld
            have hHeld := hHeld1
            clear hHeld1
            refine wpAnyH_take (i := 22) (v := ?_) rfl (by kernel_rfl) (by kernel_rfl) (by kernel_rfl) (fun _ _ _ h => h) (Or.inl ⟨by rfl, ?_⟩) hHeld ?_
            rotate_left
            · (intro W hSw; (try dsimp only at hSw); go_simp; try with_reducible rfl)
            try simp only [Act.put, List.setIfInBounds_toArray, List.set_cons_zero, List.set_cons_succ, List.getElem_toArray, List.getElem_cons_succ, List.getElem_cons_zero]
            refine wpAnyH_ready (rs := [23]) (by kernel_rfl) (by simp) ?_
            refine AllReadyH.cons (o := ?_) ?_ (fun K' hK => ?_) ?_
            rotate_left
            · (simp only [List.getElem?_toArray, List.getElem?_cons_succ, List.getElem?_cons_zero] <;> rfl)
            · skip
              go_simp; go_at_call 34; refine (D.out _ _ _).mono ?_; rintro e w6 ⟨rfl, rfl⟩; go_wp2_with fail
              refine hK.out _ _ ?_ (fun hHeld' => ?_)
              · exact ⟨KEEP.out _ (by (repeat' (first | exact Below.refl _ _ | assumption | refine Below.drew ?_ | refine W.below_drewN ?_ _ | (refine Below.alloc ?_ (by simp <;> omega) _) | (refine Below.setCell ?_ (by simp <;> omega) _)))), by (refine Eq.trans (Blk.cell (t := 5) (cs := C5) ?_ 0) k5; (repeat' (first | (with_reducible exact Blk.new' (by simp) _ _) | (with_reducible refine Blk.alloc ?_ _) | (with_reducible refine Blk.drew ?_) | (with_reducible refine Blk.drewN ?_ _))))⟩
              clear hK K' hHeld
              have hHeld := hHeld'
              clear hHeld'
              try simp only [Act.put, List.setIfInBounds_toArray, List.set_cons_zero, List.set_cons_succ, List.getElem_toArray, List.getElem_cons_succ, List.getElem_cons_zero]
              refine wpAnyH_take (i := 24) (v := ?_) rfl (by kernel_rfl) (by kernel_rfl) (by kernel_rfl) (fun _ _ _ h => h) (Or.inl ⟨by rfl, ?_⟩) hHeld ?_
              rotate_left
              · (intro W hSw; (try dsimp only at hSw); go_simp; try with_reducible rfl)
              try simp only [Act.put, List.setIfInBounds_toArray, List.set_cons_zero, List.set_cons_succ, List.getElem_toArray, List.getElem_cons_succ, List.getElem_cons_zero]
              refine wpAnyH_ready (rs := [26]) (by kernel_rfl) (by simp) ?_
              refine AllReadyH.cons (o := ?_) ?_ (fun K' hK => ?_) ?_
              rotate_left
              · (simp only [List.getElem?_toArray, List.getElem?_cons_succ, List.getElem?_cons_zero] <;> rfl)
              · skip
                go_simp
                refine hK.out _ _ ?_ (fun hHeld' => ?_)
                · exact ⟨KEEP.out _ (by (repeat' (first | exact Below.refl _ _ | assumption | refine Below.drew ?_ | refine W.below_drewN ?_ _ | (refine Below.alloc ?_ (by simp <;> omega) _) | (refine Below.setCell ?_ (by simp <;> omega) _)))), by (refine Eq.trans (Blk.cell (t := 5) (cs := C5) ?_ 0) k5; (repeat' (first | (with_reducible exact Blk.new' (by simp) _ _) | (with_reducible refine Blk.alloc ?_ _) | (with_reducible refine Blk.drew ?_) | (with_reducible refine Blk.drewN ?_ _))))⟩
                clear hK K' hHeld
                have hHeld := hHeld'
                clear hHeld'
                try simp only [Act.put, List.setIfInBounds_toArray, List.set_cons_zero, List.set_cons_succ, List.getElem_toArray, List.getElem_cons_succ, List.getElem_cons_zero]
                refine wpAnyH_done (by kernel_rfl) ?_ _
                go_wp2_with fail
                go_meet
                exact ⟨_, rfl, by (first | exact Nat.le_refl _ | omega | (simp <;> omega)), by (repeat' (first | (with_reducible exact Blk.new' (by simp) _ _) | (with_reducible refine Blk.alloc ?_ _) | (with_reducible refine Blk.drew ?_) | (with_reducible refine Blk.drewN ?_ _))), by (repeat' (first | exact Below.refl _ _ | assumption | refine Below.drew ?_ | refine W.below_drewN ?_ _ | (refine Below.alloc ?_ (by simp <;> omega) _) | (refine Below.setCell ?_ (by simp <;> omega) _)))⟩
              exact AllReadyH.nil
            exact AllReadyH.nil
          exact AllReadyH.nil
        exact AllReadyH.nil
      refine AllReadyH.cons (o := ?_) ?_ (fun K' hK => ?_) ?_
      rotate_left
      · (simp only [List.getElem?_toArray, List.getElem?_cons_succ, List.getElem?_cons_zero] <;> rfl)
      · skip
        go_simp
        refine hK.out _ _ ?_ (fun hHeld' => ?_)
        · exact KEEP.out _ (by (repeat' (first | exact Below.refl _ _ | assumption | refine Below.drew ?_ | refine W.below_drewN ?_ _ | (refine Below.alloc ?_ (by simp <;> omega) _) | (refine Below.setCell ?_ (by simp <;> omega) _))))
        clear hK K' hHeld
        have hHeld := hHeld'
        clear hHeld'
        try simp only [Act.put, List.setIfInBounds_toArray, List.set_cons_zero, List.set_cons_succ, List.getElem_toArray, List.getElem_cons_succ, List.getElem_cons_zero]
        refine wpAnyH_ready (rs := [4]) (by kernel_rfl) (by simp) ?_
        refine AllReadyH.cons (o := ?_) ?_ (fun K' hK => ?_) ?_
        rotate_left
        · (simp only [List.getElem?_toArray, List.getElem?_cons_succ, List.getElem?_cons_zero] <;> rfl)
        · skip
          go_simp; go_at_call 28; refine (roller_ok (K : Int) _).mono ?_; rintro e w3 ⟨rfl, rfl⟩; go_wp2_with fail
          refine hK.out _ _ ?_ (fun hHeld' => ?_)
          · exact KEEP.out _ (by (repeat' (first | exact Below.refl _ _ | assumption | refine Below.drew ?_ | refine W.below_drewN ?_ _ | (refine Below.alloc ?_ (by simp <;> omega) _) | (refine Below.setCell ?_ (by simp <;> omega) _))))
          clear hK K' hHeld
          have hHeld := hHeld'
          clear hHeld'
          try simp only [Act.put, List.setIfInBounds_toArray, List.set_cons_zero, List.set_cons_succ, List.getElem_toArray, List.getElem_cons_succ, List.getElem_cons_zero]
          refine wpAnyH_ready (rs := [20]) (by kernel_rfl) (by simp) ?_
          refine AllReadyH.cons (o := ?_) ?_ (fun K' hK => ?_) ?_
          rotate_left
          · (simp only [List.getElem?_toArray, List.getElem?_cons_succ, List.getElem?_cons_zero] <;> rfl)
          · skip
            refine step_append_new _ u8_one' (by rfl) _ _ 22 (by rfl) 5 i0 (.int .u8 0) 1 Try.underlying22 hi hz0 hz1 hz2 rfl w.heap.size A n b (by rfl) (SB.out _ ?_) HL.out _ x (by rfl) ?_ y HY.out (by unfold maxLen; omega) (by omega) ?_
            · exact hHeld.1
            · first | exact cell_one_new _ _ _ | (go_simp; done) | (go_simp; rfl)
            intro c5 C5 k5 hc5; rw [u8_def] at k5; try simp only [Act.put, List.setIfInBounds_toArray, List.set_cons_zero, List.set_cons_succ, List.getElem_toArray, List.getElem_cons_succ, List.getElem_cons_zero]
            refine hK.out _ _ ?_ (fun hHeld' => ?_)
            · exact KEEP.out _ (by (repeat' (first | exact Below.refl _ _ | assumption | refine Below.drew ?_ | refine W.below_drewN ?_ _ | (refine Below.alloc ?_ (by simp <;> omega) _) | (refine Below.setCell ?_ (by simp <;> omega) _))))
            clear hK K' hHeld
            have hHeld := hHeld'
            clear hHeld'
            try simp only [Act.put, List.setIfInBounds_toArray, List.set_cons_zero, List.set_cons_succ, List.getElem_toArray, List.getElem_cons_succ, List.getElem_cons_zero]
            refine wpAnyH_take (i := 21) (v := ?_) rfl (by kernel_rfl) (by kernel_rfl) (by kernel_rfl) (fun _ _ _ h => h) (Or.inl ⟨by rfl, ?_⟩) hHeld ?_
            rotate_left
            · (intro W hSw; (try dsimp only at hSw); go_simp; try with_reducible rfl)
            try simp only [Act.put, List.setIfInBounds_toArray, List.set_cons_zero, List.set_cons_succ, List.getElem_toArray, List.getElem_cons_succ, List.getElem_cons_zero]
            refine wpAnyH_more (T := fun W => (Below w2.heap.size w2 W ∧ W.cell? ⟨w.heap.size, 0, none⟩ = some (.int .i64 (K : Int)) ∧ W.cell? ⟨w.heap.size, 1, none⟩ = some (.slice A n c) ∧ W.cell? ⟨w.heap.size, 2, none⟩ = some (.int .u32 (hv.toNat : Int))) ∧ W.cell? ⟨w2.heap.size + 1 + 1 + 1, 0, none⟩ = some (.int .u8 (y.toNat : Int))) (fun _ h => h.1) ⟨hHeld, ?_⟩ (fun hHeld1 => ?_)
            · (first | exact cell_new_row (by simp) k5 | exact cell_new_row_d (by simp) k5 | go_simp)
            clear hHeld
            have hHeld := hHeld1
            clear hHeld1
            refine wpAnyH_take (i := 22) (v := ?_) rfl (by kernel_rfl) (by kernel_rfl) (by kernel_rfl) (fun _ _ _ h => h) (Or.inl ⟨by rfl, ?_⟩) hHeld ?_
            rotate_left
            · (intro W hSw; (try dsimp only at hSw); go_simp; try with_reducible rfl)
            try simp only [Act.put, List.setIfInBounds_toArray, List.set_cons_zero, List.set_cons_succ, List.getElem_toArray, List.getElem_cons_succ, List.getElem_cons_zero]
            refine wpAnyH_ready (rs := [23]) (by kernel_rfl) (by simp) ?_
            refine AllReadyH.cons (o := ?_) ?_ (fun K' hK => ?_) ?_
            rotate_left
            · (simp only [List.getElem?_toArray, List.getElem?_cons_succ, List.getElem?_cons_zero] <;> rfl)
            · skip
              go_simp; go_at_call 34; refine (D.out _ _ _).mono ?_; rintro e w6 ⟨rfl, rfl⟩; go_wp2_with fail
              refine hK.out _ _ ?_ (fun hHeld' => ?_)
              · exact ⟨KEEP.out _ (by (repeat' (first | exact Below.refl _ _ | assumption | refine Below.drew ?_ | refine W.below_drewN ?_ _ | (refine Below.alloc ?_ (by simp <;> omega) _) | (refine Below.setCell ?_ (by simp <;> omega) _)))), by (refine Eq.trans (Blk.cell (t := 5) (cs := C5) ?_ 0) k5; (repeat' (first | (with_reducible exact Blk.new' (by simp) _ _) | (with_reducible refine Blk.alloc ?_ _) | (with_reducible refine Blk.drew ?_) | (with_reducible refine Blk.drewN ?_ _))))⟩
              clear hK K' hHeld
              have hHeld := hHeld'
              clear hHeld'
              try simp only [Act.put, List.setIfInBounds_toArray, List.set_cons_zero, List.set_cons_succ, List.getElem_toArray, List.getElem_cons_succ, List.getElem_cons_zero]
              refine wpAnyH_take (i := 24) (v := ?_) rfl (by kernel_rfl) (by kernel_rfl) (by kernel_rfl) (fun _ _ _ h => h) (Or.inl ⟨by rfl, ?_⟩) hHeld ?_
              rotate_left
              · (intro W hSw; (try dsimp only at hSw); go_simp; try with_reducible rfl)
              try simp only [Act.put, List.setIfInBounds_toArray, List.set_cons_zero, List.set_cons_succ, List.getElem_toArray, List.getElem_cons_succ, List.getElem_cons_zero]
              refine wpAnyH_ready (rs := [26]) (by kernel_rfl) (by simp) ?_
              refine AllReadyH.cons (o := ?_) ?_ (fun K' hK => ?_) ?_
              rotate_left
              · (simp only [List.getElem?_toArray, List.getElem?_cons_succ, List.getElem?_cons_zero] <;> rfl)
              · skip
                go_simp
                refine hK.out _ _ ?_ (fun hHeld' => ?_)
                · exact ⟨KEEP.out _ (by (repeat' (first | exact Below.refl _ _ | assumption | refine Below.drew ?_ | refine W.below_drewN ?_ _ | (refine Below.alloc ?_ (by simp <;> omega) _) | (refine Below.setCell ?_ (by simp <;> omega) _)))), by (refine Eq.trans (Blk.cell (t := 5) (cs := C5) ?_ 0) k5; (repeat' (first | (with_reducible exact Blk.new' (by simp) _ _) | (with_reducible refine Blk.alloc ?_ _) | (with_reducible refine Blk.drew ?_) | (with_reducible refine Blk.drewN ?_ _))))⟩
                clear hK K' hHeld
                have hHeld := hHeld'
                clear hHeld'
                try simp only [Act.put, List.setIfInBounds_toArray, List.set_cons_zero, List.set_cons_succ, List.getElem_toArray, List.getElem_cons_succ, List.getElem_cons_zero]
                refine wpAnyH_done (by kernel_rfl) ?_ _
                go_wp2_with fail
                go_meet
                exact ⟨_, rfl, by (first | exact Nat.le_refl _ | omega | (simp <;> omega)), by (repeat' (first | (with_reducible exact Blk.new' (by simp) _ _) | (with_reducible refine Blk.alloc ?_ _) | (with_reducible refine Blk.drew ?_) | (with_reducible refine Blk.drewN ?_ _))), by (repeat' (first | exact Below.refl _ _ | assumption | refine Below.drew ?_ | refine W.below_drewN ?_ _ | (refine Below.alloc ?_ (by simp <;> omega) _) | (refine Below.setCell ?_ (by simp <;> omega) _)))⟩
              exact AllReadyH.nil
            exact AllReadyH.nil
          exact AllReadyH.nil
        exact AllReadyH.nil
      exact AllReadyH.nil
    exact AllReadyH.nil
  case rest =>
    obtain ⟨g, rfl, hg, hG, hBW⟩ := hcut
    have hj3 := hj2.later hBW
    have hk3 := hk2.later hBW
    have hgz := hG.lt
    have c1 := hj3.cell 1
    have hB3 := hB2.trans (hBW.mono hB2.size)
    have hgw : w.heap.size + 1 < g := by omega
    have hgn : ¬ (g = w.heap.size + 1) := by omega
    have hgn2 : ¬ (w.heap.size + 1 = g) := by omega
    clear KEEP SB hH C D hB0 hk0 hj0 hb2 hB2 hBW hj2 hk2 j0 j1 j2
    go_wp2_with (first
      | (go_at_call 30; refine (clone_any A c n b HL.out _ _ (hS.below hB3) (by omega)).mono ?_; rintro e w4 ⟨A4, c4, rfl, o4, hb4⟩)
      | (at_builtin; refine wpList_append_at _ u8_one' rfl _ _ 22 rfl wc.heap.size 5 i0 (.int .u8 0) 1 Try.underlying22 hi hz0 hz1 hz2 rfl (.slice A4 n c4) n _ rfl (o4.alloc _) _ _ 1 [x] 1 rfl (Sl.of_new rfl rfl) rfl (by unfold maxLen; omega) (by omega) (by have := hb4.size; simp; omega) ?_; intro v5 w5 o5 g5 _; have hb5 := (hb4.alloc hb4.size _).grown g5 (by have := hb4.size; simp; omega) (fun j hj => (o4.lt j hj).1); rw [← List.map_append] at o5; obtain ⟨q5, c5, rfl, _, _⟩ := o5.form (by omega); obtain ⟨hn5, hm5⟩ := own_cap o5; have hG5 := hG.later hb5; have hk5 := hk3.later hb5; have hB5 := hB3.trans (hb5.mono hB3.size); obtain ⟨e0, e1, e2, f0, f1, f2⟩ := three hG5; obtain ⟨d0, d1, d2, q0, q1, q2⟩ := three hk5; clear o4 g5 hb4))
    have hk6 : Blk (w5.setCell ⟨g, 1, none⟩ (.slice (some ⟨q5, 0, none⟩) (n + 1) c5)) (w.heap.size + 1) 26 #[.int .i64 0, .slice none 0 0, .int .u32 0] := hk5.far (by simpa using hgn2) _
    have o6 := put3_own (ownsRow_setCell_below o5 (a := ⟨g, 1, none⟩) hgz (.slice (some ⟨q5, 0, none⟩) (n + 1) c5)) (show w.heap.size + 1 < wc.heap.size by omega) (.int .i64 (K : Int)) (.slice (some ⟨q5, 0, none⟩) (n + 1) c5) (.int .u32 (H.toNat : Int))
    exact bodyPost_ret (result_st rfl _ _ (w.heap.size + 1) rfl (put3 hk6 _ _ _) rfl) rfl ⟨_, _, rfl, Sl.of_own o6, by omega, by omega, put3_below (hB5.setCell (p := ⟨g, 1, none⟩) (by show w.heap.size ≤ g; omega) _) (Nat.le_succ _) _ _ _⟩
end Go.Proofs.Ytlbghmocbklmdaa.H
