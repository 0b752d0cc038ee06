/- awake of chapter 45. -/
import Derived.Test.YtcdaieoondmljaaT8
import Derived.Laws.MakeOwn
namespace Go.Proofs.Ytcdaieoondmljaa.H
set_option linter.unusedVariables false
open Go Go.RowKit Go.Proofs.Ytcdaieoondmljaa Go.Proofs.Ytcdaieoondmljaa.W Go.Proofs.Ytcdaieoondmljaa.M

theorem ex_fine : Fine 2 2 4 2 := ⟨by decide, by decide, by decide, by decide, by decide, by decide, by decide⟩
theorem ex_chk : chkC (2 : Nat) (2 : Nat) (4 : Nat) (2 : Nat) = 0 := by decide +kernel
theorem ex_p7 : places [0, 0, 0, 0, 0, 0, 0] 2 (msk 2) = [] := by decide +kernel
theorem ex_l7 : frg (nxt (places [0, 0, 0, 0, 0, 0, 0] 2 (msk 2)) 2 4 7) 7 0 = [(0, 4), (4, 3)] := by decide +kernel
theorem ex_l2 : frg (nxt (places [1, 2] 2 (msk 2)) 2 4 2) 2 0 = [(0, 2)] := by decide +kernel
theorem ex_l0 : frg (nxt (places [] 2 (msk 2)) 2 4 0) 0 0 = [] := by decide +kernel
theorem ex_val45 : val 0 = 766669161#32 := by decide +kernel
theorem ex_rot45 : rot 766669161#32 1 = 1533338322#32 := by decide +kernel
/-- A slice of extents written out in a new block. -/
theorem SlE.new {W : World} {g : Nat} (hg : g = W.heap.size) {l : List Ex} {cs : Array Value} (h : cs = (flatE l).toArray) : SlE (W.alloc (.cells cs 36)) (W.heap.size + 1) (some ⟨g, 0, none⟩) l :=
  Sl.of_new hg (by rw [h]; simp)
theorem split_g {b : Bs} {N : Nat} {l : List Ex} {n : Nat} {A : Option Addr} {c : Nat} (hlb : b.length = N) (hN : N ≤ 65536) (hl : frg (nxt (places b 2 (msk 2)) 2 4 N) N 0 = l) (hn : l.length = n) {W : World} {B : Nat} (h : Sl u8 W B A b) :
    Calls Try.prog 12 #[.agg #[.int .i64 2, .int .i64 2, .int .i64 4, .int .i64 2], .slice A N c] W (SplitAt l n W) := Split_ok ex_fine ex_chk A c N b hlb hN l n hl hn W B h

theorem make7 (W : World) : (Instr.makeSlice 24 (.int .i64 7) (.int .i64 7)).run Try.prog W = .ok (.slice (some ⟨W.heap.size, 0, none⟩) 7 7) (W.alloc (.cells #[.int .u8 0, .int .u8 0, .int .u8 0, .int .u8 0, .int .u8 0, .int .u8 0, .int .u8 0] 5)) := by
  obtain ⟨i0, hi, hz0, hz1, hz2⟩ := info_parts info5
  have := run_makeSlice (P := Try.prog) W 24 5 i0 (.int .u8 0) Try.underlying24 hi hz0 .i64 .i64 7 7 (by decide) (by decide) (by rw [hz1]; decide) (by rw [hz2]; decide) (by decide)
  rw [hz1] at this
  have e : madeCells (Value.int .u8 0).cells (Int.toNat 7 * 1) = #[.int .u8 0, .int .u8 0, .int .u8 0, .int .u8 0, .int .u8 0, .int .u8 0, .int .u8 0] := by kernel_rfl
  rw [e] at this
  exact this
set_option maxRecDepth 100000 in
set_option maxHeartbeats 1000000 in
theorem awake_any (w : World) : Calls Try.prog 11 #[] w fun e w' => e = .returned (.bool true) ∧ Below w.heap.size w w' := by
  have C1 : Hid (∀ (W : World) A, Sl u8 W W.heap.size A [0, 0, 0, 0, 0, 0, 0] → Calls Try.prog 12 #[.agg #[.int .i64 2, .int .i64 2, .int .i64 4, .int .i64 2], .slice A 7 7] W (SplitAt [(0, 4), (4, 3)] 2 W)) := Lib.hid fun W A h => split_g rfl (by decide) ex_l7 rfl h
  have C2 : Hid (∀ (W : World) (g : Nat), g = W.heap.size → Calls Try.prog 12 #[.agg #[.int .i64 2, .int .i64 2, .int .i64 4, .int .i64 2], .slice (some ⟨g, 0, none⟩) 2 2] (W.alloc (.cells #[.int .u8 1, .int .u8 2] 5)) (SplitAt [(0, 2)] 1 (W.alloc (.cells #[.int .u8 1, .int .u8 2] 5)))) := Lib.hid fun W g hg => split_g (b := [1, 2]) rfl (by decide) ex_l2 rfl (Sl.of_new hg rfl)
  have C3 : Hid (∀ W : World, Calls Try.prog 12 #[.agg #[.int .i64 2, .int .i64 2, .int .i64 4, .int .i64 2], .slice none 0 0] W (SplitAt [] 0 W)) := Lib.hid fun W => split_g (b := []) (B := 0) rfl (by decide) ex_l0 rfl Sl.nil
  have C4 : Hid (∀ W, Calls Try.prog 27 #[.int .u8 0] W fun e w' => e = .returned (.int .u32 766669161) ∧ w' = W) := Lib.hid fun W => by
    have := rValue_ok 0 W
    rw [ex_val45] at this
    exact this
  have C5 : Hid (∀ W, Calls Try.prog 28 #[.int .u32 766669161, .int .i64 1] W fun e w' => e = .returned (.int .u32 1533338322) ∧ w' = W) := Lib.hid fun W => by
    have := rRot_ok 766669161#32 1 (by decide) W
    rw [ex_rot45] at this
    exact this
  have qmk := make7
  have x4 : bits .xor .u32 (766669161 : Int) 1533338322 = 1993774011 := by decide +kernel
  have hk0 : Blk (w.alloc (.cells #[.int .i64 2, .int .i64 2, .int .i64 4, .int .i64 2] 23)) w.heap.size 23 #[.int .i64 2, .int .i64 2, .int .i64 4, .int .i64 2] := Blk.new _ _ _
  have hB0 : Below w.heap.size w (w.alloc (.cells #[.int .i64 2, .int .i64 2, .int .i64 4, .int .i64 2] 23)) := (Below.refl _ _).alloc (Nat.le_refl _) _
  go_enter Try.func11, Try.ntmps11
  go_wp2_with fail
  obtain ⟨w1, hw1⟩ : ∃ w1, w.alloc (.cells #[.int .i64 2, .int .i64 2, .int .i64 4, .int .i64 2] 23) = w1 := ⟨_, rfl⟩
  rw [hw1] at hk0 hB0 ⊢
  clear hw1
  have hH : Below w1.heap.size w1 w1.drew := (Below.refl _ _).drew
  have KEEP : Hid (∀ W, Below w1.heap.size w1 W → (W.cell? ⟨w.heap.size, 0, none⟩ = some (.int .i64 2) ∧ W.cell? ⟨w.heap.size, 1, none⟩ = some (.int .i64 2) ∧ W.cell? ⟨w.heap.size, 2, none⟩ = some (.int .i64 4) ∧ W.cell? ⟨w.heap.size, 3, none⟩ = some (.int .i64 2))) := Lib.hid fun W hW => ⟨(hk0.later hW).cell 0, (hk0.later hW).cell 1, (hk0.later hW).cell 2, (hk0.later hW).cell 3⟩
  go_region_held3 (fun W => W.cell? ⟨w.heap.size, 0, none⟩ = some (.int .i64 2) ∧ W.cell? ⟨w.heap.size, 1, none⟩ = some (.int .i64 2) ∧ W.cell? ⟨w.heap.size, 2, none⟩ = some (.int .i64 4) ∧ W.cell? ⟨w.heap.size, 3, none⟩ = some (.int .i64 2))
    (first | (exact KEEP.out _ hH) | (refine KEEP.out _ ?_; exact (Below.refl _ _).drew.alloc (Nat.le_refl _) _))
    (first
    | (go_at_call 12; refine (C1.out _ _ (Sl.lt (Sl.drew (Sl.of_new rfl rfl)))).mono ?_; rintro e w2 ⟨A2, c2, rfl, t2, h2, hb2⟩; have hH := ((Below.refl _ w1).alloc (Nat.le_refl _) (.cells #[.int .u8 0, .int .u8 0, .int .u8 0, .int .u8 0, .int .u8 0, .int .u8 0, .int .u8 0] 5)).drew.trans (hb2.mono (by simp))))
  all_goals
    have hB2 := hB0.trans (hH.mono hB0.size)
    have hk2 := (hk0.later hH).alloc (.cells #[.int .i64 0, .int .i64 4, .int .i64 4, .int .i64 3] 36)
    have d0 := hk2.cell 0
    have d1 := hk2.cell 1
    have d2 := hk2.cell 2
    have d3 := hk2.cell 3
    have tw : SlE (w2.alloc (.cells #[.int .i64 0, .int .i64 4, .int .i64 4, .int .i64 3] 36)) (w2.alloc (.cells #[.int .i64 0, .int .i64 4, .int .i64 4, .int .i64 3] 36)).heap.size (some ⟨w2.heap.size, 0, none⟩) [(0, 4), (4, 3)] := (SlE.new rfl rfl).lt
    have t2' := (t2.alloc (Nat.le_refl _) (.cells #[.int .i64 0, .int .i64 4, .int .i64 4, .int .i64 3] 36)).lt
    have hB2' := hB2.alloc hB2.size (.cells #[.int .i64 0, .int .i64 4, .int .i64 4, .int .i64 3] 36)
    clear C1 KEEP hk0 hb2
    go_wp2_with (first
      | (go_at_call 27; refine (C4.out _).mono ?_; rintro e w3 ⟨rfl, rfl⟩)
      | (go_at_call 28; refine (C5.out _).mono ?_; rintro e w4 ⟨rfl, rfl⟩)
      | (go_at_call 12; refine (C2.out _ _ (by simp)).mono ?_; clear C2; rintro e w5 ⟨A5, c5, rfl, t5, h5, hb5⟩; have hB5 := bal hB2' hB2'.size hb5; have hb5' := ((Below.refl _ _).alloc (Nat.le_refl _) (.cells #[.int .u8 1, .int .u8 2] 5)).trans (hb5.mono (by simp)); have hk5 := hk2.later hb5'; have tw5 := tw.later hb5'; have t25 := t2'.later hb5'; have k0 := hk5.cell 0; have k1 := hk5.cell 1; have k2 := hk5.cell 2; have k3 := hk5.cell 3)
      | (go_at_call 12; refine (C3.out _).mono ?_; clear C3; rintro e w6 ⟨A6, c6, rfl, t6, h6, hb6⟩; have hB6 := bsa hB5 hB5.size hb6; have tw6 := tw5.later hb6; have t26 := t25.later hb6; have t56 := t5.later hb6; have E1 := Lib.hid (equalE_ok A2 _ c2 2 2 [(0, 4), (4, 3)] rfl (by decide) _ _ _ t26 tw6))
      | (go_at_call 24; refine E1.out.mono ?_; clear E1; rintro e w7 ⟨rfl, hb7⟩; have hB7 := bsa hB6 hB6.size hb7; have t57 := t56.later hb7)
      | (go_at_call 24; refine (equalE_ok A5 _ c5 1 1 [(0, 2)] rfl (by decide) _ _ _ (t57.alloc (Nat.le_refl _) _) (SlE.new rfl rfl)).mono ?_; rintro e w8 ⟨rfl, hb8⟩; have hB8 := bal hB7 hB7.size hb8))
    go_ret
    exact ⟨rfl, hB8⟩
end Go.Proofs.Ytcdaieoondmljaa.H
