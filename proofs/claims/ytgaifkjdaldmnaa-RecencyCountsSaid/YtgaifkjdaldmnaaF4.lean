/- The reference's list, move, Place. -/
import Derived.Test.YtgaifkjdaldmnaaF3
namespace Go.Proofs.Ytgaifkjdaldmnaa.F
set_option linter.unusedVariables false
open Go Go.RowKit Go.Proofs.Ytgaifkjdaldmnaa Go.Proofs.Ytgaifkjdaldmnaa.W Go.Proofs.Ytgaifkjdaldmnaa.M

theorem fresh_snoc {k : Nat} (h : k < 256) : fresh.take (k + 1) = fresh.take k ++ [UInt8.ofNat k] := take_succ (fresh_at h)
set_option maxRecDepth 100000 in
theorem rlist_any (w : World) : Calls Try.prog 30 #[] w fun e w' => ∃ A' c', e = .returned (.slice A' 256 c') ∧ w'.ownsRow w.heap.size 5 1 (.slice A' 256 c') 256 (fresh.map u8) ∧ Below w.heap.size w w' := by
  obtain ⟨i0, hi, hz0, hz1, hz2⟩ := info_parts info5
  go_enter Try.func30, Try.ntmps30
  go_wp2
  go_loopw [1, 2] (fun v i wm => ∃ (k : Nat) (A' : Option Addr) (c' : Nat), k ≤ 256 ∧ i = .int .i64 k ∧ v = .slice A' k c' ∧ wm.ownsRow w.heap.size 5 1 (.slice A' k c') k ((fresh.take k).map u8) ∧ Below w.heap.size w wm) (fun _ i _ => 256 - (intOf i).toNat)
  case atStart => exact ⟨0, none, 0, Nat.zero_le _, rfl, rfl, World.ownsRow_nil _ _ _ _, Below.refl _ _⟩
  case round =>
    obtain ⟨k, A', c', hk, rfl, rfl, hown, hB⟩ := hrel
    by_cases hlt : k < 256
    · have hwr : IntKind.u8.wrap (k : Int) = k := by simp [IntKind.wrap, IntKind.signed, IntKind.bits]; omega
      have HV : Hid (((UInt8.ofNat k).toNat : Int) = k) := Lib.hid (by rw [UInt8.toNat_ofNat', Nat.mod_eq_of_lt (by omega)])
      go_wp2_with (at_builtin; refine wpList_append_at _ u8_one' rfl _ _ 22 rfl w.heap.size 5 i0 (.int .u8 0) 1 Try.underlying22 hi hz0 hz1 hz2 rfl (.slice A' k c') k _ rfl (hown.alloc _) _ _ 1 [UInt8.ofNat k] 1 rfl (Sl.of_new rfl (by rw [List.map_cons, List.map_nil, W.u8_def, HV.out])) rfl (by unfold maxLen; omega) (by omega) (by have := hB.size; simp; omega) ?_; intro v4 w4 o4 g4 _; have hB4 := (hB.alloc hB.size _).grown g4 (by have := hB.size; simp; omega) (fun j hj => (hown.lt j hj).1))
      obtain ⟨A4, c4, rfl, _, _⟩ := own_form o4
      go_roundw
      case rel => exact ⟨k + 1, A4, c4, by omega, by go_num, rfl, by rw [fresh_snoc hlt, List.map_append]; exact o4, hB4⟩
      case measure => simp [intOf]; omega
    · obtain rfl : k = 256 := by omega
      rw [List.take_of_length_le (by rw [fresh_len]; exact Nat.le_refl _)] at hown
      go_wp2
      go_ret
      exact ⟨A', c', rfl, hown, hB⟩

theorem rplace_any (A : Option Addr) (c n : Nat) (l : Bs) (hl : l.length = n) (hn : n ≤ 65536) (x : UInt8) (hx : x ∈ l) (w : World) (B : Nat) (h : Sl u8 w B A l) :
    Calls Try.prog 31 #[.slice A n c, .int .u8 (x.toNat : Int)] w fun e w' => e = .returned (.int .i64 (l.idxOf x : Int)) ∧ w = w' := by
  have hi : l.idxOf x < n := by rw [← hl]; exact List.idxOf_lt_length_iff.2 hx
  have HL := Lib.hid hl
  have HI : Hid (∀ k, k < l.idxOf x → ∀ y, l[k]? = some y → y ≠ x) := Lib.hid fun k hk y hy e => by
    subst e
    have hkl : k < l.length := (List.getElem?_eq_some_iff.1 hy).1
    have := List.not_of_lt_findIdx (p := fun z => z == y) (xs := l) (i := k) hk
    rw [List.getElem?_eq_getElem hkl] at hy
    injection hy with hy
    rw [hy] at this
    simp at this
  have HX : Hid (∀ y, l[l.idxOf x]? = some y → y = x) := Lib.hid fun y hy => by
    have hkl : l.idxOf x < l.length := (List.getElem?_eq_some_iff.1 hy).1
    rw [List.getElem?_eq_getElem hkl, List.getElem_idxOf] at hy
    injection hy with hy
    exact hy.symm
  obtain ⟨p, hp⟩ : ∃ p, p = l.idxOf x := ⟨_, rfl⟩
  rw [← hp] at hi HI HX ⊢
  clear hp hx hl
  go_enter Try.func31, Try.ntmps31
  go_wp2
  go_loop [5] (fun i => ∃ k : Nat, k ≤ p ∧ i = .int .i64 k) (fun i => n - (intOf i).toNat)
  case atStart => exact ⟨0, Nat.zero_le _, rfl⟩
  case round =>
    obtain ⟨k, hk, rfl⟩ := hrel
    have hkn : k < n := by omega
    obtain ⟨b, o, y, rfl, _, hy, hc⟩ := h.byte (j := k) (by rw [HL.out]; exact hkn)
    by_cases hlt : k < p
    · have hne : ((y.toNat : Int) != (x.toNat : Int)) = true := by
        rw [bne_iff_ne]; intro e; exact HI.out k hlt y hy (UInt8.toNat_inj.1 (by omega))
      clear hy
      go_wp2
      go_round
      case rel => exact ⟨k + 1, by omega, by go_num⟩
      case measure => simp [intOf]; omega
    · obtain rfl : k = p := by omega
      obtain rfl := HX.out y hy
      clear hy
      go_wp2
      go_ret
      exact ⟨rfl, rfl⟩

theorem move_cells {l : Bs} (k : Nat) : [u8 (l.getD k 0)] ++ (l.take k).map u8 ++ (l.drop (k + 1)).map u8 = (front l k).map u8 := by
  unfold front
  rw [List.eraseIdx_eq_take_drop_succ]; simp

set_option maxRecDepth 100000 in
set_option maxHeartbeats 1000000 in
theorem move_any (A : Option Addr) (c k : Nat) (l : Bs) (hl : l.length = 256) (hc : 256 ≤ c) (hcm : c ≤ maxLen) (hk : k < 256) (w : World) (B : Nat) (h : Sl u8 w B A l) :
    Calls Try.prog 32 #[.slice A 256 c, .int .i64 (k : Int)] w fun e w' => ∃ A' c', e = .returned (.slice A' 256 c') ∧ w'.ownsRow w.heap.size 5 1 (.slice A' 256 c') 256 ((front l k).map u8) ∧ Below w.heap.size w w' := by
  obtain ⟨i0, hi, hz0, hz1, hz2⟩ := info_parts info5
  have hSl := h.lt
  obtain ⟨b, o, y, rfl, _, hy, hcy⟩ := hSl.byte (j := k) (by omega)
  have HM := Lib.hid (move_cells (l := l) k)
  have HY : Hid (l.getD k 0 = y) := Lib.hid (by simp [List.getD, hy])
  have ht : Sl u8 w w.heap.size (some ⟨b, o, none⟩) (l.take k) := hSl.take k
  have hd := hSl.drop (k := k + 1) (cap := c) (by omega)
  have HTl : Hid ((l.take k).length = k) := Lib.hid (by simp [hl]; omega)
  have HDl : Hid ((l.drop (k + 1)).length = 255 - k) := Lib.hid (by simp [hl])
  have o0 : (w.alloc (.cells #[.int .u8 (y.toNat : Int)] 5)).ownsRow w.heap.size 5 1 (.slice (some ⟨w.heap.size, 0, none⟩) 1 1) 1 [.int .u8 (y.toNat : Int)] := World.ownsRow_lit w #[.int .u8 (y.toNat : Int)] 1 (Nat.le_refl _) (by decide) rfl
  have hB0 : Below w.heap.size w (w.alloc (.cells #[.int .u8 (y.toNat : Int)] 5)) := (Below.refl _ w).alloc (Nat.le_refl _) _
  unfold maxLen at hcm
  clear hy h
  by_cases hck : c = k + 1
  · rw [if_pos hck] at hd
    subst hck
    go_enter Try.func32, Try.ntmps32
    go_wp2_with (first
      | (at_builtin; refine wpList_append_sl _ u8_one' rfl _ _ 22 rfl w.heap.size 5 i0 (.int .u8 0) 1 Try.underlying22 hi hz0 hz1 hz2 rfl (.slice (some ⟨w.heap.size, 0, none⟩) 1 1) 1 _ rfl o0 _ _ _ (l.take k) k rfl (ht.alloc (Nat.le_refl _) _) HTl.out (by unfold maxLen; omega) (by omega) (by simp) ?_; intro v1 w1 o1 g1; have hB1 := hB0.grown g1 (by simp) (fun j hj => (o0.lt j hj).1); obtain ⟨A1, c1, rfl, _, _⟩ := own_form o1)
      | (at_builtin; refine wpList_append_sl _ u8_one' rfl _ _ 22 rfl w.heap.size 5 i0 (.int .u8 0) 1 Try.underlying22 hi hz0 hz1 hz2 rfl (.slice A1 (1 + k) c1) (1 + k) _ rfl o1 _ _ _ (l.drop (k + 1)) 0 rfl (hd.below hB1) (by have := HDl.out; omega) (by unfold maxLen; omega) (by omega) hB1.size ?_; intro v2 w2 o2 g2; have hB2 := hB1.grown g2 hB1.size (fun j hj => (o1.lt j hj).1); obtain ⟨A2, c2, rfl, _, _⟩ := own_form o2))
    have e : 1 + k = 256 := by omega
    go_ret
    refine ⟨A2, c2, by show Ending.returned (.slice A2 (1 + k) c2) = _; rw [e], ?_, hB2⟩
    rw [← HM.out, HY.out]
    rw [Nat.add_zero, e] at o2
    exact o2
  · rw [if_neg hck] at hd
    have hd : Sl u8 w w.heap.size (some ⟨b, o + (k + 1), none⟩) (l.drop (k + 1)) := hd
    have hck' : ¬ (c = k + 1) := hck
    go_enter Try.func32, Try.ntmps32
    go_wp2_with (first
      | (at_builtin; refine wpList_append_sl _ u8_one' rfl _ _ 22 rfl w.heap.size 5 i0 (.int .u8 0) 1 Try.underlying22 hi hz0 hz1 hz2 rfl (.slice (some ⟨w.heap.size, 0, none⟩) 1 1) 1 _ rfl o0 _ _ _ (l.take k) k rfl (ht.alloc (Nat.le_refl _) _) HTl.out (by unfold maxLen; omega) (by omega) (by simp) ?_; intro v1 w1 o1 g1; have hB1 := hB0.grown g1 (by simp) (fun j hj => (o0.lt j hj).1); obtain ⟨A1, c1, rfl, _, _⟩ := own_form o1)
      | (at_builtin; refine wpList_append_sl _ u8_one' rfl _ _ 22 rfl w.heap.size 5 i0 (.int .u8 0) 1 Try.underlying22 hi hz0 hz1 hz2 rfl (.slice A1 (1 + k) c1) (1 + k) _ rfl o1 _ _ _ (l.drop (k + 1)) (255 - k) rfl (hd.below hB1) HDl.out (by unfold maxLen; omega) (by omega) hB1.size ?_; intro v2 w2 o2 g2; have hB2 := hB1.grown g2 hB1.size (fun j hj => (o1.lt j hj).1); obtain ⟨A2, c2, rfl, _, _⟩ := own_form o2))
    have e : 1 + k + (255 - k) = 256 := by omega
    go_ret
    refine ⟨A2, c2, by show Ending.returned (.slice A2 (1 + k + (255 - k)) c2) = _; rw [e], ?_, hB2⟩
    rw [← HM.out, HY.out]
    rw [e] at o2
    exact o2
end Go.Proofs.Ytgaifkjdaldmnaa.F
