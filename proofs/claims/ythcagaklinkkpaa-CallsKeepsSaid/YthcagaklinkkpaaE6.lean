/- The reference's Sites and change. -/
import Derived.Test.YthcagaklinkkpaaE5
namespace Go.Proofs.Ythcagaklinkkpaa.E
set_option linter.unusedVariables false
open Go Go.RowKit Go.Shelf Go.Proofs.Ythcagaklinkkpaa Go.Proofs.Ythcagaklinkkpaa.W Go.Proofs.Ythcagaklinkkpaa.M Go.Proofs.Ythcagaklinkkpaa.B

set_option maxHeartbeats 1000000 in
theorem refSites_ok (A : Option Addr) (c : Nat) (b : Bs) (hn : b.length ≤ 65536) (w : World) (B : Nat) (h : Sl u8 w B A b) :
    Calls Try.prog 16 #[.slice A b.length c] w fun e w' => ∃ A' c', e = .returned (.tuple #[.slice A' (scan b 0).length c', .int .i64 0]) ∧
      w'.ownsRow w.heap.size 3 1 (.slice A' (scan b 0).length c') (scan b 0).length ((scan b 0).map iv) ∧ Below w.heap.size w w' := by
  obtain ⟨i0, hi, hz0, hz1, hz2⟩ := info_parts info3
  have hSl := h.lt
  obtain ⟨N, hN⟩ : ∃ N, N = b.length := ⟨_, rfl⟩
  have HN := Lib.hid hN
  rw [← hN] at hn ⊢
  clear hN
  go_enter Try.func16, Try.ntmps16
  go_wp2
  go_loopw [4, 5] (fun v iv' wr => ∃ (i : Nat) (pre : List Nat), i ≤ N ∧ iv' = .int .i64 i ∧ Hid (scan b 0 = pre ++ scan b i) ∧ pre.length ≤ i ∧ wr.ownsRow w.heap.size 3 1 v pre.length (pre.map iv) ∧ Below w.heap.size w wr)
    (fun _ v _ => N - (intOf v).toNat)
  case atStart => exact ⟨0, [], Nat.zero_le _, rfl, Lib.hid rfl, Nat.le_refl _, World.ownsRow_nil _ _ _ _, Below.refl _ _⟩
  case round =>
    obtain ⟨i, pre, hk, rfl, hsc, hpl, hown, hnx⟩ := hrel
    by_cases hlt : i < N
    · have hSw := hSl.below hnx
      have hlt' : i < b.length := HN.out ▸ hlt
      have CO := Lib.hid (is_any A c b i hlt' (by have := HN.out; omega) wr _ hSw)
      rw [← HN.out] at CO
      by_cases hop : isOp b i = true
      · have h5 := isOp_fits hop
        have h5' : i + 5 ≤ N := by rw [HN.out]; exact h5
        obtain ⟨bl, o, d, rfl, _, hx, hcd⟩ := hSw.byte (j := i + 4) (by omega)
        have hd : at_ b (i + 4) = d := by unfold at_; rw [hx]; rfl
        have hhi : isHi b i = (d == 0 || d == 255) := by unfold isHi; rw [hd]
        rw [hop] at CO
        have HOP := Lib.hid hop
        clear hx hd hop h5
        by_cases hd0 : d = 0
        · have hgo := Lib.hid (scan_hit hlt' HOP.out (by rw [hhi, hd0]; rfl))
          subst hd0
          have hcd : wr.cell? ⟨bl, o + (i + 4), none⟩ = some (.int .u8 0) := hcd
          clear hhi hlt'
          go_wp2_with (first
            | (go_at_call 26; refine CO.out.mono ?_; rintro e w1 ⟨rfl, rfl⟩)
            | (at_builtin; refine wpList_append_own _ rfl _ _ 31 rfl w.heap.size 3 i0 (.int .i64 0) 1 8 Try.underlying31 hi hz0 hz1 hz2 rfl (by decide) _ _ _ rfl (hown.alloc _) ⟨wr.heap.size, 0, none⟩ 1 1 [.int .i64 (i : Int)] rfl rfl (cell_one_new _ _ _) (by simp [Value.oneCell']) (by unfold maxLen; omega) (by omega) (by have := hnx.size; simp; omega) ?_; intro v' w2 hown2 hg2 _))
          go_roundw
          case rel => exact ⟨i + 5, pre ++ [i], by omega, by go_num, Lib.hid (by rw [hsc.out, hgo.out]; simp), by simp; omega, by rw [List.length_append, List.map_append]; exact hown2, (hnx.alloc (by have := hnx.size; omega) _).grown hg2 (by have := hnx.size; simp; omega) (fun k hk => (hown.lt k hk).1)⟩
          case measure => simp [intOf]; omega
        · have n1 : ((d.toNat : Int) == 0) = false := by rw [beq_eq_false_iff_ne]; intro e; exact hd0 (UInt8.toNat_inj.1 (by simpa using (show d.toNat = 0 by omega)))
          by_cases hd1 : d = 255
          · have hgo := Lib.hid (scan_hit hlt' HOP.out (by rw [hhi, hd1]; rfl))
            subst hd1
            have hcd : wr.cell? ⟨bl, o + (i + 4), none⟩ = some (.int .u8 255) := hcd
            clear hhi hlt' hd0 n1
            go_wp2_with (first
              | (go_at_call 26; refine CO.out.mono ?_; rintro e w1 ⟨rfl, rfl⟩)
              | (at_builtin; refine wpList_append_own _ rfl _ _ 31 rfl w.heap.size 3 i0 (.int .i64 0) 1 8 Try.underlying31 hi hz0 hz1 hz2 rfl (by decide) _ _ _ rfl (hown.alloc _) ⟨wr.heap.size, 0, none⟩ 1 1 [.int .i64 (i : Int)] rfl rfl (cell_one_new _ _ _) (by simp [Value.oneCell']) (by unfold maxLen; omega) (by omega) (by have := hnx.size; simp; omega) ?_; intro v' w2 hown2 hg2 _))
            go_roundw
            case rel => exact ⟨i + 5, pre ++ [i], by omega, by go_num, Lib.hid (by rw [hsc.out, hgo.out]; simp), by simp; omega, by rw [List.length_append, List.map_append]; exact hown2, (hnx.alloc (by have := hnx.size; omega) _).grown hg2 (by have := hnx.size; simp; omega) (fun k hk => (hown.lt k hk).1)⟩
            case measure => simp [intOf]; omega
          · have n2 : ((d.toNat : Int) == 255) = false := by rw [beq_eq_false_iff_ne]; intro e; exact hd1 (UInt8.toNat_inj.1 (by simpa using (show d.toNat = 255 by omega)))
            have hgo := Lib.hid (scan_pass hlt' HOP.out (by rw [hhi]; simp [hd0, hd1]))
            clear hhi hlt' hd0 hd1
            go_wp2_with (go_at_call 26; refine CO.out.mono ?_; rintro e w1 ⟨rfl, rfl⟩)
            go_roundw
            case rel => exact ⟨i + 5, pre, by omega, by go_num, Lib.hid (by rw [hsc.out, hgo.out]), by omega, hown, hnx⟩
            case measure => simp [intOf]; omega
      · have hop' := Bool.eq_false_iff.2 hop
        have hgo := Lib.hid (scan_no hlt' hop')
        rw [hop'] at CO
        clear hop hop' hlt'
        go_wp2_with (go_at_call 26; refine CO.out.mono ?_; rintro e w1 ⟨rfl, rfl⟩)
        go_roundw
        case rel => exact ⟨i + 1, pre, by omega, by go_num, Lib.hid (by rw [hsc.out, hgo.out]), by omega, hown, hnx⟩
        case measure => simp [intOf]; omega
    · obtain rfl : i = N := by omega
      have hall : Hid (pre = scan b 0) := Lib.hid (by rw [hsc.out, scan_end (by rw [HN.out]; exact Nat.le_refl _), List.append_nil])
      obtain ⟨A', c', rfl, _, _⟩ := own_form hown
      go_wp2
      go_ret2
      rw [← hall.out]
      exact ⟨A', c', rfl, hown, hnx⟩

theorem refSites_any (A : Option Addr) (c : Nat) (b : Bs) (hn : b.length ≤ 9223372036854775000) (w : World) (B : Nat) (h : Sl u8 w B A b) :
    Calls Try.prog 16 #[.slice A b.length c] w fun e w' => ∃ A' c', e = .returned (.tuple #[.slice A' (siteOut b).length c', .int .i64 (siteErr b.length)]) ∧
      w'.ownsRow w.heap.size 3 1 (.slice A' (siteOut b).length c') (siteOut b).length ((siteOut b).map iv) ∧ Below w.heap.size w w' := by
  by_cases h1 : b.length > 65536
  · have e1 : siteErr b.length = 5 := if_pos h1
    have e2 : siteOut b = [] := if_pos h1
    rw [e1, e2]
    clear e1 e2
    go_enter Try.func16, Try.ntmps16
    go_wp2
    go_ret2
    exact ⟨none, 0, rfl, World.ownsRow_nil _ _ _ _, Below.refl _ _⟩
  · have e1 : siteErr b.length = 0 := if_neg h1
    have e2 : siteOut b = scan b 0 := if_neg h1
    rw [e1, e2]
    exact refSites_ok A c b (by omega) w B h
end Go.Proofs.Ythcagaklinkkpaa.E
