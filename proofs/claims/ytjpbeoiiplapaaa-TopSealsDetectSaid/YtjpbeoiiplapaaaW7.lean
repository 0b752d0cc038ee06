/- slices.Grow, slices.Concat at [][]byte (printed by gen_w7.py). -/
import Derived.Test.YtjpbeoiiplapaaaW6
import Derived.Test.YtjpbeoiiplapaaaZeros
namespace Go.Proofs.Ytjpbeoiiplapaaa.C
set_option linter.unusedVariables false
set_option linter.unusedSimpArgs false
open Go Go.RowKit Go.Shelf Go.Proofs.Ytjpbeoiiplapaaa Go.Proofs.Ytjpbeoiiplapaaa.W Go.Proofs.Ytjpbeoiiplapaaa.M Go.Proofs.Ytjpbeoiiplapaaa.B

theorem own_zero {w : World} {base : Nat} {e : TypeId} {A : Option Addr} {n c : Nat} {xs : List Value} (h : w.ownsRow base e 1 (.slice A n c) n xs) (hn : 0 < n) : w.ownsRow base e 1 (.slice A 0 c) 0 [] := by
  refine ⟨rfl, ?_⟩
  rcases h.2 with ⟨_, h0⟩ | ⟨g, cap, cur, hv, h1, h2, h3, h4, h5, h6⟩
  · omega
  · injection hv with hA _ hc
    subst hA hc
    exact .inr ⟨g, c, cur, rfl, h1, h2, Nat.zero_le _, h4, h5, by simp⟩
set_option maxRecDepth 100000 in
theorem growNilR_ok (n : Nat) (hn : n ≤ 65536) (w : World) : Calls Try.prog 23 #[.slice none 0 0, .int .i64 (n : Int)] w fun e w' => ∃ A c, e = .returned (.slice A 0 c) ∧ w'.ownsRow w.heap.size 22 1 (.slice A 0 c) 0 [] ∧ Below w.heap.size w w' := by
  obtain ⟨i0, hi, hz0, hz1, hz2⟩ := info_parts infoR
  have underlying3 : Try.prog.underlying 3 = some (.int .i64) := by kernel_rfl
  rcases Nat.eq_zero_or_pos n with h0 | h0
  · subst h0
    go_enter Try.func23, Try.ntmps23
    go_wp2
    go_ret
    exact ⟨none, 0, rfl, World.ownsRow_nil _ _ _ _, Below.refl _ _⟩
  · have hp : (0 : Int) < (n : Int) := by omega
    have HZ : Hid ((1 : Nat) = 1) := Lib.hid rfl
    go_enter Try.func23, Try.ntmps23
    go_wp2_with (at_builtin; refine wpList_append_zeros _ rfl _ _ 29 3 rfl w.heap.size 22 i0 (.slice none 0 0) 24 .i64 .i64 Try.underlying29 underlying3 hi hz0 hz1 hz2 rfl rfl (.slice none 0 0) 0 [] rfl (World.ownsRow_nil _ _ _ _) n rfl (by unfold maxLen; omega) (by omega) (Nat.le_refl _) ?_; intro v1 w1 o1 g1 a1; have hb1 := (Below.refl w.heap.size w).grown g1 (Nat.le_refl _) (fun j hj => by simp [Value.ownBlock] at hj); simp only [Nat.zero_add, List.nil_append] at o1; obtain ⟨A1, c1, rfl, hc1, _⟩ := own_form o1)
    go_ret
    exact ⟨A1, c1, rfl, own_zero o1 h0, hb1⟩
/-- A part as the model holds it: address, capacity, bytes. -/
abbrev Part2 := Option Addr × Nat × List Part
def qv (p : Part2) : Value := .slice p.1 p.2.2.length p.2.1
def joinedR (ps : List Part2) : List Part := ps.flatMap fun p => p.2.2
theorem joinedR_take {ps : List Part2} {i : Nat} {p : Part2} (h : ps[i]? = some p) : joinedR (ps.take (i + 1)) = joinedR (ps.take i) ++ p.2.2 := by
  unfold joinedR; rw [take_succ h, List.flatMap_append]; simp
theorem joinedR_le (ps : List Part2) (i : Nat) : (joinedR (ps.take i)).length ≤ (joinedR ps).length := by
  conv => rhs; rw [← List.take_append_drop i ps]
  unfold joinedR; rw [List.flatMap_append, List.length_append]; omega

set_option maxRecDepth 100000 in
set_option maxHeartbeats 2000000 in
theorem ConcatR_ok (g m : Nat) (ps : List Part2) (t : List Part) (n : Nat) (hm : ps.length = m) (hm8 : m ≤ 8) (ht : joinedR ps = t) (hn : t.length = n) (hn6 : n ≤ 65536) (w : World) (hcell : Sl qv w w.heap.size (some ⟨g, 0, none⟩) ps) (hsl : ∀ p ∈ ps, Sl pv w w.heap.size p.1 p.2.2) :
    Calls Try.prog 14 #[.slice (some ⟨g, 0, none⟩) m m] w fun e w' => ∃ A' c', e = .returned (.slice A' n c') ∧ w'.ownsRow w.heap.size 22 1 (.slice A' n c') n (t.map pv) ∧ Below w.heap.size w w' := by
  obtain ⟨i0, hi, hz0, hz1, hz2⟩ := info_parts infoR
  have HM := Lib.hid hm
  have HT := Lib.hid ht
  have HN := Lib.hid hn
  have HS := Lib.hid hsl
  have HC : Hid (∀ i p, ps[i]? = some p → w.cell? ⟨g, i, none⟩ = some (qv p)) := Lib.hid fun i p hp => by
    obtain ⟨b, o, e, _, hc⟩ := hcell.open_ (by have := (List.getElem?_eq_some_iff.1 hp).1; omega)
    injection e with e
    injection e with e1 e2 _
    subst e1 e2
    have := hc i p hp
    rwa [Nat.zero_add] at this
  have HLE : Hid (∀ i, (joinedR (ps.take i)).length ≤ n) := Lib.hid fun i => by have := joinedR_le ps i; rw [HT.out, HN.out] at this; exact this
  clear hm ht hn hsl hcell
  go_enter Try.func14, Try.ntmps14
  go_wp2
  go_loop [3, 11] (fun sv iv => ∃ i s : Nat, i ≤ m ∧ iv = .int .i64 (i : Int) ∧ sv = .int .i64 (s : Int) ∧ Hid (s = (joinedR (ps.take i)).length)) (fun _ iv => m - (intOf iv).toNat)
  case atStart => exact ⟨0, 0, Nat.zero_le _, rfl, rfl, Lib.hid rfl⟩
  case round =>
    obtain ⟨i, s, him, rfl, rfl, hs⟩ := hrel
    have hs6 : s ≤ 65536 := by have := HLE.out i; rw [← hs.out] at this; omega
    by_cases hlt : i < m
    · obtain ⟨⟨Ai, ci, li⟩, hpi⟩ : ∃ p, ps[i]? = some p := ⟨_, List.getElem?_eq_getElem (by rw [HM.out]; exact hlt)⟩
      obtain ⟨q, hq⟩ : ∃ q, li.length = q := ⟨_, rfl⟩
      have hc := HC.out i _ hpi
      replace hc : w.cell? ⟨g, i, none⟩ = some (.slice Ai li.length ci) := hc
      rw [hq] at hc
      have hsq : Hid (s + q = (joinedR (ps.take (i + 1))).length) := Lib.hid (by rw [joinedR_take hpi, List.length_append, ← hs.out]; show s + q = s + li.length; omega)
      have hsq6 : s + q ≤ 65536 := by have := HLE.out (i + 1); rw [← hsq.out] at this; omega
      clear hpi hq
      go_wp2
      go_round
      case rel => exact ⟨i + 1, s + q, by omega, by go_num, by go_num, hsq⟩
      case measure => simp [intOf]; omega
    · obtain rfl : i = m := by omega
      have hsn : s = n := by rw [hs.out, List.take_of_length_le (by rw [HM.out]; exact Nat.le_refl _), HT.out, HN.out]
      clear hs
      subst hsn
      go_wp2_with (go_at_call 23; refine (growNilR_ok s hn6 _).mono ?_; rintro e w1 ⟨A1, c1, rfl, o1, hb1⟩)
      go_loopw [6, 27] (fun v iv wm => ∃ (k a : Nat) (A' : Option Addr) (c' : Nat), k ≤ i ∧ iv = .int .i64 (k : Int) ∧ v = .slice A' a c' ∧ Hid (a = (joinedR (ps.take k)).length) ∧ wm.ownsRow w.heap.size 22 1 (.slice A' a c') a ((joinedR (ps.take k)).map pv) ∧ Below w.heap.size w wm) (fun _ iv _ => i - (intOf iv).toNat)
      case atStart => exact ⟨0, 0, A1, c1, Nat.zero_le _, rfl, rfl, Lib.hid rfl, o1, hb1⟩
      case round =>
        obtain ⟨k, a, A', c', hk, rfl, rfl, ha, hown, hB⟩ := hrel
        have ha6 : a ≤ 65536 := by have := HLE.out k; rw [← ha.out] at this; omega
        by_cases hlt2 : k < i
        · obtain ⟨⟨Ai, ci, li⟩, hpi⟩ : ∃ p, ps[k]? = some p := ⟨_, List.getElem?_eq_getElem (by rw [HM.out]; exact hlt2)⟩
          obtain ⟨q, hq⟩ : ∃ q, li.length = q := ⟨_, rfl⟩
          have hc0 := HC.out k _ hpi
          have hg := World.block_lt_of_cell? w _ hc0
          have hc := (hB.cell (p := ⟨g, k, none⟩) hg).trans hc0
          replace hc : wr.cell? ⟨g, k, none⟩ = some (.slice Ai li.length ci) := hc
          rw [hq] at hc
          have hsq : Hid (a + q = (joinedR (ps.take (k + 1))).length) := Lib.hid (by rw [joinedR_take hpi, List.length_append, ← ha.out]; show a + q = a + li.length; omega)
          have hsq6 : a + q ≤ 65536 := by have := HLE.out (k + 1); rw [← hsq.out] at this; omega
          have hS := Lib.hid ((HS.out _ (List.mem_of_getElem? hpi)).below hB)
          have HQ := Lib.hid hq
          have HJ := Lib.hid (joinedR_take hpi)
          obtain ⟨J, hJ⟩ : ∃ J, J = joinedR (ps.take k) := ⟨_, rfl⟩
          have HJ0 := Lib.hid hJ
          rw [← hJ] at hown
          clear hpi hq hJ hc0
          go_wp2_with (at_builtin; refine wpList_append_at _ pv_one rfl _ _ 29 rfl w.heap.size 22 i0 (.slice none 0 0) 24 Try.underlying29 hi hz0 hz1 hz2 rfl (.slice A' a c') a _ rfl hown _ Ai ci li q rfl hS.out HQ.out (by unfold maxLen; omega) (by omega) hB.size ?_; intro v4 w4 o4 g4 _; have hb4 := hB.grown g4 hB.size (fun j hj => (hown.lt j hj).1); rw [← List.map_append] at o4; obtain ⟨A4, c4, rfl, _, _⟩ := own_form o4)
          go_roundw
          case rel => exact ⟨k + 1, a + q, A4, c4, by omega, by go_num, rfl, hsq, by rw [HJ.out, ← HJ0.out]; exact o4, hb4⟩
          case measure => simp [intOf]; omega
        · obtain rfl : k = i := by omega
          have hT : Hid (joinedR (ps.take k) = t) := Lib.hid (by rw [List.take_of_length_le (by rw [HM.out]; exact Nat.le_refl _), HT.out])
          have hsn : a = s := by rw [ha.out, hT.out, HN.out]
          subst hsn
          clear ha
          go_wp2
          go_ret
          exact ⟨A', c', rfl, by rw [← hT.out]; exact hown, hB⟩
end Go.Proofs.Ytjpbeoiiplapaaa.C
