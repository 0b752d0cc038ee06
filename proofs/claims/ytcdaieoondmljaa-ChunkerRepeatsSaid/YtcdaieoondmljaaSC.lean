/- slices.Concat at bytes. -/
import Derived.Test.YtcdaieoondmljaaSS
namespace Go.Proofs.Ytcdaieoondmljaa.H
set_option linter.unusedVariables false
open Go Go.RowKit Go.Proofs.Ytcdaieoondmljaa Go.Proofs.Ytcdaieoondmljaa.W Go.Proofs.Ytcdaieoondmljaa.M

/-- A part as the model holds it: address, capacity, bytes. -/
abbrev Part := Option Addr × Nat × Bs
def pv (p : Part) : Value := .slice p.1 p.2.2.length p.2.1
def joined (ps : List Part) : Bs := ps.flatMap fun p => p.2.2
theorem joined_take {ps : List Part} {i : Nat} {p : Part} (h : ps[i]? = some p) : joined (ps.take (i + 1)) = joined (ps.take i) ++ p.2.2 := by
  unfold joined; rw [take_succ h, List.flatMap_append]; simp
theorem joined_le (ps : List Part) (i : Nat) : (joined (ps.take i)).length ≤ (joined ps).length := by
  conv => rhs; rw [← List.take_append_drop i ps]
  unfold joined; rw [List.flatMap_append, List.length_append]; omega

set_option maxRecDepth 100000 in
set_option maxHeartbeats 2000000 in
theorem Concat_ok (g m : Nat) (ps : List Part) (t : Bs) (n : Nat) (hm : ps.length = m) (hm8 : m ≤ 8) (ht : joined ps = t) (hn : t.length = n) (hn6 : n ≤ 65536) (w : World) (hcell : Sl pv w w.heap.size (some ⟨g, 0, none⟩) ps) (hsl : ∀ p ∈ ps, Sl u8 w w.heap.size p.1 p.2.2) :
    Calls Try.prog 23 #[.slice (some ⟨g, 0, none⟩) m m] w fun e w' => ∃ A' c', e = .returned (.slice A' n c') ∧ w'.ownsRow w.heap.size 5 1 (.slice A' n c') n (t.map u8) ∧ Below w.heap.size w w' := by
  obtain ⟨i0, hi, hz0, hz1, hz2⟩ := info_parts info5
  have HM := Lib.hid hm
  have HT := Lib.hid ht
  have HN := Lib.hid hn
  have HS := Lib.hid hsl
  have HC : Hid (∀ i p, ps[i]? = some p → w.cell? ⟨g, i, none⟩ = some (pv p)) := Lib.hid fun i p hp => by
    obtain ⟨b, o, e, _, hc⟩ := hcell.open_ (by have := (List.getElem?_eq_some_iff.1 hp).1; omega)
    injection e with e
    injection e with e1 e2 _
    subst e1 e2
    have := hc i p hp
    rwa [Nat.zero_add] at this
  have HLE : Hid (∀ i, (joined (ps.take i)).length ≤ n) := Lib.hid fun i => by have := joined_le ps i; rw [HT.out, HN.out] at this; exact this
  clear hm ht hn hsl hcell
  go_enter Try.func23, Try.ntmps23
  go_wp2
  go_loop [3, 11] (fun sv iv => ∃ i s : Nat, i ≤ m ∧ iv = .int .i64 (i : Int) ∧ sv = .int .i64 (s : Int) ∧ Hid (s = (joined (ps.take i)).length)) (fun _ iv => m - (intOf iv).toNat)
  case atStart => exact ⟨0, 0, Nat.zero_le _, rfl, rfl, Lib.hid rfl⟩
  case round =>
    obtain ⟨i, s, him, rfl, rfl, hs⟩ := hrel
    have hs6 : s ≤ 65536 := by have := HLE.out i; rw [← hs.out] at this; omega
    by_cases hlt : i < m
    · obtain ⟨⟨Ai, ci, li⟩, hpi⟩ : ∃ p, ps[i]? = some p := ⟨_, List.getElem?_eq_getElem (by rw [HM.out]; exact hlt)⟩
      obtain ⟨q, hq⟩ : ∃ q, li.length = q := ⟨_, rfl⟩
      have hc := HC.out i _ hpi
      replace hc : w.cell? ⟨g, i, none⟩ = some (.slice Ai li.length ci) := hc
      rw [hq] at hc
      have hsq : Hid (s + q = (joined (ps.take (i + 1))).length) := Lib.hid (by rw [joined_take hpi, List.length_append, ← hs.out]; show s + q = s + li.length; omega)
      have hsq6 : s + q ≤ 65536 := by have := HLE.out (i + 1); rw [← hsq.out] at this; omega
      clear hpi hq
      go_wp2
      go_round
      case rel => exact ⟨i + 1, s + q, by omega, by go_num, by go_num, hsq⟩
      case measure => simp [intOf]; omega
    · obtain rfl : i = m := by omega
      have hsn : s = n := by rw [hs.out, List.take_of_length_le (by rw [HM.out]; exact Nat.le_refl _), HT.out, HN.out]
      clear hs
      subst hsn
      go_wp2_with (go_at_call 34; refine (growNil_ok s hn6 _).mono ?_; rintro e w1 ⟨A1, c1, rfl, o1, hb1⟩)
      go_loopw [6, 27] (fun v iv wm => ∃ (k a : Nat) (A' : Option Addr) (c' : Nat), k ≤ i ∧ iv = .int .i64 (k : Int) ∧ v = .slice A' a c' ∧ Hid (a = (joined (ps.take k)).length) ∧ wm.ownsRow w.heap.size 5 1 (.slice A' a c') a ((joined (ps.take k)).map u8) ∧ Below w.heap.size w wm) (fun _ iv _ => i - (intOf iv).toNat)
      case atStart => exact ⟨0, 0, A1, c1, Nat.zero_le _, rfl, rfl, Lib.hid rfl, o1, hb1⟩
      case round =>
        obtain ⟨k, a, A', c', hk, rfl, rfl, ha, hown, hB⟩ := hrel
        have ha6 : a ≤ 65536 := by have := HLE.out k; rw [← ha.out] at this; omega
        by_cases hlt2 : k < i
        · obtain ⟨⟨Ai, ci, li⟩, hpi⟩ : ∃ p, ps[k]? = some p := ⟨_, List.getElem?_eq_getElem (by rw [HM.out]; exact hlt2)⟩
          obtain ⟨q, hq⟩ : ∃ q, li.length = q := ⟨_, rfl⟩
          have hc0 := HC.out k _ hpi
          have hg := World.block_lt_of_cell? w _ hc0
          have hc := (hB.cell (p := ⟨g, k, none⟩) hg).trans hc0
          replace hc : wr.cell? ⟨g, k, none⟩ = some (.slice Ai li.length ci) := hc
          rw [hq] at hc
          have hsq : Hid (a + q = (joined (ps.take (k + 1))).length) := Lib.hid (by rw [joined_take hpi, List.length_append, ← ha.out]; show a + q = a + li.length; omega)
          have hsq6 : a + q ≤ 65536 := by have := HLE.out (k + 1); rw [← hsq.out] at this; omega
          have hS := Lib.hid ((HS.out _ (List.mem_of_getElem? hpi)).below hB)
          have HQ := Lib.hid hq
          have HJ := Lib.hid (joined_take hpi)
          obtain ⟨J, hJ⟩ : ∃ J, J = joined (ps.take k) := ⟨_, rfl⟩
          have HJ0 := Lib.hid hJ
          rw [← hJ] at hown
          clear hpi hq hJ hc0
          go_wp2_with (at_builtin; refine wpList_append_at _ u8_one' rfl _ _ 24 rfl w.heap.size 5 i0 (.int .u8 0) 1 Try.underlying24 hi hz0 hz1 hz2 rfl (.slice A' a c') a _ rfl hown _ Ai ci li q rfl hS.out HQ.out (by unfold maxLen; omega) (by omega) hB.size ?_; intro v4 w4 o4 g4 _; have hb4 := hB.grown g4 hB.size (fun j hj => (hown.lt j hj).1); rw [← List.map_append] at o4; obtain ⟨A4, c4, rfl, _, _⟩ := own_form o4)
          go_roundw
          case rel => exact ⟨k + 1, a + q, A4, c4, by omega, by go_num, rfl, hsq, by rw [HJ.out, ← HJ0.out]; exact o4, hb4⟩
          case measure => simp [intOf]; omega
        · obtain rfl : k = i := by omega
          have hT : Hid (joined (ps.take k) = t) := Lib.hid (by rw [List.take_of_length_le (by rw [HM.out]; exact Nat.le_refl _), HT.out])
          have hsn : a = s := by rw [ha.out, hT.out, HN.out]
          subst hsn
          clear ha
          go_wp2
          go_ret
          exact ⟨A', c', rfl, by rw [← hT.out]; exact hown, hB⟩
/-- Concat of two. -/
theorem Concat2 {A A' : Option Addr} {c c' n n' : Nat} {l l' : Bs} (hl : l.length = n) (hl' : l'.length = n') {k : Nat} (hk : n + n' = k) (hk6 : k ≤ 65536) {W : World} (h : Sl u8 W W.heap.size A l) (h' : Sl u8 W W.heap.size A' l') :
    Calls Try.prog 23 #[.slice (some ⟨W.heap.size, 0, none⟩) 2 2] (W.alloc (.cells #[.slice A n c, .slice A' n' c'] 24)) fun e w' => ∃ A'' c'', e = .returned (.slice A'' k c'') ∧ Sl u8 w' w'.heap.size A'' (l ++ l') ∧ k ≤ c'' ∧ c'' ≤ maxLen ∧ Below W.heap.size W w' := by
  subst hl hl' hk
  refine (Concat_ok W.heap.size 2 [(A, c, l), (A', c', l')] (l ++ l') _ rfl (by decide) (by simp [joined]) (by simp) hk6 _ (by rw [World.size_alloc]; exact Sl.of_new rfl rfl) ?_).mono ?_
  · intro p hp
    rw [List.mem_cons, List.mem_singleton] at hp
    rcases hp with rfl | rfl
    · exact (h.alloc (Nat.le_refl _) _).more (by simp)
    · exact (h'.alloc (Nat.le_refl _) _).more (by simp)
  · rintro e w' ⟨A'', c'', he, ho, hb⟩
    obtain ⟨h1, h2⟩ := own_cap ho
    exact ⟨A'', c'', he, Sl.of_own ho, h1, h2, ((Below.refl _ _).alloc (Nat.le_refl _) _).trans (hb.mono (by simp))⟩
/-- Concat of three. -/
theorem Concat3 {A A' B : Option Addr} {c c' d n n' m : Nat} {l l' r : Bs} (hl : l.length = n) (hl' : l'.length = n') (hr : r.length = m) {k : Nat} (hk : n + n' + m = k) (hk6 : k ≤ 65536) {W : World} (h : Sl u8 W W.heap.size A l) (h' : Sl u8 W W.heap.size A' l') (h3 : Sl u8 W W.heap.size B r) :
    Calls Try.prog 23 #[.slice (some ⟨W.heap.size, 0, none⟩) 3 3] (W.alloc (.cells #[.slice A n c, .slice A' n' c', .slice B m d] 24)) fun e w' => ∃ A'' c'', e = .returned (.slice A'' k c'') ∧ Sl u8 w' w'.heap.size A'' (l ++ l' ++ r) ∧ k ≤ c'' ∧ c'' ≤ maxLen ∧ Below W.heap.size W w' := by
  subst hl hl' hr hk
  refine (Concat_ok W.heap.size 3 [(A, c, l), (A', c', l'), (B, d, r)] (l ++ l' ++ r) _ rfl (by decide) (by simp [joined]) (by simp; omega) hk6 _ (by rw [World.size_alloc]; exact Sl.of_new rfl rfl) ?_).mono ?_
  · intro p hp
    rw [List.mem_cons, List.mem_cons, List.mem_singleton] at hp
    rcases hp with rfl | rfl | rfl
    · exact (h.alloc (Nat.le_refl _) _).more (by simp)
    · exact (h'.alloc (Nat.le_refl _) _).more (by simp)
    · exact (h3.alloc (Nat.le_refl _) _).more (by simp)
  · rintro e w' ⟨A'', c'', he, ho, hb⟩
    obtain ⟨h1, h2⟩ := own_cap ho
    exact ⟨A'', c'', he, Sl.of_own ho, h1, h2, ((Below.refl _ _).alloc (Nat.le_refl _) _).trans (hb.mono (by simp))⟩
end Go.Proofs.Ytcdaieoondmljaa.H
