/- parse.solve, Potentials. -/
import Derived.Test.YtfahfbkkgcekgaaY8
import Derived.Laws.MakeOwn
import Derived.Laws.OwnMore
namespace Go.Proofs.Ytfahfbkkgcekgaa.H
set_option linter.unusedVariables false
set_option linter.unusedSimpArgs false
open Go Go.RowKit Go.Proofs.Ytfahfbkkgcekgaa Go.Proofs.Ytfahfbkkgcekgaa.W Go.Proofs.Ytfahfbkkgcekgaa.M

theorem infoI : (Try.prog.info? 3).map (fun i => (i.zero, i.size, i.bytes)) = some (some (.int .i64 0), 1, 8) := by kernel_rfl
theorem flatT_set : ∀ (M : List Tok) (k : Nat) (t : Tok), (((flatT M).set (k * 3) (.int .i64 (t.1 : Int))).set (k * 3 + 1) (.int .i64 (t.2.1 : Int))).set (k * 3 + 2) (.int .u8 (t.2.2.toNat : Int)) = flatT (M.set k t)
  | [], k, t => by simp [flatT]
  | a :: M, 0, t => rfl
  | a :: M, k + 1, t => by
    have e : flatT ((a :: M).set (k + 1) t) = .int .i64 (a.1 : Int) :: .int .i64 (a.2.1 : Int) :: .int .u8 (a.2.2.toNat : Int) :: flatT (M.set k t) := rfl
    rw [e, ← flatT_set M k t, flatT_cons, show (k + 1) * 3 = k * 3 + 1 + 1 + 1 by omega]
    rfl
theorem made_tok (n : Nat) : madeCells #[.int .i64 0, .int .i64 0, .int .u8 0] (n * 3) = (flatT (List.replicate n (0, 0, 0))).toArray := by
  apply Array.ext'
  apply List.ext_getElem?
  intro j
  unfold madeCells
  rw [Array.toList_map, List.getElem?_map, Array.toList_range, List.toList_toArray]
  by_cases hj : j < n * 3
  · rw [List.getElem?_range hj]
    have hl : (List.replicate n ((0, 0, 0) : Tok))[j / 3]? = some (0, 0, 0) := by rw [List.getElem?_replicate, if_pos (by omega)]
    obtain ⟨h1, h2, h3⟩ := flatT_get hl
    have hr : j % 3 = 0 ∨ j % 3 = 1 ∨ j % 3 = 2 := by omega
    rcases hr with hr | hr | hr
    · rw [show j / 3 * 3 = j by omega] at h1
      rw [h1]; simp [hr]
    · rw [show j / 3 * 3 + 1 = j by omega] at h2
      rw [h2]; simp [hr]
    · rw [show j / 3 * 3 + 2 = j by omega] at h3
      rw [h3]; simp [hr]
  · rw [List.getElem?_eq_none (by simp; omega), List.getElem?_eq_none (by rw [flatT_length, List.length_replicate]; omega)]
    rfl
theorem make_ints (n : Nat) (hn : n ≤ 65537) (W : World) : (Instr.makeSlice 38 (.int .i64 (n : Int)) (.int .i64 (n : Int))).run Try.prog W = .ok (.slice (some ⟨W.heap.size, 0, none⟩) n n) (W.alloc (.cells ((List.replicate n 0).map i64).toArray 3)) := by
  obtain ⟨i0, hi, hz0, hz1, hz2⟩ := info_parts infoI
  have := run_make (P := Try.prog) W 38 3 i0 (.int .i64 0) Try.underlying38 hi hz0 .i64 .i64 n n (by omega) (by omega) (by rw [hz2]; omega) (by omega)
  rw [hz1, Int.toNat_natCast, Nat.mul_one] at this
  have e : madeCells (Value.int .i64 0).cells n = ((List.replicate n 0).map i64).toArray := by
    apply Array.ext'
    rw [show (Value.int .i64 0).cells = #[.int .i64 0] from rfl, toList_madeCells_one]
    simp [i64]
  rw [e] at this
  exact this
theorem make_toks (n : Nat) (hn : n ≤ 65536) (W : World) : (Instr.makeSlice 24 (.int .i64 (n : Int)) (.int .i64 (n : Int))).run Try.prog W = .ok (.slice (some ⟨W.heap.size, 0, none⟩) n n) (W.alloc (.cells (flatT (List.replicate n (0, 0, 0))).toArray 46)) := by
  obtain ⟨i0, hi, hz0, hz1, hz2⟩ := info_parts infoT
  have := run_make (P := Try.prog) W 24 46 i0 (.agg #[.int .i64 0, .int .i64 0, .int .u8 0]) Try.underlying24 hi hz0 .i64 .i64 n n (by omega) (by omega) (by rw [hz2]; omega) (by omega)
  rw [hz1, Int.toNat_natCast] at this
  have e : madeCells (Value.agg #[.int .i64 0, .int .i64 0, .int .u8 0]).cells (n * 3) = (flatT (List.replicate n (0, 0, 0))).toArray := by
    rw [show (Value.agg #[.int .i64 0, .int .i64 0, .int .u8 0]).cells = #[.int .i64 0, .int .i64 0, .int .u8 0] from rfl, made_tok]
  rw [e] at this
  exact this

/-- The potentials and the steps in memory behind j rounds. -/
def potL (b : Bs) (N j : Nat) : List Nat := List.replicate (N - j) 0 ++ (solv b j).1
def stpL (b : Bs) (N j : Nat) : List Tok := List.replicate (N - j) (0, 0, 0) ++ (solv b j).2
theorem potL_len (b : Bs) {N j : Nat} (h : j ≤ N) : (potL b N j).length = N + 1 := by unfold potL; rw [List.length_append, List.length_replicate, (solv_len b j).1]; omega
theorem stpL_len (b : Bs) {N j : Nat} (h : j ≤ N) : (stpL b N j).length = N := by unfold stpL; rw [List.length_append, List.length_replicate, (solv_len b j).2]; omega
theorem potL_zero (b : Bs) (N : Nat) : potL b N 0 = List.replicate (N + 1) 0 := by
  unfold potL; show List.replicate N 0 ++ [0] = _; rw [List.replicate_succ']
theorem stpL_zero (b : Bs) (N : Nat) : stpL b N 0 = List.replicate N (0, 0, 0) := by
  unfold stpL; show List.replicate N _ ++ [] = _; rw [List.append_nil]
theorem potL_get (b : Bs) {N j x : Nat} (hx : N - j ≤ x) : (potL b N j).getD x 0 = (solv b j).1.getD (x - (N - j)) 0 := by
  unfold potL; rw [List.getD_eq_getElem?_getD, List.getElem?_append_right (by simpa using hx), List.length_replicate, ← List.getD_eq_getElem?_getD]
theorem set_mid {α : Type} (z v : α) (n : Nat) (l : List α) : (List.replicate (n + 1) z ++ l).set n v = List.replicate n z ++ v :: l := by
  rw [List.replicate_succ', List.append_assoc, List.set_append, List.length_replicate, if_neg (Nat.lt_irrefl _), Nat.sub_self]; rfl
theorem solv_round (b : Bs) {N j k : Nat} (hN : b.length = N) (hj : j < N) (hk : N - (j + 1) = k) : ∃ (t : Tok) (n : Nat), best b k (fun x => (potL b N j).getD x 0) = (t, (n : Int)) ∧ (potL b N j).set k n = potL b N (j + 1) ∧ (stpL b N j).set k t = stpL b N (j + 1) ∧ n ≤ 9 + (solv b j).1.getD 0 0 ∧ okAt b k t := by
  subst hN
  have hc : best b k (fun x => (potL b b.length j).getD x 0) = best b (b.length - (j + 1)) (fun x => (solv b j).1.getD (x - (b.length - j)) 0) := by
    rw [hk]
    refine best_congr (by omega) fun x hx1 hx2 => ?_
    exact potL_get b (by omega)
  obtain ⟨t, n, h1, h2, h3, h4⟩ := best_spec b (b.length - (j + 1)) (fun x => (solv b j).1.getD (x - (b.length - j)) 0)
  have e1 : b.length - j = k + 1 := by omega
  refine ⟨t, n, hc.trans h1, ?_, ?_, ?_, ?_⟩
  · unfold potL
    rw [solv_succ1, h1, hk, e1, set_mid]; rfl
  · unfold stpL
    rw [solv_succ2, h1, hk, e1, set_mid]
  · have := h4 _ (List.mem_cons_self ..)
    have e2 : b.length - (j + 1) + tsz (lit (b.getD (b.length - (j + 1)) 0)) - (b.length - j) = 0 := by
      show b.length - (j + 1) + 1 - (b.length - j) = 0; omega
    rw [e2] at this
    exact this
  · rw [← hk]; exact chs_ok (by omega) h2
theorem solv_le (b : Bs) (N : Nat) (hN : b.length = N) : ∀ j, j ≤ N → ∀ i, (potL b N j).getD i 0 ≤ 9 * j
  | 0, _, i => by
    rw [potL_zero, List.getD_eq_getElem?_getD, List.getElem?_replicate]
    split <;> exact Nat.le_refl _
  | j + 1, h, i => by
    have ih := solv_le b N hN j (by omega)
    obtain ⟨t, n, _, h2, _, h4, _⟩ := solv_round b hN (show j < N by omega) (k := N - (j + 1)) rfl
    have h0 := ih (N - j)
    rw [potL_get b (Nat.le_refl _), Nat.sub_self] at h0
    rw [← h2, List.getD_eq_getElem?_getD, List.getElem?_set]
    by_cases hi : N - (j + 1) = i
    · rw [if_pos hi]
      split
      · show n ≤ _; omega
      · exact Nat.zero_le _
    · rw [if_neg hi, ← List.getD_eq_getElem?_getD]
      have := ih i
      omega
/-- A block of numbers, a block of tokens. -/
def NB (w : World) (g : Nat) (l : List Nat) : Prop := Blk w g 3 (l.map i64).toArray
def TB (w : World) (g : Nat) (l : List Tok) : Prop := Blk w g 46 (flatT l).toArray
theorem NB.later {w w' : World} {g : Nat} {l : List Nat} (h : NB w g l) (hb : Below w.heap.size w w') : NB w' g l := Blk.later h hb
theorem TB.later {w w' : World} {g : Nat} {l : List Tok} (h : TB w g l) (hb : Below w.heap.size w w') : TB w' g l := Blk.later h hb
theorem NB.sl {w : World} {g : Nat} {l : List Nat} (h : NB w g l) : Sl i64 w w.heap.size (some ⟨g, 0, none⟩) l := Sl.of_blk h
theorem TB.sl {w : World} {g : Nat} {l : List Tok} (h : TB w g l) : SlT w w.heap.size (some ⟨g, 0, none⟩) l := by
  refine Sl.of_blk (t := 46) ?_
  rw [List.map_id']; exact h
theorem NB.at_ {w : World} {g : Nat} {l : List Nat} (h : NB w g l) {i : Nat} (hi : i < l.length) : w.cell? ⟨g, i, none⟩ = some (.int .i64 (l.getD i 0 : Int)) := by
  rw [Blk.cell h, List.getElem?_toArray, List.getElem?_map, List.getD_eq_getElem?_getD, List.getElem?_eq_getElem hi]; rfl
theorem TB.at_ {w : World} {g : Nat} {l : List Tok} (h : TB w g l) {i : Nat} {t : Tok} (hi : l[i]? = some t) : w.cell? ⟨g, i * 3, none⟩ = some (.int .i64 (t.1 : Int)) ∧ w.cell? ⟨g, i * 3 + 1, none⟩ = some (.int .i64 (t.2.1 : Int)) ∧ w.cell? ⟨g, i * 3 + 2, none⟩ = some (.int .u8 (t.2.2.toNat : Int)) := by
  obtain ⟨h1, h2, h3⟩ := flatT_get hi
  exact ⟨by rw [Blk.cell h, List.getElem?_toArray, h1], by rw [Blk.cell h, List.getElem?_toArray, h2], by rw [Blk.cell h, List.getElem?_toArray, h3]⟩
theorem TB.put {w : World} {g : Nat} {l : List Tok} (h : TB w g l) (k : Nat) (t : Tok) : TB (((w.setCell ⟨g, k * 3, none⟩ (.int .i64 (t.1 : Int))).setCell ⟨g, k * 3 + 1, none⟩ (.int .i64 (t.2.1 : Int))).setCell ⟨g, k * 3 + 2, none⟩ (.int .u8 (t.2.2.toNat : Int))) g (l.set k t) := by
  have := ((Blk.store h (k * 3) (.int .i64 (t.1 : Int))).store (k * 3 + 1) (.int .i64 (t.2.1 : Int))).store (k * 3 + 2) (.int .u8 (t.2.2.toNat : Int))
  rw [List.setIfInBounds_toArray, List.setIfInBounds_toArray, List.setIfInBounds_toArray, flatT_set] at this
  exact this
theorem NB.put {w : World} {g : Nat} {l : List Nat} (h : NB w g l) (k n : Nat) : NB (w.setCell ⟨g, k, none⟩ (.int .i64 (n : Int))) g (l.set k n) := by
  have := Blk.store h k (.int .i64 (n : Int))
  rw [List.setIfInBounds_toArray] at this
  unfold NB
  rw [List.map_set]; exact this

set_option maxRecDepth 100000 in
set_option maxHeartbeats 2000000 in
theorem solve_ok (b : Bs) (N : Nat) (hN : b.length = N) (hN6 : N ≤ 65536) (A : Option Addr) (c : Nat) (w : World) (hS : Sl u8 w w.heap.size A b) :
    Calls Try.prog 21 #[.slice A N c] w fun e w' => ∃ gp gs, e = .returned (.tuple #[.slice (some ⟨gp, 0, none⟩) (N + 1) (N + 1), .slice (some ⟨gs, 0, none⟩) N N]) ∧ NB w' gp (solv b N).1 ∧ TB w' gs (solv b N).2 ∧ w.heap.size ≤ gp ∧ w.heap.size ≤ gs ∧ Below w.heap.size w w' := by
  have mk1 := fun W => make_ints (N + 1) (by omega) W
  have mk2 := fun W => make_toks N hN6 W
  rw [← potL_zero b N] at mk1
  rw [← stpL_zero b N] at mk2
  rw [show ((N + 1 : Nat) : Int) = (N : Int) + 1 by omega] at mk1
  obtain ⟨Z, hZ⟩ : ∃ Z, ((potL b N 0).map i64).toArray = Z := ⟨_, rfl⟩
  obtain ⟨Y, hY⟩ : ∃ Y, (flatT (stpL b N 0)).toArray = Y := ⟨_, rfl⟩
  rw [hZ] at mk1
  rw [hY] at mk2
  have HZ := Lib.hid hZ
  have HY := Lib.hid hY
  have u1 : IntKind.i64.wrap ((N : Int) + 1) = (N : Int) + 1 := by rw [IntKind.wrap_i64]; omega
  clear hZ hY
  go_enter Try.func21, Try.ntmps21
  go_wp2
  have b1 : Below w.heap.size w (w.alloc (.cells Z 3)) := (Below.refl _ w).alloc (Nat.le_refl _) _
  have b2 : Below w.heap.size w (w.alloc (.cells Y 46)) := (Below.refl _ w).alloc (Nat.le_refl _) _
  have START : Hid (∀ gp gs w1, ((gp = w.heap.size ∧ gs = w.heap.size + 1 ∧ w1 = ((w.alloc (.cells Z 3)).alloc (.cells Y 46)).drew) ∨ (gp = w.heap.size + 1 ∧ gs = w.heap.size ∧ w1 = ((w.alloc (.cells Y 46)).alloc (.cells Z 3)).drew)) → w.heap.size ≤ gp ∧ w.heap.size ≤ gs ∧ gp ≠ gs ∧ NB w1 gp (potL b N 0) ∧ TB w1 gs (stpL b N 0) ∧ Below w.heap.size w w1) := Lib.hid fun gp gs w1 h => by
    unfold NB TB
    rw [HZ.out, HY.out]
    rcases h with ⟨rfl, rfl, rfl⟩ | ⟨rfl, rfl, rfl⟩
    · exact ⟨Nat.le_refl _, by omega, by omega, ((Blk.new _ _ _).alloc _).drew, (Blk.new' (by simp) _ _).drew, (b1.alloc (by simp) _).drew⟩
    · exact ⟨by omega, Nat.le_refl _, by omega, (Blk.new' (by simp) _ _).drew, ((Blk.new _ _ _).alloc _).drew, (b2.alloc (by simp) _).drew⟩
  clear b1 b2
  go_region
  all_goals first
    | (obtain ⟨w1, hw1⟩ : ∃ w1, w1 = ((w.alloc (.cells Z 3)).alloc (.cells Y 46)).drew := ⟨_, rfl⟩
       rw [← hw1]
       obtain ⟨gp, hgp⟩ : ∃ gp, gp = w.heap.size := ⟨_, rfl⟩
       obtain ⟨gs, hgs⟩ : ∃ gs, gs = w.heap.size + 1 := ⟨_, rfl⟩
       rw [← hgs, ← hgp]
       have ST := START.out gp gs w1 (.inl ⟨hgp, hgs, hw1⟩)
       clear hw1 hgp hgs START)
    | (obtain ⟨w1, hw1⟩ : ∃ w1, w1 = ((w.alloc (.cells Y 46)).alloc (.cells Z 3)).drew := ⟨_, rfl⟩
       rw [← hw1]
       obtain ⟨gp, hgp⟩ : ∃ gp, gp = w.heap.size + 1 := ⟨_, rfl⟩
       obtain ⟨gs, hgs⟩ : ∃ gs, gs = w.heap.size := ⟨_, rfl⟩
       rw [← hgp, ← hgs]
       have ST := START.out gp gs w1 (.inr ⟨hgp, hgs, hw1⟩)
       clear hw1 hgp hgs START)
  all_goals
    obtain ⟨hgp, hgs, hne, hN1, hT1, hB1⟩ := ST
    clear mk1 mk2 HZ HY
    go_wp2_with fail
    go_loopw [17] (fun iv wm => ∃ j : Nat, j ≤ N ∧ iv = .int .i64 (j : Int) ∧ NB wm gp (potL b N j) ∧ TB wm gs (stpL b N j) ∧ Below w.heap.size w wm) (fun iv _ => N - (intOf iv).toNat)
    case atStart => exact ⟨0, Nat.zero_le _, rfl, hN1, hT1, hB1⟩
    case round =>
      obtain ⟨j, hj, rfl, hN2, hT2, hB⟩ := hrel
      clear hN1 hT1 hB1
      by_cases hlt : j < N
      · obtain ⟨n1, hn1⟩ : ∃ n1, N - 1 = n1 := ⟨_, rfl⟩
        obtain ⟨k, hk⟩ : ∃ k, n1 - j = k := ⟨_, rfl⟩
        have v1 : (N : Int) - 1 = (n1 : Int) := by omega
        have v2 : (n1 : Int) - (j : Int) = (k : Int) := by omega
        have v3 : IntKind.i64.wrap (n1 : Int) = (n1 : Int) := by rw [IntKind.wrap_i64]; omega
        have v4 : IntKind.i64.wrap (k : Int) = (k : Int) := by rw [IntKind.wrap_i64]; omega
        have hkN : k < N := by omega
        have v5 : (k : Int) < (N : Int) := by omega
        have v6 : (k : Int) < (N : Int) + 1 := by omega
        obtain ⟨⟨t1, t2, t3⟩, n, hbest, hp, hs, _, _⟩ := solv_round b hN hlt (k := k) (by omega)
        have HP := Lib.hid hp
        have HS := Lib.hid hs
        have hle := solv_le b N hN j hj
        have C : Hid (Calls Try.prog 36 #[.slice A N c, .int .i64 (k : Int), .slice (some ⟨gp, 0, none⟩) (N + 1) (N + 1)] wr fun e w' => e = .returned (.tuple #[.agg #[.int .i64 (t1 : Int), .int .i64 (t2 : Int), .int .u8 (t3.toNat : Int)], .int .i64 (n : Int)]) ∧ Below wr.heap.size wr w') :=
          Lib.hid (best_ok A c N k b hN hN6 hkN _ (N + 1) (potL b N j) (potL_len b hj) (fun i => Nat.le_trans (hle i) (by omega)) _ n hbest wr (hS.later hB) hN2.sl)
        obtain ⟨t0, ht0⟩ : ∃ t0, (stpL b N j)[k]? = some t0 := ⟨_, List.getElem?_eq_getElem (by rw [stpL_len b hj]; exact hkN)⟩
        have hlp : k < (potL b N j).length := by rw [potL_len b hj]; omega
        obtain ⟨L, hL⟩ : ∃ L, potL b N j = L := ⟨_, rfl⟩
        obtain ⟨M, hM⟩ : ∃ M, stpL b N j = M := ⟨_, rfl⟩
        rw [hL] at hN2 HP hlp
        rw [hM] at hT2 HS ht0
        clear hbest hp hs hk hn1 hL hM hle
        go_wp2_with (go_at_call 36; refine C.out.mono ?_; rintro e w2 ⟨rfl, hb2⟩; have hT3 := hT2.later hb2; have hN3 := hN2.later hb2; have hB3 := bsa hB hb2; obtain ⟨o0, o1, o2⟩ := hT3.at_ ht0; have f0 := Blk.frozen hT3 (k * 3); have f1 := Blk.frozen hT3 (k * 3 + 1); have f2 := Blk.frozen hT3 (k * 3 + 2); have n0 := hN3.at_ hlp; have n1' := Blk.frozen hN3 k)
        have hN4 : NB (((w2.setCell ⟨gs, k * 3, none⟩ (.int .i64 (t1 : Int))).setCell ⟨gs, k * 3 + 1, none⟩ (.int .i64 (t2 : Int))).setCell ⟨gs, k * 3 + 2, none⟩ (.int .u8 (t3.toNat : Int))) gp L := ((Blk.far hN3 (p := ⟨gs, k * 3, none⟩) hne _).far (p := ⟨gs, k * 3 + 1, none⟩) hne _).far (p := ⟨gs, k * 3 + 2, none⟩) hne _
        have hT4 := hT3.put k (t1, t2, t3)
        go_roundw
        case rel => exact ⟨j + 1, by omega, by go_num, by rw [← HP.out]; exact hN4.put k n, by rw [← HS.out]; exact Blk.far hT4 (p := ⟨gp, k, none⟩) (Ne.symm hne) _, (((hB3.setCell (p := ⟨gs, k * 3, none⟩) hgs _).setCell (p := ⟨gs, k * 3 + 1, none⟩) hgs _).setCell (p := ⟨gs, k * 3 + 2, none⟩) hgs _).setCell (p := ⟨gp, k, none⟩) hgp _⟩
        case measure => simp [intOf]; omega
      · obtain rfl : j = N := by omega
        have e1 : potL b j j = (solv b j).1 := by unfold potL; rw [Nat.sub_self]; rfl
        have e2 : stpL b j j = (solv b j).2 := by unfold stpL; rw [Nat.sub_self]; rfl
        rw [e1] at hN2
        rw [e2] at hT2
        clear e1 e2
        go_wp2
        go_ret2
        exact ⟨gp, gs, rfl, hN2, hT2, hgp, hgs, hB⟩
set_option maxRecDepth 100000 in
theorem Potentials_ok (b : Bs) (N : Nat) (hN : b.length = N) (hN6 : N ≤ 65536) (A : Option Addr) (c : Nat) (w : World) (hS : Sl u8 w w.heap.size A b) :
    Calls Try.prog 14 #[.slice A N c] w fun e w' => ∃ gp, e = .returned (.tuple #[.slice (some ⟨gp, 0, none⟩) (N + 1) (N + 1), .int .i64 0]) ∧ NB w' gp (solv b N).1 ∧ w.heap.size ≤ gp ∧ Below w.heap.size w w' := by
  have C := Lib.hid (solve_ok b N hN hN6 A c w hS)
  go_enter Try.func14, Try.ntmps14
  go_wp2_with (go_at_call 21; refine C.out.mono ?_; rintro e w1 ⟨gp, gs, rfl, h1, h2, h3, h4, hb⟩)
  go_ret2
  exact ⟨gp, rfl, h1, h3, hb⟩
end Go.Proofs.Ytfahfbkkgcekgaa.H
