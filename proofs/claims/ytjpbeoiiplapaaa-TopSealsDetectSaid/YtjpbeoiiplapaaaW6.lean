/- volume: size, cut. -/
import Derived.Test.YtjpbeoiiplapaaaW5
import Derived.Laws.CopyOwn
namespace Go.Proofs.Ytjpbeoiiplapaaa.C
set_option linter.unusedVariables false
set_option linter.unusedSimpArgs false
open Go Go.RowKit Go.Shelf Go.Proofs.Ytjpbeoiiplapaaa Go.Proofs.Ytjpbeoiiplapaaa.W Go.Proofs.Ytjpbeoiiplapaaa.M Go.Proofs.Ytjpbeoiiplapaaa.B

theorem size5 : (Try.prog.info? 5).map (·.size) = some 1 := by kernel_rfl
theorem size_ok (N d : Nat) (hN : N ≤ 65536) (hd : 1 ≤ d) (hd6 : d ≤ 64) (w : World) : Calls Try.prog 12 #[.int .i64 (N : Int), .int .i64 (d : Int)] w fun e w' => ∃ s : Nat, 1 ≤ s ∧ s ≤ N + 1 ∧ N ≤ d * s ∧ e = .returned (.int .i64 (s : Int)) ∧ w' = w := by
  have h0 : ¬ (d : Int) = 0 := by omega
  obtain ⟨q, hq⟩ : ∃ q : Nat, (N + d - 1) / d = q := ⟨_, rfl⟩
  have h1 : ((N : Int) + (d : Int) - 1).tdiv (d : Int) = (q : Int) := by rw [← hq]; rw [show (N : Int) + (d : Int) - 1 = ((N + d - 1 : Nat) : Int) by omega]; exact Int.ofNat_tdiv _ _
  have h2 : ((N : Int) + (d : Int) - 1) / (d : Int) = (q : Int) := by rw [← hq, show (N : Int) + (d : Int) - 1 = ((N + d - 1 : Nat) : Int) by omega]; rfl
  have h3 : (0 : Int) ≤ (N : Int) + (d : Int) - 1 := by omega
  have h4 : N ≤ d * max 1 q := by
    have h5 := Nat.div_add_mod (N + d - 1) d
    have h6 := Nat.mod_lt (N + d - 1) (show 0 < d by omega)
    rw [hq] at h5
    have h7 : d * q ≤ d * max 1 q := Nat.mul_le_mul_left _ (Nat.le_max_right 1 q)
    omega
  have h5 : q ≤ N + 1 := by
    rw [← hq]
    exact Nat.le_trans (Nat.div_le_of_le_mul (by rw [Nat.mul_comm]; have : N ≤ N * d := Nat.le_mul_of_pos_right _ (by omega); rw [Nat.add_mul, Nat.one_mul]; omega)) (Nat.le_refl _)
  have hqi : q ≤ 65537 := by omega
  go_enter Try.func12, Try.ntmps12
  go_wp2
  go_ret
  exact ⟨max 1 q, by omega, by omega, h4, ret_int (by omega), rfl⟩
theorem splice_bytes (b : Bs) (m : Nat) (h : b.length ≤ m) : splice ((List.replicate m (0 : UInt8)).map u8) 0 (b.map u8) = (b ++ List.replicate (m - b.length) 0).map u8 := by
  unfold splice
  rw [List.take_zero, List.nil_append, List.map_append, List.length_map, Nat.zero_add, ← List.map_drop, List.drop_replicate]
theorem BB.row {w w' : World} {g k base : Nat} {l : Bs} {v : Value} {xs : List Value} (h : BB w g l) (ho : w.ownsRow base 22 1 v k xs) (hg : w.grownBy w' v.ownBlock) : BB w' g l := Blk.grown h hg (by
  rcases ho.2 with ⟨rfl, _⟩ | ⟨b, cap, cur, rfl, _, hgb, _⟩
  · simp [Value.ownBlock]
  · intro e
    obtain rfl : g = b := by simpa [Value.ownBlock] using e
    have := (show w.heap[g]? = _ from h).symm.trans hgb
    simp at this)
set_option maxRecDepth 100000 in
set_option maxHeartbeats 2000000 in
theorem cut_ok (A : Option Addr) (N c d s m : Nat) (b : Bs) (hb : b.length = N) (hm : d * s = m) (hNm : N ≤ m) (hm6 : m ≤ 65536) (hd : 1 ≤ d) (hd6 : d ≤ 64) (hs : 1 ≤ s) (w : World) (B : Nat) (h : Sl u8 w B A b) :
    Calls Try.prog 11 #[.slice A N c, .int .i64 (d : Int), .int .i64 (s : Int)] w fun e w' => ∃ (A' : Option Addr) (c' : Nat) (ps : List Part), e = .returned (.slice A' d c') ∧ ps.length = d ∧ Sl pv w' w'.heap.size A' ps ∧ Are w' s ps ∧ Below w.heap.size w w' := by
  obtain ⟨j0, hj, hy0, hy1, hy2⟩ := info_parts infoR
  have hS := h.lt
  have hmul : (d : Int) * (s : Int) = (m : Int) := by rw [← hm, Int.natCast_mul]
  have mk := fun W => make_bytes m hm6 W
  have HM := Lib.hid hm
  have HBL := Lib.hid hb
  have hs0 : ¬ s = 0 := by omega
  obtain ⟨Z, hZ⟩ : ∃ Z, ((List.replicate m (0 : UInt8)).map u8) = Z := ⟨_, rfl⟩
  have HZ := Lib.hid hZ
  rw [hZ] at mk
  obtain ⟨X, hX⟩ : ∃ X, b.map u8 = X := ⟨_, rfl⟩
  have HX := Lib.hid hX
  clear hZ hX hm hb
  go_enter Try.func11, Try.ntmps11
  go_wp2_with (refine wpList_copy_splice rfl (.tmp 15) (.tmp 16) 22 22 rfl 5 Try.underlying22 size5 (some ⟨w.heap.size, 0, none⟩) A m m N c rfl rfl w.heap.size 0 Z 5 (Blk.new w _ _) X (by have := HBL.out; rw [← HX.out, List.length_map, this]; exact (Nat.min_eq_left hNm).symm) (fun hp => ⟨rfl, by
      rw [← HX.out, List.length_map] at hp
      obtain ⟨bb, oo, rfl, _⟩ := hS.open_ hp
      exact ⟨_, rfl, by rw [← HX.out]; exact (hS.alloc (Nat.le_refl _) _).news⟩⟩) (by rw [← HX.out, ← HZ.out]; simp; have := HBL.out; omega) (by rw [← HX.out]; exact u8_one) w.heap.size w ((Below.refl _ _).alloc (Nat.le_refl _) _) (Nat.le_refl _) ?_; intro w2 hg2 hB2)
  have hBB0 : BB w2 w.heap.size (b ++ List.replicate (m - b.length) 0) := by
    have h1 := hg2.out
    rw [← HZ.out, ← HX.out, splice_bytes b m (by rw [HBL.out]; exact hNm)] at h1
    exact h1
  obtain ⟨l, hl⟩ : ∃ l, b ++ List.replicate (m - b.length) 0 = l := ⟨_, rfl⟩
  have hlm : l.length = m := by rw [← hl, List.length_append, List.length_replicate, HBL.out]; omega
  rw [hl] at hBB0
  clear hg2 hl mk
  go_loopw [8, 19] (fun ov iv wm => ∃ (i : Nat) (ts : List Part) (A' : Option Addr) (c' : Nat), i ≤ d ∧ iv = .int .i64 (i : Int) ∧ ov = .slice A' i c' ∧ Hid (ts.length = i) ∧ wm.ownsRow w2.heap.size 22 1 (.slice A' i c') i (ts.map pv) ∧ Are wm s ts ∧ BB wm w.heap.size l ∧ Below w2.heap.size w2 wm) (fun _ iv _ => d - (intOf iv).toNat)
  case atStart => exact ⟨0, [], none, 0, Nat.zero_le _, rfl, rfl, Lib.hid rfl, World.ownsRow_nil _ _ _ _, Are.nil, hBB0, Below.refl _ _⟩
  case round =>
    obtain ⟨i, ts, A', c', hi, rfl, rfl, hts, ho, hT, hBB, hB⟩ := hrel
    clear hBB0
    by_cases hlt : i < d
    · obtain ⟨p, hp⟩ : ∃ p, i * s = p := ⟨_, rfl⟩
      have hps : p + s ≤ m := by
        have h1 : (i + 1) * s ≤ d * s := Nat.mul_le_mul_right _ (by omega)
        rw [Nat.add_mul, Nat.one_mul, HM.out, hp] at h1
        exact h1
      have hip : (i : Int) * (s : Int) = (p : Int) := by rw [← hp, Int.natCast_mul]
      have q1 : (0 : Int) ≤ (p : Int) := by omega
      have q2 : (p : Int) ≤ (p : Int) + (s : Int) := by omega
      have q3 : (p : Int) + (s : Int) ≤ (m : Int) := by omega
      have q4 : ¬ (p + s = p) := by omega
      have HP := Lib.hid hps
      clear hp hmul
      go_wp2_with (at_builtin; refine wpList_append_sl _ pv_one rfl _ _ 29 rfl w2.heap.size 22 j0 (.slice none 0 0) 24 Try.underlying29 hj hy0 hy1 hy2 rfl (.slice A' i c') i _ rfl (ho.alloc _) _ _ _ [(some ⟨w.heap.size, p, none⟩, s, (l.drop p).take s)] 1 rfl (Sl.of_new rfl (by show #[Value.slice (some ⟨w.heap.size, p, none⟩) s s] = #[pv (some ⟨w.heap.size, p, none⟩, s, (l.drop p).take s)]; unfold pv; rw [show ((l.drop p).take s).length = s by rw [List.length_take, List.length_drop]; omega])) rfl (by unfold maxLen; omega) (by omega) (by have := hB.size; simp; omega) ?_; intro v5 w5 o5 g5)
      have hBB5 := (hBB.later ((Below.refl _ _).alloc (Nat.le_refl _) _)).row (ho.alloc _) g5
      have hA5 := (hT.alloc _).row (ho.alloc _) g5
      have hB5 : Below w2.heap.size w2 w5 := (hB.alloc hB.size _).grown g5 (by have := hB.size; simp; omega) (fun j hj => (ho.lt j hj).1)
      have hT5 : Are w5 s [(some ⟨w.heap.size, p, none⟩, s, (l.drop p).take s)] := fun q hq => by
        rw [List.mem_singleton] at hq; subst hq
        refine ⟨TS.of_blk (cs := (l.map u8).toArray) hBB5 fun j x hx => ?_, by show ((l.drop p).take s).length = s; rw [List.length_take, List.length_drop]; omega, Nat.le_refl _, by show s ≤ maxLen; unfold maxLen; omega⟩
        have hx' : ((l.drop p).take s)[j]? = some x := hx
        rw [List.getElem?_take] at hx'
        split at hx'
        · rw [List.getElem?_drop] at hx'
          rw [List.getElem?_toArray, List.getElem?_map, hx']; rfl
        · cases hx'
      rw [map_pv] at o5
      obtain ⟨A5, c5, rfl, _, _⟩ := own_form o5
      go_roundw
      case rel => exact ⟨i + 1, _, A5, c5, by omega, by go_num, rfl, Lib.hid (by rw [List.length_append, hts.out]; rfl), o5, hA5.append hT5, hBB5, hB5⟩
      case measure => simp [intOf]; omega
    · obtain rfl : i = d := by omega
      go_wp2
      go_ret
      exact ⟨A', c', ts, rfl, hts.out, Sl.of_own ho, hT, bsa' hB2 hB⟩
end Go.Proofs.Ytjpbeoiiplapaaa.C
