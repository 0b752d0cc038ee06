/- A changed byte of a sealed string: Open and volume.Header answer ErrChecksum. -/
import Derived.Test.YtjpbeoiiplapaaaW9
namespace Go.Proofs.Ytjpbeoiiplapaaa.C
set_option linter.unusedVariables false
set_option linter.unusedSimpArgs false
open Go Go.RowKit Go.Shelf Go.Proofs.Ytjpbeoiiplapaaa Go.Proofs.Ytjpbeoiiplapaaa.W Go.Proofs.Ytjpbeoiiplapaaa.M Go.Proofs.Ytjpbeoiiplapaaa.B

theorem one_change {s : Bs} {p : Nat} {y d : UInt8} (h4 : 4 ≤ s.length) (hy : s[p]? = some y) (hd : d ≠ 0) : ∃ (i : Nat) (d0 d1 d2 d3 : UInt8), i + 4 ≤ s.length ∧ ¬ (d0 = 0 ∧ d1 = 0 ∧ d2 = 0 ∧ d3 = 0) ∧ s.set p (y ^^^ d) = chg s i [d0, d1, d2, d3] 4 := by
  have hp := (List.getElem?_eq_some_iff.1 hy).1
  obtain ⟨i, q, hi, hq, hiq⟩ : ∃ i q, i + 4 ≤ s.length ∧ q < 4 ∧ p = i + q := by
    by_cases h : p + 4 ≤ s.length
    · exact ⟨p, 0, h, by omega, rfl⟩
    · exact ⟨s.length - 4, p - (s.length - 4), by omega, by omega, by omega⟩
  have key : ∀ ds : Bs, ds.length = 4 → (∀ k, ds.getD k 0 = if k = q then d else 0) → s.set p (y ^^^ d) = chg s i ds 4 := by
    intro ds _ hds
    apply List.ext_getElem?
    intro j
    rw [List.getElem?_set, chg_get]
    by_cases hj : p = j
    · subst hj
      rw [if_pos rfl, if_pos hp, hy, Option.map_some, if_pos ⟨by omega, by omega⟩, hds, if_pos (by omega)]
    · rw [if_neg hj]
      cases hsj : s[j]? with
      | none => rfl
      | some x =>
        rw [Option.map_some]
        by_cases hw : i ≤ j ∧ j < i + 4
        · rw [if_pos hw, hds, if_neg (by omega)]; simp
        · rw [if_neg hw]
  refine ⟨i, if 0 = q then d else 0, if 1 = q then d else 0, if 2 = q then d else 0, if 3 = q then d else 0, hi, ?_, key _ rfl ?_⟩
  · rintro ⟨a0, a1, a2, a3⟩
    have hq4 : q = 0 ∨ q = 1 ∨ q = 2 ∨ q = 3 := by omega
    rcases hq4 with rfl | rfl | rfl | rfl
    · exact hd (by simpa using a0)
    · exact hd (by simpa using a1)
    · exact hd (by simpa using a2)
    · exact hd (by simpa using a3)
  · intro k
    match k with
    | 0 => rfl
    | 1 => rfl
    | 2 => rfl
    | 3 => rfl
    | k + 4 =>
      have : ¬ (k + 4 = q) := by omega
      rw [if_neg this]; rfl
theorem opened_one (x : Bs) (hx : x.length ≤ 2000) {p : Nat} {y d : UInt8} (hy : (sealed x)[p]? = some y) (hd : d ≠ 0) : opened ((sealed x).set p (y ^^^ d)) = ([], 10) := by
  have hl := sealed_length x
  obtain ⟨i, d0, d1, d2, d3, h1, h2, h3⟩ := one_change (by omega) hy hd
  rw [h3]
  exact opened_changed x i d0 d1 d2 d3 hx (by omega) h2
theorem open_one (x : Bs) (hx : x.length ≤ 2000) {p : Nat} {y d : UInt8} (hy : (sealed x)[p]? = some y) (hd : d ≠ 0) (l : Bs) (hl : (sealed x).set p (y ^^^ d) = l) (A : Option Addr) (n c : Nat) (hn : l.length = n) (hc : n ≤ c) (hm : c ≤ maxLen) (w : World) (B : Nat) (hs : Sl u8 w B A l) :
    Calls Try.prog 5 #[.slice A n c] w fun e w' => ∃ A2 c2, e = .returned (.tuple #[.slice A2 0 c2, .int .i64 10]) ∧ Below w.heap.size w w' := by
  have ho := opened_one x hx hy hd
  rw [hl] at ho
  refine (open_any A c n l hn hc (by unfold maxLen at hm; omega) w B hs).mono ?_
  rintro e w' ⟨A', N', c', rfl, h1, _, hb⟩
  rw [ho] at h1 ⊢
  have h1 : 0 = N' := h1
  subst h1
  exact ⟨A', c', rfl, hb⟩
theorem results_cell_tmp2 {fn : Func} {p u v : Tmp} {ty : TypeId} (h : fn.results = #[.cell p ty, .tmp u, .tmp v]) (tmps : Array Value) (P : Program) (w : World) :
    (results fn tmps).run P w =
      ((asAddr (tmps.getD p undef)).run P w).andThen fun a w₁ => ((loadVar ty a).run P w₁).andThen fun x w₂ => .ok (.tuple #[x, tmps.getD u undef, tmps.getD v undef]) w₂ := by
  simp only [results, h]
  simp [Sem.run_bind, Result.andThen]
set_option maxRecDepth 100000 in
set_option maxHeartbeats 1000000 in
theorem header_bad (A : Option Addr) (n c : Nat) (w : World) (hO : ∀ W, Below w.heap.size w W → Calls Try.prog 5 #[.slice A n c] W fun e w' => ∃ A2 c2, e = .returned (.tuple #[.slice A2 0 c2, .int .i64 10]) ∧ Below W.heap.size W w') :
    Calls Try.prog 7 #[.slice A n c] w fun e w' => e = .returned (.tuple #[.agg #[.int .u32 0, .int .i64 0, .int .i64 0, .int .i64 0, .int .i64 0], .slice none 0 0, .int .i64 10]) ∧ Below w.heap.size w w' := by
  have HO := Lib.hid hO
  clear hO
  have hB0 : Below w.heap.size w (w.alloc (.cells #[.int .u32 0, .int .i64 0, .int .i64 0, .int .i64 0, .int .i64 0] 34)) := (Below.refl _ _).alloc (Nat.le_refl _) _
  have hb0 : Blk (w.alloc (.cells #[.int .u32 0, .int .i64 0, .int .i64 0, .int .i64 0, .int .i64 0] 34)) w.heap.size 34 #[.int .u32 0, .int .i64 0, .int .i64 0, .int .i64 0, .int .i64 0] := Blk.new _ _ _
  go_enter Try.func7, Try.ntmps7
  go_wp2_with (go_at_call 5; refine (HO.out _ hB0).mono ?_; rintro e w2 ⟨A2, c2, rfl, hb2⟩; have hb := hb0.later hb2; have hB2 := bsa' hB0 hb2; have c0 := hb.cell 0; have c1 := hb.cell 1; have c2' := hb.cell 2; have c3 := hb.cell 3; have c4 := hb.cell 4; have f0 := hb.frozen 0; have f1 := hb.frozen 1; have f2 := hb.frozen 2; have f3 := hb.frozen 3; have f4 := hb.frozen 4)
  have hb5 : Blk (((((w2.setCell ⟨w.heap.size, 0, none⟩ (.int .u32 0)).setCell ⟨w.heap.size, 1, none⟩ (.int .i64 0)).setCell ⟨w.heap.size, 2, none⟩ (.int .i64 0)).setCell ⟨w.heap.size, 3, none⟩ (.int .i64 0)).setCell ⟨w.heap.size, 4, none⟩ (.int .i64 0)) w.heap.size 34 #[.int .u32 0, .int .i64 0, .int .i64 0, .int .i64 0, .int .i64 0] := ((((hb.store 0 _).store 1 _).store 2 _).store 3 _).store 4 _
  have hB5 : Below w.heap.size w (((((w2.setCell ⟨w.heap.size, 0, none⟩ (.int .u32 0)).setCell ⟨w.heap.size, 1, none⟩ (.int .i64 0)).setCell ⟨w.heap.size, 2, none⟩ (.int .i64 0)).setCell ⟨w.heap.size, 3, none⟩ (.int .i64 0)).setCell ⟨w.heap.size, 4, none⟩ (.int .i64 0)) := ((((hB2.setCell (p := ⟨w.heap.size, 0, none⟩) (Nat.le_refl _) _).setCell (p := ⟨w.heap.size, 1, none⟩) (Nat.le_refl _) _).setCell (p := ⟨w.heap.size, 2, none⟩) (Nat.le_refl _) _).setCell (p := ⟨w.heap.size, 3, none⟩) (Nat.le_refl _) _).setCell (p := ⟨w.heap.size, 4, none⟩) (Nat.le_refl _) _
  obtain ⟨w5, hw5⟩ : ∃ w5, ((((w2.setCell ⟨w.heap.size, 0, none⟩ (.int .u32 0)).setCell ⟨w.heap.size, 1, none⟩ (.int .i64 0)).setCell ⟨w.heap.size, 2, none⟩ (.int .i64 0)).setCell ⟨w.heap.size, 3, none⟩ (.int .i64 0)).setCell ⟨w.heap.size, 4, none⟩ (.int .i64 0) = w5 := ⟨_, rfl⟩
  rw [hw5] at hb5 hB5 ⊢
  clear hw5 c0 c1 c2' c3 c4 f0 f1 f2 f3 f4 hb
  have c0 := hb5.cell 0
  have c1 := hb5.cell 1
  have c2' := hb5.cell 2
  have c3 := hb5.cell 3
  have c4 := hb5.cell 4
  refine bodyPost_ret (v := .tuple #[.agg #[.int .u32 0, .int .i64 0, .int .i64 0, .int .i64 0, .int .i64 0], .slice none 0 0, .int .i64 10]) ?_ rfl ⟨rfl, hB5⟩
  rw [results_cell_tmp2 rfl]
  go_simp
end Go.Proofs.Ytjpbeoiiplapaaa.C
