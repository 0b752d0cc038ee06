import Derived.Test.YtmbngfhhegbomaaD2
import Derived.Test.YtmbngfhhegbomaaM38
import Derived.StillTailTactics
namespace Go.Proofs.Ytmbngfhhegbomaa.D
set_option linter.unusedVariables false
open Go Go.RowKit Go.Proofs.Ytmbngfhhegbomaa Go.Proofs.Ytmbngfhhegbomaa.W Go.Proofs.Ytmbngfhhegbomaa.M

theorem wrap_sub (x y : UInt8) : IntKind.u8.wrap ((x.toNat : Int) - (y.toNat : Int)) = ((x - y).toNat : Int) := by
  have := lt256 x; have := lt256 y
  rw [UInt8.toNat_sub]
  simp [IntKind.wrap, IntKind.signed, IntKind.bits]
  omega
theorem wrap_add (x y : UInt8) : IntKind.u8.wrap ((x.toNat : Int) + (y.toNat : Int)) = ((x + y).toNat : Int) := by
  have := lt256 x; have := lt256 y
  rw [UInt8.toNat_add]
  simp [IntKind.wrap, IntKind.signed, IntKind.bits]

theorem diff_any (x y : UInt8) (w : World) : Calls Try.prog 36 #[.int .u8 (x.toNat : Int), .int .u8 (y.toNat : Int)] w fun e w' => e = .returned (.int .u8 ((x - y).toNat : Int)) ∧ w' = w := by
  go_enter Try.func36, Try.ntmps36
  go_wp2
  go_ret
  exact ⟨ret_int (wrap_sub x y), rfl⟩
theorem sum_any (x y : UInt8) (w : World) : Calls Try.prog 37 #[.int .u8 (x.toNat : Int), .int .u8 (y.toNat : Int)] w fun e w' => e = .returned (.int .u8 ((x + y).toNat : Int)) ∧ w' = w := by
  go_enter Try.func37, Try.ntmps37
  go_wp2
  go_ret
  exact ⟨ret_int (wrap_add x y), rfl⟩

/-- What out holds when the places below k are done. -/
def part (r l : Bs) (k : Nat) : Bs := r.take k ++ l.drop k
theorem part_length {r l : Bs} (h : r.length = l.length) (k : Nat) : (part r l k).length = l.length := by
  simp [part, h]; omega
theorem part_set {r l : Bs} (h : r.length = l.length) {k : Nat} {y : UInt8} (hy : r[k]? = some y) : ((part r l k).map u8).set k (.int .u8 (y.toNat : Int)) = (part r l (k + 1)).map u8 := by
  have hk : k < r.length := (List.getElem?_eq_some_iff.1 hy).1
  apply List.ext_getElem?
  intro i
  rw [List.getElem?_set]
  have hl : (part r l k).length = l.length := part_length h k
  by_cases e : k = i
  · subst e
    rw [if_pos rfl, if_pos (by rw [List.length_map, hl]; omega), List.getElem?_map, part, List.getElem?_append_left (by simp; omega), List.getElem?_take, if_pos (by omega), hy]
    rfl
  · rw [if_neg e, List.getElem?_map, List.getElem?_map]
    congr 1
    simp only [part]
    rcases Nat.lt_or_ge i k with hi | hi
    · rw [List.getElem?_append_left (by simp; omega), List.getElem?_append_left (by simp; omega), List.getElem?_take, List.getElem?_take, if_pos hi, if_pos (by omega)]
    · rw [List.getElem?_append_right (by simp; omega), List.getElem?_append_right (by simp; omega), List.getElem?_drop, List.getElem?_drop]
      congr 1
      simp only [List.length_take]
      omega
theorem part_all {r l : Bs} (h : r.length = l.length) {k : Nat} (hk : l.length ≤ k) : part r l k = r := by
  rw [part, List.take_of_length_le (by omega), List.drop_eq_nil_of_le hk, List.append_nil]
theorem part_get_old {r l : Bs} (h : r.length = l.length) {k i : Nat} (hi : i < k) : (part r l k)[i]? = r[i]? := by
  rcases Nat.lt_or_ge i r.length with hr | hr
  · rw [part, List.getElem?_append_left (by simp; omega), List.getElem?_take, if_pos hi]
  · rw [List.getElem?_eq_none (by rw [part_length h]; omega), List.getElem?_eq_none (by omega)]
theorem fwd_start (w : Nat) (l : Bs) : part (fwd w l) l w = l := by
  apply List.ext_getElem?
  intro i
  rcases Nat.lt_or_ge i l.length with hi | hi
  · rcases Nat.lt_or_ge i w with hw | hw
    · rw [part_get_old (length_fwd w l) hw, fwd_get (List.getElem?_eq_getElem hi), if_pos hw, List.getElem?_eq_getElem hi]
    · rw [part, List.getElem?_append_right (by simp [length_fwd]; omega), List.getElem?_drop]
      congr 1
      simp [length_fwd]; omega
  · rw [List.getElem?_eq_none (by rw [part_length (length_fwd w l)]; omega), List.getElem?_eq_none (by omega)]
theorem inv_start {w : Nat} (hw1 : 1 ≤ w) (l : Bs) : part (inv w l) l w = l := by
  apply List.ext_getElem?
  intro i
  rcases Nat.lt_or_ge i l.length with hi | hi
  · rcases Nat.lt_or_ge i w with hw | hw
    · rw [part_get_old (length_inv w l) hw, inv_get hw1 (List.getElem?_eq_getElem hi), if_pos hw, List.getElem?_eq_getElem hi]
    · rw [part, List.getElem?_append_right (by simp [length_inv]; omega), List.getElem?_drop]
      congr 1
      simp [length_inv]; omega
  · rw [List.getElem?_eq_none (by rw [part_length (length_inv w l)]; omega), List.getElem?_eq_none (by omega)]


/-- (step).apply at the step of differences. -/
theorem apply_diff (A : Option Addr) (c wd : Nat) (l : Bs) (w : World) (B : Nat) (h : Sl u8 w B A l) (hw : 1 ≤ wd) (hw2 : wd ≤ 64) (hn : l.length ≤ 140737488351232) :
    Calls Try.prog 35 #[.agg #[.func (.func 36) #[] #[], .bool false], .slice A l.length c, .int .i64 (wd : Int)] w fun e w' => ∃ A' c', e = .returned (.slice A' l.length c') ∧
      w'.ownsRow w.heap.size 5 1 (.slice A' l.length c') l.length ((fwd wd l).map u8) ∧ Below w.heap.size w w' := by
  go_enter Try.func35, Try.ntmps35
  go_wp2_with (go_at_call 34; refine (clone_any _ _ _ _ _ (h.lt.alloc (Nat.le_refl _) _) hn).mono ?_; rintro e w1 ⟨A', c', rfl, hown, hb1⟩; have hk := (Blk.new w 47 #[.func (.func 36) #[] #[], .bool false]).later hb1; have hc0 : w1.cell? ⟨w.heap.size, 0, none⟩ = some (.func (.func 36) #[] #[]) := hk.cell 0; have hc1 : w1.cell? ⟨w.heap.size, 1, none⟩ = some (.bool false) := hk.cell 1)
  simp only [World.size_alloc] at hown hb1
  have hb1' : Below w.heap.size w w1 := ((Below.refl _ w).alloc (Nat.le_refl _) _).trans (hb1.mono (by omega))
  have hsz := hb1.size
  simp only [World.size_alloc] at hsz
  go_loopw [9] (fun i wr => ∃ k : Nat, wd ≤ k ∧ i = .int .i64 k ∧ wr.ownsRow (w.heap.size + 1) 5 1 (.slice A' l.length c') l.length ((part (fwd wd l) l k).map u8) ∧ Below (w.heap.size + 1) w1 wr) (fun i _ => l.length - (intOf i).toNat)
  case atStart => exact ⟨wd, Nat.le_refl _, rfl, by rw [fwd_start]; exact hown, Below.refl _ _⟩
  case round =>
    obtain ⟨k, hk1, rfl, hownk, hbk⟩ := hrel
    have hkk : Blk wr w.heap.size 47 #[.func (.func 36) #[] #[], .bool false] := hk.below hbk (by omega)
    have hbw : Below w.heap.size w wr := hb1'.trans (hbk.mono (by omega))
    have hf0 : wr.cell? ⟨w.heap.size, 0, none⟩ = some (.func (.func 36) #[] #[]) := hkk.cell 0
    by_cases hlt : k < l.length
    · obtain ⟨b, o, rfl, hb, hc⟩ := (h.lt.below hbw).open_ (by omega)
      obtain ⟨x, hx⟩ : ∃ x, l[k]? = some x := ⟨_, List.getElem?_eq_getElem hlt⟩
      obtain ⟨y, hy⟩ : ∃ y, l[k - wd]? = some y := ⟨_, List.getElem?_eq_getElem (by omega)⟩
      have hcx : wr.cell? ⟨b, o + k, none⟩ = some (.int .u8 (x.toNat : Int)) := hc k x hx
      have hcy : wr.cell? ⟨b, o + (k - wd), none⟩ = some (.int .u8 (y.toNat : Int)) := hc (k - wd) y hy
      have hr : (fwd wd l)[k]? = some (x - y) := by rw [fwd_get hx, if_neg (by omega), List.getD, hy]; rfl
      obtain ⟨g, cap, hv, hg, hgl⟩ := hownk.form (by omega)
      obtain ⟨rfl, rfl⟩ : A' = some ⟨g, 0, none⟩ ∧ c' = cap := by injection hv with h1 h2 h3; exact ⟨h1, h3⟩
      obtain ⟨z, hz⟩ : ∃ z, (part (fwd wd l) l k)[k]? = some z := ⟨_, List.getElem?_eq_getElem (by rw [part_length (length_fwd wd l)]; exact hlt)⟩
      have hcz : wr.cell? ⟨g, k, none⟩ = some (.int .u8 (z.toNat : Int)) := by rw [hownk.cellAt k (by omega), List.getElem?_map, hz]; rfl
      have hfz : wr.frozen? ⟨g, k, none⟩ = false := hownk.frozenAt k
      have hst := hownk.stored k (.int .u8 ((x - y).toNat : Int))
      rw [part_set (length_fwd wd l) hr] at hst
      clear hx hy hr hz hc hv hown hk hc0 hc1
      go_wp2_with fail
      have e1 : IntKind.i64.wrap ((k : Int) - (wd : Int)) = (k : Int) - (wd : Int) := IntWalk.i64_in _ (by omega)
      have e2 : (0 : Int) ≤ (k : Int) - (wd : Int) := by omega
      have e3 : ((k : Int) - (wd : Int)).toNat = k - wd := by omega
      have e4 : (k : Int) - (wd : Int) < (l.length : Int) := by omega
      refine wp_region_still_tail 16 (by kernel_rfl) (by kernel_rfl) ?_
      simp only [List.take_succ_cons, List.take_zero, List.drop_succ_cons, List.drop_zero]
      repeat (first | still_step | still_call (diff_any x y _))
      clear e1 e2 e3 e4
      refine wpStill_nil ?_
      go_wp2
      go_roundw
      case rel => exact ⟨k + 1, by omega, by go_num, hst.1, (hbk.setCell (p := ⟨g, k, none⟩) hg _).drew⟩
      case measure => simp [intOf]; omega
    · rw [part_all (length_fwd wd l) (by omega)] at hownk
      go_wp2
      go_ret
      exact ⟨A', c', rfl, own_base hownk (by omega), hbw⟩

/-- (step).apply at the step of sums. -/
theorem apply_sum (A : Option Addr) (c wd : Nat) (l : Bs) (w : World) (B : Nat) (h : Sl u8 w B A l) (hw : 1 ≤ wd) (hw2 : wd ≤ 64) (hn : l.length ≤ 140737488351232) :
    Calls Try.prog 35 #[.agg #[.func (.func 37) #[] #[], .bool true], .slice A l.length c, .int .i64 (wd : Int)] w fun e w' => ∃ A' c', e = .returned (.slice A' l.length c') ∧
      w'.ownsRow w.heap.size 5 1 (.slice A' l.length c') l.length ((inv wd l).map u8) ∧ Below w.heap.size w w' := by
  go_enter Try.func35, Try.ntmps35
  go_wp2_with (go_at_call 34; refine (clone_any _ _ _ _ _ (h.lt.alloc (Nat.le_refl _) _) hn).mono ?_; rintro e w1 ⟨A', c', rfl, hown, hb1⟩; have hk := (Blk.new w 47 #[.func (.func 37) #[] #[], .bool true]).later hb1; have hc0 : w1.cell? ⟨w.heap.size, 0, none⟩ = some (.func (.func 37) #[] #[]) := hk.cell 0; have hc1 : w1.cell? ⟨w.heap.size, 1, none⟩ = some (.bool true) := hk.cell 1)
  simp only [World.size_alloc] at hown hb1
  have hb1' : Below w.heap.size w w1 := ((Below.refl _ w).alloc (Nat.le_refl _) _).trans (hb1.mono (by omega))
  have hsz := hb1.size
  simp only [World.size_alloc] at hsz
  go_loopw [9] (fun i wr => ∃ k : Nat, wd ≤ k ∧ i = .int .i64 k ∧ wr.ownsRow (w.heap.size + 1) 5 1 (.slice A' l.length c') l.length ((part (inv wd l) l k).map u8) ∧ Below (w.heap.size + 1) w1 wr) (fun i _ => l.length - (intOf i).toNat)
  case atStart => exact ⟨wd, Nat.le_refl _, rfl, by rw [inv_start hw]; exact hown, Below.refl _ _⟩
  case round =>
    obtain ⟨k, hk1, rfl, hownk, hbk⟩ := hrel
    have hkk : Blk wr w.heap.size 47 #[.func (.func 37) #[] #[], .bool true] := hk.below hbk (by omega)
    have hbw : Below w.heap.size w wr := hb1'.trans (hbk.mono (by omega))
    have hf0 : wr.cell? ⟨w.heap.size, 0, none⟩ = some (.func (.func 37) #[] #[]) := hkk.cell 0
    by_cases hlt : k < l.length
    · obtain ⟨b, o, rfl, hb, hc⟩ := (h.lt.below hbw).open_ (by omega)
      obtain ⟨x, hx⟩ : ∃ x, l[k]? = some x := ⟨_, List.getElem?_eq_getElem hlt⟩
      obtain ⟨y, hy⟩ : ∃ y, (inv wd l)[k - wd]? = some y := ⟨_, List.getElem?_eq_getElem (by rw [length_inv]; omega)⟩
      have hcx : wr.cell? ⟨b, o + k, none⟩ = some (.int .u8 (x.toNat : Int)) := hc k x hx
      have hr : (inv wd l)[k]? = some (x + y) := by rw [inv_get hw hx, if_neg (by omega), List.getD, hy]; rfl
      obtain ⟨g, cap, hv, hg, hgl⟩ := hownk.form (by omega)
      obtain ⟨rfl, rfl⟩ : A' = some ⟨g, 0, none⟩ ∧ c' = cap := by injection hv with h1 h2 h3; exact ⟨h1, h3⟩
      obtain ⟨z, hz⟩ : ∃ z, (part (inv wd l) l k)[k]? = some z := ⟨_, List.getElem?_eq_getElem (by rw [part_length (length_inv wd l)]; exact hlt)⟩
      have hcz : wr.cell? ⟨g, k, none⟩ = some (.int .u8 (z.toNat : Int)) := by rw [hownk.cellAt k (by omega), List.getElem?_map, hz]; rfl
      have hcy : wr.cell? ⟨g, k - wd, none⟩ = some (.int .u8 (y.toNat : Int)) := by rw [hownk.cellAt (k - wd) (by omega), List.getElem?_map, part_get_old (length_inv wd l) (by omega), hy]; rfl
      have hfz : wr.frozen? ⟨g, k, none⟩ = false := hownk.frozenAt k
      have hst := hownk.stored k (.int .u8 ((x + y).toNat : Int))
      rw [part_set (length_inv wd l) hr] at hst
      clear hx hy hr hz hc hv hown hk hc0 hc1
      go_wp2_with fail
      have e1 : IntKind.i64.wrap ((k : Int) - (wd : Int)) = (k : Int) - (wd : Int) := IntWalk.i64_in _ (by omega)
      have e2 : (0 : Int) ≤ (k : Int) - (wd : Int) := by omega
      have e3 : ((k : Int) - (wd : Int)).toNat = k - wd := by omega
      have e4 : (k : Int) - (wd : Int) < (l.length : Int) := by omega
      refine wp_region_still_tail 16 (by kernel_rfl) (by kernel_rfl) ?_
      simp only [List.take_succ_cons, List.take_zero, List.drop_succ_cons, List.drop_zero]
      repeat (first | still_step | still_call (sum_any x y _))
      clear e1 e2 e3 e4
      refine wpStill_nil ?_
      go_wp2
      go_roundw
      case rel => exact ⟨k + 1, by omega, by go_num, hst.1, (hbk.setCell (p := ⟨g, k, none⟩) hg _).drew⟩
      case measure => simp [intOf]; omega
    · rw [part_all (length_inv wd l) (by omega)] at hownk
      go_wp2
      go_ret
      exact ⟨A', c', rfl, own_base hownk (by omega), hbw⟩

end Go.Proofs.Ytmbngfhhegbomaa.D
