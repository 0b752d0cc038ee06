/- DeltaWeighs: the weight of a string is that of its parts together, that of the opposite bytes, and at most 128 for each byte: for every byte string and every place. No condition. -/
import Derived.Test.YtmbngfhhegbomaaD7
import Derived.Test.YtmbngfhhegbomaaRow
import Derived.Deep.RegionHeld3
import Derived.StillTailTactics
namespace Go.Proofs.Ytmbngfhhegbomaa.D
set_option linter.unusedVariables false
open Go Go.RowKit Go.Proofs.Ytmbngfhhegbomaa Go.Proofs.Ytmbngfhhegbomaa.W Go.Proofs.Ytmbngfhhegbomaa.M

theorem wrap_neg (x : UInt8) : IntKind.u8.wrap (-(x.toNat : Int)) = ((-x).toNat : Int) := by
  have := lt256 x
  have h : (-x) = 0 - x := by rw [UInt8.zero_sub]
  rw [h, UInt8.toNat_sub]
  simp [IntKind.wrap, IntKind.signed, IntKind.bits]
  omega
theorem mag_neg (x : UInt8) : mag (-x) = mag x := by
  have h : ∀ n : Fin 256, mag (-(UInt8.ofNat n.val)) = mag (UInt8.ofNat n.val) := by decide +kernel
  have := h ⟨x.toNat, x.toNat_lt⟩
  simpa using this
theorem wt_neg (l : Bs) : wt (l.map (- ·)) = wt l := by
  unfold wt
  rw [List.map_map]
  congr 1
  exact List.map_congr_left fun x _ => mag_neg x
theorem wt_split (l : Bs) (k : Nat) : wt l = wt (l.take k) + wt (l.drop k) := by
  have h := congrArg wt (List.take_append_drop k l)
  rw [← h]
  simp only [wt, List.map_append, List.sum_append]
theorem zeros_map (n : Nat) : (madeCells (Value.int .u8 0).cells (n * 1)).toList = (List.replicate n (0 : UInt8)).map u8 := by
  rw [Nat.mul_one]
  show (madeCells #[Value.int .u8 0] n).toList = _
  rw [toList_madeCells_one]; simp [u8]

set_option maxHeartbeats 1000000 in
theorem weighs_walk (A : Option Addr) (c : Nat) (l : Bs) (at_ : Nat) (w : World) (h : Sl u8 w w.heap.size A l) (hc : l.length ≤ c) (hm : c ≤ maxLen) (ha : at_ ≤ 65535) :
    Calls Try.prog 5 #[.slice A l.length c, .int .u16 (at_ : Int)] w fun e w' => e = .returned (.bool true) ∧ Below w.heap.size w w' := by
  unfold maxLen at hm
  obtain ⟨i0, hi, hz0, hz1, hz2⟩ := info_parts info5
  by_cases h4 : 400 < l.length
  · go_enter Try.func5, Try.ntmps5
    go_wp2_with (go_at_call 10; refine (awake_any _).mono ?_; rintro e w1 ⟨rfl, hb⟩)
    go_ret
    exact ⟨rfl, hb⟩
  · obtain ⟨k, hk, hk2⟩ : ∃ k : Nat, (at_ : Int) % ((l.length : Int) + 1) = (k : Int) ∧ k ≤ l.length := ⟨(((at_ : Int) % ((l.length : Int) + 1))).toNat, by have := Int.emod_nonneg (at_ : Int) (show (l.length : Int) + 1 ≠ 0 by omega); omega, by have := Int.emod_lt_of_pos (at_ : Int) (show (0 : Int) < (l.length : Int) + 1 by omega); have := Int.emod_nonneg (at_ : Int) (show (l.length : Int) + 1 ≠ 0 by omega); omega⟩
    go_enter Try.func5, Try.ntmps5
    go_wp2_with (at_make; refine wpList_make_full _ rfl _ _ 22 rfl w.heap.size 5 i0 (.int .u8 0) 1 Try.underlying22 hi hz0 hz1 .i64 .i64 _ _ l.length rfl rfl rfl rfl (by rw [hz2]; omega) (by unfold maxLen; omega) (Nat.le_refl _) ?_; intro w1 hown hgrow)
    rw [zeros_map] at hown
    have hb1 : Below w.heap.size w w1 := (Below.refl _ w).grown hgrow (Nat.le_refl _) (fun k e => by cases e)
    have e400 : (l.map fun x => -x).length = (List.replicate l.length (0 : UInt8)).length := by simp
    go_loopw [25] (fun i wr => ∃ k : Nat, k ≤ l.length ∧ i = .int .i64 k ∧ wr.ownsRow w.heap.size 5 1 (.slice (some ⟨w.heap.size, 0, none⟩) l.length l.length) l.length ((part (l.map fun x => -x) (List.replicate l.length 0) k).map u8) ∧ Below w.heap.size w wr) (fun i _ => l.length - (intOf i).toNat)
    case atStart => exact ⟨0, Nat.zero_le _, rfl, by simpa [part] using hown, hb1⟩
    case round =>
      obtain ⟨j, hj, rfl, hownk, hbk⟩ := hrel
      by_cases hlt : j < l.length
      · obtain ⟨b, o, x, rfl, hbl, hx, hcx⟩ := (h.below hbk).byte hlt
        have hst := hownk.stored j (.int .u8 ((-x).toNat : Int))
        have hr : (l.map fun x => -x)[j]? = some (-x) := by rw [List.getElem?_map, hx]; rfl
        rw [part_set e400 hr] at hst
        obtain ⟨z, hz⟩ : ∃ z, (part (l.map fun x => -x) (List.replicate l.length 0) j)[j]? = some z := ⟨_, List.getElem?_eq_getElem (by rw [part_length e400]; simpa using hlt)⟩
        have hcz : wr.cell? ⟨w.heap.size, j, none⟩ = some (.int .u8 (z.toNat : Int)) := by rw [hownk.cellAt j (by omega), List.getElem?_map, hz]; rfl
        have hfz : wr.frozen? ⟨w.heap.size, j, none⟩ = false := hownk.frozenAt j
        obtain ⟨r, hrr⟩ : ∃ r, r = -x := ⟨_, rfl⟩
        have ew : IntKind.u8.wrap (-(x.toNat : Int)) = (r.toNat : Int) := by rw [hrr]; exact wrap_neg x
        rw [← hrr] at hst
        clear hx hz hr hown hrr
        go_wp2
        go_roundw
        case rel => exact ⟨j + 1, by omega, by go_num, hst.1, hbk.setCell (p := ⟨w.heap.size, j, none⟩) (Nat.le_refl _) _⟩
        case measure => simp [intOf]; omega
      · obtain rfl : j = l.length := by omega
        rw [part_all e400 (by simp)] at hownk
        obtain ⟨s, hs⟩ : ∃ s, wt l = s := ⟨_, rfl⟩
        obtain ⟨s1, hs1⟩ : ∃ s, wt (l.take k) = s := ⟨_, rfl⟩
        obtain ⟨s2, hs2⟩ : ∃ s, wt (l.drop k) = s := ⟨_, rfl⟩
        have hbd := wt_bd l
        have hbd1 := wt_bd (l.take k)
        have hbd2 := wt_bd (l.drop k)
        have hsum := wt_split l k
        have hng : wt (l.map fun x => -x) = s := (wt_neg l).trans hs
        rw [hs] at hbd hsum
        rw [hs1] at hbd1 hsum
        rw [hs2] at hbd2 hsum
        have hl1 : (l.take k).length = k := by simp; omega
        have hl2 : (l.drop k).length = l.length - k := by simp
        rw [hl1] at hbd1
        rw [hl2] at hbd2
        have e1 : IntKind.i64.wrap (s1 + s2) = s1 + s2 := IntWalk.i64_in _ (by omega)
        have t1 : (s == s1 + s2) = true := by rw [beq_iff_eq]; exact hsum
        have t2 : (0 : Int) ≤ s := by omega
        have e2 : IntKind.i64.wrap (128 * (l.length : Int)) = 128 * (l.length : Int) := IntWalk.i64_in _ (by omega)
        have t3 : s ≤ 128 * (l.length : Int) := by omega
        have HS := Lib.hid hs
        have HS1 := Lib.hid hs1
        have HS2 := Lib.hid hs2
        have HNG := Lib.hid hng
        have HL1 := Lib.hid hl1
        have HL2 := Lib.hid hl2
        have i1 : (0 : Int) ≤ (k : Int) := by omega
        have i2 : (k : Int) ≤ (c : Int) := by omega
        have i3 : (k : Int) ≤ (l.length : Int) := by omega
        clear hs hs1 hs2 hng hl1 hl2 hsum hbd hbd1 hbd2 hk
        go_wp2_with fail
        refine (weight_ok _ _ _ l _ _ (h.below hbk) rfl (by omega) s HS.out).mono ?_
        rintro e w' ⟨rfl, rfl⟩
        go_wp2_with fail
        have hdrop := ((h.below hbk).drop (k := k) hc).drew
        have HL3 := Lib.hid (show (l.map fun x => -x).length = l.length by simp)
        have c1 := (weight_ok _ c _ (l.take k) _ _ ((h.below hbk).take k).drew HL1.out (by omega) s1 HS1.out).mono (R' := fun e w' => e = .returned (.int .i64 s1) ∧ w' = wr.drew) (fun _ _ hh => ⟨hh.1, hh.2.symm⟩)
        have c2 := (weight_ok _ (c - k) _ (l.drop k) _ _ hdrop HL2.out (by omega) s2 HS2.out).mono (R' := fun e w' => e = .returned (.int .i64 s2) ∧ w' = wr.drew) (fun _ _ hh => ⟨hh.1, hh.2.symm⟩)
        have c3 := (weight_ok _ l.length _ (l.map fun x => -x) _ _ (Sl.of_own hownk).drew HL3.out (by omega) s HNG.out).mono (R' := fun e w' => e = .returned (.int .i64 s) ∧ w' = wr.drew) (fun _ _ hh => ⟨hh.1, hh.2.symm⟩)
        have C1 := Lib.hid c1
        have C2 := Lib.hid c2
        have C3 := Lib.hid c3
        clear c1 c2 c3 hdrop
        refine wp_region_still_tail 29 (by kernel_rfl) (by kernel_rfl) ?_
        simp only [List.take_succ_cons, List.take_zero, List.drop_succ_cons, List.drop_zero]
        repeat (first
          | still_step
          | (refine wpStill_step (fun K hK => ?_); go_simp; (with_reducible refine ⟨_, C1.out, ?_⟩); refine hK _ ?_; clear hK K)
          | (refine wpStill_step (fun K hK => ?_); go_simp; (with_reducible refine ⟨_, C2.out, ?_⟩); refine hK _ ?_; clear hK K)
          | (refine wpStill_step (fun K hK => ?_); go_simp; (with_reducible refine ⟨_, C3.out, ?_⟩); refine hK _ ?_; clear hK K))
        refine wpStill_nil ?_
        go_wp2_with (go_at_call 10; refine (awake_any _).mono ?_; rintro e w4 ⟨rfl, hb4⟩)
        all_goals go_ret
        all_goals exact ⟨rfl, hbk.drew.trans (hb4.mono hbk.size)⟩
end Go.Proofs.Ytmbngfhhegbomaa.D
