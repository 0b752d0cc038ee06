import Derived.Test.YtmbngfhhegbomaaD4
import Derived.Maps.AppendAt
import Derived.Deep.AppendLies
import Derived.Test.YtmbngfhhegbomaaAppend
namespace Go.Proofs.Ytmbngfhhegbomaa.D
set_option linter.unusedVariables false
open Go Go.RowKit Go.Proofs.Ytmbngfhhegbomaa Go.Proofs.Ytmbngfhhegbomaa.W Go.Proofs.Ytmbngfhhegbomaa.M

theorem rForward_any (A : Option Addr) (c : Nat) (l : Bs) (wd : Int) (w : World) (B : Nat) (h : Sl u8 w B A l) (hn : l.length ≤ 140737488351232) :
    Calls Try.prog 20 #[.slice A l.length c, .int .i64 wd] w fun e w' => ∃ A' c', e = .returned (.tuple #[.slice A' (outF fwd l wd 1).length c', .int .i64 (lim l.length wd 0)]) ∧
      w'.ownsRow w.heap.size 5 1 (.slice A' (outF fwd l wd 1).length c') (outF fwd l wd 1).length ((outF fwd l wd 1).map u8) ∧ Below w.heap.size w w' := by
  obtain ⟨i0, hi, hz0, hz1, hz2⟩ := info_parts info5
  have hlim : lim l.length wd 1 = lim l.length wd 0 := by unfold lim; simp
  by_cases hz : lim l.length wd 0 = 0
  · obtain ⟨h1, h2, h3, h4, h5⟩ := lim_zero hz
    obtain ⟨wd, rfl⟩ := Int.eq_ofNat_of_zero_le (show 0 ≤ wd by omega)
    have e0 : outF fwd l wd 1 = fwd wd l := by unfold outF; rw [if_pos (hlim.trans hz)]; rfl
    have el : (fwd wd l).length = l.length := length_fwd wd l
    rw [e0, el, hz]
    have HZ := Lib.hid hz
    have EL := Lib.hid el
    clear hz e0 el hlim
    go_enter Try.func20, Try.ntmps20
    go_wp2_with (go_at_call 31; refine (rlimits_any _ _ _ _ _ _ hn).mono ?_; rintro e w' ⟨rfl, rfl⟩; rw [HZ.out])
    go_loopw [7, 8] (fun v i wr => ∃ k : Nat, k ≤ l.length ∧ i = .int .i64 k ∧ wr.ownsRow w.heap.size 5 1 v k (((fwd wd l).take k).map u8) ∧ Below w.heap.size w wr) (fun _ i _ => l.length - (intOf i).toNat)
    case atStart => exact ⟨0, Nat.zero_le _, rfl, World.ownsRow_nil _ _ _ _, Below.refl _ _⟩
    case round =>
      obtain ⟨k, hk, rfl, hown, hb⟩ := hrel
      have hsz := hb.size
      by_cases hlt : k < l.length
      · obtain ⟨b, o, rfl, hbl, hc⟩ := (h.lt.below hb).open_ (by omega)
        obtain ⟨x, hx⟩ : ∃ x, l[k]? = some x := ⟨_, List.getElem?_eq_getElem hlt⟩
        have hcx : wr.cell? ⟨b, o + k, none⟩ = some (.int .u8 (x.toNat : Int)) := hc k x hx
        by_cases hkw : wd ≤ k
        · obtain ⟨y, hy⟩ : ∃ y, l[k - wd]? = some y := ⟨_, List.getElem?_eq_getElem (by omega)⟩
          have hcy : wr.cell? ⟨b, o + (k - wd), none⟩ = some (.int .u8 (y.toNat : Int)) := hc (k - wd) y hy
          obtain ⟨r, hr⟩ : ∃ r, r = x - y := ⟨_, rfl⟩
          have ew : IntKind.u8.wrap ((x.toNat : Int) - (y.toNat : Int)) = (r.toNat : Int) := by rw [hr]; exact wrap_sub x y
          have htk : (fwd wd l).take (k + 1) = (fwd wd l).take k ++ [r] := W.take_succ (by rw [fwd_get hx, if_neg (by omega), List.getD, hy, hr]; rfl)
          have HT := Lib.hid htk
          have e1 : IntKind.i64.wrap ((k : Int) - (wd : Int)) = (k : Int) - (wd : Int) := IntWalk.i64_in _ (by omega)
          have e2 : (0 : Int) ≤ (k : Int) - (wd : Int) := by omega
          have e3 : ((k : Int) - (wd : Int)).toNat = k - wd := by omega
          have e4 : (k : Int) - (wd : Int) < (l.length : Int) := by omega
          clear hx hy hr htk hc
          go_wp2_with fail
          go_region_held3 (fun w' => w'.cell? ⟨b, o + k, none⟩ = some (.int .u8 (x.toNat : Int)) ∧ w'.cell? ⟨b, o + (k - wd), none⟩ = some (.int .u8 (y.toNat : Int)))
            (first
            | go_keep
            | exact ⟨(hgrow.cell_far _ (by simp; omega) (fun e => by have := (hown.lt _ e.symm).1; simp at this; omega)).trans ((World.cell?_alloc_lt wr _ _ (by simp; omega)).trans hcx), (hgrow.cell_far _ (by simp; omega) (fun e => by have := (hown.lt _ e.symm).1; simp at this; omega)).trans ((World.cell?_alloc_lt wr _ _ (by simp; omega)).trans hcy)⟩)
            (first
            | (refine step_append_lies _ (by rfl) _ _ _ (by rfl) w.heap.size 5 i0 (.int .u8 0) 1 1 Try.underlying22 hi hz0 hz1 hz2 rfl (by decide) _ k _ (by rfl) (hown.alloc _).drew ⟨wr.heap.size, 0, none⟩ 1 1 [.int .u8 (r.toNat : Int)] (by rfl) (by rfl) (cell_one_new _ _ _) (by simp [Value.oneCell']) (by decide) (by unfold maxLen; omega) (by omega) (by simp; omega) (wr.heap.size + 1) (by simp) ?_; intro gg cap w1 hown1 hgrow hat hlt1))
          clear e1 e2 e3 e4 ew
          have hb1 : Below w.heap.size w w1 := ((hb.alloc hsz _).drew).grown hgrow (by simp; omega) (fun j e => (hown.lt j e).1)
          go_wp2
          go_roundw
          case rel => exact ⟨k + 1, by omega, by go_num, by rw [HT.out, List.map_append]; exact hown1, hb1⟩
          case measure => simp [intOf]; omega
        · have hkw' : k < wd := by omega
          have htk : (fwd wd l).take (k + 1) = (fwd wd l).take k ++ [x] := W.take_succ (by rw [fwd_get hx, if_pos hkw'])
          have HT := Lib.hid htk
          clear hx htk hc hkw
          go_wp2_with (at_builtin; refine wpList_append_own _ rfl _ _ 22 rfl w.heap.size 5 i0 (.int .u8 0) 1 1 Try.underlying22 hi hz0 hz1 hz2 rfl (by decide) _ _ _ rfl (hown.alloc _) ⟨wr.heap.size, 0, none⟩ 1 1 [.int .u8 (x.toNat : Int)] rfl rfl (cell_one_new _ _ _) (by simp [Value.oneCell']) (by unfold maxLen; omega) (by omega) (by simp; omega) ?_; intro v' w1 hown1 hgrow _)
          have hb1 : Below w.heap.size w w1 := (hb.alloc hsz _).grown hgrow (by simp; omega) (fun j e => (hown.lt j e).1)
          go_roundw
          case rel => exact ⟨k + 1, by omega, by go_num, by rw [HT.out, List.map_append]; exact hown1, hb1⟩
          case measure => simp [intOf]; omega
      · obtain rfl : k = l.length := by omega
        rw [List.take_of_length_le (Nat.le_of_eq EL.out)] at hown
        go_wp2
        go_ret2
        obtain ⟨A', c', rfl, _, _⟩ := own_form hown
        exact ⟨A', c', rfl, hown, hb⟩
  · have e0 : outF fwd l wd 1 = [] := by unfold outF; rw [if_neg (by rw [hlim]; exact hz)]
    rw [e0]
    have hz' : (lim l.length wd 0 != 0) = true := by simpa using hz
    clear e0 hz hlim
    go_enter Try.func20, Try.ntmps20
    go_wp2_with (go_at_call 31; refine (rlimits_any _ _ _ _ _ _ hn).mono ?_; rintro e w' ⟨rfl, rfl⟩)
    go_ret2
    exact ⟨none, 0, rfl, World.ownsRow_nil _ _ _ _, Below.refl _ _⟩

theorem rInverse_any (A : Option Addr) (c : Nat) (l : Bs) (wd : Int) (w : World) (B : Nat) (h : Sl u8 w B A l) (hn : l.length ≤ 140737488351232) :
    Calls Try.prog 21 #[.slice A l.length c, .int .i64 wd] w fun e w' => ∃ A' c', e = .returned (.tuple #[.slice A' (outF inv l wd 1).length c', .int .i64 (lim l.length wd 0)]) ∧
      w'.ownsRow w.heap.size 5 1 (.slice A' (outF inv l wd 1).length c') (outF inv l wd 1).length ((outF inv l wd 1).map u8) ∧ Below w.heap.size w w' := by
  obtain ⟨i0, hi, hz0, hz1, hz2⟩ := info_parts info5
  have hlim : lim l.length wd 1 = lim l.length wd 0 := by unfold lim; simp
  by_cases hz : lim l.length wd 0 = 0
  · obtain ⟨h1, h2, h3, h4, h5⟩ := lim_zero hz
    obtain ⟨wd, rfl⟩ := Int.eq_ofNat_of_zero_le (show 0 ≤ wd by omega)
    have e0 : outF inv l wd 1 = inv wd l := by unfold outF; rw [if_pos (hlim.trans hz)]; rfl
    have el : (inv wd l).length = l.length := length_inv wd l
    rw [e0, el, hz]
    have HZ := Lib.hid hz
    have EL := Lib.hid el
    clear hz e0 el hlim
    go_enter Try.func21, Try.ntmps21
    go_wp2_with (go_at_call 31; refine (rlimits_any _ _ _ _ _ _ hn).mono ?_; rintro e w' ⟨rfl, rfl⟩; rw [HZ.out])
    go_loopw [7, 8] (fun v i wr => ∃ k : Nat, k ≤ l.length ∧ i = .int .i64 k ∧ wr.ownsRow w.heap.size 5 1 v k (((inv wd l).take k).map u8) ∧ Below w.heap.size w wr) (fun _ i _ => l.length - (intOf i).toNat)
    case atStart => exact ⟨0, Nat.zero_le _, rfl, World.ownsRow_nil _ _ _ _, Below.refl _ _⟩
    case round =>
      obtain ⟨k, hk, rfl, hown, hb⟩ := hrel
      have hsz := hb.size
      by_cases hlt : k < l.length
      · obtain ⟨b, o, rfl, hbl, hc⟩ := (h.lt.below hb).open_ (by omega)
        obtain ⟨x, hx⟩ : ∃ x, l[k]? = some x := ⟨_, List.getElem?_eq_getElem hlt⟩
        have hcx : wr.cell? ⟨b, o + k, none⟩ = some (.int .u8 (x.toNat : Int)) := hc k x hx
        by_cases hkw : wd ≤ k
        · obtain ⟨y, hy⟩ : ∃ y, (inv wd l)[k - wd]? = some y := ⟨_, List.getElem?_eq_getElem (by rw [length_inv]; omega)⟩
          obtain ⟨g, cp, rfl, hg, hgl⟩ := hown.form (by omega)
          have hcy : wr.cell? ⟨g, k - wd, none⟩ = some (.int .u8 (y.toNat : Int)) := by rw [hown.cellAt (k - wd) (by omega), List.getElem?_map, List.getElem?_take, if_pos (by omega), hy]; rfl
          obtain ⟨r, hr⟩ : ∃ r, r = x + y := ⟨_, rfl⟩
          have ew : IntKind.u8.wrap ((x.toNat : Int) + (y.toNat : Int)) = (r.toNat : Int) := by rw [hr]; exact wrap_add x y
          have htk : (inv wd l).take (k + 1) = (inv wd l).take k ++ [r] := W.take_succ (by rw [inv_get (by omega) hx, if_neg (by omega), List.getD, hy, hr]; rfl)
          have HT := Lib.hid htk
          have e1 : IntKind.i64.wrap ((k : Int) - (wd : Int)) = (k : Int) - (wd : Int) := IntWalk.i64_in _ (by omega)
          have e2 : (0 : Int) ≤ (k : Int) - (wd : Int) := by omega
          have e3 : ((k : Int) - (wd : Int)).toNat = k - wd := by omega
          have e4 : (k : Int) - (wd : Int) < (k : Int) := by omega
          have HY := Lib.hid hy
          clear hx hy hr htk hc
          go_wp2_with fail
          go_region_held3 (fun w' => w'.cell? ⟨b, o + k, none⟩ = some (.int .u8 (x.toNat : Int)) ∧ w'.cell? ⟨g, k - wd, none⟩ = some (.int .u8 (y.toNat : Int)))
            (first
            | go_keep
            | exact ⟨(hgrow.cell_far _ (by simp; omega) (fun e => by have := (hown.lt _ e.symm).1; simp at this; omega)).trans ((World.cell?_alloc_lt wr _ _ (by simp; omega)).trans hcx), hkp g rfl (k - wd) _ (by rw [List.getElem?_map, List.getElem?_take, if_pos (by omega), HY.out]; rfl)⟩)
            (first
            | (refine step_append_full _ (by rfl) _ _ _ (by rfl) w.heap.size 5 i0 (.int .u8 0) 1 1 Try.underlying22 hi hz0 hz1 hz2 rfl (by decide) _ k _ (by rfl) (hown.alloc _).drew ⟨wr.heap.size, 0, none⟩ 1 1 [.int .u8 (r.toNat : Int)] (by rfl) (by rfl) (cell_one_new _ _ _) (by simp [Value.oneCell']) (by decide) (by unfold maxLen; omega) (by omega) (by simp; omega) (wr.heap.size + 1) (by simp) ?_; intro gg cap w1 hown1 hgrow hat hlt1 hkp))
          clear e1 e2 e3 e4 ew
          have hb1 : Below w.heap.size w w1 := ((hb.alloc hsz _).drew).grown hgrow (by simp; omega) (fun j e => (hown.lt j e).1)
          go_wp2
          go_roundw
          case rel => exact ⟨k + 1, by omega, by go_num, by rw [HT.out, List.map_append]; exact hown1, hb1⟩
          case measure => simp [intOf]; omega
        · have hkw' : k < wd := by omega
          have htk : (inv wd l).take (k + 1) = (inv wd l).take k ++ [x] := W.take_succ (by rw [inv_get (by omega) hx, if_pos hkw'])
          have HT := Lib.hid htk
          clear hx htk hc hkw
          go_wp2_with (at_builtin; refine wpList_append_own _ rfl _ _ 22 rfl w.heap.size 5 i0 (.int .u8 0) 1 1 Try.underlying22 hi hz0 hz1 hz2 rfl (by decide) _ _ _ rfl (hown.alloc _) ⟨wr.heap.size, 0, none⟩ 1 1 [.int .u8 (x.toNat : Int)] rfl rfl (cell_one_new _ _ _) (by simp [Value.oneCell']) (by unfold maxLen; omega) (by omega) (by simp; omega) ?_; intro v' w1 hown1 hgrow _)
          have hb1 : Below w.heap.size w w1 := (hb.alloc hsz _).grown hgrow (by simp; omega) (fun j e => (hown.lt j e).1)
          go_roundw
          case rel => exact ⟨k + 1, by omega, by go_num, by rw [HT.out, List.map_append]; exact hown1, hb1⟩
          case measure => simp [intOf]; omega
      · obtain rfl : k = l.length := by omega
        rw [List.take_of_length_le (Nat.le_of_eq EL.out)] at hown
        go_wp2
        go_ret2
        obtain ⟨A', c', rfl, _, _⟩ := own_form hown
        exact ⟨A', c', rfl, hown, hb⟩
  · have e0 : outF inv l wd 1 = [] := by unfold outF; rw [if_neg (by rw [hlim]; exact hz)]
    rw [e0]
    have hz' : (lim l.length wd 0 != 0) = true := by simpa using hz
    clear e0 hz hlim
    go_enter Try.func21, Try.ntmps21
    go_wp2_with (go_at_call 31; refine (rlimits_any _ _ _ _ _ _ hn).mono ?_; rintro e w' ⟨rfl, rfl⟩)
    go_ret2
    exact ⟨none, 0, rfl, World.ownsRow_nil _ _ _ _, Below.refl _ _⟩

end Go.Proofs.Ytmbngfhhegbomaa.D
