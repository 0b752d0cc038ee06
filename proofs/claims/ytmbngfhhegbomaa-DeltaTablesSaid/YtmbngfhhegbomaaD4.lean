import Derived.Test.YtmbngfhhegbomaaD3
import Derived.Deep.RegionWith
import Derived.Deep.RegionHeld3
import Derived.Laws.EntriesVeiled
namespace Go.Proofs.Ytmbngfhhegbomaa.D
set_option linter.unusedVariables false
open Go Go.RowKit Go.Proofs.Ytmbngfhhegbomaa Go.Proofs.Ytmbngfhhegbomaa.W Go.Proofs.Ytmbngfhhegbomaa.M

set_option maxHeartbeats 1000000 in
theorem again_diff (wd : Nat) (hw : 1 ≤ wd) (hw2 : wd ≤ 64) (ba bs bw : Nat) (n : Nat) : ∀ (A : Option Addr) (c : Nat) (l : Bs) (N : Nat) (w : World) (B : Nat) (h : Sl u8 w B A l) (hN : l.length = N) (hn : N ≤ 140737488351232) (hm : n ≤ 16)
    (hka : Blk w ba 55 #[.func (.func 33) #[] #[.pointer (some ⟨ba, 0, none⟩), .pointer (some ⟨bs, 0, none⟩), .pointer (some ⟨bw, 0, none⟩)]])
    (hks : Blk w bs 47 #[.func (.func 36) #[] #[], .bool false]) (hkw : Blk w bw 3 #[.int .i64 (wd : Int)]),
    Calls Try.prog 33 #[.slice A N c, .int .i64 (n : Int), .pointer (some ⟨ba, 0, none⟩), .pointer (some ⟨bs, 0, none⟩), .pointer (some ⟨bw, 0, none⟩)] w fun e w' => ∃ A' c', e = .returned (.slice A' N c') ∧
      w'.ownsRow w.heap.size 5 1 (.slice A' N c') N ((rep (fwd wd) n l).map u8) ∧ Below w.heap.size w w' := by
  induction n with
  | zero =>
    intro A c l N w B h hN hn hm hka hks hkw
    subst hN
    go_enter Try.func33, Try.ntmps33
    go_wp2_with (go_at_call 34; refine (clone_any _ _ _ _ _ h hn).mono ?_; rintro e w1 ⟨A', c', rfl, hown, hb1⟩)
    go_ret
    exact ⟨A', c', rfl, hown, hb1⟩
  | succ n ih =>
    intro A c l N w B h hN hn hm hka hks hkw
    subst hN
    have hz : ((n : Int) + 1 == 0) = false := by rw [beq_eq_false_iff_ne]; omega
    have e1 : IntKind.i64.wrap (n : Int) = (n : Int) := IntWalk.i64_in _ (by omega)
    have hca := hka.cell0
    have hcs0 : w.cell? ⟨bs, 0, none⟩ = some (.func (.func 36) #[] #[]) := hks.cell 0
    have hcs1 : w.cell? ⟨bs, 1, none⟩ = some (.bool false) := hks.cell 1
    have hcw := hkw.cell0
    go_enter Try.func33, Try.ntmps33
    go_wp2_with fail
    go_region_held3 (fun w' => w'.cell? ⟨ba, 0, none⟩ = some (.func (.func 33) #[] #[.pointer (some ⟨ba, 0, none⟩), .pointer (some ⟨bs, 0, none⟩), .pointer (some ⟨bw, 0, none⟩)]) ∧ w'.cell? ⟨bs, 0, none⟩ = some (.func (.func 36) #[] #[]) ∧ w'.cell? ⟨bs, 1, none⟩ = some (.bool false) ∧ w'.cell? ⟨bw, 0, none⟩ = some (.int .i64 (wd : Int)))
      (first
      | go_keep
      | exact ⟨(hka.drew.later hb1).cell0, (hks.drew.later hb1).cell 0, (hks.drew.later hb1).cell 1, (hkw.drew.later hb1).cell0⟩
      | exact ⟨((hka.drew.later hb1).later hb2).cell0, ((hks.drew.later hb1).later hb2).cell 0, ((hks.drew.later hb1).later hb2).cell 1, ((hkw.drew.later hb1).later hb2).cell0⟩)
      (first
      | (go_at_call 35; refine (apply_diff _ _ _ _ _ _ h.drew hw hw2 hn).mono ?_; rintro e w1 ⟨A1, c1, rfl, hown1, hb1⟩)
      | (go_at_call 33; refine (ih _ _ _ _ _ _ (Sl.of_own hown1) (length_fwd wd l) hn (by omega) (hka.drew.later hb1) (hks.drew.later hb1) (hkw.drew.later hb1)).mono ?_; rintro e w2 ⟨A2, c2, rfl, hown2, hb2⟩))
    go_wp2
    go_ret
    have hz1 : w.heap.size ≤ w1.heap.size := hb1.size
    exact ⟨A2, c2, rfl, own_base hown2 hz1, ((Below.refl _ w).drew.trans hb1).trans (hb2.mono hz1)⟩

set_option maxHeartbeats 1000000 in
theorem again_sum (wd : Nat) (hw : 1 ≤ wd) (hw2 : wd ≤ 64) (ba bs bw : Nat) (n : Nat) : ∀ (A : Option Addr) (c : Nat) (l : Bs) (N : Nat) (w : World) (B : Nat) (h : Sl u8 w B A l) (hN : l.length = N) (hn : N ≤ 140737488351232) (hm : n ≤ 16)
    (hka : Blk w ba 55 #[.func (.func 33) #[] #[.pointer (some ⟨ba, 0, none⟩), .pointer (some ⟨bs, 0, none⟩), .pointer (some ⟨bw, 0, none⟩)]])
    (hks : Blk w bs 47 #[.func (.func 37) #[] #[], .bool true]) (hkw : Blk w bw 3 #[.int .i64 (wd : Int)]),
    Calls Try.prog 33 #[.slice A N c, .int .i64 (n : Int), .pointer (some ⟨ba, 0, none⟩), .pointer (some ⟨bs, 0, none⟩), .pointer (some ⟨bw, 0, none⟩)] w fun e w' => ∃ A' c', e = .returned (.slice A' N c') ∧
      w'.ownsRow w.heap.size 5 1 (.slice A' N c') N ((rep (inv wd) n l).map u8) ∧ Below w.heap.size w w' := by
  induction n with
  | zero =>
    intro A c l N w B h hN hn hm hka hks hkw
    subst hN
    go_enter Try.func33, Try.ntmps33
    go_wp2_with (go_at_call 34; refine (clone_any _ _ _ _ _ h hn).mono ?_; rintro e w1 ⟨A', c', rfl, hown, hb1⟩)
    go_ret
    exact ⟨A', c', rfl, hown, hb1⟩
  | succ n ih =>
    intro A c l N w B h hN hn hm hka hks hkw
    subst hN
    have hz : ((n : Int) + 1 == 0) = false := by rw [beq_eq_false_iff_ne]; omega
    have e1 : IntKind.i64.wrap (n : Int) = (n : Int) := IntWalk.i64_in _ (by omega)
    have hca := hka.cell0
    have hcs0 : w.cell? ⟨bs, 0, none⟩ = some (.func (.func 37) #[] #[]) := hks.cell 0
    have hcs1 : w.cell? ⟨bs, 1, none⟩ = some (.bool true) := hks.cell 1
    have hcw := hkw.cell0
    go_enter Try.func33, Try.ntmps33
    go_wp2_with fail
    go_region_held3 (fun w' => w'.cell? ⟨ba, 0, none⟩ = some (.func (.func 33) #[] #[.pointer (some ⟨ba, 0, none⟩), .pointer (some ⟨bs, 0, none⟩), .pointer (some ⟨bw, 0, none⟩)]) ∧ w'.cell? ⟨bs, 0, none⟩ = some (.func (.func 37) #[] #[]) ∧ w'.cell? ⟨bs, 1, none⟩ = some (.bool true) ∧ w'.cell? ⟨bw, 0, none⟩ = some (.int .i64 (wd : Int)))
      (first
      | go_keep
      | exact ⟨(hka.drew.later hb1).cell0, (hks.drew.later hb1).cell 0, (hks.drew.later hb1).cell 1, (hkw.drew.later hb1).cell0⟩
      | exact ⟨((hka.drew.later hb1).later hb2).cell0, ((hks.drew.later hb1).later hb2).cell 0, ((hks.drew.later hb1).later hb2).cell 1, ((hkw.drew.later hb1).later hb2).cell0⟩)
      (first
      | (go_at_call 35; refine (apply_sum _ _ _ _ _ _ h.drew hw hw2 hn).mono ?_; rintro e w1 ⟨A1, c1, rfl, hown1, hb1⟩)
      | (go_at_call 33; refine (ih _ _ _ _ _ _ (Sl.of_own hown1) (length_inv wd l) hn (by omega) (hka.drew.later hb1) (hks.drew.later hb1) (hkw.drew.later hb1)).mono ?_; rintro e w2 ⟨A2, c2, rfl, hown2, hb2⟩))
    go_wp2
    go_ret
    have hz1 : w.heap.size ≤ w1.heap.size := hb1.size
    exact ⟨A2, c2, rfl, own_base hown2 hz1, ((Below.refl _ w).drew.trans hb1).trans (hb2.mono hz1)⟩


theorem mk_diff (w : World) : Calls Try.prog 26 #[] w fun e w' => e = .returned (.agg #[.func (.func 36) #[] #[], .bool false]) ∧ Below w.heap.size w w' := by
  go_enter Try.func26, Try.ntmps26
  go_wp2
  exact bodyPost_ret (v := .agg #[.func (.func 36) #[] #[], .bool false]) (by simp [results, Try.results26, go_sem]) rfl ⟨rfl, (Below.refl _ _).alloc (Nat.le_refl _) _⟩

theorem mk_sum (w : World) : Calls Try.prog 27 #[] w fun e w' => e = .returned (.agg #[.func (.func 37) #[] #[], .bool true]) ∧ Below w.heap.size w w' := by
  go_enter Try.func27, Try.ntmps27
  go_wp2
  exact bodyPost_ret (v := .agg #[.func (.func 37) #[] #[], .bool true]) (by simp [results, Try.results27, go_sem]) rfl ⟨rfl, (Below.refl _ _).alloc (Nat.le_refl _) _⟩

/-- The result of an order, nothing where the arguments are wrong. -/
def outF (F : Nat → Bs → Bs) (l : Bs) (wd ord : Int) : Bs := if lim l.length wd ord = 0 then rep (F wd.toNat) ord.toNat l else []
theorem lim_zero {n : Nat} {wd ord : Int} (h : lim n wd ord = 0) : n ≤ 65536 ∧ 1 ≤ wd ∧ wd ≤ 64 ∧ 0 ≤ ord ∧ ord ≤ 16 := by
  unfold lim at h
  split at h
  · omega
  · split at h
    · omega
    · omega

theorem repeated_diff (A : Option Addr) (c : Nat) (l : Bs) (wd ord : Int) (w : World) (B : Nat) (h : Sl u8 w B A l) (hn : l.length ≤ 140737488351232) :
    Calls Try.prog 25 #[.agg #[.func (.func 36) #[] #[], .bool false], .slice A l.length c, .int .i64 wd, .int .i64 ord] w fun e w' => ∃ A' c', e = .returned (.tuple #[.slice A' (outF fwd l wd ord).length c', .int .i64 (lim l.length wd ord)]) ∧
      Sl u8 w' w'.heap.size A' (outF fwd l wd ord) ∧ (outF fwd l wd ord).length ≤ c' ∧ Below w.heap.size w w' := by
  by_cases hz : lim l.length wd ord = 0
  · obtain ⟨h1, h2, h3, h4, h5⟩ := lim_zero hz
    obtain ⟨wd, rfl⟩ := Int.eq_ofNat_of_zero_le (show 0 ≤ wd by omega)
    obtain ⟨ord, rfl⟩ := Int.eq_ofNat_of_zero_le h4
    have e0 : outF fwd l wd ord = rep (fwd wd) ord l := by unfold outF; rw [if_pos hz]; rfl
    have el : (rep (fwd wd) ord l).length = l.length := rep_length (length_fwd wd) ord l
    rw [e0, el, hz]
    have HZ := Lib.hid hz
    clear hz e0 el
    go_enter Try.func25, Try.ntmps25
    go_wp2_with (first
      | (go_at_call 32; refine (limits_any _ _ _ _ _ _ hn).mono ?_; rintro e w' ⟨rfl, rfl⟩; rw [HZ.out])
      | (go_at_call 33; refine (again_diff wd (by omega) (by omega) _ _ _ ord _ _ _ _ _ _ (((h.lt.alloc (Nat.le_refl _) _).alloc (by simp) _).alloc (by simp; omega) _) rfl hn (by omega) (Blk.new' (by simp) _ _) (((Blk.new w _ _).alloc _).alloc _) ((Blk.new' (by simp) _ _).alloc _)).mono ?_; rintro e w1 ⟨A', c', rfl, hown, hb1⟩))
    go_ret2
    have hb : Below w.heap.size w w1 := ((((Below.refl _ w).alloc (Nat.le_refl _) _).alloc (by simp) _).alloc (by simp; omega) _).trans (hb1.mono (by simp; omega))
    obtain ⟨A2, c2, hv, hnc, _⟩ := own_form hown
    obtain ⟨rfl, rfl⟩ : A' = A2 ∧ c' = c2 := by injection hv with h1 h2 h3; exact ⟨h1, h3⟩
    exact ⟨A', c', rfl, Sl.of_own hown, hnc, hb⟩
  · have e0 : outF fwd l wd ord = [] := by unfold outF; rw [if_neg hz]
    rw [e0]
    have hz' : (lim l.length wd ord != 0) = true := by simpa using hz
    clear e0 hz
    go_enter Try.func25, Try.ntmps25
    go_wp2_with (go_at_call 32; refine (limits_any _ _ _ _ _ _ hn).mono ?_; rintro e w' ⟨rfl, rfl⟩)
    go_ret2
    exact ⟨none, 0, rfl, Sl.nil, by simp, ((Below.refl _ w).alloc (Nat.le_refl _) _).alloc (by simp) _⟩

theorem repeated_sum (A : Option Addr) (c : Nat) (l : Bs) (wd ord : Int) (w : World) (B : Nat) (h : Sl u8 w B A l) (hn : l.length ≤ 140737488351232) :
    Calls Try.prog 25 #[.agg #[.func (.func 37) #[] #[], .bool true], .slice A l.length c, .int .i64 wd, .int .i64 ord] w fun e w' => ∃ A' c', e = .returned (.tuple #[.slice A' (outF inv l wd ord).length c', .int .i64 (lim l.length wd ord)]) ∧
      Sl u8 w' w'.heap.size A' (outF inv l wd ord) ∧ (outF inv l wd ord).length ≤ c' ∧ Below w.heap.size w w' := by
  by_cases hz : lim l.length wd ord = 0
  · obtain ⟨h1, h2, h3, h4, h5⟩ := lim_zero hz
    obtain ⟨wd, rfl⟩ := Int.eq_ofNat_of_zero_le (show 0 ≤ wd by omega)
    obtain ⟨ord, rfl⟩ := Int.eq_ofNat_of_zero_le h4
    have e0 : outF inv l wd ord = rep (inv wd) ord l := by unfold outF; rw [if_pos hz]; rfl
    have el : (rep (inv wd) ord l).length = l.length := rep_length (length_inv wd) ord l
    rw [e0, el, hz]
    have HZ := Lib.hid hz
    clear hz e0 el
    go_enter Try.func25, Try.ntmps25
    go_wp2_with (first
      | (go_at_call 32; refine (limits_any _ _ _ _ _ _ hn).mono ?_; rintro e w' ⟨rfl, rfl⟩; rw [HZ.out])
      | (go_at_call 33; refine (again_sum wd (by omega) (by omega) _ _ _ ord _ _ _ _ _ _ (((h.lt.alloc (Nat.le_refl _) _).alloc (by simp) _).alloc (by simp; omega) _) rfl hn (by omega) (Blk.new' (by simp) _ _) (((Blk.new w _ _).alloc _).alloc _) ((Blk.new' (by simp) _ _).alloc _)).mono ?_; rintro e w1 ⟨A', c', rfl, hown, hb1⟩))
    go_ret2
    have hb : Below w.heap.size w w1 := ((((Below.refl _ w).alloc (Nat.le_refl _) _).alloc (by simp) _).alloc (by simp; omega) _).trans (hb1.mono (by simp; omega))
    obtain ⟨A2, c2, hv, hnc, _⟩ := own_form hown
    obtain ⟨rfl, rfl⟩ : A' = A2 ∧ c' = c2 := by injection hv with h1 h2 h3; exact ⟨h1, h3⟩
    exact ⟨A', c', rfl, Sl.of_own hown, hnc, hb⟩
  · have e0 : outF inv l wd ord = [] := by unfold outF; rw [if_neg hz]
    rw [e0]
    have hz' : (lim l.length wd ord != 0) = true := by simpa using hz
    clear e0 hz
    go_enter Try.func25, Try.ntmps25
    go_wp2_with (go_at_call 32; refine (limits_any _ _ _ _ _ _ hn).mono ?_; rintro e w' ⟨rfl, rfl⟩)
    go_ret2
    exact ⟨none, 0, rfl, Sl.nil, by simp, ((Below.refl _ w).alloc (Nat.le_refl _) _).alloc (by simp) _⟩

end Go.Proofs.Ytmbngfhhegbomaa.D
