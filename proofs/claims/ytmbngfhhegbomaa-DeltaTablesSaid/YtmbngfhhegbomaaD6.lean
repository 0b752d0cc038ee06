import Derived.Test.YtmbngfhhegbomaaD5
import Derived.Deep.QuietTactic
import Derived.BigQuiet
namespace Go.Proofs.Ytmbngfhhegbomaa.D
set_option linter.unusedVariables false
open Go Go.RowKit Go.Proofs.Ytmbngfhhegbomaa Go.Proofs.Ytmbngfhhegbomaa.W Go.Proofs.Ytmbngfhhegbomaa.M


/-- delta.Forward, its result under a name. -/
theorem forward_ok (A : Option Addr) (c N : Nat) (l : Bs) (wd : Int) (w : World) (B : Nat) (h : Sl u8 w B A l) (hN : l.length = N) (hn : N ≤ 140737488351232) (l' : Bs) (N' : Nat) (e : Int) (hl : outF fwd l wd 1 = l') (hN' : l'.length = N') (he : lim N wd 1 = e) :
    Calls Try.prog 12 #[.slice A N c, .int .i64 wd] w fun E w' => ∃ A' c', E = .returned (.tuple #[.slice A' N' c', .int .i64 e]) ∧ Sl u8 w' w'.heap.size A' l' ∧ N' ≤ c' ∧ Below w.heap.size w w' := by
  subst hN hl hN' he
  go_enter Try.func12, Try.ntmps12
  go_wp2_with (first
    | (go_at_call 26; refine (mk_diff _).mono ?_; rintro e w1 ⟨rfl, hb1⟩)
    | (go_at_call 25; refine (repeated_diff _ _ _ _ _ _ _ (h.lt.below hb1) hn).mono ?_; rintro e w2 ⟨A', c', rfl, hs, hc, hb2⟩))
  go_ret2
  exact ⟨A', c', rfl, hs, hc, hb1.trans (hb2.mono hb1.size)⟩

/-- delta.Inverse, its result under a name. -/
theorem inverse_ok (A : Option Addr) (c N : Nat) (l : Bs) (wd : Int) (w : World) (B : Nat) (h : Sl u8 w B A l) (hN : l.length = N) (hn : N ≤ 140737488351232) (l' : Bs) (N' : Nat) (e : Int) (hl : outF inv l wd 1 = l') (hN' : l'.length = N') (he : lim N wd 1 = e) :
    Calls Try.prog 15 #[.slice A N c, .int .i64 wd] w fun E w' => ∃ A' c', E = .returned (.tuple #[.slice A' N' c', .int .i64 e]) ∧ Sl u8 w' w'.heap.size A' l' ∧ N' ≤ c' ∧ Below w.heap.size w w' := by
  subst hN hl hN' he
  go_enter Try.func15, Try.ntmps15
  go_wp2_with (first
    | (go_at_call 27; refine (mk_sum _).mono ?_; rintro e w1 ⟨rfl, hb1⟩)
    | (go_at_call 25; refine (repeated_sum _ _ _ _ _ _ _ (h.lt.below hb1) hn).mono ?_; rintro e w2 ⟨A', c', rfl, hs, hc, hb2⟩))
  go_ret2
  exact ⟨A', c', rfl, hs, hc, hb1.trans (hb2.mono hb1.size)⟩

/-- delta.Order, its result under a name. -/
theorem order_ok (A : Option Addr) (c N : Nat) (l : Bs) (wd ord : Int) (w : World) (B : Nat) (h : Sl u8 w B A l) (hN : l.length = N) (hn : N ≤ 140737488351232) (l' : Bs) (N' : Nat) (e : Int) (hl : outF fwd l wd ord = l') (hN' : l'.length = N') (he : lim N wd ord = e) :
    Calls Try.prog 11 #[.slice A N c, .int .i64 wd, .int .i64 ord] w fun E w' => ∃ A' c', E = .returned (.tuple #[.slice A' N' c', .int .i64 e]) ∧ Sl u8 w' w'.heap.size A' l' ∧ N' ≤ c' ∧ Below w.heap.size w w' := by
  subst hN hl hN' he
  go_enter Try.func11, Try.ntmps11
  go_wp2_with (first
    | (go_at_call 26; refine (mk_diff _).mono ?_; rintro e w1 ⟨rfl, hb1⟩)
    | (go_at_call 25; refine (repeated_diff _ _ _ _ _ _ _ (h.lt.below hb1) hn).mono ?_; rintro e w2 ⟨A', c', rfl, hs, hc, hb2⟩))
  go_ret2
  exact ⟨A', c', rfl, hs, hc, hb1.trans (hb2.mono hb1.size)⟩

/-- delta.Restore, its result under a name. -/
theorem restore_ok (A : Option Addr) (c N : Nat) (l : Bs) (wd ord : Int) (w : World) (B : Nat) (h : Sl u8 w B A l) (hN : l.length = N) (hn : N ≤ 140737488351232) (l' : Bs) (N' : Nat) (e : Int) (hl : outF inv l wd ord = l') (hN' : l'.length = N') (he : lim N wd ord = e) :
    Calls Try.prog 16 #[.slice A N c, .int .i64 wd, .int .i64 ord] w fun E w' => ∃ A' c', E = .returned (.tuple #[.slice A' N' c', .int .i64 e]) ∧ Sl u8 w' w'.heap.size A' l' ∧ N' ≤ c' ∧ Below w.heap.size w w' := by
  subst hN hl hN' he
  go_enter Try.func16, Try.ntmps16
  go_wp2_with (first
    | (go_at_call 27; refine (mk_sum _).mono ?_; rintro e w1 ⟨rfl, hb1⟩)
    | (go_at_call 25; refine (repeated_sum _ _ _ _ _ _ _ (h.lt.below hb1) hn).mono ?_; rintro e w2 ⟨A', c', rfl, hs, hc, hb2⟩))
  go_ret2
  exact ⟨A', c', rfl, hs, hc, hb1.trans (hb2.mono hb1.size)⟩

theorem rforward_ok (A : Option Addr) (c N : Nat) (l : Bs) (wd : Int) (w : World) (B : Nat) (h : Sl u8 w B A l) (hN : l.length = N) (hn : N ≤ 140737488351232) (l' : Bs) (N' : Nat) (e : Int) (hl : outF fwd l wd 1 = l') (hN' : l'.length = N') (he : lim N wd 1 = e) :
    Calls Try.prog 20 #[.slice A N c, .int .i64 wd] w fun E w' => ∃ A' c', E = .returned (.tuple #[.slice A' N' c', .int .i64 e]) ∧ w'.ownsRow w.heap.size 5 1 (.slice A' N' c') N' (l'.map u8) ∧ Below w.heap.size w w' := by
  subst hN hl hN' he
  have hlim : lim l.length wd 1 = lim l.length wd 0 := by unfold lim; simp
  rw [hlim]
  exact rForward_any A c l wd w B h hn

theorem rinverse_ok (A : Option Addr) (c N : Nat) (l : Bs) (wd : Int) (w : World) (B : Nat) (h : Sl u8 w B A l) (hN : l.length = N) (hn : N ≤ 140737488351232) (l' : Bs) (N' : Nat) (e : Int) (hl : outF inv l wd 1 = l') (hN' : l'.length = N') (he : lim N wd 1 = e) :
    Calls Try.prog 21 #[.slice A N c, .int .i64 wd] w fun E w' => ∃ A' c', E = .returned (.tuple #[.slice A' N' c', .int .i64 e]) ∧ w'.ownsRow w.heap.size 5 1 (.slice A' N' c') N' (l'.map u8) ∧ Below w.heap.size w w' := by
  subst hN hl hN' he
  have hlim : lim l.length wd 1 = lim l.length wd 0 := by unfold lim; simp
  rw [hlim]
  exact rInverse_any A c l wd w B h hn

theorem equal_ok (A A' : Option Addr) (c c' N N' : Nat) (l l' : Bs) (w : World) (B B' : Nat) (h : Sl u8 w B A l) (h' : Sl u8 w B' A' l') (hN : l.length = N) (hN' : l'.length = N') (b : Bool) (hb : (l == l') = b) :
    Calls Try.prog 13 #[.slice A N c, .slice A' N' c'] w fun e w' => e = .returned (.bool b) ∧ w = w' := by
  subst hN hN' hb
  exact equal_any A A' c c' l l' w B B' h h'
theorem weight_ok (A : Option Addr) (c N : Nat) (l : Bs) (w : World) (B : Nat) (h : Sl u8 w B A l) (hN : l.length = N) (hn : N ≤ 140737488351232) (x : Int) (hx : wt l = x) :
    Calls Try.prog 14 #[.slice A N c] w fun e w' => e = .returned (.int .i64 x) ∧ w = w' := by
  subst hN hx
  exact weight_any A c l w B h hn

theorem rweight_ok (A : Option Addr) (c N : Nat) (l : Bs) (w : World) (B : Nat) (h : Sl u8 w B A l) (hN : l.length = N) (hn : N ≤ 140737488351232) (x : Int) (hx : wt l = x) :
    Calls Try.prog 22 #[.slice A N c] w fun e w' => e = .returned (.int .i64 x) ∧ Below w.heap.size w w' := by
  subst hN hx
  go_enter Try.func22, Try.ntmps22
  go_wp2
  go_loopw [3, 4] (fun n i wr => ∃ k : Nat, k ≤ l.length ∧ i = .int .i64 k ∧ n = .int .i64 (wt (l.take k)) ∧ Below w.heap.size w wr) (fun _ i _ => l.length - (intOf i).toNat)
  case atStart => exact ⟨0, Nat.zero_le _, rfl, rfl, Below.refl _ _⟩
  case round =>
    obtain ⟨k, hk, rfl, rfl, hbw⟩ := hrel
    by_cases hlt : k < l.length
    · obtain ⟨b, o, x, rfl, hb, hx, hc⟩ := (h.lt.below hbw).byte hlt
      have hc' : wr.cell? ⟨b, o + k, none⟩ = some (.int .u8 (x.toNat : Int)) := hc
      have hw := wt_bd (l.take k)
      have hl : (l.take k).length ≤ k := List.length_take_le _ _
      have hx0 := lt256 x
      have hm := mag_bd x
      obtain ⟨s0, hs0⟩ : ∃ s0, s0 = wt (l.take k) := ⟨_, rfl⟩
      have HS := Lib.hid (show wt (l.take (k + 1)) = s0 + mag x by rw [hs0, take_succ hx, wt_snoc])
      have e1 : IntKind.i64.wrap (256 - (x.toNat : Int)) = 256 - (x.toNat : Int) := IntWalk.i64_in _ (by omega)
      have e2 : IntKind.i64.wrap (s0 + (if 256 - (x.toNat : Int) < (x.toNat : Int) then 256 - (x.toNat : Int) else (x.toNat : Int))) = s0 + mag x := IntWalk.i64_in _ (by rw [hs0]; unfold mag at hm; omega)
      have e3 : (0 : Int) ≤ (k : Int) := by omega
      have e4 : (k : Int) < (l.length : Int) := by omega
      rw [← hs0]
      clear hx hs0
      go_wp2_with fail
      go_quiet (fail)
      clear e1 e2 e3 e4
      go_wp2
      go_roundw
      case rel => exact ⟨k + 1, by omega, by go_num, by rw [HS.out], below_drewN hbw _⟩
      case measure => simp [intOf]; omega
    · go_wp2
      go_ret
      exact ⟨ret_int (by rw [List.take_of_length_le (by omega)]), hbw⟩

theorem rorder_ok (A : Option Addr) (c N : Nat) (l : Bs) (wd ord : Int) (w : World) (B : Nat) (h : Sl u8 w B A l) (hN : l.length = N) (hn : N ≤ 140737488351232) (l' : Bs) (N' : Nat) (e : Int) (hl : outF fwd l wd ord = l') (hN' : l'.length = N') (he : lim N wd ord = e) :
    Calls Try.prog 23 #[.slice A N c, .int .i64 wd, .int .i64 ord] w fun E w' => ∃ A' c', E = .returned (.tuple #[.slice A' N' c', .int .i64 e]) ∧ w'.ownsRow w.heap.size 5 1 (.slice A' N' c') N' (l'.map u8) ∧ Below w.heap.size w w' := by
  obtain ⟨i0, hi, hz0, hz1, hz2⟩ := info_parts info5
  subst hN hl hN' he
  by_cases hz : lim l.length wd ord = 0
  · obtain ⟨h1, h2, h3, h4, h5⟩ := lim_zero hz
    obtain ⟨wd, rfl⟩ := Int.eq_ofNat_of_zero_le (show 0 ≤ wd by omega)
    obtain ⟨ord, rfl⟩ := Int.eq_ofNat_of_zero_le h4
    have e0 : outF fwd l wd ord = rep (fwd wd) ord l := by unfold outF; rw [if_pos hz]; rfl
    have el : ∀ k, (rep (fwd wd) k l).length = l.length := fun k => rep_length (length_fwd wd) k l
    have e1 : ∀ k, lim (rep (fwd wd) k l).length (wd : Int) 1 = 0 := fun k => by rw [el]; unfold lim; rw [if_neg (by omega), if_neg (by omega)]
    have e2 : ∀ k, outF fwd (rep (fwd wd) k l) (wd : Int) 1 = rep (fwd wd) (k + 1) l := fun k => by unfold outF; rw [if_pos (e1 k), rep_succ']; rfl
    rw [e0, el, hz]
    have HZ := Lib.hid hz
    have EL := Lib.hid el
    have E1 := Lib.hid e1
    have E2 := Lib.hid e2
    clear hz e0 el e1 e2
    go_enter Try.func23, Try.ntmps23
    go_wp2_with (first
      | (go_at_call 31; refine (rlimits_any _ _ _ _ _ _ hn).mono ?_; rintro e w' ⟨rfl, rfl⟩; rw [HZ.out])
      | (at_builtin; refine wpList_append_sl _ u8_one' rfl _ _ 22 rfl w.heap.size 5 i0 (.int .u8 0) 1 Try.underlying22 hi hz0 hz1 hz2 rfl _ 0 [] rfl (World.ownsRow_nil _ _ _ _) B A c l l.length rfl h rfl (by unfold maxLen; omega) (by omega) (by simp) ?_; intro v1 w1 hown hgrow))
    simp only [Nat.zero_add, List.nil_append] at hown
    have hb1 : Below w.heap.size w w1 := (Below.refl _ w).grown hgrow (Nat.le_refl _) (fun k e => by cases e)
    go_loopw [9, 10] (fun v i wr => ∃ k : Nat, k ≤ ord ∧ i = .int .i64 k ∧ wr.ownsRow w.heap.size 5 1 v l.length ((rep (fwd wd) k l).map u8) ∧ Below w.heap.size w wr) (fun _ i _ => ord - (intOf i).toNat)
    case atStart => exact ⟨0, Nat.zero_le _, rfl, hown, hb1⟩
    case round =>
      obtain ⟨k, hk, rfl, hownk, hbk⟩ := hrel
      by_cases hlt : k < ord
      · obtain ⟨A1, c1, rfl, hc1, hc2⟩ := own_form hownk
        go_wp2_with (go_at_call 20; refine (rforward_ok _ _ _ _ _ _ _ (Sl.of_own hownk) (EL.out k) hn _ l.length 0 (E2.out k) (EL.out (k + 1)) (by have := E1.out k; rwa [EL.out] at this)).mono ?_; rintro e w2 ⟨A2, c2, rfl, hown2, hb2⟩)
        go_roundw
        case rel => exact ⟨k + 1, by omega, by go_num, own_base hown2 hbk.size, hbk.trans (hb2.mono hbk.size)⟩
        case measure => simp [intOf]; omega
      · obtain rfl : k = ord := by omega
        obtain ⟨A1, c1, rfl, hc1, hc2⟩ := own_form hownk
        go_wp2
        go_ret2
        exact ⟨A1, c1, rfl, hownk, hbk⟩
  · have e0 : outF fwd l wd ord = [] := by unfold outF; rw [if_neg hz]
    rw [e0]
    have hz' : (lim l.length wd ord != 0) = true := by simpa using hz
    clear e0 hz
    go_enter Try.func23, Try.ntmps23
    go_wp2_with (go_at_call 31; refine (rlimits_any _ _ _ _ _ _ hn).mono ?_; rintro e w' ⟨rfl, rfl⟩)
    go_ret2
    exact ⟨none, 0, rfl, World.ownsRow_nil _ _ _ _, Below.refl _ _⟩

theorem rrestore_ok (A : Option Addr) (c N : Nat) (l : Bs) (wd ord : Int) (w : World) (B : Nat) (h : Sl u8 w B A l) (hN : l.length = N) (hn : N ≤ 140737488351232) (l' : Bs) (N' : Nat) (e : Int) (hl : outF inv l wd ord = l') (hN' : l'.length = N') (he : lim N wd ord = e) :
    Calls Try.prog 24 #[.slice A N c, .int .i64 wd, .int .i64 ord] w fun E w' => ∃ A' c', E = .returned (.tuple #[.slice A' N' c', .int .i64 e]) ∧ w'.ownsRow w.heap.size 5 1 (.slice A' N' c') N' (l'.map u8) ∧ Below w.heap.size w w' := by
  obtain ⟨i0, hi, hz0, hz1, hz2⟩ := info_parts info5
  subst hN hl hN' he
  by_cases hz : lim l.length wd ord = 0
  · obtain ⟨h1, h2, h3, h4, h5⟩ := lim_zero hz
    obtain ⟨wd, rfl⟩ := Int.eq_ofNat_of_zero_le (show 0 ≤ wd by omega)
    obtain ⟨ord, rfl⟩ := Int.eq_ofNat_of_zero_le h4
    have e0 : outF inv l wd ord = rep (inv wd) ord l := by unfold outF; rw [if_pos hz]; rfl
    have el : ∀ k, (rep (inv wd) k l).length = l.length := fun k => rep_length (length_inv wd) k l
    have e1 : ∀ k, lim (rep (inv wd) k l).length (wd : Int) 1 = 0 := fun k => by rw [el]; unfold lim; rw [if_neg (by omega), if_neg (by omega)]
    have e2 : ∀ k, outF inv (rep (inv wd) k l) (wd : Int) 1 = rep (inv wd) (k + 1) l := fun k => by unfold outF; rw [if_pos (e1 k), rep_succ']; rfl
    rw [e0, el, hz]
    have HZ := Lib.hid hz
    have EL := Lib.hid el
    have E1 := Lib.hid e1
    have E2 := Lib.hid e2
    clear hz e0 el e1 e2
    go_enter Try.func24, Try.ntmps24
    go_wp2_with (first
      | (go_at_call 31; refine (rlimits_any _ _ _ _ _ _ hn).mono ?_; rintro e w' ⟨rfl, rfl⟩; rw [HZ.out])
      | (at_builtin; refine wpList_append_sl _ u8_one' rfl _ _ 22 rfl w.heap.size 5 i0 (.int .u8 0) 1 Try.underlying22 hi hz0 hz1 hz2 rfl _ 0 [] rfl (World.ownsRow_nil _ _ _ _) B A c l l.length rfl h rfl (by unfold maxLen; omega) (by omega) (by simp) ?_; intro v1 w1 hown hgrow))
    simp only [Nat.zero_add, List.nil_append] at hown
    have hb1 : Below w.heap.size w w1 := (Below.refl _ w).grown hgrow (Nat.le_refl _) (fun k e => by cases e)
    go_loopw [9, 10] (fun v i wr => ∃ k : Nat, k ≤ ord ∧ i = .int .i64 k ∧ wr.ownsRow w.heap.size 5 1 v l.length ((rep (inv wd) k l).map u8) ∧ Below w.heap.size w wr) (fun _ i _ => ord - (intOf i).toNat)
    case atStart => exact ⟨0, Nat.zero_le _, rfl, hown, hb1⟩
    case round =>
      obtain ⟨k, hk, rfl, hownk, hbk⟩ := hrel
      by_cases hlt : k < ord
      · obtain ⟨A1, c1, rfl, hc1, hc2⟩ := own_form hownk
        go_wp2_with (go_at_call 21; refine (rinverse_ok _ _ _ _ _ _ _ (Sl.of_own hownk) (EL.out k) hn _ l.length 0 (E2.out k) (EL.out (k + 1)) (by have := E1.out k; rwa [EL.out] at this)).mono ?_; rintro e w2 ⟨A2, c2, rfl, hown2, hb2⟩)
        go_roundw
        case rel => exact ⟨k + 1, by omega, by go_num, own_base hown2 hbk.size, hbk.trans (hb2.mono hbk.size)⟩
        case measure => simp [intOf]; omega
      · obtain rfl : k = ord := by omega
        obtain ⟨A1, c1, rfl, hc1, hc2⟩ := own_form hownk
        go_wp2
        go_ret2
        exact ⟨A1, c1, rfl, hownk, hbk⟩
  · have e0 : outF inv l wd ord = [] := by unfold outF; rw [if_neg hz]
    rw [e0]
    have hz' : (lim l.length wd ord != 0) = true := by simpa using hz
    clear e0 hz
    go_enter Try.func24, Try.ntmps24
    go_wp2_with (go_at_call 31; refine (rlimits_any _ _ _ _ _ _ hn).mono ?_; rintro e w' ⟨rfl, rfl⟩)
    go_ret2
    exact ⟨none, 0, rfl, World.ownsRow_nil _ _ _ _, Below.refl _ _⟩

end Go.Proofs.Ytmbngfhhegbomaa.D
