/- DeltaOrders: Order and Restore return the bytes or errors of the reference: for every byte string, width and order. No condition. -/
import Derived.Test.YtmbngfhhegbomaaD7
namespace Go.Proofs.Ytmbngfhhegbomaa.D
set_option linter.unusedVariables false
open Go Go.RowKit Go.Proofs.Ytmbngfhhegbomaa Go.Proofs.Ytmbngfhhegbomaa.W Go.Proofs.Ytmbngfhhegbomaa.M

set_option maxRecDepth 100000 in
set_option maxHeartbeats 1000000 in
theorem orders_walk (A : Option Addr) (c : Nat) (l : Bs) (wd od : Int) (w : World) (h : Sl u8 w w.heap.size A l) (hc : l.length ≤ c) (hm : c ≤ maxLen) (hlo : -9223372036854775808 ≤ wd) (hhi : wd ≤ 9223372036854775807) (hlo2 : -9223372036854775808 ≤ od) (hhi2 : od ≤ 9223372036854775807) :
    Calls Try.prog 9 #[.slice A l.length c, .int .i64 wd, .int .i64 od] w fun e w' => e = .returned (.bool true) ∧ Below w.heap.size w w' := by
  unfold maxLen at hm
  by_cases hL : longB l.length = true
  · have hL' : (!longB l.length) = false := by rw [hL]; rfl
    clear hL
    go_enter Try.func9, Try.ntmps9
    go_wp2_with fail
    refine (short_ok w.heap.size 0 l.length c A _ ((Blk.new w 22 #[.slice A l.length c]).cell 0) (by omega) false hL').mono ?_
    rintro e w' ⟨rfl, rfl⟩
    go_wp2_with fail
    refine (awake_any _).mono ?_
    rintro e v1 ⟨rfl, b1⟩
    go_wp2_with fail
    go_ret
    exact ⟨rfl, ((Below.refl _ w).alloc (Nat.le_refl _) _).trans (b1.mono (by simp))⟩
  · have hL' : (!longB l.length) = true := by rw [Bool.eq_false_iff.2 hL]; rfl
    have hn : l.length ≤ 140737488351232 := by simp [longB] at hL; omega
    clear hL
    obtain ⟨x, hx⟩ : ∃ x, outF fwd l wd od = x := ⟨_, rfl⟩
    have Hx := Lib.hid hx
    clear hx
    obtain ⟨y, hy⟩ : ∃ x, outF inv l wd od = x := ⟨_, rfl⟩
    have Hy := Lib.hid hy
    clear hy
    obtain ⟨e0, he0⟩ : ∃ x, lim l.length wd od = x := ⟨_, rfl⟩
    have HE := Lib.hid he0
    clear he0
    go_enter Try.func9, Try.ntmps9
    go_wp2_with fail
    refine (short_ok w.heap.size 0 l.length c A _ ((Blk.new w 22 #[.slice A l.length c]).cell 0) (by omega) true hL').mono ?_
    rintro e w' ⟨rfl, rfl⟩
    go_wp2_with fail
    obtain ⟨v0, hv0⟩ : ∃ W, w.alloc (.cells #[.slice A l.length c] 22) = W := ⟨_, rfl⟩
    have g0 : Below w.heap.size w v0 := by rw [← hv0]; exact (Below.refl _ w).alloc (Nat.le_refl _) _
    have s0 : Sl u8 v0 v0.heap.size A l := h.later g0
    rw [hv0]
    clear hv0 h
    refine (order_ok _ _ _ l wd od _ _ s0 rfl hn x _ e0 Hx.out rfl HE.out).mono ?_
    rintro e v1 ⟨A1, c1, rfl, s1, hc1, b1⟩
    replace s0 := s0.later b1
    have g1 : Below w.heap.size w v1 := g0.trans (b1.mono g0.size)
    clear b1
    go_wp2_with fail
    refine (rorder_ok _ _ _ l wd od _ _ s0 rfl hn x _ e0 Hx.out rfl HE.out).mono ?_
    rintro e v2 ⟨A2, c2, rfl, o2, b2⟩
    have s2 := Sl.of_own o2
    replace s0 := s0.later b2
    replace s1 := s1.later b2
    have g2 : Below w.heap.size w v2 := g1.trans (b2.mono g1.size)
    clear b2 o2
    go_wp2_with fail
    refine (restore_ok _ _ _ l wd od _ _ s0 rfl hn y _ e0 Hy.out rfl HE.out).mono ?_
    rintro e v3 ⟨A3, c3, rfl, s3, hc3, b3⟩
    replace s0 := s0.later b3
    replace s1 := s1.later b3
    replace s2 := s2.later b3
    have g3 : Below w.heap.size w v3 := g2.trans (b3.mono g2.size)
    clear b3
    go_wp2_with fail
    refine (rrestore_ok _ _ _ l wd od _ _ s0 rfl hn y _ e0 Hy.out rfl HE.out).mono ?_
    rintro e v4 ⟨A4, c4, rfl, o4, b4⟩
    have s4 := Sl.of_own o4
    replace s0 := s0.later b4
    replace s1 := s1.later b4
    replace s2 := s2.later b4
    replace s3 := s3.later b4
    have g4 : Below w.heap.size w v4 := g3.trans (b4.mono g3.size)
    clear b4 o4
    go_wp2_with fail
    refine (equal_ok _ _ _ _ _ _ x x _ _ _ s1 s2 rfl rfl true (by simp)).mono ?_
    rintro e w' ⟨rfl, rfl⟩
    go_wp2_with fail
    refine (equal_ok _ _ _ _ _ _ y y _ _ _ s3 s4 rfl rfl true (by simp)).mono ?_
    rintro e w' ⟨rfl, rfl⟩
    go_wp2_with fail
    refine (awake_any _).mono ?_
    rintro e v5 ⟨rfl, b5⟩
    replace s0 := s0.later b5
    replace s1 := s1.later b5
    replace s2 := s2.later b5
    replace s3 := s3.later b5
    replace s4 := s4.later b5
    have g5 : Below w.heap.size w v5 := g4.trans (b5.mono g4.size)
    clear b5
    go_wp2_with fail
    go_ret
    exact ⟨rfl, g5⟩

end Go.Proofs.Ytmbngfhhegbomaa.D
