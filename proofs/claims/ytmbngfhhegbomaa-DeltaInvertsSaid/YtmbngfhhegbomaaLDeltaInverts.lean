/- DeltaInverts: Forward and Inverse, Order and Restore are inverse to each other: for every byte string, width and order. No condition. -/
import Derived.Test.YtmbngfhhegbomaaD7
namespace Go.Proofs.Ytmbngfhhegbomaa.D
set_option linter.unusedVariables false
open Go Go.RowKit Go.Proofs.Ytmbngfhhegbomaa Go.Proofs.Ytmbngfhhegbomaa.W Go.Proofs.Ytmbngfhhegbomaa.M

set_option maxRecDepth 100000 in
set_option maxHeartbeats 1000000 in
theorem inverts_walk (A : Option Addr) (c : Nat) (l : Bs) (x y : UInt8) (w : World) (h : Sl u8 w w.heap.size A l) (hc : l.length ≤ c) (hm : c ≤ maxLen) :
    Calls Try.prog 6 #[.slice A l.length c, .int .u8 (x.toNat : Int), .int .u8 (y.toNat : Int)] w fun e w' => e = .returned (.bool true) ∧ Below w.heap.size w w' := by
  unfold maxLen at hm
  by_cases hL : 400 < l.length
  · go_enter Try.func6, Try.ntmps6
    go_wp2_with fail
    have g0 : Below w.heap.size w w := Below.refl _ _
    refine (awake_any _).mono ?_
    rintro e v1 ⟨rfl, b1⟩
    have g1 : Below w.heap.size w v1 := g0.trans (b1.mono g0.size)
    clear b1
    go_wp2_with fail
    go_ret
    exact ⟨rfl, g1⟩
  · have hn : l.length ≤ 140737488351232 := by omega
    obtain ⟨wd, hwd, hwd1, hwd2⟩ : ∃ wd : Nat, 1 + (x.toNat : Int) % 64 = (wd : Int) ∧ 1 ≤ wd ∧ wd ≤ 64 := ⟨1 + x.toNat % 64, by omega, by omega, by omega⟩
    obtain ⟨od, hod, hod2⟩ : ∃ od : Nat, (y.toNat : Int) % 17 = (od : Int) ∧ od ≤ 16 := ⟨y.toNat % 17, by omega, by omega⟩
    have hx := lt256 x
    have hy := lt256 y
    have L1 : lim l.length (wd : Int) 1 = 0 := by unfold lim; rw [if_neg (by omega), if_neg (by omega)]
    have Ln : lim l.length (wd : Int) (od : Int) = 0 := by unfold lim; rw [if_neg (by omega), if_neg (by omega)]
    have F1 : ∀ (F : Nat → Bs → Bs) (l' : Bs), l'.length = l.length → outF F l' (wd : Int) 1 = F wd l' := fun F l' e => by unfold outF; rw [e, if_pos L1]; rfl
    have Fn : ∀ (F : Nat → Bs → Bs) (l' : Bs), l'.length = l.length → outF F l' (wd : Int) (od : Int) = rep (F wd) od l' := fun F l' e => by unfold outF; rw [e, if_pos Ln]; rfl
    obtain ⟨x1, hx1⟩ : ∃ z, z = fwd wd l := ⟨_, rfl⟩
    have Nx1 : x1.length = l.length := by rw [hx1]; exact length_fwd _ _
    obtain ⟨y1, hy1⟩ : ∃ z, z = inv wd l := ⟨_, rfl⟩
    have Ny1 : y1.length = l.length := by rw [hy1]; exact length_inv _ _
    obtain ⟨u1, hu1⟩ : ∃ z, z = rep (fwd wd) od l := ⟨_, rfl⟩
    have Nu1 : u1.length = l.length := by rw [hu1]; exact rep_length (length_fwd wd) _ _
    obtain ⟨t1, ht1⟩ : ∃ z, z = rep (inv wd) od l := ⟨_, rfl⟩
    have Nt1 : t1.length = l.length := by rw [ht1]; exact rep_length (length_inv wd) _ _
    have P1 := Lib.hid (show outF fwd l (wd : Int) 1 = x1 from (F1 fwd l rfl).trans hx1.symm)
    have P2 := Lib.hid (show outF inv x1 (wd : Int) 1 = l from (F1 inv x1 Nx1).trans (by rw [hx1, inv_fwd hwd1]))
    have P3 := Lib.hid (show outF inv l (wd : Int) 1 = y1 from (F1 inv l rfl).trans hy1.symm)
    have P4 := Lib.hid (show outF fwd y1 (wd : Int) 1 = l from (F1 fwd y1 Ny1).trans (by rw [hy1, fwd_inv hwd1]))
    have P5 := Lib.hid (show outF fwd l (wd : Int) (od : Int) = u1 from (Fn fwd l rfl).trans hu1.symm)
    have P6 := Lib.hid (show outF inv u1 (wd : Int) (od : Int) = l from (Fn inv u1 Nu1).trans (by rw [hu1, rep_cancel (inv_fwd hwd1)]))
    have P7 := Lib.hid (show outF inv l (wd : Int) (od : Int) = t1 from (Fn inv l rfl).trans ht1.symm)
    have P8 := Lib.hid (show outF fwd t1 (wd : Int) (od : Int) = l from (Fn fwd t1 Nt1).trans (by rw [ht1, rep_cancel (fwd_inv hwd1)]))
    have Mx1 := Lib.hid Nx1
    have My1 := Lib.hid Ny1
    have Mu1 := Lib.hid Nu1
    have Mt1 := Lib.hid Nt1
    have HL1 := Lib.hid L1
    have HLn := Lib.hid Ln
    clear L1 Ln F1 Fn hx1 hy1 hu1 ht1 Nx1 Ny1 Nu1 Nt1
    go_enter Try.func6, Try.ntmps6
    go_wp2_with fail
    have g0 : Below w.heap.size w w := Below.refl _ _
    have s0 := h
    clear h
    refine (forward_ok _ _ _ l wd _ _ s0 rfl hn x1 l.length 0 P1.out Mx1.out HL1.out).mono ?_
    rintro e v1 ⟨A1, c1, rfl, s1, hc1, b1⟩
    replace s0 := s0.later b1
    have g1 : Below w.heap.size w v1 := g0.trans (b1.mono g0.size)
    clear b1
    go_wp2_with fail
    refine (inverse_ok _ _ l.length x1 wd _ _ s1 Mx1.out hn l l.length 0 P2.out rfl HL1.out).mono ?_
    rintro e v2 ⟨A2, c2, rfl, s2, hc2, b2⟩
    replace s0 := s0.later b2
    clear s1
    have g2 : Below w.heap.size w v2 := g1.trans (b2.mono g1.size)
    clear b2
    go_wp2_with fail
    refine (inverse_ok _ _ _ l wd _ _ s0 rfl hn y1 l.length 0 P3.out My1.out HL1.out).mono ?_
    rintro e v3 ⟨A3, c3, rfl, s3, hc3, b3⟩
    replace s0 := s0.later b3
    replace s2 := s2.later b3
    have g3 : Below w.heap.size w v3 := g2.trans (b3.mono g2.size)
    clear b3
    go_wp2_with fail
    refine (forward_ok _ _ l.length y1 wd _ _ s3 My1.out hn l l.length 0 P4.out rfl HL1.out).mono ?_
    rintro e v4 ⟨A4, c4, rfl, s4, hc4, b4⟩
    replace s0 := s0.later b4
    replace s2 := s2.later b4
    clear s3
    have g4 : Below w.heap.size w v4 := g3.trans (b4.mono g3.size)
    clear b4
    go_wp2_with fail
    refine (order_ok _ _ _ l wd od _ _ s0 rfl hn u1 l.length 0 P5.out Mu1.out HLn.out).mono ?_
    rintro e v5 ⟨A5, c5, rfl, s5, hc5, b5⟩
    replace s0 := s0.later b5
    replace s2 := s2.later b5
    replace s4 := s4.later b5
    have g5 : Below w.heap.size w v5 := g4.trans (b5.mono g4.size)
    clear b5
    go_wp2_with fail
    refine (restore_ok _ _ l.length u1 wd od _ _ s5 Mu1.out hn l l.length 0 P6.out rfl HLn.out).mono ?_
    rintro e v6 ⟨A6, c6, rfl, s6, hc6, b6⟩
    replace s0 := s0.later b6
    replace s2 := s2.later b6
    replace s4 := s4.later b6
    clear s5
    have g6 : Below w.heap.size w v6 := g5.trans (b6.mono g5.size)
    clear b6
    go_wp2_with fail
    refine (restore_ok _ _ _ l wd od _ _ s0 rfl hn t1 l.length 0 P7.out Mt1.out HLn.out).mono ?_
    rintro e v7 ⟨A7, c7, rfl, s7, hc7, b7⟩
    replace s0 := s0.later b7
    replace s2 := s2.later b7
    replace s4 := s4.later b7
    replace s6 := s6.later b7
    have g7 : Below w.heap.size w v7 := g6.trans (b7.mono g6.size)
    clear b7
    go_wp2_with fail
    refine (order_ok _ _ l.length t1 wd od _ _ s7 Mt1.out hn l l.length 0 P8.out rfl HLn.out).mono ?_
    rintro e v8 ⟨A8, c8, rfl, s8, hc8, b8⟩
    replace s0 := s0.later b8
    replace s2 := s2.later b8
    replace s4 := s4.later b8
    replace s6 := s6.later b8
    clear s7
    have g8 : Below w.heap.size w v8 := g7.trans (b8.mono g7.size)
    clear b8
    go_wp2_with fail
    refine (equal_ok _ _ _ _ _ _ l l _ _ _ s2 s0 rfl rfl true (by simp)).mono ?_
    rintro e w' ⟨rfl, rfl⟩
    go_wp2_with fail
    refine (equal_ok _ _ _ _ _ _ l l _ _ _ s4 s0 rfl rfl true (by simp)).mono ?_
    rintro e w' ⟨rfl, rfl⟩
    go_wp2_with fail
    refine (equal_ok _ _ _ _ _ _ l l _ _ _ s6 s0 rfl rfl true (by simp)).mono ?_
    rintro e w' ⟨rfl, rfl⟩
    go_wp2_with fail
    refine (equal_ok _ _ _ _ _ _ l l _ _ _ s8 s0 rfl rfl true (by simp)).mono ?_
    rintro e w' ⟨rfl, rfl⟩
    go_wp2_with fail
    refine (awake_any _).mono ?_
    rintro e v9 ⟨rfl, b9⟩
    replace s0 := s0.later b9
    replace s2 := s2.later b9
    replace s4 := s4.later b9
    replace s6 := s6.later b9
    replace s8 := s8.later b9
    have g9 : Below w.heap.size w v9 := g8.trans (b9.mono g8.size)
    clear b9
    go_wp2_with fail
    go_ret
    exact ⟨rfl, g9⟩

end Go.Proofs.Ytmbngfhhegbomaa.D
