/- DeltaAdds: orders add up, and the order 1 is Forward: for every byte string, width and orders. No condition. -/
import Derived.Test.YtmbngfhhegbomaaD7
import Derived.Deep.QuietTactic
import Derived.BigQuiet
namespace Go.Proofs.Ytmbngfhhegbomaa.D
set_option linter.unusedVariables false
open Go Go.RowKit Go.Proofs.Ytmbngfhhegbomaa Go.Proofs.Ytmbngfhhegbomaa.W Go.Proofs.Ytmbngfhhegbomaa.M

set_option maxRecDepth 100000 in
set_option maxHeartbeats 1000000 in
theorem adds_walk (A : Option Addr) (c : Nat) (l : Bs) (x : UInt8) (os : List UInt8) (w : World) (h : Sl u8 w w.heap.size A l) (hc : l.length ≤ c) (hm : c ≤ maxLen) (hos : os.length = 2) :
    Calls Try.prog 3 #[.slice A l.length c, .int .u8 (x.toNat : Int), .agg (os.map u8).toArray] w fun e w' => e = .returned (.bool true) ∧ Below w.heap.size w w' := by
  unfold maxLen at hm
  obtain ⟨o0, o1, rfl⟩ : ∃ o0 o1, os = [o0, o1] := by
    match os, hos with
    | [o0, o1], _ => exact ⟨o0, o1, rfl⟩
  clear hos
  show Calls _ _ #[_, _, .agg #[.int .u8 (o0.toNat : Int), .int .u8 (o1.toNat : Int)]] _ _
  by_cases hL : 400 < l.length
  · go_enter Try.func3, Try.ntmps3
    go_wp2_with fail
    obtain ⟨v0, hv0⟩ : ∃ W, w.alloc (.cells #[.int .u8 (o0.toNat : Int), .int .u8 (o1.toNat : Int)] 23) = W := ⟨_, rfl⟩
    have g0 : Below w.heap.size w v0 := by rw [← hv0]; exact (Below.refl _ w).alloc (Nat.le_refl _) _
    have k0 : Blk v0 w.heap.size 23 #[.int .u8 (o0.toNat : Int), .int .u8 (o1.toNat : Int)] := by rw [← hv0]; exact Blk.new w _ _
    have s0 : Sl u8 v0 v0.heap.size A l := h.later g0
    rw [hv0]
    clear hv0 h
    clear k0
    refine (awake_any _).mono ?_
    rintro e v1 ⟨rfl, b1⟩
    have g1 : Below w.heap.size w v1 := g0.trans (b1.mono g0.size)
    clear b1
    go_wp2_with fail
    go_ret
    exact ⟨rfl, g1⟩
  · have hn : l.length ≤ 140737488351232 := by omega
    obtain ⟨r, hr⟩ : ∃ r : Nat, Int.tmod (x.toNat : Int) 64 = (r : Int) ∧ r < 64 := ⟨x.toNat % 64, by rw [Int.tmod_eq_emod_of_nonneg (by omega)]; omega, by omega⟩
    obtain ⟨n, hn1⟩ : ∃ r : Nat, Int.tmod (o0.toNat : Int) 9 = (r : Int) ∧ r < 9 := ⟨o0.toNat % 9, by rw [Int.tmod_eq_emod_of_nonneg (by omega)]; omega, by omega⟩
    obtain ⟨m, hm1⟩ : ∃ r : Nat, Int.tmod (o1.toNat : Int) 9 = (r : Int) ∧ r < 9 := ⟨o1.toNat % 9, by rw [Int.tmod_eq_emod_of_nonneg (by omega)]; omega, by omega⟩
    obtain ⟨hr, hr2⟩ := hr
    obtain ⟨hn1, hn2⟩ := hn1
    obtain ⟨hm1, hm2⟩ := hm1
    have hx := lt256 x
    have hy := lt256 o0
    have hz := lt256 o1
    obtain ⟨wd, hwd⟩ : ∃ wd : Nat, wd = 1 + r := ⟨_, rfl⟩
    have ewd : IntKind.i64.wrap (1 + (r : Int)) = (wd : Int) := by rw [IntWalk.i64_in _ (by omega)]; omega
    have L1 : lim l.length (wd : Int) 1 = 0 := by unfold lim; rw [if_neg (by omega), if_neg (by omega)]
    have Ln : ∀ od : Nat, od ≤ 16 → lim l.length (wd : Int) (od : Int) = 0 := fun od ho => by unfold lim; rw [if_neg (by omega), if_neg (by omega)]
    have Fn : ∀ (od : Nat) (l' : Bs), od ≤ 16 → l'.length = l.length → outF fwd l' (wd : Int) (od : Int) = rep (fwd wd) od l' := fun od l' ho e => by unfold outF; rw [e, if_pos (Ln od ho)]; rfl
    have hlen : ∀ od, (rep (fwd wd) od l).length = l.length := fun od => rep_length (length_fwd wd) _ _
    obtain ⟨x1, hx1⟩ : ∃ z, z = rep (fwd wd) n l := ⟨_, rfl⟩
    have Nx1 : x1.length = l.length := by rw [hx1]; exact hlen _
    obtain ⟨y1, hy1⟩ : ∃ z, z = rep (fwd wd) (n + m) l := ⟨_, rfl⟩
    have Ny1 : y1.length = l.length := by rw [hy1]; exact hlen _
    obtain ⟨z1, hz1⟩ : ∃ z, z = rep (fwd wd) 1 l := ⟨_, rfl⟩
    have Nz1 : z1.length = l.length := by rw [hz1]; exact hlen _
    have P1 := Lib.hid (show outF fwd l (wd : Int) (n : Int) = x1 from (Fn n l (by omega) rfl).trans hx1.symm)
    have P2 := Lib.hid (show outF fwd x1 (wd : Int) (m : Int) = y1 from (Fn m x1 (by omega) Nx1).trans (by rw [hx1, hy1, rep_add]))
    have P3 := Lib.hid (show outF fwd l (wd : Int) ((n : Int) + (m : Int)) = y1 from by have := (Fn (n + m) l (by omega) rfl).trans hy1.symm; rwa [Int.natCast_add] at this)
    have P4 := Lib.hid (show outF fwd l (wd : Int) 1 = z1 from (Fn 1 l (by omega) rfl).trans hz1.symm)
    have HL1 := Lib.hid L1
    have HLn := Lib.hid (Ln n (by omega))
    have HLm := Lib.hid (Ln m (by omega))
    have HLs := Lib.hid (show lim l.length (wd : Int) ((n : Int) + (m : Int)) = 0 from by have := Ln (n + m) (by omega); rwa [Int.natCast_add] at this)
    have Mx1 := Lib.hid Nx1
    have My1 := Lib.hid Ny1
    have Mz1 := Lib.hid Nz1
    clear L1 Ln Fn hlen hx1 hy1 hz1 Nx1 Ny1 Nz1 hwd
    have i0 : (0 : Int) ≤ (x.toNat : Int) := by omega
    go_enter Try.func3, Try.ntmps3
    go_wp2_with fail
    obtain ⟨v0, hv0⟩ : ∃ W, w.alloc (.cells #[.int .u8 (o0.toNat : Int), .int .u8 (o1.toNat : Int)] 23) = W := ⟨_, rfl⟩
    have g0 : Below w.heap.size w v0 := by rw [← hv0]; exact (Below.refl _ w).alloc (Nat.le_refl _) _
    have k0 : Blk v0 w.heap.size 23 #[.int .u8 (o0.toNat : Int), .int .u8 (o1.toNat : Int)] := by rw [← hv0]; exact Blk.new w _ _
    have s0 : Sl u8 v0 v0.heap.size A l := h.later g0
    rw [hv0]
    clear hv0 h
    have k1 : v0.cell? ⟨w.heap.size, 0, none⟩ = some (.int .u8 (o0.toNat : Int)) := k0.cell 0
    have k2 : v0.cell? ⟨w.heap.size, 1, none⟩ = some (.int .u8 (o1.toNat : Int)) := k0.cell 1
    clear k0
    go_quiet (fail)
    clear k1 k2
    obtain ⟨u0, hu0⟩ : ∃ W, v0.drewN nq = W := ⟨_, rfl⟩
    have g00 : Below w.heap.size w u0 := by rw [← hu0]; exact below_drewN g0 _
    have s00 : Sl u8 u0 u0.heap.size A l := by rw [← hu0]; exact s0
    rw [hu0]
    clear hu0 s0 g0
    go_wp2_with fail
    refine (order_ok _ _ _ l wd n _ _ s00 rfl hn x1 l.length 0 P1.out Mx1.out HLn.out).mono ?_
    rintro e v1 ⟨A1, c1, rfl, s1, hc1, b1⟩
    replace s00 := s00.later b1
    have g1 : Below w.heap.size w v1 := g00.trans (b1.mono g00.size)
    clear b1
    go_wp2_with fail
    refine (order_ok _ _ l.length x1 wd m _ _ s1 Mx1.out hn y1 l.length 0 P2.out My1.out HLm.out).mono ?_
    rintro e v2 ⟨A2, c2, rfl, s2, hc2, b2⟩
    replace s00 := s00.later b2
    clear s1
    have g2 : Below w.heap.size w v2 := g1.trans (b2.mono g1.size)
    clear b2
    go_wp2_with fail
    refine (order_ok _ _ _ l wd (n + m) _ _ s00 rfl hn y1 l.length 0 P3.out My1.out HLs.out).mono ?_
    rintro e v3 ⟨A3, c3, rfl, s3, hc3, b3⟩
    replace s00 := s00.later b3
    replace s2 := s2.later b3
    have g3 : Below w.heap.size w v3 := g2.trans (b3.mono g2.size)
    clear b3
    go_wp2_with fail
    refine (order_ok _ _ _ l wd 1 _ _ s00 rfl hn z1 l.length 0 P4.out Mz1.out HL1.out).mono ?_
    rintro e v4 ⟨A4, c4, rfl, s4, hc4, b4⟩
    replace s00 := s00.later b4
    replace s2 := s2.later b4
    replace s3 := s3.later b4
    have g4 : Below w.heap.size w v4 := g3.trans (b4.mono g3.size)
    clear b4
    go_wp2_with fail
    refine (forward_ok _ _ _ l wd _ _ s00 rfl hn z1 l.length 0 P4.out Mz1.out HL1.out).mono ?_
    rintro e v5 ⟨A5, c5, rfl, s5, hc5, b5⟩
    replace s00 := s00.later b5
    replace s2 := s2.later b5
    replace s3 := s3.later b5
    replace s4 := s4.later b5
    have g5 : Below w.heap.size w v5 := g4.trans (b5.mono g4.size)
    clear b5
    go_wp2_with fail
    refine (equal_ok _ _ _ _ _ _ y1 y1 _ _ _ s2 s3 My1.out My1.out true (by simp)).mono ?_
    rintro e w' ⟨rfl, rfl⟩
    go_wp2_with fail
    refine (equal_ok _ _ _ _ _ _ z1 z1 _ _ _ s4 s5 Mz1.out Mz1.out true (by simp)).mono ?_
    rintro e w' ⟨rfl, rfl⟩
    go_wp2_with fail
    refine (awake_any _).mono ?_
    rintro e v6 ⟨rfl, b6⟩
    replace s00 := s00.later b6
    replace s2 := s2.later b6
    replace s3 := s3.later b6
    replace s4 := s4.later b6
    replace s5 := s5.later b6
    have g6 : Below w.heap.size w v6 := g5.trans (b6.mono g5.size)
    clear b6
    go_wp2_with fail
    go_ret
    exact ⟨rfl, g6⟩

end Go.Proofs.Ytmbngfhhegbomaa.D
