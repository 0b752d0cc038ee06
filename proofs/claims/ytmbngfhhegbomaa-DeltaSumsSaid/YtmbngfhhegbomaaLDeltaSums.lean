/- DeltaSums: the differences of a sum, byte by byte, are the sums of the differences: for every two byte strings and every width. No condition. -/
import Derived.Test.YtmbngfhhegbomaaD7
import Derived.StillTailTactics
import Derived.Deep.QuietTactic
import Derived.BigQuiet
namespace Go.Proofs.Ytmbngfhhegbomaa.D
set_option linter.unusedVariables false
open Go Go.RowKit Go.Proofs.Ytmbngfhhegbomaa Go.Proofs.Ytmbngfhhegbomaa.W Go.Proofs.Ytmbngfhhegbomaa.M

theorem zeros_mapS (n : Nat) : (madeCells (Value.int .u8 0).cells (n * 1)).toList = (List.replicate n (0 : UInt8)).map u8 := by
  rw [Nat.mul_one]
  show (madeCells #[Value.int .u8 0] n).toList = _
  rw [toList_madeCells_one]; simp [u8]

set_option maxRecDepth 100000 in
set_option maxHeartbeats 2000000 in
theorem sums_walk (A : Option Addr) (c : Nat) (la : Bs) (A' : Option Addr) (c' : Nat) (lb : Bs) (x : UInt8) (w : World) (h : Sl u8 w w.heap.size A la) (hc : la.length ≤ c) (hm : c ≤ maxLen) (h' : Sl u8 w w.heap.size A' lb) (hc' : lb.length ≤ c') (hm' : c' ≤ maxLen) :
    Calls Try.prog 4 #[.slice A la.length c, .slice A' lb.length c', .int .u8 (x.toNat : Int)] w fun e w' => e = .returned (.bool true) ∧ Below w.heap.size w w' := by
  unfold maxLen at hm hm'
  obtain ⟨i0, hi, hz0, hz1, hz2⟩ := info_parts info5
  obtain ⟨n, hn, hna, hnb⟩ : ∃ n : Nat, (if lb.length < la.length then (lb.length : Int) else (la.length : Int)) = (n : Int) ∧ n ≤ la.length ∧ n ≤ lb.length := by
    by_cases hlt : lb.length < la.length
    · exact ⟨lb.length, by rw [if_pos hlt], by omega, Nat.le_refl _⟩
    · exact ⟨la.length, by rw [if_neg hlt], Nat.le_refl _, by omega⟩
  by_cases h4 : 400 < n
  · go_enter Try.func4, Try.ntmps4
    go_wp2_with (go_at_call 10; refine (awake_any _).mono ?_; rintro e w1 ⟨rfl, hb⟩)
    all_goals go_ret
    all_goals exact ⟨rfl, hb⟩
  · obtain ⟨wd, hwd, hwd1, hwd2⟩ : ∃ wd : Nat, 1 + (x.toNat : Int) % 64 = (wd : Int) ∧ 1 ≤ wd ∧ wd ≤ 64 := ⟨1 + x.toNat % 64, by omega, by omega, by omega⟩
    have hx := lt256 x
    go_enter Try.func4, Try.ntmps4
    go_wp2_with (at_make; refine wpList_make_full _ rfl _ _ 22 rfl w.heap.size 5 i0 (.int .u8 0) 1 Try.underlying22 hi hz0 hz1 .i64 .i64 _ _ n rfl rfl rfl rfl (by rw [hz2]; omega) (by unfold maxLen; omega) (Nat.le_refl _) ?_; intro w1 hown hgrow)
    rw [zeros_mapS] at hown
    have hb1 : Below w.heap.size w w1 := (Below.refl _ w).grown hgrow (Nat.le_refl _) (fun k e => by cases e)
    obtain ⟨sm, hsm⟩ : ∃ z, z = add (la.take n) (lb.take n) := ⟨_, rfl⟩
    have hsl : sm.length = n := by rw [hsm]; simp [add]; omega
    have e400 : sm.length = (List.replicate n (0 : UInt8)).length := by simpa using hsl
    go_loopw [30] (fun i wr => ∃ k : Nat, k ≤ n ∧ i = .int .i64 k ∧ wr.ownsRow w.heap.size 5 1 (.slice (some ⟨w.heap.size, 0, none⟩) n n) n ((part sm (List.replicate n 0) k).map u8) ∧ Below w.heap.size w wr) (fun i _ => n - (intOf i).toNat)
    case atStart => exact ⟨0, Nat.zero_le _, rfl, by simpa [part] using hown, hb1⟩
    case round =>
      obtain ⟨j, hj, rfl, hownk, hbk⟩ := hrel
      by_cases hlt : j < n
      · obtain ⟨b, o, rfl, hbl, hcc⟩ := (h.below hbk).open_ (by omega)
        obtain ⟨b', o', rfl, hbl', hcc'⟩ := (h'.below hbk).open_ (by omega)
        obtain ⟨p, hp⟩ : ∃ x, la[j]? = some x := ⟨_, List.getElem?_eq_getElem (by omega)⟩
        obtain ⟨q, hq⟩ : ∃ x, lb[j]? = some x := ⟨_, List.getElem?_eq_getElem (by omega)⟩
        have hcp : wr.cell? ⟨b, o + j, none⟩ = some (.int .u8 (p.toNat : Int)) := hcc j p hp
        have hcq : wr.cell? ⟨b', o' + j, none⟩ = some (.int .u8 (q.toNat : Int)) := hcc' j q hq
        obtain ⟨r, hr⟩ : ∃ r, r = p + q := ⟨_, rfl⟩
        have ew : IntKind.u8.wrap ((p.toNat : Int) + (q.toNat : Int)) = (r.toNat : Int) := by rw [hr]; exact wrap_add p q
        have hrs : sm[j]? = some r := by
          rw [hsm, hr]
          exact add_get (by rw [List.getElem?_take, if_pos hlt, hp]) (by rw [List.getElem?_take, if_pos hlt, hq])
        have hst := hownk.stored j (.int .u8 (r.toNat : Int))
        rw [part_set e400 hrs] at hst
        obtain ⟨z, hz⟩ : ∃ z, (part sm (List.replicate n 0) j)[j]? = some z := ⟨_, List.getElem?_eq_getElem (by rw [part_length e400]; simpa using hlt)⟩
        have hcz : wr.cell? ⟨w.heap.size, j, none⟩ = some (.int .u8 (z.toNat : Int)) := by rw [hownk.cellAt j (by omega), List.getElem?_map, hz]; rfl
        have hfz : wr.frozen? ⟨w.heap.size, j, none⟩ = false := hownk.frozenAt j
        have j1 : (0 : Int) ≤ (j : Int) := by omega
        have j2 : (j : Int) < (la.length : Int) := by omega
        have j3 : (j : Int) < (lb.length : Int) := by omega
        have j4 : (j : Int) < (n : Int) := by omega
        clear hp hq hz hr hrs hown hsm hcc hcc' hn hwd hsl e400
        go_wp2_with fail
        refine wp_region_still_tail 12 (by kernel_rfl) (by kernel_rfl) ?_
        simp only [List.take_succ_cons, List.take_zero, List.drop_succ_cons, List.drop_zero]
        repeat still_step
        refine wpStill_nil ?_
        clear j1 j2 j3 j4 ew
        go_wp2
        go_roundw
        case rel => exact ⟨j + 1, by omega, by go_num, hst.1, (hbk.setCell (p := ⟨w.heap.size, j, none⟩) (Nat.le_refl _) _).drew⟩
        case measure => simp [intOf]; omega
      · obtain rfl : n = j := by omega
        rw [part_all e400 (by simp)] at hownk
        have L1 : lim n (wd : Int) 1 = 0 := by unfold lim; rw [if_neg (by omega), if_neg (by omega)]
        have F1 : ∀ (l' : Bs), l'.length = n → outF fwd l' (wd : Int) 1 = fwd wd l' := fun l' e => by unfold outF; rw [e, if_pos L1]; rfl
        have na : (la.take n).length = n := by simp; omega
        have nb : (lb.take n).length = n := by simp; omega
        obtain ⟨x1, hx1⟩ : ∃ z, z = fwd wd (la.take n) := ⟨_, rfl⟩
        obtain ⟨y1, hy1⟩ : ∃ z, z = fwd wd (lb.take n) := ⟨_, rfl⟩
        obtain ⟨z1, hz1'⟩ : ∃ z, z = fwd wd sm := ⟨_, rfl⟩
        have nx : x1.length = n := by rw [hx1, length_fwd, na]
        have ny : y1.length = n := by rw [hy1, length_fwd, nb]
        have nz : z1.length = n := by rw [hz1', length_fwd, hsl]
        have hsum := Lib.hid (show z1 = add x1 y1 by rw [hz1', hsm, fwd_add wd (na.trans nb.symm), hx1, hy1])
        have P1 := Lib.hid (show outF fwd (la.take n) (wd : Int) 1 = x1 from (F1 _ na).trans hx1.symm)
        have P2 := Lib.hid (show outF fwd (lb.take n) (wd : Int) 1 = y1 from (F1 _ nb).trans hy1.symm)
        have P3 := Lib.hid (show outF fwd sm (wd : Int) 1 = z1 from (F1 _ hsl).trans hz1'.symm)
        have HL1 := Lib.hid L1
        have NA := Lib.hid na
        have NB := Lib.hid nb
        have NX := Lib.hid nx
        have NY := Lib.hid ny
        have NZ := Lib.hid nz
        have NS := Lib.hid hsl
        have hn' : n ≤ 140737488351232 := by omega
        have sa := (h.below hbk).lt
        have sb := (h'.below hbk).lt
        have ss := Sl.of_own hownk
        clear L1 F1 na nb hx1 hy1 hz1' nx ny nz hsl hsm e400 hown hownk h h'
        go_wp2_with fail
        refine (forward_ok _ _ n (la.take n) wd _ _ (sa.take n) NA.out hn' x1 n 0 P1.out NX.out HL1.out).mono ?_
        rintro e v1 ⟨A1, c1, rfl, s1, hc1, b1⟩
        replace sb := sb.later b1
        replace ss := ss.later b1
        clear sa
        have g1 : Below w.heap.size w v1 := hbk.trans (b1.mono hbk.size)
        clear b1
        go_wp2_with fail
        refine (forward_ok _ _ n (lb.take n) wd _ _ (sb.take n) NB.out hn' y1 n 0 P2.out NY.out HL1.out).mono ?_
        rintro e v2 ⟨A2, c2, rfl, s2, hc2, b2⟩
        replace ss := ss.later b2
        replace s1 := s1.later b2
        clear sb
        have g2 : Below w.heap.size w v2 := g1.trans (b2.mono g1.size)
        clear b2
        go_wp2_with fail
        refine (forward_ok _ _ n sm wd _ _ ss NS.out hn' z1 n 0 P3.out NZ.out HL1.out).mono ?_
        rintro e v3 ⟨A3, c3, rfl, s3, hc3, b3⟩
        replace s1 := s1.later b3
        replace s2 := s2.later b3
        clear ss
        have g3 : Below w.heap.size w v3 := g2.trans (b3.mono g2.size)
        clear b3
        go_wp2_with fail
        go_loopw [97] (fun i wr => ∃ k : Nat, k ≤ n ∧ i = .int .i64 k ∧ Below v3.heap.size v3 wr) (fun i _ => n - (intOf i).toNat)
        case atStart => exact ⟨0, Nat.zero_le _, rfl, Below.refl _ _⟩
        case round =>
          obtain ⟨k, hk, rfl, hbk3⟩ := hrel
          have g4 := g3.trans (hbk3.mono g3.size)
          by_cases hlt : k < n
          · obtain ⟨bx, ox, rfl, _, hcx⟩ := (s1.below hbk3).open_ (by rw [NX.out]; omega)
            obtain ⟨by', oy, rfl, _, hcy⟩ := (s2.below hbk3).open_ (by rw [NY.out]; omega)
            obtain ⟨bz, oz, rfl, _, hcz⟩ := (s3.below hbk3).open_ (by rw [NZ.out]; omega)
            obtain ⟨p, hp⟩ : ∃ x, x1[k]? = some x := ⟨_, List.getElem?_eq_getElem (by rw [NX.out]; omega)⟩
            obtain ⟨q, hq⟩ : ∃ x, y1[k]? = some x := ⟨_, List.getElem?_eq_getElem (by rw [NY.out]; omega)⟩
            obtain ⟨r, hr⟩ : ∃ r, r = p + q := ⟨_, rfl⟩
            have hzk : z1[k]? = some r := by rw [hsum.out, hr]; exact add_get hp hq
            have kx : wr.cell? ⟨bx, ox + k, none⟩ = some (.int .u8 (p.toNat : Int)) := hcx k p hp
            have ky : wr.cell? ⟨by', oy + k, none⟩ = some (.int .u8 (q.toNat : Int)) := hcy k q hq
            have kz : wr.cell? ⟨bz, oz + k, none⟩ = some (.int .u8 (r.toNat : Int)) := hcz k r hzk
            have ew : IntKind.u8.wrap ((p.toNat : Int) + (q.toNat : Int)) = (r.toNat : Int) := by rw [hr]; exact wrap_add p q
            have j1 : (0 : Int) ≤ (k : Int) := by omega
            have j4 : (k : Int) < (n : Int) := by omega
            clear hp hq hr hzk hcx hcy hcz hn hwd
            go_wp2_with fail
            go_quiet (fail)
            clear j1 j4 ew
            go_wp2
            go_roundw
            case rel => exact ⟨k + 1, by omega, by go_num, below_drewN hbk3 _⟩
            case measure => simp [intOf]; omega
          · go_wp2_with (go_at_call 10; refine (awake_any _).mono ?_; rintro e v4 ⟨rfl, hb4⟩)
            go_ret
            exact ⟨rfl, g4.trans (hb4.mono g4.size)⟩
end Go.Proofs.Ytmbngfhhegbomaa.D
