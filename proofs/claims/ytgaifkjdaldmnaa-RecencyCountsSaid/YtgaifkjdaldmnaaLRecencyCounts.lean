import Derived.Test.YtgaifkjdaldmnaaLRecencyLists
import Derived.Test.YtgaifkjdaldmnaaG6
namespace Go.Proofs.Ytgaifkjdaldmnaa.F
set_option linter.unusedVariables false
open Go Go.RowKit Go.Proofs.Ytgaifkjdaldmnaa Go.Proofs.Ytgaifkjdaldmnaa.W Go.Proofs.Ytgaifkjdaldmnaa.M Go.Proofs.Ytgaifkjdaldmnaa.B

theorem Seen.same {w : World} {g : Nat} {l : Bs} (h : Seen w g l) {x : UInt8} (hx : x ∈ l) : Seen w g (l ++ [x]) := by
  have e : seenOf (l ++ [x]) = seenOf l := by
    rw [← seenOf_snoc]
    apply List.ext_getElem?
    intro i
    rw [List.getElem?_set]
    by_cases hi : x.toNat = i
    · subst hi
      have := x.toNat_lt
      rw [if_pos rfl, if_pos (by rw [seenOf_len]; exact this), seenOf_at]; simp [hx]
    · rw [if_neg hi]
  unfold Seen; rw [e]; exact h
/-- What the law asks at a place. -/
theorem asks {b X : Bs} (hX : fwd fresh b = X) {i : Nat} {y : UInt8} (hy : b[i]? = some y) : ∃ (v : UInt8) (r : Int), X[i]? = some v ∧ LastAt (b.take i) y r ∧
    ((r = -1 ∧ y.toNat ≤ v.toNat) ∨ ∃ k : Nat, r = (k : Int) ∧ k < i ∧ v.toNat = dcount ((b.take i).drop (k + 1))) := by
  have hi := (List.getElem?_eq_some_iff.1 hy).1
  have hF : Full (fin fresh (b.take i)) := fresh_full.fin _
  obtain ⟨r, hr⟩ := last_ex (b.take i) y
  refine ⟨place (fin fresh (b.take i)) y, r, by rw [← hX]; exact fwd_at b fresh i y hy, hr, ?_⟩
  rw [hF.place_val]
  rcases hr with ⟨h1, h2⟩ | ⟨k, h1, h2, h3⟩
  · exact .inl ⟨h1, count_new h2⟩
  · have hk : k < i := by have := (List.getElem?_eq_some_iff.1 h2).1; simp at this; omega
    rw [List.getElem?_take, if_pos hk] at h2
    exact .inr ⟨k, h1, hk, count_seen hk h2 h3⟩

set_option maxRecDepth 100000 in
set_option maxHeartbeats 8000000 in
theorem counts_walk (A : Option Addr) (c : Nat) (b : Bs) (w : World) (h : Sl u8 w w.heap.size A b) (hc : b.length ≤ c) (hm : c ≤ maxLen) :
    Calls Try.prog 8 #[.slice A b.length c] w fun e w' => e = .returned (.bool true) ∧ Below w.heap.size w w' := by
  obtain ⟨Z, hz, hZ⟩ := zero_seen
  have HZ := Lib.hid hZ
  clear hZ
  have hm' : b.length ≤ 9223372036854775807 := by unfold maxLen at hm; omega
  obtain ⟨n, hn⟩ : ∃ n, b.length = n := ⟨_, rfl⟩
  have HN := Lib.hid hn
  rw [hn] at hm' hc ⊢
  by_cases h4 : n > 120
  · have h4' : (120 : Int) < n := by omega
    clear hn h4 hc hm h
    go_enter Try.func8, Try.ntmps8
    go_wp2_with (go_at_call 11; refine (awake_any _).mono ?_; rintro e w4 ⟨rfl, hb4⟩)
    go_ret
    exact ⟨rfl, hb4⟩
  · have h4' : decide ((120 : Int) < n) = false := by rw [decide_eq_false_iff_not]; omega
    have hn4 : n ≤ 65000 := by omega
    obtain ⟨X, hX⟩ : ∃ X, fwd fresh b = X := ⟨_, rfl⟩
    have HXl : Hid (X.length = n) := Lib.hid (by rw [← hX, fwd_length, hn])
    have HQ : Hid (∀ i y, b[i]? = some y → ∃ (v : UInt8) (r : Int), X[i]? = some v ∧ LastAt (b.take i) y r ∧ ((r = -1 ∧ y.toNat ≤ v.toNat) ∨ ∃ k : Nat, r = (k : Int) ∧ k < i ∧ v.toNat = dcount ((b.take i).drop (k + 1)))) := Lib.hid fun i y hy => asks hX hy
    have D1 := Lib.hid (forward_g (c := c) hn (by omega) hX h)
    have hSl := h
    clear hX hn h4 hm h
    go_enter Try.func8, Try.ntmps8
    go_wp2_with (go_at_call 16; refine D1.out.mono ?_; clear D1; rintro e w1 ⟨A1, c1, rfl, t1, hc1, _, hb⟩)
    have hS1 := hSl.below hb
    have HS : Hid (∀ W, Below w1.heap.size w1 W → Sl u8 W w.heap.size A b) := Lib.hid fun W hW => (hS1.more hb.size).below hW |> fun h => hS1.keep fun p hp => hW.cell (Nat.lt_of_lt_of_le hp hb.size)
    have HX : Hid (∀ W, Below w1.heap.size w1 W → Sl u8 W w1.heap.size A1 X) := Lib.hid fun W hW => t1.below hW
    have HC : Hid (∀ W, Below w1.heap.size w1 W → ∀ (i : Nat) (y : UInt8) (r : Int), i ≤ n → LastAt (b.take i) y r → Calls Try.prog 21 #[.slice A i c, .int .u8 (y.toNat : Int)] W fun e w' => e = .returned (.int .i64 r) ∧ w' = W) :=
      Lib.hid fun W hW i y r hi hr => lastIndex_any A c i (b.take i) y r (by rw [List.length_take, HN.out]; omega) (by omega) hr W _ ((HS.out W hW).take i)
    clear hS1 hSl t1
    go_loopw [5, 6, 8, 10, 31] (fun _ _ _ _ iv wm => ∃ i : Nat, i ≤ n ∧ iv = .int .i64 (i : Int) ∧ Below w1.heap.size w1 wm) (fun _ _ _ _ iv _ => n - (intOf iv).toNat)
    case atStart => exact ⟨0, Nat.zero_le _, rfl, Below.refl _ _⟩
    case round =>
      obtain ⟨wo, rfl⟩ : ∃ wo : World, wo = wr := ⟨_, rfl⟩
      obtain ⟨i, hiN, rfl, hB⟩ := hrel
      by_cases hlt : i < n
      · obtain ⟨b0, q0, y, hA, hb0, hy, hcy⟩ := (HS.out wo hB).byte (j := i) (by rw [HN.out]; exact hlt)
        obtain ⟨v, r, hv, hr, hcase⟩ := HQ.out i y hy
        obtain ⟨b1, q1, v', hA1, hb1, hv', hcv⟩ := (HX.out wo hB).byte (j := i) (by rw [HXl.out]; exact hlt)
        obtain rfl : v = v' := by rw [hv] at hv'; injection hv'
        have hC : Hid (∀ k, Calls Try.prog 21 #[.slice A i c, .int .u8 (y.toNat : Int)] (wo.drewN k) fun e w' => e = .returned (.int .i64 r) ∧ w' = wo.drewN k) := Lib.hid fun k => HC.out _ (below_drewN hB k) i y r (Nat.le_of_lt hlt) hr
        have hyl := lt256 y
        have hvl := lt256 v
        subst hA hA1
        have hic : i ≤ c := by omega
        have HV := Lib.hid hv
        clear hy hv hv' hr
        rcases hcase with ⟨rfl, hyv⟩ | ⟨k, rfl, hki, hvd⟩
        · have hyv' : decide ((v.toNat : Int) < (y.toNat : Int)) = false := by rw [decide_eq_false_iff_not]; omega
          have hyv2 : ¬ (v.toNat < y.toNat) := by omega
          clear hyv
          go_wp2_with fail
          go_quiet ((go_at_call 21; exact Calls.quiet_of_same (hC.out _)))
          go_wp2_with fail
          go_quiet (fail)
          go_wp2_with fail
          go_roundw
          case rel => exact ⟨i + 1, by omega, by go_num, below_drewN hB _⟩
          case measure => simp [intOf]; omega
        · obtain ⟨D, hD⟩ : ∃ D, D = (b.take i).drop (k + 1) := ⟨_, rfl⟩
          rw [← hD] at hvd
          obtain ⟨d, hd⟩ : ∃ d, d = i - (k + 1) := ⟨_, rfl⟩
          have HDl : Hid (D.length = d) := Lib.hid (by rw [hD, List.length_drop, List.length_take, HN.out, hd]; omega)
          have HD : Hid (∀ W, Below w1.heap.size w1 W → ∀ j x, D[j]? = some x → W.cell? ⟨b0, q0 + (k + 1) + j, none⟩ = some (.int .u8 (x.toNat : Int))) := Lib.hid fun W hW j x hx => by
            rw [hD, List.getElem?_drop, List.getElem?_take] at hx
            split at hx
            · obtain ⟨b', q', x', e1, _, e2, e3⟩ := (HS.out W hW).byte (j := k + 1 + j) (List.getElem?_eq_some_iff.1 hx).1
              injection e1 with e1
              injection e1 with e1 e4
              subst e1 e4
              rw [hx] at e2
              injection e2 with e2
              subst e2
              rw [← e3, Nat.add_assoc]
            · cases hx
          have hDx : Hid (d = i - (k + 1)) := Lib.hid hd
          have hdi : ((i : Int) - ((k : Int) + 1)).toNat = d := by omega
          have hdn : d ≤ 65000 := by omega
          have hvd' := Lib.hid hvd
          have hkc : ¬ c = k + 1 := by omega
          clear hD hd hvd
          go_wp2_with fail
          go_quiet ((go_at_call 21; exact Calls.quiet_of_same (hC.out _)))
          go_wp2_with fail
          obtain ⟨w5, hw5⟩ : ∃ w5, (wo.drewN nq).alloc (.cells Z 33) = w5 := ⟨_, rfl⟩
          have S5 : Seen w5 wo.heap.size [] := by
            rw [← hw5]
            unfold Seen
            rw [seen_nil, show ((List.replicate 256 (Value.bool false)).toArray : Array Value) = Z by rw [HZ.out]; rfl]
            exact Blk.new' rfl _ _
          have B5 : Below w1.heap.size w1 w5 := by rw [← hw5]; exact (below_drewN hB _).alloc hB.size _
          rw [hw5]
          have hzB := hB.size
          clear hw5
          go_loopw [8, 10, 59] (fun nv _ jv wm => ∃ j : Nat, j ≤ d ∧ jv = .int .i64 (j : Int) ∧ nv = .int .i64 (dcount (D.take j) : Int) ∧ Seen wm wo.heap.size (D.take j) ∧ Below w1.heap.size w1 wm) (fun _ _ jv _ => d - (intOf jv).toNat)
          case atStart => exact ⟨0, Nat.zero_le _, rfl, rfl, S5, B5⟩
          case round =>
            obtain ⟨j, hj, rfl, rfl, hS, hBj⟩ := hrel
            by_cases hjd : j < d
            · have hjd2 : j < i - (k + 1) := by have := hDx.out; omega
              obtain ⟨x, hx⟩ : ∃ x, D[j]? = some x := ⟨D[j]'(by rw [HDl.out]; exact hjd), List.getElem?_eq_getElem _⟩
              have hcx := HD.out wr hBj j x hx
              have hxl := lt256 x
              have hcs := hS.cell x
              have hfro := Blk.frozen hS x.toNat
              have htk : Hid (D.take j ++ [x] = D.take (j + 1)) := Lib.hid (by rw [List.take_add_one, hx]; rfl)
              have hdc := dcount_snoc (D.take j) x
              have hdl : dcount (D.take j) ≤ 65000 := by have := dcount_le (D.take j); simp at this; omega
              by_cases hm : x ∈ D.take j
              · rw [decide_eq_true hm] at hcs
                rw [if_pos hm, htk.out, Nat.add_zero] at hdc
                have hS' := Lib.hid (hS.same hm)
                have hdc' := Lib.hid hdc
                clear hx hS hm hdc
                go_wp2
                go_roundw
                case rel => exact ⟨j + 1, by omega, by go_num, by rw [hdc'.out]; rfl, by rw [← htk.out]; exact hS'.out, hBj⟩
                case measure => simp [intOf]; omega
              · rw [decide_eq_false hm] at hcs
                rw [if_neg hm, htk.out] at hdc
                have hS' := Lib.hid (hS.next x)
                have hBj' := hBj.setCell (p := ⟨wo.heap.size, x.toNat, none⟩) hzB (.bool true)
                have hdc' := Lib.hid hdc
                clear hx hS hm hdc
                go_wp2
                go_roundw
                case rel => exact ⟨j + 1, by omega, by go_num, by rw [hdc'.out]; go_num, by rw [← htk.out]; exact hS'.out, hBj'⟩
                case measure => simp [intOf]; omega
            · obtain rfl : j = d := by omega
              obtain ⟨b', q', v', e1, _, e2, e3⟩ := (HX.out wr hBj).byte (j := i) (by rw [HXl.out]; exact hlt)
              injection e1 with e1
              injection e1 with e1 e4
              subst e1 e4
              obtain rfl : v = v' := by have := HV.out; rw [e2] at this; injection this with this; exact this.symm
              have hjd2 : ¬ (j < i - (k + 1)) := by have := hDx.out; omega
              have hcn : dcount (D.take j) = v.toNat := by rw [List.take_of_length_le (by rw [HDl.out]; omega)]; exact hvd'.out.symm
              clear e2 hS
              go_wp2
              go_roundw
              case rel => exact ⟨i + 1, by omega, by go_num, hBj⟩
              case measure => simp [intOf]; omega
      · obtain rfl : i = n := by omega
        go_wp2_with (go_at_call 11; refine (awake_any _).mono ?_; rintro e w9 ⟨rfl, hb9⟩)
        go_ret
        exact ⟨rfl, bsa (bsa hb hb.size hB) (Nat.le_trans hb.size hB.size) hb9⟩
end Go.Proofs.Ytgaifkjdaldmnaa.F
