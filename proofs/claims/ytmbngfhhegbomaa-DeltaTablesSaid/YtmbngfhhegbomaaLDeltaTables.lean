/- DeltaTables: a table with equal rows has the differences 0 behind the first row, one whose columns grow by constant steps has them behind the second row for the order 2: for every row, steps and number of rows. No condition. -/
import Derived.Test.YtmbngfhhegbomaaD7
import Derived.StillTailTactics
namespace Go.Proofs.Ytmbngfhhegbomaa.D
set_option linter.unusedVariables false
open Go Go.RowKit Go.Proofs.Ytmbngfhhegbomaa Go.Proofs.Ytmbngfhhegbomaa.W Go.Proofs.Ytmbngfhhegbomaa.M

theorem zero_any (x : UInt8) (w : World) : Calls Try.prog 17 #[.int .u8 (x.toNat : Int)] w fun e w' => e = .returned (.bool ((x.toNat : Int) != 0)) ∧ w = w' := by
  go_enter Try.func17, Try.ntmps17
  go_wp2
  go_ret
  exact ⟨rfl, rfl⟩

/-- IndexFunc and ContainsFunc at a string of zeros. -/
theorem indexZero_ok (A : Option Addr) (c N : Nat) (l : Bs) (w : World) (B : Nat) (h : Sl u8 w B A l) (hN : l.length = N) (hn : N ≤ 140737488351232) (hz : ∀ x ∈ l, x = 0) :
    Calls Try.prog 28 #[.slice A N c, .func (.func 17) #[] #[]] w fun e w' => e = .returned (.int .i64 (-1)) ∧ w = w' := by
  subst hN
  have HZ := Lib.hid hz
  clear hz
  go_enter Try.func28, Try.ntmps28
  go_wp2
  go_loop [8] (fun i => ∃ k : Nat, k ≤ l.length ∧ i = .int .i64 k) (fun i => l.length - (intOf i).toNat)
  case atStart => exact ⟨0, by omega, rfl⟩
  case round =>
    obtain ⟨k, hk, rfl⟩ := hrel
    by_cases hlt : k < l.length
    · obtain ⟨b, o, x, rfl, hb, hx, hc⟩ := h.byte hlt
      obtain rfl := HZ.out x (List.mem_of_getElem? hx)
      have hx0 : (((0 : UInt8).toNat : Int) != 0) = false := by decide
      clear hx
      go_wp2_with (go_at_call 17; refine (zero_any 0 _).mono ?_; rintro e w' ⟨rfl, rfl⟩)
      go_round
      case rel => exact ⟨k + 1, by omega, by go_num⟩
      case measure => simp [intOf]; omega
    · go_wp2
      go_ret
      exact ⟨rfl, rfl⟩
theorem containsZero_ok (A : Option Addr) (c N : Nat) (l : Bs) (w : World) (B : Nat) (h : Sl u8 w B A l) (hN : l.length = N) (hn : N ≤ 140737488351232) (hz : ∀ x ∈ l, x = 0) :
    Calls Try.prog 18 #[.slice A N c, .func (.func 17) #[] #[]] w fun e w' => e = .returned (.bool false) ∧ w = w' := by
  have HZ := Lib.hid hz
  have HN := Lib.hid hN
  clear hz hN
  go_enter Try.func18, Try.ntmps18
  go_wp2_with (go_at_call 28; refine (indexZero_ok _ _ _ l _ _ h HN.out hn HZ.out).mono ?_; rintro e w' ⟨rfl, rfl⟩)
  go_ret
  exact ⟨rfl, rfl⟩

theorem apart_nil (v : Value) : Apart (.slice none 0 0) v := fun k hk => by simp [Value.ownBlock] at hk
/-- The plain law, at the places that the statement asks. -/
theorem row_tbl (row : Bs) : (List.range row.length).map (fun k => row.getD k 0) = row := by
  apply List.ext_getElem
  · simp
  · intro i h1 h2; simp at h1 h2 ⊢
    simp [h2]
theorem wt_zero {l : Bs} (h : ∀ x ∈ l, x = 0) : wt l = 0 := by
  induction l with
  | nil => rfl
  | cons x r ih =>
    have hx := h x (by simp)
    subst hx
    have := ih fun y hy => h y (by simp [hy])
    unfold wt at this ⊢
    rw [List.map_cons, List.sum_cons, this]; rfl
theorem wt_split' (l : Bs) (k : Nat) : wt l = wt (l.take k) + wt (l.drop k) := by
  have h := congrArg wt (List.take_append_drop k l)
  rw [← h]
  simp only [wt, List.map_append, List.sum_append]
theorem mem_drop {l : Bs} {k : Nat} {x : UInt8} (h : x ∈ l.drop k) : ∃ j, k ≤ j ∧ l[j]? = some x := by
  obtain ⟨i, hi⟩ := List.mem_iff_getElem?.1 h
  rw [List.getElem?_drop] at hi
  exact ⟨k + i, by omega, hi⟩
theorem tables_same (row : Bs) (n : Nat) (hw : 0 < row.length) (k : Nat) (hk : k = min (n * row.length) row.length) :
    (∀ x ∈ (fwd row.length (tbl n row.length fun _ i => row.getD i 0)).drop k, x = 0) ∧ wt (fwd row.length (tbl n row.length fun _ i => row.getD i 0)) = wt (row.take k) := by
  have hz : ∀ x ∈ (fwd row.length (tbl n row.length fun _ i => row.getD i 0)).drop k, x = 0 := fun x hx => by
    obtain ⟨j, hj, h⟩ := mem_drop hx
    have hlt := (List.getElem?_eq_some_iff.1 h).1
    rw [length_fwd, tbl_length] at hlt
    exact same_zero hw _ (by omega) h
  refine ⟨hz, ?_⟩
  rw [wt_split' _ k, wt_zero hz, Int.add_zero]
  congr 1
  apply List.ext_getElem?
  intro i
  rw [List.getElem?_take, List.getElem?_take]
  by_cases hi : i < k
  · have h1 : i < n * row.length := by omega
    have h2 : i < row.length := by omega
    rw [if_pos hi, if_pos hi, fwd_get (tbl_get hw h1), if_pos h2, Nat.mod_eq_of_lt h2]
    simp [List.getD, h2]
  · rw [if_neg hi, if_neg hi]
theorem tables_grows (w n : Nat) (r s : Nat → UInt8) (hw : 0 < w) (k : Nat) (hk : k = min (n * w) (2 * w)) :
    ∀ x ∈ (rep (fwd w) 2 (tbl n w fun i j => r j + UInt8.ofNat i * s j)).drop k, x = 0 := fun x hx => by
  obtain ⟨j, hj, h⟩ := mem_drop hx
  have hlt := (List.getElem?_eq_some_iff.1 h).1
  rw [rep_length (length_fwd w), tbl_length] at hlt
  exact grows_zero hw r s (by omega) h
theorem range_succ_map (g : Nat → UInt8) (j : Nat) : (List.range (j + 1)).map g = (List.range j).map g ++ [g j] := by simp [List.range_succ]
theorem wrap_mul (k : Nat) (x : UInt8) (hk : k ≤ 255) : IntKind.u8.wrap ((k : Int) * (x.toNat : Int)) = ((UInt8.ofNat k * x).toNat : Int) := by
  have h1 : (UInt8.ofNat k).toNat = k := by rw [UInt8.toNat_ofNat']; omega
  rw [UInt8.toNat_mul, h1]
  simp [IntKind.wrap, IntKind.signed, IntKind.bits]

set_option maxRecDepth 100000 in
set_option maxHeartbeats 4000000 in
theorem tables_walk (A : Option Addr) (c : Nat) (row : Bs) (A' : Option Addr) (c' : Nat) (st : Bs) (x : UInt8) (w : World) (h : Sl u8 w w.heap.size A row) (hc : row.length ≤ c) (hm : c ≤ maxLen) (h' : Sl u8 w w.heap.size A' st) (hc' : st.length ≤ c') (hm' : c' ≤ maxLen) :
    Calls Try.prog 7 #[.slice A row.length c, .slice A' st.length c', .int .u8 (x.toNat : Int)] w fun e w' => e = .returned (.bool true) ∧ Below w.heap.size w w' := by
  unfold maxLen at hm hm'
  obtain ⟨i0, hi, hz0, hz1, hz2⟩ := info_parts info5
  by_cases hq : row.length = 0 ∨ 64 < row.length ∨ st.length < row.length
  · go_enter Try.func7, Try.ntmps7
    rcases hq with hq | hq | hq
    · have hq' : ((row.length : Int) == 0) = true := by rw [beq_iff_eq]; omega
      go_wp2_with (go_at_call 10; refine (awake_any _).mono ?_; rintro e w1 ⟨rfl, hb⟩)
      all_goals go_ret
      all_goals exact ⟨rfl, hb⟩
    · have hq' : ((row.length : Int) == 0) = false := by rw [beq_eq_false_iff_ne]; omega
      go_wp2_with (go_at_call 10; refine (awake_any _).mono ?_; rintro e w1 ⟨rfl, hb⟩)
      all_goals go_ret
      all_goals exact ⟨rfl, hb⟩
    · by_cases h0 : row.length = 0
      · have hq' : ((row.length : Int) == 0) = true := by rw [beq_iff_eq]; omega
        clear h0
        go_wp2_with (go_at_call 10; refine (awake_any _).mono ?_; rintro e w1 ⟨rfl, hb⟩)
        all_goals go_ret
        all_goals exact ⟨rfl, hb⟩
      · have hq' : ((row.length : Int) == 0) = false := by rw [beq_eq_false_iff_ne]; omega
        go_wp2_with (go_at_call 10; refine (awake_any _).mono ?_; rintro e w1 ⟨rfl, hb⟩)
        all_goals go_ret
        all_goals exact ⟨rfl, hb⟩
  · have hq' : ((row.length : Int) == 0) = false := by rw [beq_eq_false_iff_ne]; omega
    have hw1 : 1 ≤ row.length := by omega
    have hw2 : row.length ≤ 64 := by omega
    have hst : row.length ≤ st.length := by omega
    obtain ⟨n, hn, hn2⟩ : ∃ n : Nat, (x.toNat : Int) % 9 = (n : Int) ∧ n ≤ 8 := ⟨x.toNat % 9, by omega, by omega⟩
    have hx := lt256 x
    clear hq
    obtain ⟨wd, hwd⟩ : ∃ wd, wd = row.length := ⟨_, rfl⟩
    obtain ⟨f1, hf1⟩ : ∃ f : Nat → Nat → UInt8, f = fun _ j => row.getD j 0 := ⟨_, rfl⟩
    obtain ⟨f2, hf2⟩ : ∃ f : Nat → Nat → UInt8, f = fun i j => row.getD j 0 + UInt8.ofNat i * st.getD j 0 := ⟨_, rfl⟩
    rw [← hwd] at hw1 hw2 hst hq' hc
    rw [← hwd]
    have HW := Lib.hid hwd
    clear hwd
    have HF1 := Lib.hid hf1
    have HF2 := Lib.hid hf2
    clear hf1 hf2
    have hbig : ∀ k : Nat, k ≤ 8 → k * wd ≤ 512 := fun k hk => by
      have := Nat.mul_le_mul hk hw2
      omega
    have HB := Lib.hid hbig
    clear hbig
    have hd1 : decide (st.length < wd) = false := by simp; omega
    have hd2 : decide ((64 : Int) < (wd : Int)) = false := by simp; omega
    go_enter Try.func7, Try.ntmps7
    go_wp2_with fail
    simp only [hn]
    go_loopw [8, 9, 38] (fun v v' i wr => ∃ k : Nat, k ≤ n ∧ i = .int .i64 k ∧ wr.ownsRow w.heap.size 5 1 v (k * wd) ((tbl k wd f1).map W.u8) ∧ wr.ownsRow w.heap.size 5 1 v' (k * wd) ((tbl k wd f2).map W.u8) ∧ Apart v v' ∧ Below w.heap.size w wr) (fun _ _ i _ => n - (intOf i).toNat)
    case atStart => exact ⟨0, Nat.zero_le _, rfl, by rw [Nat.zero_mul]; exact World.ownsRow_nil _ _ _ _, by rw [Nat.zero_mul]; exact World.ownsRow_nil _ _ _ _, apart_nil _, Below.refl _ _⟩
    case round =>
      obtain ⟨k, hk, rfl, ho1, ho2, hap, hbk⟩ := hrel
      by_cases hlt : k < n
      · obtain ⟨wo, hwo⟩ : ∃ wo, wo = wr := ⟨_, rfl⟩
        have hkw := HB.out k (by omega)
        have hkw1 := HB.out (k + 1) (by omega)
        rw [Nat.succ_mul] at hkw1
        have hsz := hbk.size
        go_wp2_with (at_builtin; refine wpList_append_at _ u8_one' rfl _ _ 22 rfl w.heap.size 5 i0 (.int .u8 0) 1 Try.underlying22 hi hz0 hz1 hz2 rfl _ _ _ rfl ho1 w.heap.size A c row wd rfl (h.below hbk) HW.out.symm (by unfold maxLen; omega) (by omega) hsz ?_; intro v1 w1 ho3 hgrow hat)
        have hb1 : Below w.heap.size w w1 := hbk.grown hgrow hsz (fun j e => (ho1.lt j e).1)
        have ho4 := hap.kept ho2 hgrow
        have hap1 : Apart v1 _ := hap.step ho2 (Nat.le_refl _) hat
        clear ho1 ho2 hap hbk hgrow hat hwo
        go_loopw [9, 46] (fun v' i wr => ∃ j : Nat, j ≤ wd ∧ i = .int .i64 j ∧ wr.ownsRow w.heap.size 5 1 v1 (k * wd + wd) ((tbl k wd f1).map W.u8 ++ row.map W.u8) ∧ wr.ownsRow w.heap.size 5 1 v' (k * wd + j) ((tbl k wd f2 ++ (List.range j).map (f2 k)).map W.u8) ∧ Apart v1 v' ∧ Below w.heap.size w wr) (fun _ i _ => wd - (intOf i).toNat)
        case atStart => exact ⟨0, Nat.zero_le _, rfl, ho3, by simpa using ho4, hap1, hb1⟩
        case round =>
          obtain ⟨j, hj, rfl, ho1, ho2, hap, hbk⟩ := hrel
          have hsz := hbk.size
          by_cases hlt2 : j < wd
          · obtain ⟨b, o, rfl, hbl, hcc⟩ := (h.below hbk).open_ (by rw [← HW.out]; omega)
            obtain ⟨b', o', rfl, hbl', hcc'⟩ := (h'.below hbk).open_ (by omega)
            obtain ⟨p, hp⟩ : ∃ x, row[j]? = some x := ⟨_, List.getElem?_eq_getElem (by rw [← HW.out]; omega)⟩
            obtain ⟨q, hq⟩ : ∃ x, st[j]? = some x := ⟨_, List.getElem?_eq_getElem (by omega)⟩
            have hcp := hcc j p hp
            have hcq := hcc' j q hq
            rw [u8_def] at hcp hcq
            obtain ⟨r1, hr1⟩ : ∃ r, r = UInt8.ofNat k * q := ⟨_, rfl⟩
            obtain ⟨r2, hr2⟩ : ∃ r, r = p + r1 := ⟨_, rfl⟩
            have ew1 : IntKind.u8.wrap ((k : Int) * (q.toNat : Int)) = (r1.toNat : Int) := by rw [hr1]; exact wrap_mul k q (by omega)
            have ew2 : IntKind.u8.wrap ((p.toNat : Int) + (r1.toNat : Int)) = (r2.toNat : Int) := by rw [hr2]; exact wrap_add p r1
            have hfk : f2 k j = r2 := by rw [HF2.out, hr2, hr1]; simp [List.getD, hp, hq]
            have HR := Lib.hid (show (List.range (j + 1)).map (f2 k) = (List.range j).map (f2 k) ++ [r2] by rw [range_succ_map, hfk])
            clear hp hq hr1 hr2 hfk hcc hcc' ho3 ho4 hap1 hb1
            go_wp2_with (at_builtin; refine wpList_append_at _ u8_one' rfl _ _ 22 rfl w.heap.size 5 i0 (.int .u8 0) 1 Try.underlying22 hi hz0 hz1 hz2 rfl _ _ _ rfl (ho2.alloc _) (wr.heap.size + 1) (some ⟨wr.heap.size, 0, none⟩) 1 [r2] 1 rfl (Sl.of_new rfl rfl) rfl (by unfold maxLen; omega) (by omega) (by simp; omega) ?_; intro v2 w2 ho5 hgrow2 hat2)
            have hb2 : Below w.heap.size w w2 := (hbk.alloc hsz _).grown hgrow2 (by simp; omega) (fun j e => (ho2.lt j e).1)
            have ho6 := hap.symm.kept (ho1.alloc _) hgrow2
            have hap2 : Apart v2 v1 := hap.symm.step (ho1.alloc _) (Nat.le_refl _) hat2
            go_roundw
            case rel => exact ⟨j + 1, by omega, by go_num, ho6, by rw [HR.out, ← List.append_assoc, List.map_append]; exact ho5, hap2.symm, hb2⟩
            case measure => simp [intOf]; omega
          · obtain rfl : wd = j := by omega
            have hrow : (List.range wd).map (f1 k) = row := by rw [HF1.out, HW.out]; exact row_tbl row
            have t1 := Lib.hid (show tbl (k + 1) wd f1 = tbl k wd f1 ++ row by rw [tbl_succ, hrow])
            have t2 := Lib.hid (show tbl (k + 1) wd f2 = tbl k wd f2 ++ (List.range wd).map (f2 k) by rw [tbl_succ])
            clear hrow
            go_wp2_with fail
            go_roundw
            case rel =>
              have R1 : wr.ownsRow w.heap.size 5 1 v1 ((k + 1) * wd) ((tbl (k + 1) wd f1).map W.u8) := by rw [t1.out, Nat.succ_mul, List.map_append]; exact ho1
              have R2 := ho2
              rw [← t2.out, ← Nat.succ_mul] at R2
              exact ⟨k + 1, by omega, by go_num, R1, R2, hap, hbk⟩
            case measure => simp [intOf]; omega
      · obtain rfl : n = k := by omega
        obtain ⟨A8, c8, rfl, hc8, _⟩ := own_form ho1
        obtain ⟨A9, c9, rfl, hc9, _⟩ := own_form ho2
        have hN1 : n * wd ≤ 140737488351232 := by have := HB.out n hn2; omega
        obtain ⟨N, hN⟩ : ∃ N, N = n * wd := ⟨_, rfl⟩
        obtain ⟨tb1, ht1⟩ : ∃ l, l = tbl n wd f1 := ⟨_, rfl⟩
        obtain ⟨tb2, ht2⟩ : ∃ l, l = tbl n wd f2 := ⟨_, rfl⟩
        obtain ⟨x1, hx1⟩ : ∃ l, l = fwd wd tb1 := ⟨_, rfl⟩
        obtain ⟨x2, hx2⟩ : ∃ l, l = rep (fwd wd) 2 tb2 := ⟨_, rfl⟩
        have n1 : tb1.length = N := by rw [ht1, hN]; exact tbl_length _ _ _
        have n2 : tb2.length = N := by rw [ht2, hN]; exact tbl_length _ _ _
        have L1 : lim N (wd : Int) 1 = 0 := by have := HB.out n hn2; unfold lim; rw [if_neg (by omega), if_neg (by omega)]
        have L2 : lim N (wd : Int) 2 = 0 := by have := HB.out n hn2; unfold lim; rw [if_neg (by omega), if_neg (by omega)]
        have P1 := Lib.hid (show outF fwd tb1 (wd : Int) 1 = x1 by unfold outF; rw [n1, if_pos L1, hx1]; rfl)
        have P2 := Lib.hid (show outF fwd tb2 (wd : Int) 2 = x2 by unfold outF; rw [n2, if_pos L2, hx2]; rfl)
        have NX := Lib.hid (show x1.length = N by rw [hx1, length_fwd, n1])
        have NY := Lib.hid (show x2.length = N by rw [hx2, rep_length (length_fwd wd), n2])
        obtain ⟨k1, hk1⟩ : ∃ k : Nat, k = min N wd := ⟨_, rfl⟩
        obtain ⟨k2, hk2⟩ : ∃ k : Nat, k = min N (2 * wd) := ⟨_, rfl⟩
        have T1 := tables_same row n (by rw [← HW.out]; omega) k1 (by rw [← HW.out, ← hN]; exact hk1)
        rw [← HW.out, ← HF1.out, ← ht1, ← hx1] at T1
        have T2 := tables_grows wd n (fun j => row.getD j 0) (fun j => st.getD j 0) hw1 k2 (by rw [← hN]; exact hk2)
        rw [← HF2.out, ← ht2, ← hx2] at T2
        have k3 : (n = 0 ∧ k1 = 0) ∨ (1 ≤ n ∧ k1 = wd) := by
          rcases Nat.eq_zero_or_pos n with h0 | h0
          · exact .inl ⟨h0, by rw [hk1, hN, h0]; simp⟩
          · have : 1 * wd ≤ n * wd := Nat.mul_le_mul_right wd h0
            exact .inr ⟨h0, by rw [hk1, hN]; omega⟩
        have hNw : N ≤ 512 := by rw [hN]; exact HB.out n hn2
        obtain ⟨t0, ht0⟩ : ∃ t, wt x1 = t := ⟨_, rfl⟩
        have W1 := Lib.hid ht0
        have W2 := Lib.hid (show wt (row.take k1) = t0 from T1.2.symm.trans ht0)
        have Z1 := Lib.hid T1.1
        have Z2 := Lib.hid T2
        have N1 := Lib.hid n1
        have N2 := Lib.hid n2
        have HL1 := Lib.hid L1
        have HL2 := Lib.hid L2
        have sa := Sl.of_own ho1
        have sb := Sl.of_own ho2
        have sr := (h.below hbk).lt
        rw [← ht1, ← hN] at ho1
        rw [← ht2, ← hN] at ho2
        rw [← ht1] at sa
        rw [← ht2] at sb
        rw [← hN] at hc8 hc9 hN1
        rw [← hN]
        clear ht1 ht2 hx1 hx2 n1 n2 L1 L2 T1 T2 ht0 ho1 ho2 hap h h' hN
        go_wp2_with fail
        refine (forward_ok _ _ N tb1 wd _ _ sa N1.out hN1 x1 N 0 P1.out NX.out HL1.out).mono ?_
        rintro e v1 ⟨A1, c1, rfl, s1, hc1, b1⟩
        replace sb := sb.later b1
        replace sr := sr.later b1
        clear sa
        have g1 : Below w.heap.size w v1 := hbk.trans (b1.mono hbk.size)
        clear b1
        go_wp2_with fail
        refine (order_ok _ _ N tb2 wd 2 _ _ sb N2.out hN1 x2 N 0 P2.out NY.out HL2.out).mono ?_
        rintro e v2 ⟨A2, c2, rfl, s2, hc2, b2⟩
        replace sr := sr.later b2
        replace s1 := s1.later b2
        clear sb
        have g2 : Below w.heap.size w v2 := g1.trans (b2.mono g1.size)
        clear b2
        go_wp2_with fail
        have m1 : (if wd < N then (wd : Int) else (N : Int)) = (k1 : Int) := by
          by_cases hh : wd < N
          · rw [if_pos hh]; omega
          · rw [if_neg hh]; omega
        have m2 : (if 2 * (wd : Int) < (N : Int) then 2 * (wd : Int) else (N : Int)) = (k2 : Int) := by
          by_cases hh : 2 * (wd : Int) < (N : Int)
          · rw [if_pos hh]; omega
          · rw [if_neg hh]; omega
        obtain ⟨q, hq1, hq2⟩ : ∃ q : Nat, (if (1 : Int) < (n : Int) then (1 : Int) else (n : Int)) = (q : Int) ∧ (q : Int) * (wd : Int) = (k1 : Int) := by
          rcases k3 with ⟨h0, h1⟩ | ⟨h0, h1⟩
          · exact ⟨0, by rw [h0]; rfl, by rw [h1]; simp⟩
          · exact ⟨1, by by_cases hh : (1 : Int) < (n : Int) <;> simp [hh] <;> omega, by rw [h1]; simp⟩
        have w1 : IntKind.i64.wrap (2 * (wd : Int)) = 2 * (wd : Int) := IntWalk.i64_in _ (by omega)
        have w2 : IntKind.i64.wrap ((q : Int) * (wd : Int)) = (k1 : Int) := by rw [hq2]; exact IntWalk.i64_in _ (by omega)
        have l1 : (x1.drop k1).length = N - k1 := by rw [List.length_drop, NX.out]
        have l2 : (x2.drop k2).length = N - k2 := by rw [List.length_drop, NY.out]
        have l3 : (row.take k1).length = k1 := by rw [List.length_take, ← HW.out]; omega
        have i1 : (0 : Int) ≤ (k1 : Int) := by omega
        have i2 : (0 : Int) ≤ (k2 : Int) := by omega
        have i3 : (k1 : Int) ≤ (N : Int) := by omega
        have i4 : (k2 : Int) ≤ (N : Int) := by omega
        have i5 : (k1 : Int) ≤ (c : Int) := by omega
        have C1 := Lib.hid ((containsZero_ok _ (c1 - k1) _ (x1.drop k1) _ _ (s1.drop (k := k1) (cap := c1) (by rw [NX.out]; exact hc1)).drew l1 (by omega) Z1.out).mono (R' := fun e w' => e = .returned (.bool false) ∧ w' = v2.drew) (fun _ _ hh => ⟨hh.1, hh.2.symm⟩))
        have C2 := Lib.hid ((containsZero_ok _ (c2 - k2) _ (x2.drop k2) _ _ (s2.drop (k := k2) (cap := c2) (by rw [NY.out]; exact hc2)).drew l2 (by omega) Z2.out).mono (R' := fun e w' => e = .returned (.bool false) ∧ w' = v2.drew) (fun _ _ hh => ⟨hh.1, hh.2.symm⟩))
        have C3 := Lib.hid ((weight_ok _ c1 _ x1 _ _ s1.drew NX.out hN1 t0 W1.out).mono (R' := fun e w' => e = .returned (.int .i64 t0) ∧ w' = v2.drew) (fun _ _ hh => ⟨hh.1, hh.2.symm⟩))
        have C4 := Lib.hid ((weight_ok _ c _ (row.take k1) _ _ (sr.take k1).drew l3 (by omega) t0 W2.out).mono (R' := fun e w' => e = .returned (.int .i64 t0) ∧ w' = v2.drew) (fun _ _ hh => ⟨hh.1, hh.2.symm⟩))
        clear l1 l2 l3 hq2 k3 hk1 hk2
        refine wp_region_still_tail 37 (by kernel_rfl) (by kernel_rfl) ?_
        simp only [List.take_succ_cons, List.take_zero, List.drop_succ_cons, List.drop_zero]
        repeat (first
          | still_step
          | (refine wpStill_step (fun K hK => ?_); go_simp; (with_reducible refine ⟨_, C1.out, ?_⟩); refine hK _ ?_; clear hK K)
          | (refine wpStill_step (fun K hK => ?_); go_simp; (with_reducible refine ⟨_, C2.out, ?_⟩); refine hK _ ?_; clear hK K)
          | (refine wpStill_step (fun K hK => ?_); go_simp; (with_reducible refine ⟨_, C3.out, ?_⟩); refine hK _ ?_; clear hK K)
          | (refine wpStill_step (fun K hK => ?_); go_simp; (with_reducible refine ⟨_, C4.out, ?_⟩); refine hK _ ?_; clear hK K))
        refine wpStill_nil ?_
        go_wp2_with (go_at_call 10; refine (awake_any _).mono ?_; rintro e w4 ⟨rfl, hb4⟩)
        all_goals go_ret
        all_goals exact ⟨rfl, g2.drew.trans (hb4.mono g2.size)⟩
end Go.Proofs.Ytmbngfhhegbomaa.D
