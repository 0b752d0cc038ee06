import Derived.Test.YtlbghmocbklmdaaLRollingPlaces
namespace Go.Proofs.Ytlbghmocbklmdaa.H
set_option linter.unusedVariables false
open Go Go.RowKit Go.Proofs.Ytlbghmocbklmdaa Go.Proofs.Ytlbghmocbklmdaa.W Go.Proofs.Ytlbghmocbklmdaa.M

theorem places_length_le (b : Bs) (k : Nat) (m : R) : (places b k m).length ≤ b.length + 1 - k := by
  have := plc_length m (prs b k)
  rw [prs_length] at this
  exact this
theorem places_all (b : Bs) (k : Nat) : (places b k 0#32).length = b.length + 1 - k := by
  unfold places plc
  rw [List.length_map, List.filter_eq_self.2 (by intro p _; simp), prs_length]
theorem pf_sorted (b : Bs) (k j : Nat) : ((pf b k j).map Prod.fst).Pairwise (· < ·) := by
  unfold pf
  rw [List.map_map]
  show (List.map (fun i => i) _).Pairwise _
  rw [List.map_id']
  exact List.pairwise_lt_range'
theorem places_sorted (b : Bs) (k : Nat) (m : R) : (places b k m).Pairwise (· < ·) := by
  unfold places plc
  exact ((pf_sorted b k 0).sublist (List.Sublist.map _ List.filter_sublist))
theorem places_thin {b : Bs} {k : Nat} {m m' : R} {i : Nat} (h : i ∈ places b k (m ||| m')) : i ∈ places b k m := by
  rw [mem_places] at h ⊢
  refine ⟨h.1, h.2.1, ?_⟩
  have h3 := h.2.2
  apply BitVec.eq_of_getLsbD_eq
  intro j hj
  have := congrArg (fun v : R => v.getLsbD j) h3
  simp only [BitVec.getLsbD_and, BitVec.getLsbD_or, BitVec.getLsbD_zero] at this ⊢
  cases h1 : (hsh (win b k i)).getLsbD j <;> cases h2 : m.getLsbD j <;> simp_all

set_option maxRecDepth 100000 in
set_option maxHeartbeats 4000000 in
theorem thins_walk (A : Option Addr) (c : Nat) (b : List UInt8) (u : UInt8) (x y : Nat) (w : World) (h : Sl u8 w w.heap.size A b) (hc : b.length ≤ c) (hm : c ≤ maxLen) (hx : x ≤ 4294967295) (hy : y ≤ 4294967295) :
    Calls Try.prog 6 #[.slice A b.length c, .int .u8 (u.toNat : Int), .agg #[.int .u32 (x : Int), .int .u32 (y : Int)]] w fun e w' => e = .returned (.bool true) ∧ Below w.heap.size w w' := by
  have hmx : b.length ≤ 9223372036854775807 := by unfold maxLen at hm; omega
  obtain ⟨m, rfl⟩ := u32_of x hx
  obtain ⟨m', rfl⟩ := u32_of y hy
  obtain ⟨n, hn⟩ : ∃ n, b.length = n := ⟨_, rfl⟩
  rw [hn] at hc hmx ⊢
  have HN := Lib.hid hn
  have hul := lt256 u
  have hu0 := ge0 u
  obtain ⟨k, hk⟩ : ∃ k : Nat, u.toNat % 20 + 1 = k := ⟨_, rfl⟩
  have hku : (u.toNat : Int) % 20 + 1 = (k : Int) := by omega
  have hk1 : 1 ≤ k := by omega
  have hk2 : k ≤ 64 := by omega
  have hB0 : Below w.heap.size w (w.alloc (.cells #[.int .u32 (m.toNat : Int), .int .u32 (m'.toNat : Int)] 48)) := (Below.refl _ _).alloc (Nat.le_refl _) _
  clear hm hn hx hy hk
  by_cases h5 : n > 100
  · go_enter Try.func6, Try.ntmps6
    go_wp2_with (go_at_call 10; refine (awake_any _).mono ?_; rintro e w1 ⟨rfl, hb1⟩)
    go_ret
    exact ⟨rfl, bal (Below.refl _ _) (Nat.le_refl _) hb1⟩
  · obtain ⟨L1, hL1⟩ : ∃ L, places b k m = L := ⟨_, rfl⟩
    obtain ⟨n1, hn1⟩ : ∃ n, L1.length = n := ⟨_, rfl⟩
    obtain ⟨L2, hL2⟩ : ∃ L, places b k (m ||| m') = L := ⟨_, rfl⟩
    obtain ⟨n2, hn2⟩ : ∃ n, L2.length = n := ⟨_, rfl⟩
    obtain ⟨L3, hL3⟩ : ∃ L, places b k 0#32 = L := ⟨_, rfl⟩
    obtain ⟨n3, hn3⟩ : ∃ n, L3.length = n := ⟨_, rfl⟩
    have hq1 : n1 ≤ 65536 := by have := places_length_le b k m; rw [hL1, hn1, HN.out] at this; omega
    have hq2 : n2 ≤ 65536 := by have := places_length_le b k (m ||| m'); rw [hL2, hn2, HN.out] at this; omega
    have hq3 : n3 = n + 1 - k := by have := places_all b k; rw [hL3, hn3, HN.out] at this; exact this
    have HS : Hid (L1.Pairwise (· < ·)) := Lib.hid (by rw [← hL1]; exact places_sorted b k m)
    have HM : Hid (∀ z ∈ L1, k ≤ z ∧ z ≤ n) := Lib.hid (by intro z hz; rw [← hL1, mem_places, HN.out] at hz; exact ⟨hz.1, hz.2.1⟩)
    have HT : Hid (∀ z ∈ L2, z ∈ L1) := Lib.hid (by intro z hz; rw [← hL2] at hz; rw [← hL1]; exact places_thin hz)
    have hor := bits_or m m'
    obtain ⟨m3, hm3⟩ : ∃ q, m ||| m' = q := ⟨_, rfl⟩
    rw [hm3] at hL2 hor
    have D1 : Hid (∀ W, Below w.heap.size w W → Calls Try.prog 22 #[.slice A n c, .int .i64 (k : Int), .int .u32 (m.toNat : Int)] W fun e w' => ∃ A' c', e = .returned (.tuple #[.slice A' n1 c', .int .i64 0]) ∧ Sl i64 w' w'.heap.size A' L1 ∧ n1 ≤ c' ∧ c' ≤ maxLen ∧ Below W.heap.size W w') := Lib.hid fun W hW => places_g HN.out (by omega) hk1 hk2 hL1 hn1 (h.later hW)
    have D2 : Hid (∀ W, Below w.heap.size w W → Calls Try.prog 22 #[.slice A n c, .int .i64 (k : Int), .int .u32 (m3.toNat : Int)] W fun e w' => ∃ A' c', e = .returned (.tuple #[.slice A' n2 c', .int .i64 0]) ∧ Sl i64 w' w'.heap.size A' L2 ∧ n2 ≤ c' ∧ c' ≤ maxLen ∧ Below W.heap.size W w') := Lib.hid fun W hW => places_g HN.out (by omega) hk1 hk2 hL2 hn2 (h.later hW)
    have D3 : Hid (∀ W, Below w.heap.size w W → Calls Try.prog 22 #[.slice A n c, .int .i64 (k : Int), .int .u32 0] W fun e w' => ∃ A' c', e = .returned (.tuple #[.slice A' n3 c', .int .i64 0]) ∧ Sl i64 w' w'.heap.size A' L3 ∧ n3 ≤ c' ∧ c' ≤ maxLen ∧ Below W.heap.size W w') := Lib.hid fun W hW => places_g (m := 0#32) HN.out (by omega) hk1 hk2 hL3 hn3 (h.later hW)
    have HN1 := Lib.hid hn1
    have HN2 := Lib.hid hn2
    have H3 := Lib.hid hq3
    have hbk : Blk (w.alloc (.cells #[.int .u32 (m.toNat : Int), .int .u32 (m'.toNat : Int)] 48)) w.heap.size 48 #[.int .u32 (m.toNat : Int), .int .u32 (m'.toNat : Int)] := Blk.new _ _ _
    clear hL1 hn1 hL2 hn2 hL3 hn3 hm3 hq3
    have hcase : ((n : Int) - (k : Int) + 1 = (n3 : Int) ∧ 0 < n3 ∧ (0 : Int) < (n3 : Int)) ∨ (n3 = 0 ∧ ∃ d : Int, (n : Int) - (k : Int) + 1 = d ∧ d ≤ 0 ∧ ¬ 0 < d) := by
      have := H3.out
      by_cases hkn : k ≤ n
      · exact .inl ⟨by omega, by omega, by omega⟩
      · exact .inr ⟨by omega, _, rfl, by omega, by omega⟩
    go_enter Try.func6, Try.ntmps6
    rcases hcase with ⟨hd1, hd2, hd3⟩ | ⟨rfl, d, hd1, hd2, hd3⟩
    all_goals
      go_wp2_with (first
        | (go_at_call 22; refine (D1.out _ hB0).mono ?_; clear D1; rintro e w1 ⟨A1, c1, rfl, t1, _, _, hb1⟩; have hB1 := bsa hB0 hB0.size hb1; have hbk1 := hbk.later hb1; have e10 := hbk1.cell 0; have e11 := hbk1.cell 1)
        | (go_at_call 22; refine (D2.out _ hB1).mono ?_; clear D2; rintro e w2 ⟨A2, c2, rfl, t2, _, _, hb2⟩; have hB2 := bsa hB1 hB1.size hb2; have t1 := t1.later hb2)
        | (go_at_call 22; refine (D3.out _ hB2).mono ?_; clear D3; rintro e w3 ⟨A3, c3, rfl, t3, _, _, hb3⟩; have hB3 := bsa hB2 hB2.size hb3; have t1 := t1.later hb3; have t2 := t2.later hb3))
      have hnk : decide ((100 : Int) < (n : Int)) = false := by simp; omega
      clear hbk hbk1 e10 e11 hb1 hb2 hb3 hB0 hB1 hB2 hor
      go_loop [14, 77] (fun lv iv => ∃ (i : Nat) (la : Int), i ≤ n1 ∧ iv = .int .i64 (i : Int) ∧ lv = .int .i64 la ∧ Hid (∀ z, L1[i]? = some z → la < (z : Int))) (fun _ iv => n1 - (intOf iv).toNat)
      case atStart => exact ⟨0, (k : Int) - 1, Nat.zero_le _, rfl, rfl, Lib.hid fun z hz => by have := (HM.out z (List.mem_of_getElem? hz)).1; omega⟩
      case round =>
        obtain ⟨i, la, hi, rfl, rfl, hla⟩ := hrel
        by_cases hlt : i < n1
        · obtain ⟨b0, q0, z, rfl, _, hz, hcz⟩ := t1.at_ (j := i) (by rw [HN1.out]; exact hlt)
          replace hcz : w3.cell? ⟨b0, q0 + i, none⟩ = some (.int .i64 (z : Int)) := hcz
          have hz1 : ¬ (z : Int) ≤ la := by have := hla.out z hz; omega
          have hz2 : ¬ (n : Int) < (z : Int) := by have := (HM.out z (List.mem_of_getElem? hz)).2; omega
          have HZ : Hid (∀ z', L1[i + 1]? = some z' → (z : Int) < (z' : Int)) := Lib.hid fun z' hz' => by
            have h1 := (List.getElem?_eq_some_iff.1 hz).1
            have h2 := (List.getElem?_eq_some_iff.1 hz').1
            have := List.pairwise_iff_getElem.1 HS.out i (i + 1) h1 h2 (by omega)
            rw [List.getElem?_eq_getElem h1] at hz
            rw [List.getElem?_eq_getElem h2] at hz'
            injection hz with hz
            injection hz' with hz'
            omega
          clear hz
          go_wp2
          go_round
          case rel => exact ⟨i + 1, (z : Int), by omega, by go_num, rfl, HZ⟩
          case measure => simp [intOf]; omega
        · obtain rfl : i = n1 := by omega
          clear hla
          go_wp2
          go_loop [94] (fun iv => ∃ j : Nat, j ≤ n2 ∧ iv = .int .i64 (j : Int)) (fun iv => n2 - (intOf iv).toNat)
          case atStart => exact ⟨0, Nat.zero_le _, rfl⟩
          case round =>
            obtain ⟨j, hj, rfl⟩ := hrel
            by_cases hlt2 : j < n2
            · obtain ⟨b0, q0, z, rfl, _, hz, hcz⟩ := t2.at_ (j := j) (by rw [HN2.out]; exact hlt2)
              replace hcz : w3.cell? ⟨b0, q0 + j, none⟩ = some (.int .i64 (z : Int)) := hcz
              have C := Lib.hid (containsI_ok A1 c1 i L1 z HN1.out hq1 true (by simp; exact HT.out z (List.mem_of_getElem? hz)) w3 _ t1)
              clear hz
              go_wp2_with (go_at_call 25; refine C.out.mono ?_; rintro e w4 ⟨rfl, rfl⟩)
              go_round
              case rel => exact ⟨j + 1, by omega, by go_num⟩
              case measure => simp [intOf]; omega
            · obtain rfl : j = n2 := by omega
              go_wp2_with (go_at_call 10; refine (awake_any _).mono ?_; rintro e w5 ⟨rfl, hb5⟩)
              go_ret
              exact ⟨rfl, bsa hB3 hB3.size hb5⟩
end Go.Proofs.Ytlbghmocbklmdaa.H
