import Derived.Test.YtcdaieoondmljaaLChunkerSplits
namespace Go.Proofs.Ytcdaieoondmljaa.H
set_option linter.unusedVariables false
open Go Go.RowKit Go.Proofs.Ytcdaieoondmljaa Go.Proofs.Ytcdaieoondmljaa.W Go.Proofs.Ytcdaieoondmljaa.M

theorem check_one (le us mo wi er : Int) (her : chkC le us mo wi = er) (A : Option Addr) (c N : Nat) (b : Bs) (hlb : b.length = N) (hlen : N ≤ 65536) : Hid (∀ (W : World) (g : Nat), g = W.heap.size → Calls Try.prog 29 #[.agg #[.int .i64 le, .int .i64 us, .int .i64 mo, .int .i64 wi], .slice (some ⟨g, 0, none⟩) 1 1] (W.alloc (.cells #[.slice A N c] 24)) fun e w' => e = .returned (.int .i64 er) ∧ Below (W.alloc (.cells #[.slice A N c] 24)).heap.size (W.alloc (.cells #[.slice A N c] 24)) w') := Lib.hid fun W g hg' => by
    have := check_ok le us mo wi g 1 [(A, c, b)] rfl (by decide) (by intro p hp; simp at hp; subst hp; show b.length ≤ _; omega) (W.alloc (.cells #[.slice A N c] 24)) _ (by subst hg'; rw [← hlb]; exact Sl.of_new rfl rfl)
    rw [her] at this; exact this
set_option maxRecDepth 100000 in
set_option maxHeartbeats 1000000 in
theorem Next_bad (le us mo wi er : Int) (her : chkC le us mo wi = er) (h0 : er ≠ 0) (A : Option Addr) (c N : Nat) (b : Bs) (hlb : b.length = N) (hlen : N ≤ 65536) (a : Int) (w : World) :
    Calls Try.prog 18 #[.agg #[.int .i64 le, .int .i64 us, .int .i64 mo, .int .i64 wi], .slice A N c, .int .i64 a] w (NextAt 0 er w) := by
  have hB0 : Below w.heap.size w (w.alloc (.cells #[.int .i64 le, .int .i64 us, .int .i64 mo, .int .i64 wi] 23)) := (Below.refl _ _).alloc (Nat.le_refl _) _
  have C1 := check_one le us mo wi er her A c N b hlb hlen
  have h0' : (er == 0) = false := by rw [beq_eq_false_iff_ne]; exact h0
  clear her hlb
  go_enter Try.func18, Try.ntmps18
  go_wp2_with (go_at_call 29; refine (C1.out _ _ (by simp)).mono ?_; rintro e w1 ⟨rfl, hb1⟩; have hB1 := bal hB0 hB0.size hb1)
  go_ret2
  exact ⟨rfl, hB1⟩
set_option maxRecDepth 100000 in
set_option maxHeartbeats 1000000 in
theorem rNext_bad (le us mo wi er : Int) (her : chkC le us mo wi = er) (h0 : er ≠ 0) (A : Option Addr) (c N : Nat) (a : Int) (w : World) :
    Calls Try.prog 19 #[.agg #[.int .i64 le, .int .i64 us, .int .i64 mo, .int .i64 wi], .slice A N c, .int .i64 a] w (NextAt 0 er w) := by
  have hB0 : Below w.heap.size w (w.alloc (.cells #[.int .i64 le, .int .i64 us, .int .i64 mo, .int .i64 wi] 23)) := (Below.refl _ _).alloc (Nat.le_refl _) _
  have C1 : Hid (∀ W, Calls Try.prog 20 #[.agg #[.int .i64 le, .int .i64 us, .int .i64 mo, .int .i64 wi]] W fun e w' => e = .returned (.int .i64 er) ∧ Below W.heap.size W w') := Lib.hid fun W => by have := rCheck_ok le us mo wi W; rw [her] at this; exact this
  have h0' : (er == 0) = false := by rw [beq_eq_false_iff_ne]; exact h0
  clear her
  go_enter Try.func19, Try.ntmps19
  go_wp2_with (go_at_call 20; refine (C1.out _).mono ?_; rintro e w1 ⟨rfl, hb1⟩; have hB1 := bsa hB0 hB0.size hb1)
  go_ret2
  exact ⟨rfl, hB1⟩
set_option maxRecDepth 100000 in
set_option maxHeartbeats 1000000 in
theorem Next_off (le us mo wi : Int) (her : chkC le us mo wi = 0) (A : Option Addr) (c N : Nat) (b : Bs) (hlb : b.length = N) (hlen : N ≤ 65536) (a : Int) (ha : a < 0 ∨ (N : Int) ≤ a) (w : World) :
    Calls Try.prog 18 #[.agg #[.int .i64 le, .int .i64 us, .int .i64 mo, .int .i64 wi], .slice A N c, .int .i64 a] w (NextAt 0 2 w) := by
  have hB0 : Below w.heap.size w (w.alloc (.cells #[.int .i64 le, .int .i64 us, .int .i64 mo, .int .i64 wi] 23)) := (Below.refl _ _).alloc (Nat.le_refl _) _
  have C1 := check_one le us mo wi 0 her A c N b hlb hlen
  have hd : a < 0 ∨ (¬ a < 0 ∧ (N : Int) ≤ a) := by omega
  clear her hlb ha
  rcases hd with g1 | ⟨g1, g2⟩
  all_goals
    go_enter Try.func18, Try.ntmps18
    go_wp2_with (go_at_call 29; refine (C1.out _ _ (by simp)).mono ?_; rintro e w1 ⟨rfl, hb1⟩; have hB1 := bal hB0 hB0.size hb1)
    go_ret2
    exact ⟨rfl, hB1⟩
set_option maxRecDepth 100000 in
set_option maxHeartbeats 1000000 in
theorem rNext_off (le us mo wi : Int) (her : chkC le us mo wi = 0) (A : Option Addr) (c N : Nat) (hlen : N ≤ 65536) (a : Int) (ha : a < 0 ∨ (N : Int) ≤ a) (w : World) :
    Calls Try.prog 19 #[.agg #[.int .i64 le, .int .i64 us, .int .i64 mo, .int .i64 wi], .slice A N c, .int .i64 a] w (NextAt 0 2 w) := by
  have hB0 : Below w.heap.size w (w.alloc (.cells #[.int .i64 le, .int .i64 us, .int .i64 mo, .int .i64 wi] 23)) := (Below.refl _ _).alloc (Nat.le_refl _) _
  have C1 : Hid (∀ W, Calls Try.prog 20 #[.agg #[.int .i64 le, .int .i64 us, .int .i64 mo, .int .i64 wi]] W fun e w' => e = .returned (.int .i64 0) ∧ Below W.heap.size W w') := Lib.hid fun W => by have := rCheck_ok le us mo wi W; rw [her] at this; exact this
  have hd : a < 0 ∨ (¬ a < 0 ∧ (N : Int) ≤ a) := by omega
  have hN6 : decide ((65536 : Int) < (N : Int)) = false := by simp; omega
  clear her ha
  rcases hd with g1 | ⟨g1, g2⟩
  all_goals
    go_enter Try.func19, Try.ntmps19
    go_wp2_with (go_at_call 20; refine (C1.out _).mono ?_; rintro e w1 ⟨rfl, hb1⟩; have hB1 := bsa hB0 hB0.size hb1)
    go_ret2
    exact ⟨rfl, hB1⟩
set_option maxRecDepth 100000 in
set_option maxHeartbeats 2000000 in
theorem Next_ok {le us mo wi : Nat} (hg : Fine le us mo wi) (hchk : chkC le us mo wi = 0) (A : Option Addr) (c N a : Nat) (b : Bs) (hlb : b.length = N) (hlen : N ≤ 65536) (ha : a < N) (r : Nat) (hr : nxt (places b wi (msk us)) le mo N a = r) (w : World) (B : Nat) (h : Sl u8 w B A b) :
    Calls Try.prog 18 #[.agg #[.int .i64 (le : Int), .int .i64 (us : Int), .int .i64 (mo : Int), .int .i64 (wi : Int)], .slice A N c, .int .i64 (a : Int)] w (NextAt (r : Int) 0 w) := by
  have hS := h.lt
  have hB0 : Below w.heap.size w (w.alloc (.cells #[.int .i64 (le : Int), .int .i64 (us : Int), .int .i64 (mo : Int), .int .i64 (wi : Int)] 23)) := (Below.refl _ _).alloc (Nat.le_refl _) _
  have hk0 : Blk (w.alloc (.cells #[.int .i64 (le : Int), .int .i64 (us : Int), .int .i64 (mo : Int), .int .i64 (wi : Int)] 23)) w.heap.size 23 #[.int .i64 (le : Int), .int .i64 (us : Int), .int .i64 (mo : Int), .int .i64 (wi : Int)] := Blk.new _ _ _
  have C1 := check_one le us mo wi 0 hchk A c N b hlb hlen
  obtain ⟨P, hP⟩ : ∃ P, places b wi (msk us) = P := ⟨_, rfl⟩
  obtain ⟨m, hm⟩ : ∃ m, P.length = m := ⟨_, rfl⟩
  have hPl : P.length ≤ N + 1 := by
    have h1 := plc_length (msk us) (prs b wi)
    have h2 := prs_length b wi
    rw [← hP]; unfold places; omega
  have hm6 : m ≤ 65537 := by omega
  have HS : Hid (P.Pairwise (· < ·)) := Lib.hid (by rw [← hP]; exact places_sorted' b wi _)
  have HX : Hid (∀ x ∈ P, x ≤ 65536) := Lib.hid (by intro x hx; rw [← hP, mem_places] at hx; omega)
  rw [hP] at hr
  have C2 : Hid (∀ W, Below w.heap.size w W → Calls Try.prog 30 #[.agg #[.int .i64 (le : Int), .int .i64 (us : Int), .int .i64 (mo : Int), .int .i64 (wi : Int)], .slice A N c] W fun e w' => ∃ A' c', e = .returned (.tuple #[.slice A' m c', .int .i64 0]) ∧ Sl i64 w' w'.heap.size A' P ∧ m ≤ c' ∧ c' ≤ maxLen ∧ Below W.heap.size W w') := Lib.hid fun W hW => cuts_ok hg A c N b hlb hlen P m hP hm W _ (hS.later hW)
  have C3 : Hid (∀ (W : World) A' c', Sl i64 W W.heap.size A' P → Calls Try.prog 32 #[.agg #[.int .i64 (le : Int), .int .i64 (us : Int), .int .i64 (mo : Int), .int .i64 (wi : Int)], .int .i64 (N : Int), .int .i64 (a : Int), .slice A' m c'] W fun e w' => e = .returned (.int .i64 (r : Int)) ∧ Below W.heap.size W w') := Lib.hid fun W A' c' hW => end_ok hg N a hlen ha A' c' m P hm hm6 HS.out HX.out r hr W _ hW
  have ha1 : ¬ (a : Int) < 0 := by omega
  have ha2 : ¬ (N : Int) ≤ (a : Int) := by omega
  clear hchk hlb hP hm hr hg h hPl
  go_enter Try.func18, Try.ntmps18
  go_wp2_with (first
    | (go_at_call 29; refine (C1.out _ _ (by simp)).mono ?_; rintro e w1 ⟨rfl, hb1⟩; have hB1 := bal hB0 hB0.size hb1; have hk1 := (hk0.alloc _).later hb1; have c0 := hk1.cell 0; have c1 := hk1.cell 1; have c2 := hk1.cell 2; have c3 := hk1.cell 3)
    | (go_at_call 30; refine (C2.out _ hB1).mono ?_; rintro e w2 ⟨A2, c2', rfl, t2, _, _, hb2⟩; have hB2 := bsa hB1 hB1.size hb2; have hk2 := hk1.later hb2; have e0 := hk2.cell 0; have e1 := hk2.cell 1; have e2 := hk2.cell 2; have e3 := hk2.cell 3)
    | (go_at_call 32; refine (C3.out _ _ _ t2).mono ?_; rintro e w3 ⟨rfl, hb3⟩; have hB3 := bsa hB2 hB2.size hb3))
  go_ret2
  exact ⟨rfl, hB3⟩
theorem next_both (le us mo wi a : Int) (A : Option Addr) (c N : Nat) (b : Bs) (hlb : b.length = N) (hc : N ≤ c) (hlen : N ≤ 65536) : ∃ r er : Int, ∀ W, Sl u8 W W.heap.size A b →
    Calls Try.prog 18 #[.agg #[.int .i64 le, .int .i64 us, .int .i64 mo, .int .i64 wi], .slice A N c, .int .i64 a] W (NextAt r er W) ∧ Calls Try.prog 19 #[.agg #[.int .i64 le, .int .i64 us, .int .i64 mo, .int .i64 wi], .slice A N c, .int .i64 a] W (NextAt r er W) := by
  by_cases h0 : chkC le us mo wi = 0
  · by_cases ha : a < 0 ∨ (N : Int) ≤ a
    · exact ⟨0, 2, fun W hW => ⟨Next_off le us mo wi h0 A c N b hlb hlen a ha W, rNext_off le us mo wi h0 A c N hlen a ha W⟩⟩
    · obtain ⟨k, rfl⟩ := Int.eq_ofNat_of_zero_le (show 0 ≤ a by omega)
      obtain ⟨le', us', mo', wi', rfl, rfl, rfl, rfl, hg⟩ := chk_nat h0
      exact ⟨_, 0, fun W hW => ⟨Next_ok hg h0 A c N k b hlb hlen (by omega) _ rfl W _ hW, rNext_ok hg h0 A c N k b hlb hc hlen (by omega) _ rfl W _ hW⟩⟩
  · exact ⟨0, _, fun W hW => ⟨Next_bad le us mo wi _ rfl h0 A c N b hlb hlen a W, rNext_bad le us mo wi _ rfl h0 A c N a W⟩⟩

set_option maxRecDepth 100000 in
set_option maxHeartbeats 2000000 in
theorem next_walk (le us mo wi : Int) (A : Option Addr) (c : Nat) (b : List UInt8) (a : Int) (w : World) (_h1 : -9223372036854775808 ≤ le) (_h2 : le ≤ 9223372036854775807) (_h3 : -9223372036854775808 ≤ us) (_h4 : us ≤ 9223372036854775807) (_h5 : -9223372036854775808 ≤ mo) (_h6 : mo ≤ 9223372036854775807) (_h7 : -9223372036854775808 ≤ wi) (_h8 : wi ≤ 9223372036854775807)
    (h : Sl u8 w w.heap.size A b) (hc : b.length ≤ c) (hm : c ≤ maxLen) (_g1 : -9223372036854775808 ≤ a) (_g2 : a ≤ 9223372036854775807) :
    Calls Try.prog 6 #[.agg #[.int .i64 le, .int .i64 us, .int .i64 mo, .int .i64 wi], .slice A b.length c, .int .i64 a] w fun e w' => e = .returned (.bool true) ∧ Below w.heap.size w w' := by
  have hmx : b.length ≤ 9223372036854775807 := by unfold maxLen at hm; omega
  obtain ⟨N, hn⟩ : ∃ n, b.length = n := ⟨_, rfl⟩
  rw [hn] at hc hmx ⊢
  have hB0 : Below w.heap.size w (w.alloc (.cells #[.int .i64 le, .int .i64 us, .int .i64 mo, .int .i64 wi] 23)) := (Below.refl _ _).alloc (Nat.le_refl _) _
  have hk0 : Blk (w.alloc (.cells #[.int .i64 le, .int .i64 us, .int .i64 mo, .int .i64 wi] 23)) w.heap.size 23 #[.int .i64 le, .int .i64 us, .int .i64 mo, .int .i64 wi] := Blk.new _ _ _
  by_cases h5 : N > 300
  · clear hm hn _h1 _h2 _h3 _h4 _h5 _h6 _h7 _h8 _g1 _g2
    go_enter Try.func6, Try.ntmps6
    go_wp2_with (go_at_call 11; refine (awake_any _).mono ?_; rintro e w1 ⟨rfl, hb1⟩)
    go_ret
    exact ⟨rfl, bsa hB0 hB0.size hb1⟩
  · obtain ⟨r, er, hsp⟩ := next_both le us mo wi a A c N b hn hc (by omega)
    have D1 : Hid (∀ W, Below w.heap.size w W → Calls Try.prog 18 #[.agg #[.int .i64 le, .int .i64 us, .int .i64 mo, .int .i64 wi], .slice A N c, .int .i64 a] W (NextAt r er W)) := Lib.hid fun W hW => (hsp W (h.later hW)).1
    have D2 : Hid (∀ W, Below w.heap.size w W → Calls Try.prog 19 #[.agg #[.int .i64 le, .int .i64 us, .int .i64 mo, .int .i64 wi], .slice A N c, .int .i64 a] W (NextAt r er W)) := Lib.hid fun W hW => (hsp W (h.later hW)).2
    obtain ⟨ck, hck⟩ : ∃ ck, chkC le us mo wi = ck := ⟨_, rfl⟩
    have E1 : Hid (∀ W, Calls Try.prog 15 #[.agg #[.int .i64 le, .int .i64 us, .int .i64 mo, .int .i64 wi]] W fun e w' => e = .returned (.int .i64 ck) ∧ Below W.heap.size W w') := Lib.hid fun W => by rw [← hck]; exact Check_ok le us mo wi W
    have E2 : Hid (∀ W, Calls Try.prog 20 #[.agg #[.int .i64 le, .int .i64 us, .int .i64 mo, .int .i64 wi]] W fun e w' => e = .returned (.int .i64 ck) ∧ Below W.heap.size W w') := Lib.hid fun W => by rw [← hck]; exact rCheck_ok le us mo wi W
    clear hm hn _h1 _h2 _h3 _h4 _h5 _h6 _h7 _h8 _g1 _g2 hsp hck
    go_enter Try.func6, Try.ntmps6
    go_wp2_with (first
      | (go_at_call 18; refine (D1.out _ hB0).mono ?_; clear D1; rintro e w1 ⟨rfl, hb1⟩; have hB1 := bsa hB0 hB0.size hb1; have hk1 := hk0.later hb1; have d0 := hk1.cell 0; have d1 := hk1.cell 1; have d2 := hk1.cell 2; have d3 := hk1.cell 3)
      | (go_at_call 19; refine (D2.out _ hB1).mono ?_; clear D2; rintro e w2 ⟨rfl, hb2⟩; have hB2 := bsa hB1 hB1.size hb2; have hk2 := hk1.later hb2))
    have hH : Below w2.heap.size w2 w2.drew := (Below.refl _ _).drew
    have KEEP : Hid (∀ W, Below w2.heap.size w2 W → (W.cell? ⟨w.heap.size, 0, none⟩ = some (.int .i64 le) ∧ W.cell? ⟨w.heap.size, 1, none⟩ = some (.int .i64 us) ∧ W.cell? ⟨w.heap.size, 2, none⟩ = some (.int .i64 mo) ∧ W.cell? ⟨w.heap.size, 3, none⟩ = some (.int .i64 wi))) := Lib.hid fun W hW => ⟨(hk2.later hW).cell 0, (hk2.later hW).cell 1, (hk2.later hW).cell 2, (hk2.later hW).cell 3⟩
    go_region_held3 (fun W => W.cell? ⟨w.heap.size, 0, none⟩ = some (.int .i64 le) ∧ W.cell? ⟨w.heap.size, 1, none⟩ = some (.int .i64 us) ∧ W.cell? ⟨w.heap.size, 2, none⟩ = some (.int .i64 mo) ∧ W.cell? ⟨w.heap.size, 3, none⟩ = some (.int .i64 wi)) ((exact KEEP.out _ hH))
      (first
      | (go_at_call 15; refine (E1.out _).mono ?_; rintro e w6 ⟨rfl, hb6⟩; have hH := bsa hH hH.size hb6)
      | (go_at_call 20; refine (E2.out _).mono ?_; rintro e w7 ⟨rfl, hb7⟩; have hH := bsa hH hH.size hb7)
      | (go_at_call 11; refine (awake_any _).mono ?_; rintro e w9 ⟨rfl, hb9⟩; have hH := bsa hH hH.size hb9))
    all_goals go_wp2
    all_goals go_ret
    all_goals exact ⟨rfl, bsa hB2 hB2.size hH⟩
end Go.Proofs.Ytcdaieoondmljaa.H
