/- parity.Recovery: as many parts as asked for, as long as the data parts (which bytes does not matter here). -/
import Derived.Test.YtjpbeoiiplapaaaW4
namespace Go.Proofs.Ytjpbeoiiplapaaa.C
set_option linter.unusedVariables false
set_option linter.unusedSimpArgs false
open Go Go.RowKit Go.Shelf Go.Proofs.Ytjpbeoiiplapaaa Go.Proofs.Ytjpbeoiiplapaaa.W Go.Proofs.Ytjpbeoiiplapaaa.M Go.Proofs.Ytjpbeoiiplapaaa.B

/-- The cells of a list of parts of n bytes. -/
theorem parts_at {w : World} {B n : Nat} {A : Option Addr} {ps : List Part} (h : Sl pv w B A ps) (hA : Are w n ps) {k : Nat} (hk : k < ps.length) : ∃ b o p, A = some ⟨b, o, none⟩ ∧ b < B ∧ ps[k]? = some p ∧ TS w p.1 p.2.2 ∧ p.2.2.length = n ∧ n ≤ p.2.1 ∧ p.2.1 ≤ maxLen ∧ w.cell? ⟨b, o + k, none⟩ = some (.slice p.1 n p.2.1) := by
  obtain ⟨b, o, p, e, hlt, hp, hc⟩ := h.at_ hk
  obtain ⟨h1, h2, h3, h4⟩ := hA p (List.mem_of_getElem? hp)
  exact ⟨b, o, p, e, hlt, hp, h1, h2, h3, h4, by rw [hc]; unfold pv; rw [h2]⟩
theorem bsa' {w W W' : World} (h : Below w.heap.size w W) (hb : Below W.heap.size W W') : Below w.heap.size w W' := h.trans (hb.mono h.size)
theorem long_ok (A : Option Addr) (n c : Nat) (hn : n ≤ 65536) (w : World) : Calls Try.prog 19 #[.slice A n c] w fun e w' => e = .returned (.bool false) ∧ w' = w := by
  have h : ¬ (65536 : Int) < (n : Int) := by omega
  go_enter Try.func19, Try.ntmps19
  go_wp2
  go_ret
  exact ⟨by first | rfl | (simp <;> omega), rfl⟩
theorem alike_ok (g : Nat) (A : Option Addr) (d c s : Nat) (ps : List Part) (hps : ps.length = d) (hd : 1 ≤ d) (hs : 1 ≤ s) (A' : Option Addr) (c' : Nat) (w : World) (hg : Blk w g 29 #[.slice A d c]) (hS : Sl pv w w.heap.size A ps) (hA : Are w s ps) :
    Calls Try.prog 20 #[.slice A' s c', .pointer (some ⟨g, 0, none⟩)] w fun e w' => e = .returned (.bool false) ∧ w' = w := by
  obtain ⟨b, o, p, rfl, _, _, _, _, _, _, hc⟩ := parts_at hS hA (k := 0) (by omega)
  rw [Nat.add_zero] at hc
  have hg0 := hg.cell 0
  have h0 : ((s : Int) == 0) = false := by rw [beq_eq_false_iff_ne]; omega
  have h1 : ((s : Int) != (s : Int)) = false := by simp
  clear hg hS hA hps
  go_enter Try.func20, Try.ntmps20
  go_wp2
  go_ret
  exact ⟨rfl, rfl⟩
set_option maxRecDepth 100000 in
set_option maxHeartbeats 1000000 in
theorem indexL_no (A : Option Addr) (d c s : Nat) (ps : List Part) (hps : ps.length = d) (hd6 : d ≤ 64) (hd : 1 ≤ d) (hs : 1 ≤ s) (hs6 : s ≤ 65536) (w : World) (hS : Sl pv w w.heap.size A ps) (hA : Are w s ps) :
    Calls Try.prog 29 #[.slice A d c, .func (.func 19) #[] #[]] w fun e w' => e = .returned (.int .i64 (-1)) ∧ w' = w := by
  have CB : Hid (∀ (A' : Option Addr) (c' : Nat), Calls Try.prog 19 #[.slice A' s c'] w fun e w' => e = .returned (.bool false) ∧ w' = w) := Lib.hid fun A' c' => long_ok A' s c' hs6 w
  have HPS := Lib.hid hps
  have HA := Lib.hid hA
  clear hps hA
  go_enter Try.func29, Try.ntmps29
  go_wp2
  go_loop [8] (fun iv => ∃ i : Nat, i ≤ d ∧ iv = .int .i64 (i : Int)) (fun iv => d - (intOf iv).toNat)
  case atStart => exact ⟨0, Nat.zero_le _, rfl⟩
  case round =>
    obtain ⟨i, hi, rfl⟩ := hrel
    by_cases hlt : i < d
    · obtain ⟨b, o, ⟨Ai, ci, li⟩, rfl, _, _, _, _, _, _, hc⟩ := parts_at hS HA.out (k := i) (by rw [HPS.out]; exact hlt)
      replace hc : w.cell? ⟨b, o + i, none⟩ = some (.slice Ai s ci) := hc
      go_wp2_with (go_at_call 19; refine (CB.out _ _).mono ?_; rintro e w1 ⟨rfl, rfl⟩)
      go_round
      case rel => exact ⟨i + 1, by omega, by go_num⟩
      case measure => simp [intOf]; omega
    · obtain rfl : i = d := by omega
      go_wp2
      go_ret
      exact ⟨rfl, rfl⟩
theorem containsL_no (A : Option Addr) (d c s : Nat) (ps : List Part) (hps : ps.length = d) (hd6 : d ≤ 64) (hd : 1 ≤ d) (hs : 1 ≤ s) (hs6 : s ≤ 65536) (w : World) (hS : Sl pv w w.heap.size A ps) (hA : Are w s ps) :
    Calls Try.prog 18 #[.slice A d c, .func (.func 19) #[] #[]] w fun e w' => e = .returned (.bool false) ∧ w' = w := by
  have C := Lib.hid (indexL_no A d c s ps hps hd6 hd hs hs6 w hS hA)
  clear hps hS hA
  go_enter Try.func18, Try.ntmps18
  go_wp2_with (go_at_call 29; refine C.out.mono ?_; rintro e w1 ⟨rfl, rfl⟩)
  go_ret
  exact ⟨rfl, rfl⟩
set_option maxRecDepth 100000 in
set_option maxHeartbeats 1000000 in
theorem indexR_no (g : Nat) (A : Option Addr) (d c s : Nat) (ps : List Part) (hps : ps.length = d) (hd6 : d ≤ 64) (hd : 1 ≤ d) (hs : 1 ≤ s) (hs6 : s ≤ 65536) (w : World) (hg : Blk w g 29 #[.slice A d c]) (hS : Sl pv w w.heap.size A ps) (hA : Are w s ps) :
    Calls Try.prog 29 #[.slice A d c, .func (.func 20) #[] #[.pointer (some ⟨g, 0, none⟩)]] w fun e w' => e = .returned (.int .i64 (-1)) ∧ w' = w := by
  have CB : Hid (∀ (A' : Option Addr) (c' : Nat), Calls Try.prog 20 #[.slice A' s c', .pointer (some ⟨g, 0, none⟩)] w fun e w' => e = .returned (.bool false) ∧ w' = w) := Lib.hid fun A' c' => alike_ok g A d c s ps hps hd hs A' c' w hg hS hA
  have HPS := Lib.hid hps
  have HA := Lib.hid hA
  clear hps hA
  go_enter Try.func29, Try.ntmps29
  go_wp2
  go_loop [8] (fun iv => ∃ i : Nat, i ≤ d ∧ iv = .int .i64 (i : Int)) (fun iv => d - (intOf iv).toNat)
  case atStart => exact ⟨0, Nat.zero_le _, rfl⟩
  case round =>
    obtain ⟨i, hi, rfl⟩ := hrel
    by_cases hlt : i < d
    · obtain ⟨b, o, ⟨Ai, ci, li⟩, rfl, _, _, _, _, _, _, hc⟩ := parts_at hS HA.out (k := i) (by rw [HPS.out]; exact hlt)
      replace hc : w.cell? ⟨b, o + i, none⟩ = some (.slice Ai s ci) := hc
      go_wp2_with (go_at_call 20; refine (CB.out _ _).mono ?_; rintro e w1 ⟨rfl, rfl⟩)
      go_round
      case rel => exact ⟨i + 1, by omega, by go_num⟩
      case measure => simp [intOf]; omega
    · obtain rfl : i = d := by omega
      go_wp2
      go_ret
      exact ⟨rfl, rfl⟩
theorem containsR_no (g : Nat) (A : Option Addr) (d c s : Nat) (ps : List Part) (hps : ps.length = d) (hd6 : d ≤ 64) (hd : 1 ≤ d) (hs : 1 ≤ s) (hs6 : s ≤ 65536) (w : World) (hg : Blk w g 29 #[.slice A d c]) (hS : Sl pv w w.heap.size A ps) (hA : Are w s ps) :
    Calls Try.prog 18 #[.slice A d c, .func (.func 20) #[] #[.pointer (some ⟨g, 0, none⟩)]] w fun e w' => e = .returned (.bool false) ∧ w' = w := by
  have C := Lib.hid (indexR_no g A d c s ps hps hd6 hd hs hs6 w hg hS hA)
  clear hps hS hA
  go_enter Try.func18, Try.ntmps18
  go_wp2_with (go_at_call 29; refine C.out.mono ?_; rintro e w1 ⟨rfl, rfl⟩)
  go_ret
  exact ⟨rfl, rfl⟩
theorem combiner_ok (v : Value) (A : Option Addr) (d c : Nat) (w : World) : Calls Try.prog 21 #[.slice A d c] w fun e w' => e = .returned (.func (.func 30) #[] #[.pointer (some ⟨w.heap.size, 0, none⟩)]) ∧ w' = w.alloc (.cells #[.slice A d c] 29) := by
  go_enter Try.func21, Try.ntmps21
  go_wp2
  go_ret
  exact ⟨rfl, rfl⟩
/-- The rows of the matrix behind the first ones. -/
theorem rows_ok (d r m : Nat) (hm : d + r = m) (hd : 1 ≤ d) (hd6 : d ≤ 30) (hr6 : r ≤ 30) (w : World) :
    Calls Try.prog 22 #[.int .i64 (d : Int), .int .i64 (r : Int)] w fun e w' => ∃ (b o c : Nat) (AR : Option Addr) (qs : List Part), e = .returned (.slice (some ⟨b, o, none⟩) m c) ∧ m ≤ c ∧ (if c = d then some ⟨b, o, none⟩ else some ⟨b, o + d, none⟩) = AR ∧ qs.length = r ∧ Sl pv w' w'.heap.size AR qs ∧ Are w' d qs ∧ Below w.heap.size w w' := by
  refine (matrix_ok d r hd hd6 hr6 w).mono ?_
  rintro e w' ⟨A, c, ps, rfl, hps, hnc, ho, hA, hb⟩
  have hS : Sl pv w' w'.heap.size A ps := Sl.of_own ho
  obtain ⟨b, o, rfl, _⟩ := hS.open_ (by omega)
  have hd' := hS.drop (k := d) (cap := c) (by omega)
  rw [Option.map_some, show (⟨b, o, none⟩ : Addr).add d = ⟨b, o + d, none⟩ by unfold Addr.add; by_cases hk : d = 0 <;> simp [hk]] at hd'
  subst hm
  exact ⟨b, o, c, _, ps.drop d, rfl, hnc, rfl, by rw [List.length_drop]; omega, hd', fun q hq => hA q (List.mem_of_mem_drop hq), hb⟩
set_option maxRecDepth 100000 in
set_option maxHeartbeats 2000000 in
theorem recovery_ok (A : Option Addr) (d c s r : Nat) (ps : List Part) (hps : ps.length = d) (hd : 1 ≤ d) (hd6 : d ≤ 30) (hr6 : r ≤ 30) (hs : 1 ≤ s) (hs6 : s ≤ 65536) (w : World) (hS : Sl pv w w.heap.size A ps) (hA : Are w s ps) :
    Calls Try.prog 13 #[.slice A d c, .int .i64 (r : Int)] w fun e w' => ∃ (A2 : Option Addr) (c2 : Nat) (qs : List Part), e = .returned (.tuple #[.slice A2 r c2, .int .i64 0]) ∧ qs.length = r ∧ Sl pv w' w'.heap.size A2 qs ∧ Are w' s qs ∧ Below w.heap.size w w' := by
  obtain ⟨j0, hj, hy0, hy1, hy2⟩ := info_parts infoR
  have hB0 : Below w.heap.size w (w.alloc (.cells #[.slice A d c] 29)) := (Below.refl _ _).alloc (Nat.le_refl _) _
  have hg0 : Blk (w.alloc (.cells #[.slice A d c] 29)) w.heap.size 29 #[.slice A d c] := Blk.new _ _ _
  have hg0c := hg0.cell 0
  have hS0 := hS.later hB0
  have hA0 := hA.later hB0
  have C1 := Lib.hid (containsL_no A d c s ps hps (by omega) hd hs hs6 _ hS0 hA0)
  have C2 := Lib.hid (containsR_no w.heap.size A d c s ps hps (by omega) hd hs hs6 _ hg0 hS0 hA0)
  have h1 : decide ((d : Int) < 1) = false := decide_eq_false (by omega)
  have h2 : decide ((64 : Int) < (d : Int)) = false := decide_eq_false (by omega)
  have h3 : decide ((r : Int) < 0) = false := decide_eq_false (by omega)
  have h4 : decide (64 - (d : Int) < (r : Int)) = false := decide_eq_false (by omega)
  have hdw : IntKind.i64.wrap (64 - (d : Int)) = 64 - (d : Int) := by rw [IntKind.wrap_i64]; omega
  obtain ⟨m, hm⟩ : ∃ m, d + r = m := ⟨_, rfl⟩
  have M1 := Lib.hid (fun W => rows_ok d r m hm hd hd6 hr6 W)
  have hmd : m - d = r := by omega
  have hdm : (d : Int) ≤ (m : Int) := by omega
  have hd0 : (0 : Int) ≤ (d : Int) := by omega
  have HPS := Lib.hid hps
  clear hS hA hps hm
  go_enter Try.func13, Try.ntmps13
  go_wp2_with (first
    | (go_at_call 18; refine C1.out.mono ?_; clear C1; rintro e w1 ⟨rfl, rfl⟩)
    | (go_at_call 18; refine C2.out.mono ?_; clear C2; rintro e w1 ⟨rfl, rfl⟩)
    | (go_at_call 21; refine (combiner_ok .nilFunc A d c _).mono ?_; rintro e w1 ⟨rfl, rfl⟩))
  have hB1 := hB0.alloc hB0.size (.cells #[.slice A d c] 29)
  have hg1 := hg0.alloc (.cells #[.slice A d c] 29)
  have hk1 : Blk ((w.alloc (.cells #[.slice A d c] 29)).alloc (.cells #[.slice A d c] 29)) (w.heap.size + 1) 29 #[.slice A d c] := Blk.new' (by simp) _ _
  have hS1 := hS0.later ((Below.refl _ _).alloc (Nat.le_refl _) (.cells #[.slice A d c] 29))
  have hA1 := hA0.alloc (.cells #[.slice A d c] 29)
  obtain ⟨w1, hw1⟩ : ∃ w1, (w.alloc (.cells #[.slice A d c] 29)).alloc (.cells #[.slice A d c] 29) = w1 := ⟨_, rfl⟩
  rw [hw1] at hB1 hg1 hk1 hS1 hA1
  rw [hw1]
  clear hw1 hB0 hg0 hg0c hS0 hA0 h1 h2 h3 h4 hdw
  have hH : Below w1.heap.size w1 w1.drew := (Below.refl _ _).drew
  have KEEP : Hid (∀ W, Below w1.heap.size w1 W → W.cell? ⟨w.heap.size, 0, none⟩ = some (.slice A d c)) := Lib.hid fun W hW => (hg1.later hW).cell 0
  go_region_held3 (fun W => W.cell? ⟨w.heap.size, 0, none⟩ = some (.slice A d c)) (exact KEEP.out _ hH)
    (first | (go_at_call 22; refine (M1.out _).mono ?_; rintro e w2 ⟨b2, o2, c2, AR, qs, rfl, hmc, hAR, hqs, hSq, hAq, hb2⟩; have hH := bsa' hH hb2; have hmc' : (m : Int) ≤ (c2 : Int) := by omega))
  have hg2 := hk1.later hH
  have hS2 := hS1.later hH
  have hA2 := hA1.later hH
  have hB2 := bsa' hB1 hH
  clear KEEP hg1 hk1 hS1 hA1 hB1 M1 hAR hmc hmc' hb2 hH hdm hd0 hmd
  go_wp2_with fail
  go_loopw [7, 47] (fun ov iv wm => ∃ (i : Nat) (ts : List Part) (A' : Option Addr) (c' : Nat), i ≤ r ∧ iv = .int .i64 (i : Int) ∧ ov = .slice A' i c' ∧ Hid (ts.length = i) ∧ wm.ownsRow w2.heap.size 22 1 (.slice A' i c') i (ts.map pv) ∧ Are wm s ts ∧ Below w2.heap.size w2 wm) (fun _ iv _ => r - (intOf iv).toNat)
  case atStart => exact ⟨0, [], none, 0, Nat.zero_le _, rfl, rfl, Lib.hid rfl, World.ownsRow_nil _ _ _ _, Are.nil, Below.refl _ _⟩
  case round =>
    obtain ⟨i, ts, A', c', hi', rfl, rfl, hts, ho, hT, hB⟩ := hrel
    by_cases hlt : i < r
    · obtain ⟨bq, oq, p, rfl, hbq, _, hpT, hpl, hpc, hpm, hc⟩ := parts_at hSq hAq (k := i) (by rw [hqs]; exact hlt)
      obtain ⟨Ap, cp, lp⟩ := p
      replace hpT : TS w2 Ap lp := hpT
      replace hpl : List.length lp = d := hpl
      replace hc : w2.cell? ⟨bq, oq + i, none⟩ = some (.slice Ap d cp) := hc
      have k1 : wr.cell? ⟨bq, oq + i, none⟩ = some (.slice Ap d cp) := (hB.cell hbq).trans hc
      have C3 := Lib.hid (combine_ok (w.heap.size + 1) d s A c ps HPS.out hd hd6 hs6 Ap cp lp hpl wr (hg2.later hB) (hS2.later hB) (hA2.later hB) (hpT.later hB))
      clear hc hpT hpl hpc hpm
      go_wp2_with (first
        | (go_at_call 30; refine C3.out.mono ?_; rintro e w4 ⟨A4, l4, rfl, hl4, hT4, hb4⟩; have o4 := own_later ho hb4; have hTT4 := hT.later hb4; have hB4 := bsa' hB hb4; have HL4 := Lib.hid hl4; clear hl4)
        | (at_builtin; refine wpList_append_sl _ pv_one rfl _ _ 29 rfl w2.heap.size 22 j0 (.slice none 0 0) 24 Try.underlying29 hj hy0 hy1 hy2 rfl (.slice A' i c') i _ rfl (o4.alloc _) _ _ _ [(A4, s, l4)] 1 rfl (Sl.of_new rfl (by show #[Value.slice A4 s s] = #[pv (A4, s, l4)]; unfold pv; rw [HL4.out])) rfl (by unfold maxLen; omega) (by omega) (by have := hB4.size; simp; omega) ?_; intro v5 w5 o5 g5))
      have hA5 := (hTT4.alloc _).row (o4.alloc _) g5
      have hB5 : Below w2.heap.size w2 w5 := (hB4.alloc hB4.size _).grown g5 (by have := hB4.size; simp; omega) (fun j hj => (o4.lt j hj).1)
      have hT5 : Are w5 s [(A4, s, l4)] := Are.row (Are.alloc (fun p hp => by rw [List.mem_singleton] at hp; subst hp; exact ⟨hT4, HL4.out, Nat.le_refl _, by show s ≤ maxLen; unfold maxLen; omega⟩) _) (o4.alloc _) g5
      rw [map_pv] at o5
      obtain ⟨A5, c5, rfl, _, _⟩ := own_form o5
      go_roundw
      case rel => exact ⟨i + 1, ts ++ [(A4, s, l4)], A5, c5, by omega, by go_num, rfl, Lib.hid (by rw [List.length_append, hts.out]; rfl), o5, hA5.append hT5, hB5⟩
      case measure => simp [intOf]; omega
    · obtain rfl : i = r := by omega
      go_wp2
      go_ret2
      exact ⟨A', c', ts, rfl, hts.out, Sl.of_own ho, hT, bsa' hB2 hB⟩
end Go.Proofs.Ytjpbeoiiplapaaa.C
