/- check; cuts; BinarySearch; end. -/
import Derived.Test.YtcdaieoondmljaaT1
namespace Go.Proofs.Ytcdaieoondmljaa.H
set_option linter.unusedVariables false
open Go Go.RowKit Go.Proofs.Ytcdaieoondmljaa Go.Proofs.Ytcdaieoondmljaa.W Go.Proofs.Ytcdaieoondmljaa.M

theorem check1_ok (A : Option Addr) (n c : Nat) (hn : n ≤ 65536) (w : World) : Calls Try.prog 36 #[.slice A n c] w fun e w' => e = .returned (.bool false) ∧ w' = w := by
  have h : ¬ (65536 : Int) < (n : Int) := by omega
  go_enter Try.func36, Try.ntmps36
  go_wp2
  go_ret
  exact ⟨by first | rfl | (simp <;> omega), rfl⟩
set_option maxRecDepth 100000 in
set_option maxHeartbeats 1000000 in
theorem indexFunc_no (g m : Nat) (ps : List Part) (hm : ps.length = m) (hm8 : m ≤ 8) (hps : ∀ p ∈ ps, p.2.2.length ≤ 65536) (w : World) (B : Nat) (hcell : Sl pv w B (some ⟨g, 0, none⟩) ps) :
    Calls Try.prog 40 #[.slice (some ⟨g, 0, none⟩) m m, .func (.func 36) #[] #[]] w fun e w' => e = .returned (.int .i64 (-1)) ∧ w' = w := by
  have HM := Lib.hid hm
  have HP := Lib.hid hps
  clear hm hps
  go_enter Try.func40, Try.ntmps40
  go_wp2
  go_loop [8] (fun iv => ∃ i : Nat, i ≤ m ∧ iv = .int .i64 (i : Int)) (fun iv => m - (intOf iv).toNat)
  case atStart => exact ⟨0, Nat.zero_le _, rfl⟩
  case round =>
    obtain ⟨i, hi, rfl⟩ := hrel
    by_cases hlt : i < m
    · obtain ⟨b, o, ⟨Ai, ci, li⟩, e, _, hp, hc⟩ := hcell.at_ (j := i) (by rw [HM.out]; exact hlt)
      injection e with e
      injection e with e1 e2 _
      subst e1 e2
      rw [Nat.zero_add] at hc
      obtain ⟨q, hq⟩ : ∃ q, li.length = q := ⟨_, rfl⟩
      have hq6 : q ≤ 65536 := by rw [← hq]; exact HP.out _ (List.mem_of_getElem? hp)
      replace hc : w.cell? ⟨g, i, none⟩ = some (.slice Ai li.length ci) := hc
      rw [hq] at hc
      have C := Lib.hid (check1_ok Ai q ci hq6 w)
      clear hp hq
      go_wp2_with (go_at_call 36; refine C.out.mono ?_; rintro e w1 ⟨rfl, rfl⟩)
      go_round
      case rel => exact ⟨i + 1, by omega, by go_num⟩
      case measure => simp [intOf]; omega
    · obtain rfl : i = m := by omega
      go_wp2
      go_ret
      exact ⟨rfl, rfl⟩
theorem containsFunc_no (g m : Nat) (ps : List Part) (hm : ps.length = m) (hm8 : m ≤ 8) (hps : ∀ p ∈ ps, p.2.2.length ≤ 65536) (w : World) (B : Nat) (hcell : Sl pv w B (some ⟨g, 0, none⟩) ps) :
    Calls Try.prog 35 #[.slice (some ⟨g, 0, none⟩) m m, .func (.func 36) #[] #[]] w fun e w' => e = .returned (.bool false) ∧ w' = w := by
  have C := Lib.hid (indexFunc_no g m ps hm hm8 hps w B hcell)
  clear hm hps hcell
  go_enter Try.func35, Try.ntmps35
  go_wp2_with (go_at_call 40; refine C.out.mono ?_; rintro e w1 ⟨rfl, rfl⟩)
  go_ret
  exact ⟨rfl, rfl⟩
set_option maxRecDepth 100000 in
set_option maxHeartbeats 1000000 in
theorem check_ok (le us mo wi : Int) (g m : Nat) (ps : List Part) (hm : ps.length = m) (hm8 : m ≤ 8) (hps : ∀ p ∈ ps, p.2.2.length ≤ 65536) (w : World) (B : Nat) (hcell : Sl pv w B (some ⟨g, 0, none⟩) ps) :
    Calls Try.prog 29 #[.agg #[.int .i64 le, .int .i64 us, .int .i64 mo, .int .i64 wi], .slice (some ⟨g, 0, none⟩) m m] w fun e w' => e = .returned (.int .i64 (chkC le us mo wi)) ∧ Below w.heap.size w w' := by
  have C1 := Lib.hid fun W => Check_ok le us mo wi W
  have hc := hcell.lt
  have C2 : Hid (∀ W, Below w.heap.size w W → Calls Try.prog 35 #[.slice (some ⟨g, 0, none⟩) m m, .func (.func 36) #[] #[]] W fun e w' => e = .returned (.bool false) ∧ w' = W) := Lib.hid fun W hW => containsFunc_no g m ps hm hm8 hps W _ (hc.later hW)
  have hB0 : Below w.heap.size w (w.alloc (.cells #[.int .i64 le, .int .i64 us, .int .i64 mo, .int .i64 wi] 23)) := (Below.refl _ _).alloc (Nat.le_refl _) _
  obtain ⟨q, hq⟩ : ∃ q, chkC le us mo wi = q := ⟨_, rfl⟩
  rw [hq] at C1 ⊢
  clear hm hps hcell hc hq
  by_cases h0 : q = 0
  · subst h0
    go_enter Try.func29, Try.ntmps29
    go_wp2_with (first
      | (go_at_call 15; refine (C1.out _).mono ?_; rintro e w1 ⟨rfl, hb1⟩; have hB1 := hB0.trans (hb1.mono hB0.size))
      | (go_at_call 35; refine (C2.out _ hB1).mono ?_; rintro e w2 ⟨rfl, rfl⟩))
    go_ret
    exact ⟨rfl, hB1⟩
  · have h1 : (q == 0) = false := by rw [beq_eq_false_iff_ne]; exact h0
    go_enter Try.func29, Try.ntmps29
    go_wp2_with (go_at_call 15; refine (C1.out _).mono ?_; rintro e w1 ⟨rfl, hb1⟩; have hB1 := hB0.trans (hb1.mono hB0.size))
    go_ret
    exact ⟨rfl, hB1⟩

/-- The mask of a usual length. -/
def msk (us : Nat) : R := BitVec.ofNat 32 (us - 1)
theorem msk_nat {us : Nat} (h : us ≤ 32768) : (msk us).toNat = us - 1 := by unfold msk; rw [BitVec.toNat_ofNat]; omega
set_option maxRecDepth 100000 in
set_option maxHeartbeats 1000000 in
theorem cuts_ok {le us mo wi : Nat} (hg : Fine le us mo wi) (A : Option Addr) (c N : Nat) (b : Bs) (hlb : b.length = N) (hlen : N ≤ 65536) (L : List Nat) (n : Nat) (hL : places b wi (msk us) = L) (hn : L.length = n) (w : World) (B : Nat) (h : Sl u8 w B A b) :
    Calls Try.prog 30 #[.agg #[.int .i64 (le : Int), .int .i64 (us : Int), .int .i64 (mo : Int), .int .i64 (wi : Int)], .slice A N c] w fun e w' => ∃ A' c', e = .returned (.tuple #[.slice A' n c', .int .i64 0]) ∧ Sl i64 w' w'.heap.size A' L ∧ n ≤ c' ∧ c' ≤ maxLen ∧ Below w.heap.size w w' := by
  have hS := h.lt
  have hm : ((us : Int) - 1) = (((msk us).toNat : Nat) : Int) := by rw [msk_nat hg.u2]; have := hg.u1; omega
  have hB0 : Below w.heap.size w (w.alloc (.cells #[.int .i64 (le : Int), .int .i64 (us : Int), .int .i64 (mo : Int), .int .i64 (wi : Int)] 23)) := (Below.refl _ _).alloc (Nat.le_refl _) _
  have C : Hid (∀ W, Below w.heap.size w W → Calls Try.prog 37 #[.slice A N c, .int .i64 (wi : Int), .int .u32 ((msk us).toNat : Int)] W fun e w' => ∃ A' c', e = .returned (.tuple #[.slice A' n c', .int .i64 0]) ∧ Sl i64 w' w'.heap.size A' L ∧ n ≤ c' ∧ c' ≤ maxLen ∧ Below W.heap.size W w') := Lib.hid fun W hW => places_g hlb hlen hg.w1 hg.w2 hL hn (hS.later hW)
  have g1 := hg.u1
  have g2 := hg.u2
  obtain ⟨m, hmm⟩ : ∃ m, (msk us).toNat = m := ⟨_, rfl⟩
  rw [hmm] at hm C
  have hm3 : m ≤ 32768 := by omega
  have hmw : IntKind.u32.wrap (m : Int) = (m : Int) := wrap_u32 _ (by omega) (by omega)
  clear hmm hL hn hlb hg h hS
  go_enter Try.func30, Try.ntmps30
  go_wp2_with (go_at_call 37; refine (C.out _ hB0).mono ?_; rintro e w1 ⟨A1, c1, rfl, t1, h1, h2, hb1⟩)
  go_ret2
  exact ⟨A1, c1, rfl, t1, h1, h2, hB0.trans (hb1.mono hB0.size)⟩
end Go.Proofs.Ytcdaieoondmljaa.H
