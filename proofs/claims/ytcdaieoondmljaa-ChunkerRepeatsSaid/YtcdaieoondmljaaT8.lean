/- The reference's Split; the errors. -/
import Derived.Test.YtcdaieoondmljaaT7
namespace Go.Proofs.Ytcdaieoondmljaa.H
set_option linter.unusedVariables false
open Go Go.RowKit Go.Proofs.Ytcdaieoondmljaa Go.Proofs.Ytcdaieoondmljaa.W Go.Proofs.Ytcdaieoondmljaa.M

theorem own_laterE {w w' : World} {base : Nat} {e : TypeId} {size n : Nat} {v : Value} {xs : List Value} (h : w.ownsRow base e size v n xs) (hb : Below w.heap.size w w') : w'.ownsRow base e size v n xs :=
  h.kept (row := some w.heap.size) ⟨hb.os, hb.tape, hb.output, hb.size, fun k hk _ => hb.block k hk⟩ (.inr (fun e => by have := h.lt _ e; omega))
set_option maxRecDepth 100000 in
set_option maxHeartbeats 4000000 in
theorem rSplit_ok {le us mo wi : Nat} (hg : Fine le us mo wi) (hchk : chkC le us mo wi = 0) (A : Option Addr) (c N : Nat) (b : Bs) (hlb : b.length = N) (hc : N ≤ c) (hlen : N ≤ 65536) (l : List Ex) (n : Nat) (hl : frg (nxt (places b wi (msk us)) le mo N) N 0 = l) (hn : l.length = n) (w : World) (B : Nat) (h : Sl u8 w B A b) :
    Calls Try.prog 13 #[.agg #[.int .i64 (le : Int), .int .i64 (us : Int), .int .i64 (mo : Int), .int .i64 (wi : Int)], .slice A N c] w (SplitAt l n w) := by
  obtain ⟨i0, hi, hz0, hz1, hz2⟩ := info_parts infoE
  have hS := h.lt
  have HG := Lib.hid hg
  obtain ⟨f, hf⟩ : ∃ f, nxt (places b wi (msk us)) le mo N = f := ⟨_, rfl⟩
  rw [hf] at hl
  have HLL := Lib.hid hl
  have HNN := Lib.hid hn
  have HF : Hid (∀ a, a < N → a < f a) := Lib.hid fun a ha => by rw [← hf]; exact nxt_gt (by have := hg.w1; have := hg.l1; omega) hg.m1 ha
  have HFN : Hid (∀ a, f a ≤ N) := Lib.hid fun a => by rw [← hf]; exact nxt_le
  have hB0 : Below w.heap.size w (w.alloc (.cells #[.int .i64 (le : Int), .int .i64 (us : Int), .int .i64 (mo : Int), .int .i64 (wi : Int)] 23)) := (Below.refl _ _).alloc (Nat.le_refl _) _
  have hk0 : Blk (w.alloc (.cells #[.int .i64 (le : Int), .int .i64 (us : Int), .int .i64 (mo : Int), .int .i64 (wi : Int)] 23)) w.heap.size 23 #[.int .i64 (le : Int), .int .i64 (us : Int), .int .i64 (mo : Int), .int .i64 (wi : Int)] := Blk.new _ _ _
  have C : Hid (∀ W, Calls Try.prog 20 #[.agg #[.int .i64 (le : Int), .int .i64 (us : Int), .int .i64 (mo : Int), .int .i64 (wi : Int)]] W fun e w' => e = .returned (.int .i64 0) ∧ Below W.heap.size W w') := Lib.hid fun W => by have := rCheck_ok le us mo wi W; rw [hchk] at this; exact this
  have D : Hid (∀ W a r, Below w.heap.size w W → a < N → f a = r → Calls Try.prog 19 #[.agg #[.int .i64 (le : Int), .int .i64 (us : Int), .int .i64 (mo : Int), .int .i64 (wi : Int)], .slice A N c, .int .i64 (a : Int)] W (NextAt (r : Int) 0 W)) := Lib.hid fun W a r hW ha hr => rNext_ok hg hchk A c N a b hlb hc hlen ha r (by rw [hf]; exact hr) W _ (hS.later hW)
  have hN6 : decide ((65536 : Int) < (N : Int)) = false := by simp; omega
  clear hchk hl hn hlb hg h hf
  go_enter Try.func13, Try.ntmps13
  go_wp2_with (go_at_call 20; refine (C.out _).mono ?_; rintro e w1 ⟨rfl, hb1⟩; have hB1 := hB0.trans (hb1.mono hB0.size); have hk1 := hk0.later hb1)
  have hkB : w.heap.size < w1.heap.size := hk1.lt
  clear C hB0 hk0 hb1
  go_loopw [7, 8] (fun v av wm => ∃ (a : Nat) (q : List Ex) (A' : Option Addr) (c' k : Nat), a ≤ N ∧ av = .int .i64 (a : Int) ∧ v = .slice A' k c' ∧ Hid (q.length = k) ∧ k ≤ a ∧ Hid (l = q ++ frg f N a) ∧ wm.ownsRow w1.heap.size 36 2 (.slice A' k c') k (flatE q) ∧ Below w1.heap.size w1 wm) (fun _ av _ => N - (intOf av).toNat)
  case atStart => exact ⟨0, [], none, 0, 0, Nat.zero_le _, rfl, rfl, Lib.hid rfl, Nat.le_refl _, Lib.hid HLL.out.symm, World.ownsRow_nil _ _ _ _, Below.refl _ _⟩
  case round =>
    obtain ⟨a, q, A', c', k, ha, rfl, rfl, hq, hka, hsc, hown, hB⟩ := hrel
    have hBB : Below w.heap.size w wr := hB1.trans (hB.mono hB1.size)
    by_cases hlt : a < N
    · obtain ⟨r, hr⟩ : ∃ r, f a = r := ⟨_, rfl⟩
      have hra : a < r := by rw [← hr]; exact HF.out a hlt
      have hrN : r ≤ N := by rw [← hr]; exact HFN.out a
      have hgo : Hid (frg f N a = (a, r - a) :: frg f N r) := Lib.hid (by rw [frg_step HF.out hlt, hr])
      obtain ⟨d, hd⟩ : ∃ d, r - a = d := ⟨_, rfl⟩
      rw [hd] at hgo
      have hrd : (r : Int) - (a : Int) = (d : Int) := by omega
      have hdw : IntKind.i64.wrap (d : Int) = (d : Int) := by rw [IntKind.wrap_i64]; omega
      have hlt' : (a : Int) < (N : Int) := by omega
      have E := Lib.hid (D.out wr a r hBB hlt hr)
      have hk2 := hk1.later hB
      have c0 := hk2.cell 0
      have c1 := hk2.cell 1
      have c2 := hk2.cell 2
      have c3 := hk2.cell 3
      obtain ⟨L, hL⟩ : ∃ L, L = flatE q := ⟨_, rfl⟩
      have HL := Lib.hid hL
      rw [← hL] at hown
      clear hr hd hL
      go_wp2_with (first
        | (go_at_call 19; refine E.out.mono ?_; rintro e w2 ⟨rfl, hb2⟩; have hown2 := own_laterE hown hb2; have hB2 := hB.trans (hb2.mono hB.size); have hzz2 := hb2.size)
        | (at_builtin; refine wpList_append_own _ rfl _ _ 26 rfl w1.heap.size 36 i0 (.agg #[.int .i64 0, .int .i64 0]) 2 16 Try.underlying26 hi hz0 hz1 hz2 rfl (by decide) (.slice A' k c') k L rfl (hown2.alloc _) ⟨w2.heap.size, 0, none⟩ 1 1 [.int .i64 (a : Int), .int .i64 (d : Int)] rfl rfl (two_news _ _ _ _) (two_one _ _) (by unfold maxLen; omega) (by omega) (by have := hB2.size; simp; omega) ?_; intro v4 w4 o4 g4 _; have hB4 := (hB2.alloc hB2.size _).grown g4 (by have := hB2.size; simp; omega) (fun j hj => (hown2.lt j hj).1); obtain ⟨A4, c4, rfl, _, _⟩ := own_form o4))
      go_roundw
      case rel => exact ⟨r, q ++ [(a, d)], A4, c4, k + 1, hrN, rfl, rfl, Lib.hid (by rw [List.length_append, hq.out]; rfl), by omega, Lib.hid (by rw [hsc.out, hgo.out]; simp), by rw [flatE_append, ← HL.out]; exact o4, hB4⟩
      case measure => simp [intOf]; omega
    · obtain rfl : a = N := by omega
      have hall : Hid (l = q) := Lib.hid (by rw [hsc.out, frg_end (Nat.le_refl _), List.append_nil])
      have hkn : k = n := by rw [← hq.out, ← hall.out, HNN.out]
      subst hkn
      obtain ⟨hcap1, hcap2⟩ := own_cap hown
      go_wp2
      go_ret2
      exact ⟨A', c', rfl, by rw [hall.out]; exact SlE.of_own hown, hcap1, hBB⟩

set_option maxRecDepth 100000 in
set_option maxHeartbeats 1000000 in
theorem Split_bad (le us mo wi er : Int) (her : chkC le us mo wi = er) (h0 : er ≠ 0) (A : Option Addr) (c N : Nat) (b : Bs) (hlb : b.length = N) (hlen : N ≤ 65536) (w : World) :
    Calls Try.prog 12 #[.agg #[.int .i64 le, .int .i64 us, .int .i64 mo, .int .i64 wi], .slice A N c] w fun e w' => e = .returned (.tuple #[.slice none 0 0, .int .i64 er]) ∧ Below w.heap.size w w' := by
  have hB0 : Below w.heap.size w (w.alloc (.cells #[.int .i64 le, .int .i64 us, .int .i64 mo, .int .i64 wi] 23)) := (Below.refl _ _).alloc (Nat.le_refl _) _
  have C1 : Hid (∀ (W : World) (g : Nat), g = W.heap.size → Calls Try.prog 29 #[.agg #[.int .i64 le, .int .i64 us, .int .i64 mo, .int .i64 wi], .slice (some ⟨g, 0, none⟩) 1 1] (W.alloc (.cells #[.slice A N c] 24)) fun e w' => e = .returned (.int .i64 er) ∧ Below (W.alloc (.cells #[.slice A N c] 24)).heap.size (W.alloc (.cells #[.slice A N c] 24)) w') := Lib.hid fun W g hg' => by
    have := check_ok le us mo wi g 1 [(A, c, b)] rfl (by decide) (by intro p hp; simp at hp; subst hp; show b.length ≤ _; omega) (W.alloc (.cells #[.slice A N c] 24)) _ (by subst hg'; rw [← hlb]; exact Sl.of_new rfl rfl)
    rw [her] at this; exact this
  have h0' : (er == 0) = false := by rw [beq_eq_false_iff_ne]; exact h0
  clear her hlb
  go_enter Try.func12, Try.ntmps12
  go_wp2_with (go_at_call 29; refine (C1.out _ _ (by simp)).mono ?_; rintro e w1 ⟨rfl, hb1⟩; have hB1 := bal hB0 hB0.size hb1)
  go_ret2
  exact ⟨rfl, hB1⟩
set_option maxRecDepth 100000 in
set_option maxHeartbeats 1000000 in
theorem rSplit_bad (le us mo wi er : Int) (her : chkC le us mo wi = er) (h0 : er ≠ 0) (A : Option Addr) (c N : Nat) (w : World) :
    Calls Try.prog 13 #[.agg #[.int .i64 le, .int .i64 us, .int .i64 mo, .int .i64 wi], .slice A N c] w fun e w' => e = .returned (.tuple #[.slice none 0 0, .int .i64 er]) ∧ Below w.heap.size w w' := by
  have hB0 : Below w.heap.size w (w.alloc (.cells #[.int .i64 le, .int .i64 us, .int .i64 mo, .int .i64 wi] 23)) := (Below.refl _ _).alloc (Nat.le_refl _) _
  have C1 : Hid (∀ W, Calls Try.prog 20 #[.agg #[.int .i64 le, .int .i64 us, .int .i64 mo, .int .i64 wi]] W fun e w' => e = .returned (.int .i64 er) ∧ Below W.heap.size W w') := Lib.hid fun W => by have := rCheck_ok le us mo wi W; rw [her] at this; exact this
  have h0' : (er == 0) = false := by rw [beq_eq_false_iff_ne]; exact h0
  clear her
  go_enter Try.func13, Try.ntmps13
  go_wp2_with (go_at_call 20; refine (C1.out _).mono ?_; rintro e w1 ⟨rfl, hb1⟩; have hB1 := bsa hB0 hB0.size hb1)
  go_ret2
  exact ⟨rfl, hB1⟩
end Go.Proofs.Ytcdaieoondmljaa.H
