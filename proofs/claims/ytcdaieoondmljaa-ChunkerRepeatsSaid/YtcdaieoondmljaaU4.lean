/- Shared in both texts: the number of bytes, or the error. -/
import Derived.Test.YtcdaieoondmljaaU3
namespace Go.Proofs.Ytcdaieoondmljaa.H
set_option linter.unusedVariables false
open Go Go.RowKit Go.Proofs.Ytcdaieoondmljaa Go.Proofs.Ytcdaieoondmljaa.W Go.Proofs.Ytcdaieoondmljaa.M

set_option maxRecDepth 100000 in
set_option maxHeartbeats 1000000 in
theorem Shared_bad (le us mo wi er : Int) (her : chkC le us mo wi = er) (h0 : er ≠ 0) (A : Option Addr) (c N : Nat) (a : Bs) (ha : a.length = N) (hN : N ≤ 65536) (A' : Option Addr) (c' M : Nat) (b : Bs) (hb : b.length = M) (hM : M ≤ 65536) (w : World) :
    Calls Try.prog 21 #[.agg #[.int .i64 le, .int .i64 us, .int .i64 mo, .int .i64 wi], .slice A N c, .slice A' M c'] w fun e w' => e = .returned (.tuple #[.int .i64 0, .int .i64 er]) ∧ Below w.heap.size w w' := by
  have hB0 : Below w.heap.size w (w.alloc (.cells #[.int .i64 le, .int .i64 us, .int .i64 mo, .int .i64 wi] 23)) := (Below.refl _ _).alloc (Nat.le_refl _) _
  have C1 : Hid (∀ (W : World) (g : Nat), g = W.heap.size → Calls Try.prog 29 #[.agg #[.int .i64 le, .int .i64 us, .int .i64 mo, .int .i64 wi], .slice (some ⟨g, 0, none⟩) 2 2] (W.alloc (.cells #[.slice A N c, .slice A' M c'] 24)) fun e w' => e = .returned (.int .i64 er) ∧ Below (W.alloc (.cells #[.slice A N c, .slice A' M c'] 24)).heap.size (W.alloc (.cells #[.slice A N c, .slice A' M c'] 24)) w') := Lib.hid fun W g hg' => by
    have := check_ok le us mo wi g 2 [(A, c, a), (A', c', b)] rfl (by decide) (by intro p hp; simp at hp; rcases hp with rfl | rfl <;> (first | (show a.length ≤ _; omega) | (show b.length ≤ _; omega))) (W.alloc (.cells #[.slice A N c, .slice A' M c'] 24)) _ (by subst hg'; rw [← ha, ← hb]; exact Sl.of_new rfl rfl)
    rw [her] at this; exact this
  have h0' : (er == 0) = false := by rw [beq_eq_false_iff_ne]; exact h0
  clear her ha hb
  go_enter Try.func21, Try.ntmps21
  go_wp2_with (go_at_call 29; refine (C1.out _ _ (by simp)).mono ?_; rintro e w1 ⟨rfl, hb1⟩; have hB1 := bal hB0 hB0.size hb1)
  go_ret2
  exact ⟨rfl, hB1⟩
set_option maxRecDepth 100000 in
set_option maxHeartbeats 1000000 in
theorem rShared_bad (le us mo wi er : Int) (her : chkC le us mo wi = er) (h0 : er ≠ 0) (A : Option Addr) (c N : Nat) (A' : Option Addr) (c' M : Nat) (w : World) :
    Calls Try.prog 22 #[.agg #[.int .i64 le, .int .i64 us, .int .i64 mo, .int .i64 wi], .slice A N c, .slice A' M c'] w fun e w' => e = .returned (.tuple #[.int .i64 0, .int .i64 er]) ∧ Below w.heap.size w w' := by
  have hB0 : Below w.heap.size w (w.alloc (.cells #[.int .i64 le, .int .i64 us, .int .i64 mo, .int .i64 wi] 23)) := (Below.refl _ _).alloc (Nat.le_refl _) _
  have C1 := Lib.hid (fun W => rSplit_bad le us mo wi er her h0 A c N W)
  have h0' : (er == 0) = false := by rw [beq_eq_false_iff_ne]; exact h0
  clear her
  go_enter Try.func22, Try.ntmps22
  go_wp2_with (go_at_call 13; refine (C1.out _).mono ?_; rintro e w1 ⟨rfl, hb1⟩; have hB1 := bsa hB0 hB0.size hb1)
  go_ret2
  exact ⟨rfl, hB1⟩
/-- What Shared hands back: a number and an error's. -/
def ShareAt (le us mo wi : Int) (f : Nat) (A : Option Addr) (N c : Nat) (A' : Option Addr) (M c' : Nat) (S er : Int) (W : World) : Prop :=
  Calls Try.prog f #[.agg #[.int .i64 le, .int .i64 us, .int .i64 mo, .int .i64 wi], .slice A N c, .slice A' M c'] W fun e w' => e = .returned (.tuple #[.int .i64 S, .int .i64 er]) ∧ Below W.heap.size W w'
/-- The fragments of a string. -/
def frs' (le us mo wi : Nat) (b : Bs) : List Ex := frg (nxt (places b wi (msk us)) le mo b.length) b.length 0
theorem frs_in {le us mo wi : Nat} (hg : Fine le us mo wi) (b : Bs) : In b.length (frs' le us mo wi b) := frg_in _ _ (fun a ha => nxt_gt (by have := hg.w1; have := hg.l1; omega) hg.m1 ha) (fun a => nxt_le) b.length 0 (by omega)
theorem frs_len {le us mo wi : Nat} (hg : Fine le us mo wi) (b : Bs) : (frs' le us mo wi b).length ≤ b.length := frg_length _ _ (fun a ha => nxt_gt (by have := hg.w1; have := hg.l1; omega) hg.m1 ha) b.length 0 (by omega)
theorem share_ok {le us mo wi : Nat} (hg : Fine le us mo wi) (h0 : chkC le us mo wi = 0) {A : Option Addr} {c N : Nat} {a : Bs} (ha : a.length = N) (hc : N ≤ c) (hN : N ≤ 65536) {A' : Option Addr} {c' M : Nat} {b : Bs} (hb : b.length = M) (hc' : M ≤ c') (hM : M ≤ 65536)
    {S : Nat} (hS : shr a b (frs' le us mo wi a) (frs' le us mo wi b) = S) {W : World} {B B' : Nat} (h : Sl u8 W B A a) (h' : Sl u8 W B' A' b) : ShareAt le us mo wi 21 A N c A' M c' S 0 W := by
  subst ha hb
  exact Shared_ok le us mo wi h0 A c _ a rfl hc hN A' c' _ b rfl hc' hM _ _ _ _ rfl rfl (Nat.le_trans (frs_len hg a) (by omega)) (Nat.le_trans (frs_len hg b) (by omega)) (frs_in hg a) (frs_in hg b) S hS W _ _ h h'
    (fun W hW => Split_ok hg h0 A c _ a rfl hN _ _ rfl rfl W _ hW) (fun W hW => Split_ok hg h0 A' c' _ b rfl hM _ _ rfl rfl W _ hW)
theorem shares_both (le us mo wi : Int) (A : Option Addr) (c N : Nat) (a : Bs) (ha : a.length = N) (hc : N ≤ c) (hN : N ≤ 65536) (A' : Option Addr) (c' M : Nat) (b : Bs) (hb : b.length = M) (hc' : M ≤ c') (hM : M ≤ 65536) :
    ∃ (S er : Int), ∀ W, Sl u8 W W.heap.size A a → Sl u8 W W.heap.size A' b → ShareAt le us mo wi 21 A N c A' M c' S er W ∧ ShareAt le us mo wi 22 A N c A' M c' S er W := by
  by_cases h0 : chkC le us mo wi = 0
  · obtain ⟨le', us', mo', wi', rfl, rfl, rfl, rfl, hg⟩ := chk_nat h0
    refine ⟨(shr a b (frs' le' us' mo' wi' a) (frs' le' us' mo' wi' b) : Nat), 0, fun W hW hW' => ⟨share_ok hg h0 ha hc hN hb hc' hM rfl hW hW', ?_⟩⟩
    subst ha hb
    exact rShared_ok le' us' mo' wi' A c _ a rfl hc hN A' c' _ b rfl hc' hM _ _ _ _ rfl rfl (Nat.le_trans (frs_len hg a) (by omega)) (Nat.le_trans (frs_len hg b) (by omega)) (frs_in hg a) (frs_in hg b) _ rfl W _ _ hW hW'
      (fun W hW => rSplit_ok hg h0 A c _ a rfl hc hN _ _ rfl rfl W _ hW) (fun W hW => rSplit_ok hg h0 A' c' _ b rfl hc' hM _ _ rfl rfl W _ hW)
  · exact ⟨0, chkC le us mo wi, fun W _ _ => ⟨Shared_bad le us mo wi _ rfl h0 A c N a ha hN A' c' M b hb hM W, rShared_bad le us mo wi _ rfl h0 A c N A' c' M W⟩⟩
end Go.Proofs.Ytcdaieoondmljaa.H
