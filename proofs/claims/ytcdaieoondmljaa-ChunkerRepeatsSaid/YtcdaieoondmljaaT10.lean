/- More bytes behind a string turn none of its fragments but the last. -/
import Derived.Test.YtcdaieoondmljaaLChunkerCuts
namespace Go.Proofs.Ytcdaieoondmljaa.H
set_option linter.unusedVariables false
open Go Go.RowKit Go.Proofs.Ytcdaieoondmljaa Go.Proofs.Ytcdaieoondmljaa.W Go.Proofs.Ytcdaieoondmljaa.M

theorem win_ahead (b c : Bs) {k i : Nat} (h2 : i ≤ b.length) : win (b ++ c) k i = win b k i := by
  unfold win
  rw [List.take_append_of_le_length h2]
theorem places_ahead (b c : Bs) {k i : Nat} (m : R) (h2 : i ≤ b.length) : i ∈ places (b ++ c) k m ↔ i ∈ places b k m := by
  rw [mem_places, mem_places, win_ahead b c h2]
  simp only [List.length_append]
  constructor
  · rintro ⟨h1, _, h⟩; exact ⟨h1, h2, h⟩
  · rintro ⟨h1, _, h⟩; exact ⟨h1, by omega, h⟩
theorem nxt_ahead {P P' : List Nat} {le mo N N' a : Nat} (hN : N ≤ N') (hle : le ≤ mo) (hs : P.Pairwise (· < ·)) (hs' : P'.Pairwise (· < ·)) (hp : ∀ i, i ≤ N → (i ∈ P' ↔ i ∈ P)) (h : nxt P le mo N a < N) : nxt P' le mo N' a = nxt P le mo N a := by
  have m1 := @nxt_most P le mo N a
  have m2 := @nxt_most P' le mo N' a
  have l1 := nxt_least hle h
  rcases Nat.lt_trichotomy (nxt P' le mo N' a) (nxt P le mo N a) with hlt | he | hgt
  · have l2 := nxt_least (P := P') (N := N') (a := a) hle (by omega)
    have hin := nxt_why (P := P') (le := le) (mo := mo) (N := N') (a := a) (by omega) (by omega)
    exact absurd ((hp _ (by omega)).1 hin) (nxt_none l2 hlt hs)
  · exact he
  · have hin := nxt_why h (by omega)
    exact absurd ((hp _ (by omega)).2 hin) (nxt_none l1 hgt hs')
theorem frg_ahead (f f' : Nat → Nat) (N N' : Nat) (hN : N ≤ N') (hf : ∀ a, a < N → a < f a) (hf' : ∀ a, a < N' → a < f' a) (hle : ∀ a, f a ≤ N) (hs : ∀ a, f a < N → f' a = f a) :
    ∀ k a, N - a ≤ k → a < N → ∃ K x y ys, frg f N a = K ++ [x] ∧ frg f' N' a = K ++ y :: ys := by
  intro k
  induction k with
  | zero => intro a h ha; omega
  | succ k ih =>
    intro a h ha
    rcases Nat.lt_or_ge (f a) N with h1 | h1
    · obtain ⟨K, x, y, ys, e1, e2⟩ := ih (f a) (by have := hf a ha; omega) h1
      exact ⟨(a, f a - a) :: K, x, y, ys, by rw [frg_step hf ha, e1]; rfl, by rw [frg_step hf' (by omega), hs a h1, e2]; rfl⟩
    · exact ⟨[], (a, f a - a), (a, f' a - a), frg f' N' (f' a), by rw [frg_step hf ha, frg_end h1]; rfl, by rw [frg_step hf' (by omega)]; rfl⟩
theorem SlE.pre {w : World} {B : Nat} {A : Option Addr} {K L : List Ex} (h : SlE w B A (K ++ L)) : SlE w B A K := by
  unfold SlE at h ⊢
  rw [flatE_append] at h
  have := Sl.take h (flatE K).length
  rwa [List.take_left' rfl] at this
end Go.Proofs.Ytcdaieoondmljaa.H
