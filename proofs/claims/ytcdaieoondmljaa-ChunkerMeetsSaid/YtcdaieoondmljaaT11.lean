/- The plain law of ChunkerMeets: behind a common beginning of a fragment all further ones are the same. -/
import Derived.Test.YtcdaieoondmljaaT10
namespace Go.Proofs.Ytcdaieoondmljaa.H
set_option linter.unusedVariables false
open Go Go.RowKit Go.Proofs.Ytcdaieoondmljaa Go.Proofs.Ytcdaieoondmljaa.W Go.Proofs.Ytcdaieoondmljaa.M

/-- The beginnings of the fragments at or behind H, counted from H. -/
def rel (H : Nat) (l : List Ex) : List Nat := (l.filter fun e => decide (H ≤ e.1)).map fun e => e.1 - H
theorem rel_nil (H : Nat) : rel H [] = [] := rfl
theorem rel_in {H a d : Nat} {l : List Ex} (h : H ≤ a) : rel H ((a, d) :: l) = (a - H) :: rel H l := by unfold rel; rw [List.filter_cons_of_pos (by simpa using h)]; rfl
theorem rel_out {H a d : Nat} {l : List Ex} (h : a < H) : rel H ((a, d) :: l) = rel H l := by unfold rel; rw [List.filter_cons_of_neg (by simp; omega)]
theorem rel_append (H : Nat) (l l' : List Ex) : rel H (l ++ l') = rel H l ++ rel H l' := by unfold rel; rw [List.filter_append, List.map_append]
theorem rel_length (H : Nat) (l : List Ex) : (rel H l).length ≤ l.length := by unfold rel; rw [List.length_map]; exact List.length_filter_le _ _
theorem rel_drop (f : Nat → Nat) (N H : Nat) (hf : ∀ a, a < N → a < f a) : ∀ m a k x, N - a ≤ m → (rel H (frg f N a))[k]? = some x → (rel H (frg f N a)).drop k = rel H (frg f N (H + x)) := by
  intro m
  induction m with
  | zero => intro a k x h hx; rw [frg_end (by omega)] at hx; simp [rel] at hx
  | succ m ih =>
    intro a k x h hx
    rcases Nat.lt_or_ge a N with ha | ha
    · have h1 := hf a ha
      rw [frg_step hf ha] at hx ⊢
      rcases Nat.lt_or_ge a H with hH | hH
      · rw [rel_out hH] at hx ⊢
        exact ih (f a) k x (by omega) hx
      · rw [rel_in hH] at hx ⊢
        cases k with
        | zero =>
          obtain rfl : a - H = x := by simpa using hx
          rw [show H + (a - H) = a by omega, frg_step hf ha, rel_in hH]; rfl
        | succ k =>
          rw [List.drop_succ_cons]
          exact ih (f a) k x (by omega) (by simpa using hx)
    · rw [frg_end ha] at hx; simp [rel] at hx
theorem rel_same (f g : Nat → Nat) (H G T : Nat) (hf : ∀ a, a < H + T → a < f a) (hg : ∀ a, a < G + T → a < g a) (hs : ∀ x, x < T → ∃ y, f (H + x) = H + y ∧ g (G + x) = G + y) :
    ∀ m x, T - x ≤ m → rel H (frg f (H + T) (H + x)) = rel G (frg g (G + T) (G + x)) := by
  intro m
  induction m with
  | zero => intro x h; rw [frg_end (by omega), frg_end (by omega)]; rfl
  | succ m ih =>
    intro x h
    rcases Nat.lt_or_ge x T with hx | hx
    · obtain ⟨y, e1, e2⟩ := hs x hx
      have h1 := hf (H + x) (by omega)
      rw [frg_step hf (by omega), frg_step hg (by omega), rel_in (by omega), rel_in (by omega), e1, e2, ih y (by omega), show H + x - H = G + x - G by omega]
    · rw [frg_end (by omega), frg_end (by omega)]; rfl
theorem win_behind (a b : Bs) {k i : Nat} (h1 : k ≤ i) : win (a ++ b) k (a.length + i) = win b k i := by
  unfold win
  rw [show a.length + i - k = a.length + (i - k) by omega, List.take_length_add_append, List.drop_length_add_append]
theorem places_behind (a b : Bs) {k i : Nat} (m : R) (h1 : k ≤ i) : a.length + i ∈ places (a ++ b) k m ↔ i ∈ places b k m := by
  rw [mem_places, mem_places, win_behind a b h1]
  simp only [List.length_append]
  constructor
  · rintro ⟨_, _, h⟩; exact ⟨h1, by omega, h⟩
  · rintro ⟨_, _, h⟩; exact ⟨by omega, by omega, h⟩
theorem nxt_shift1 {P Q : List Nat} {le mo H G T x : Nat} (hle : le ≤ mo) (hsQ : Q.Pairwise (· < ·)) (hp : ∀ p, le ≤ p → H + p ∈ P → G + p ∈ Q) {r s : Nat} (hr : nxt P le mo (H + T) (H + x) = H + r) (hq : nxt Q le mo (G + T) (G + x) = G + s) : s ≤ r := by
  rcases Nat.lt_or_ge r s with h | h
  · have m1 := @nxt_most Q le mo (G + T) (G + x)
    have m2 := @nxt_le Q le mo (G + T) (G + x)
    have hin := nxt_why (P := P) (le := le) (mo := mo) (N := H + T) (a := H + x) (by omega) (by omega)
    have hl := nxt_least (P := P) (N := H + T) (a := H + x) hle (by omega)
    rw [hr] at hin hl
    exact absurd (hp r (by omega) hin) (nxt_none (P := Q) (le := le) (mo := mo) (N := G + T) (a := G + x) (by omega) (by omega) hsQ)
  · exact h
theorem nxt_shift {le us mo wi : Nat} (hg : Fine le us mo wi) (a b t : Bs) {x : Nat} (hx : x < t.length) :
    ∃ y, nxt (places (a ++ t) wi (msk us)) le mo (a.length + t.length) (a.length + x) = a.length + y ∧ nxt (places (b ++ t) wi (msk us)) le mo (b.length + t.length) (b.length + x) = b.length + y := by
  have g1 : 1 ≤ le := by have := hg.w1; have := hg.l1; omega
  have gw := hg.l1
  have h1 := nxt_gt (P := places (a ++ t) wi (msk us)) (N := a.length + t.length) (a := a.length + x) g1 hg.m1 (by omega)
  have h2 := nxt_gt (P := places (b ++ t) wi (msk us)) (N := b.length + t.length) (a := b.length + x) g1 hg.m1 (by omega)
  obtain ⟨r, hr⟩ : ∃ r, nxt (places (a ++ t) wi (msk us)) le mo (a.length + t.length) (a.length + x) = a.length + r := ⟨_, by rw [Nat.add_sub_cancel']; omega⟩
  obtain ⟨s, hs⟩ : ∃ r, nxt (places (b ++ t) wi (msk us)) le mo (b.length + t.length) (b.length + x) = b.length + r := ⟨_, by rw [Nat.add_sub_cancel']; omega⟩
  have e1 := nxt_shift1 hg.m1 (places_sorted' _ _ _) (fun p hp h => (places_behind b t _ (by omega)).2 ((places_behind a t _ (by omega)).1 h)) hr hs
  have e2 := nxt_shift1 hg.m1 (places_sorted' _ _ _) (fun p hp h => (places_behind a t _ (by omega)).2 ((places_behind b t _ (by omega)).1 h)) hs hr
  obtain rfl : r = s := by omega
  exact ⟨r, hr, hs⟩
/-- **The law**: where the two lists of beginnings share x, what follows is the same. -/
theorem meets_law {le us mo wi : Nat} (hg : Fine le us mo wi) (a b t : Bs) (i k x : Nat) :
    let l := rel a.length (frg (nxt (places (a ++ t) wi (msk us)) le mo (a.length + t.length)) (a.length + t.length) 0)
    let l' := rel b.length (frg (nxt (places (b ++ t) wi (msk us)) le mo (b.length + t.length)) (b.length + t.length) 0)
    l[i]? = some x → l'[k]? = some x → l.drop i = l'.drop k := by
  intro l l' h1 h2
  have g1 : 1 ≤ le := by have := hg.w1; have := hg.l1; omega
  rw [rel_drop _ _ _ (fun a ha => nxt_gt g1 hg.m1 ha) _ 0 i x (Nat.le_refl _) h1, rel_drop _ _ _ (fun a ha => nxt_gt g1 hg.m1 ha) _ 0 k x (Nat.le_refl _) h2]
  exact rel_same _ _ _ _ _ (fun a ha => nxt_gt g1 hg.m1 ha) (fun a ha => nxt_gt g1 hg.m1 ha) (fun y hy => nxt_shift hg a b t hy) _ x (Nat.le_refl _)
end Go.Proofs.Ytcdaieoondmljaa.H
