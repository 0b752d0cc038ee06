/- The plain law of ChunkerRepeats. -/
import Derived.Test.YtcdaieoondmljaaU4
import Derived.Test.YtcdaieoondmljaaLChunkerAppends
namespace Go.Proofs.Ytcdaieoondmljaa.H
set_option linter.unusedVariables false
open Go Go.RowKit Go.Proofs.Ytcdaieoondmljaa Go.Proofs.Ytcdaieoondmljaa.W Go.Proofs.Ytcdaieoondmljaa.M

/-- The fragments' bytes. -/
def tot (m : List Ex) : Nat := (m.map fun x => x.2).sum
theorem tot_cons (x : Ex) (m : List Ex) : tot (x :: m) = x.2 + tot m := rfl
theorem tot_append (m m' : List Ex) : tot (m ++ m') = tot m + tot m' := by unfold tot; rw [List.map_append, List.sum_append]
theorem frg_tot (f : Nat → Nat) (N : Nat) (hf : ∀ a, a < N → a < f a) (hN : ∀ a, f a ≤ N) : ∀ k a, N - a ≤ k → a ≤ N → tot (frg f N a) + a = N := by
  intro k
  induction k with
  | zero => intro a h ha; rw [frg_end (by omega)]; show 0 + a = N; omega
  | succ k ih =>
    intro a h ha
    rcases Nat.lt_or_ge a N with h1 | h1
    · have h2 := hf a h1
      have h3 := hN a
      have h4 := ih (f a) (by omega) h3
      rw [frg_step hf h1, tot_cons]
      show f a - a + _ + a = N
      omega
    · rw [frg_end h1]; show 0 + a = N; omega
theorem shr_append (a b : Bs) (l m m' : List Ex) : shr a b l (m ++ m') = shr a b l m + shr a b l m' := by unfold shr; rw [List.map_append, List.sum_append]
theorem shr_cons (a b : Bs) (l m : List Ex) (x : Ex) : shr a b l (x :: m) = (if pc b x ∈ l.map (pc a) then x.2 else 0) + shr a b l m := rfl
theorem shr_tot (a b : Bs) (l : List Ex) : ∀ m, shr a b l m ≤ tot m
  | [] => Nat.le_refl _
  | x :: m => by
    have h1 := shr_tot a b l m
    rw [shr_cons, tot_cons]
    split <;> omega
theorem shr_all (a b : Bs) (l : List Ex) : ∀ m, (∀ x ∈ m, pc b x ∈ l.map (pc a)) → shr a b l m = tot m
  | [], _ => rfl
  | x :: m, h => by rw [shr_cons, tot_cons, if_pos (h x (List.mem_cons_self ..)), shr_all a b l m (fun y hy => h y (List.mem_cons_of_mem _ hy))]
theorem pc_ahead (b c : Bs) (x : Ex) (h : x.1 + x.2 ≤ b.length) : pc (b ++ c) x = pc b x := by
  unfold pc
  rw [List.drop_append_of_le_length (by omega), List.take_append_of_le_length (by rw [List.length_drop]; omega)]
theorem frs_tot {le us mo wi : Nat} (hg : Fine le us mo wi) (b : Bs) : tot (frs' le us mo wi b) = b.length := by
  have := frg_tot (nxt (places b wi (msk us)) le mo b.length) b.length (fun a ha => nxt_gt (by have := hg.w1; have := hg.l1; omega) hg.m1 ha) (fun a => nxt_le) b.length 0 (by omega) (by omega)
  exact this
/-- **The law.** -/
theorem repeats_law {le us mo wi : Nat} (hg : Fine le us mo wi) (b : Bs) (N : Nat) (hN : b.length = N) :
    shr b b (frs' le us mo wi b) (frs' le us mo wi b) = N ∧ shr b (b ++ b) (frs' le us mo wi b) (frs' le us mo wi (b ++ b)) ≤ 2 * N ∧
      ((frs' le us mo wi b).length ≠ 0 → ∃ x, (frs' le us mo wi b)[(frs' le us mo wi b).length - 1]? = some x ∧ x.2 ≤ N ∧ N - x.2 ≤ shr b (b ++ b) (frs' le us mo wi b) (frs' le us mo wi (b ++ b))) := by
  have hin := frs_in hg b
  have htot := frs_tot hg b
  have htot2 := frs_tot hg (b ++ b)
  have hlaw := appends_law hg b b N N hN hN
  refine ⟨?_, ?_, ?_⟩
  · rw [shr_all _ _ _ _ (fun x hx => List.mem_map.2 ⟨x, hx, rfl⟩), htot, hN]
  · refine Nat.le_trans (shr_tot _ _ _ _) ?_
    rw [htot2, List.length_append]; omega
  · intro h0
    have e1 : frg (nxt (places b wi (msk us)) le mo N) N 0 = frs' le us mo wi b := by unfold frs'; rw [hN]
    have e2 : frg (nxt (places (b ++ b) wi (msk us)) le mo (N + N)) (N + N) 0 = frs' le us mo wi (b ++ b) := by unfold frs'; rw [List.length_append, hN]
    rw [e1, e2] at hlaw
    rcases hlaw with h | ⟨K, x, y, ys, h1, h2⟩
    · exact absurd (by rw [h]; rfl) h0
    · have hx : x ∈ frs' le us mo wi b := by rw [h1]; simp
      have hxi := hin x hx
      refine ⟨x, ?_, by omega, ?_⟩
      · rw [h1, List.length_append]; simp
      · have h3 : shr b (b ++ b) (frs' le us mo wi b) K = tot K := shr_all _ _ _ _ fun z hz => by
          have hz' : z ∈ frs' le us mo wi b := by rw [h1]; exact List.mem_append_left _ hz
          rw [pc_ahead b b z (hin z hz').2]
          exact List.mem_map.2 ⟨z, hz', rfl⟩
        have h4 : tot K + x.2 = N := by
          have := htot
          rw [h1, tot_append, hN] at this
          exact this
        rw [h2, shr_append, h3]
        omega
end Go.Proofs.Ytcdaieoondmljaa.H
