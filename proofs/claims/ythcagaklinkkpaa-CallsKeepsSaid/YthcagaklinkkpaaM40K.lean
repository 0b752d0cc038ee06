/- The plain law of chapter 40, third part: what CallsKeeps says. No program in sight. -/
import Derived.Test.YthcagaklinkkpaaM40P
namespace Go.Proofs.Ythcagaklinkkpaa.M
set_option linter.unusedVariables false

theorem scan_ind (b : Bs) (P : Nat → List Nat → Prop) (h0 : ∀ i, b.length ≤ i → P i []) (hno : ∀ i, i < b.length → isOp b i = false → P (i + 1) (scan b (i + 1)) → P i (scan b (i + 1)))
    (hpass : ∀ i, isOp b i = true → i + 5 ≤ b.length → isHi b i = false → P (i + 5) (scan b (i + 5)) → P i (scan b (i + 5)))
    (hhit : ∀ i, isOp b i = true → i + 5 ≤ b.length → isHi b i = true → P (i + 5) (scan b (i + 5)) → P i (i :: scan b (i + 5))) : ∀ i, P i (scan b i) := by
  intro i
  induction h : b.length - i using Nat.strongRecOn generalizing i with
  | ind n ih =>
    by_cases hlt : i < b.length
    · rw [scan_lt hlt]
      cases ho : isOp b i with
      | true =>
        have h5 : i + 5 ≤ b.length := by
          unfold isOp at ho
          simp only [Bool.and_eq_true, decide_eq_true_eq] at ho
          exact ho.2
        rw [if_pos rfl]
        cases hh : isHi b i with
        | true => exact hhit i ho h5 hh (ih _ (by omega) _ rfl)
        | false => exact hpass i ho h5 hh (ih _ (by omega) _ rfl)
      | false => exact hno i hlt ho (ih _ (by omega) _ rfl)
    · rw [scan_end (by omega)]; exact h0 i (by omega)
theorem scan_ge (b : Bs) : ∀ i, ∀ x ∈ scan b i, i ≤ x :=
  scan_ind b (fun i l => ∀ x ∈ l, i ≤ x) (fun i _ x hx => by cases hx) (fun i _ _ ih x hx => by have := ih x hx; omega) (fun i _ _ _ ih x hx => by have := ih x hx; omega)
    (fun i _ _ _ ih x hx => by rcases List.mem_cons.1 hx with rfl | hx; exact Nat.le_refl _; have := ih x hx; omega)
theorem scan_apart (b : Bs) : ∀ i, (scan b i).Pairwise (fun x y => x + 5 ≤ y) :=
  scan_ind b (fun i l => l.Pairwise (fun x y => x + 5 ≤ y)) (fun i _ => List.Pairwise.nil) (fun i _ _ ih => ih) (fun i _ _ _ ih => ih)
    (fun i _ _ _ ih => List.pairwise_cons.2 ⟨fun y hy => scan_ge b (i + 5) y hy, ih⟩)
theorem scan_good (b : Bs) : ∀ i, ∀ x ∈ scan b i, isOp b x = true ∧ isHi b x = true :=
  scan_ind b (fun i l => ∀ x ∈ l, isOp b x = true ∧ isHi b x = true) (fun i _ x hx => by cases hx) (fun i _ _ ih => ih) (fun i _ _ _ ih => ih)
    (fun i ho _ hh ih x hx => by rcases List.mem_cons.1 hx with rfl | hx; exact ⟨ho, hh⟩; exact ih x hx)
theorem scan_byte {b : Bs} {x : Nat} (h : x ∈ scan b 0) : (at_ b x = 232 ∨ at_ b x = 233) ∧ (at_ b (x + 4) = 0 ∨ at_ b (x + 4) = 255) ∧ x + 5 ≤ b.length := by
  obtain ⟨h1, h2⟩ := scan_good b 0 x h
  unfold isOp at h1
  unfold isHi at h2
  simp only [Bool.and_eq_true, Bool.or_eq_true, decide_eq_true_eq, beq_iff_eq] at h1 h2
  exact ⟨h1.1, h2, h1.2⟩

def mark (m : List Bool) (k : Nat) : List Bool := ((m.set (k + 1) true).set (k + 2) true).set (k + 3) true
def mayOf (n : Nat) (S : List Nat) : List Bool := S.foldl mark (List.replicate n false)
theorem mayOf_length (n : Nat) (S : List Nat) : (mayOf n S).length = n := by
  have : ∀ (S : List Nat) (m : List Bool), (S.foldl mark m).length = m.length := by
    intro S
    induction S with
    | nil => intro m; rfl
    | cons k S ih => intro m; rw [List.foldl_cons, ih]; simp [mark]
  unfold mayOf; rw [this]; simp
theorem mark_false {m : List Bool} {k p : Nat} (h : (mark m k)[p]? = some false) : m[p]? = some false ∧ p ≠ k + 1 ∧ p ≠ k + 2 ∧ p ≠ k + 3 := by
  unfold mark at h
  simp only [List.getElem?_set] at h
  by_cases h3 : k + 3 = p
  · simp only [h3, List.length_set, if_true] at h; split at h <;> simp at h
  · rw [if_neg h3] at h
    by_cases h2 : k + 2 = p
    · simp only [h2, List.length_set, if_true] at h; split at h <;> simp at h
    · rw [if_neg h2] at h
      by_cases h1 : k + 1 = p
      · simp only [h1, if_true] at h; split at h <;> simp at h
      · rw [if_neg h1] at h
        exact ⟨h, fun e => h1 e.symm, fun e => h2 e.symm, fun e => h3 e.symm⟩
theorem marks_false {p : Nat} (S : List Nat) : ∀ m : List Bool, (S.foldl mark m)[p]? = some false → ∀ k ∈ S, p ≠ k + 1 ∧ p ≠ k + 2 ∧ p ≠ k + 3 := by
  have key : ∀ (S : List Nat) (m : List Bool), (S.foldl mark m)[p]? = some false → m[p]? = some false ∧ ∀ k ∈ S, p ≠ k + 1 ∧ p ≠ k + 2 ∧ p ≠ k + 3 := by
    intro S
    induction S with
    | nil => intro m h; exact ⟨h, fun k hk => by cases hk⟩
    | cons q S ih =>
      intro m h
      obtain ⟨h1, h2⟩ := ih _ h
      obtain ⟨h3, h4⟩ := mark_false h1
      exact ⟨h3, fun k hk => by rcases List.mem_cons.1 hk with rfl | hk; exact h4; exact h2 k hk⟩
  exact fun m h => (key S m h).2
theorem upd_other {s : Int} {l : Bs} {k p : Nat} (h : p ≠ k + 1 ∧ p ≠ k + 2 ∧ p ≠ k + 3) : (upd s l k)[p]? = l[p]? := by
  unfold upd
  rw [List.getElem?_set_ne (by omega), List.getElem?_set_ne (by omega), List.getElem?_set_ne (by omega)]
theorem trans_other {s : Int} {b : Bs} {n p : Nat} (h : (mayOf n (scan b 0))[p]? = some false) : (trans s b)[p]? = b[p]? := by
  have h1 := marks_false _ _ h
  unfold trans
  have key : ∀ (S : List Nat) (l : Bs), (∀ k ∈ S, p ≠ k + 1 ∧ p ≠ k + 2 ∧ p ≠ k + 3) → (S.foldl (upd s) l)[p]? = l[p]? := by
    intro S
    induction S with
    | nil => intro l _; rfl
    | cons q S ih => intro l hl; rw [List.foldl_cons, ih _ (fun k hk => hl k (by simp [hk])), upd_other (hl q (by simp))]
  exact key _ _ h1
end Go.Proofs.Ythcagaklinkkpaa.M
