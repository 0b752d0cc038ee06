/- The plain law of chapter 34, third part: the run code. No program in sight. -/
import Derived.Test.YtgaifkjdaldmnaaM34
namespace Go.Proofs.Ytgaifkjdaldmnaa.M
set_option linter.unusedVariables false

/-- The digits of a number of zeros. -/
def dig (n : Nat) : Bs :=
  if n = 0 then [] else if n % 2 = 1 then 0 :: dig ((n - 1) / 2) else 1 :: dig ((n - 2) / 2)
termination_by n
decreasing_by all_goals omega
theorem dig_zero : dig 0 = [] := by rw [dig]; simp
theorem dig_odd {n : Nat} (h : n % 2 = 1) : dig n = 0 :: dig ((n - 1) / 2) := by rw [dig, if_neg (by omega), if_pos h]
theorem dig_even {n : Nat} (h0 : n ≠ 0) (h : n % 2 ≠ 1) : dig n = 1 :: dig ((n - 2) / 2) := by rw [dig, if_neg h0, if_neg h]
theorem dig_step {m : Nat} (h : 1 < m) : dig (m - 1) = UInt8.ofNat (m % 2) :: dig (m / 2 - 1) := by
  by_cases h2 : m % 2 = 0
  · rw [dig_odd (by omega), h2]
    rw [show (m - 1 - 1) / 2 = m / 2 - 1 by omega]; rfl
  · rw [dig_even (by omega) (by omega), show m % 2 = 1 by omega]
    rw [show (m - 1 - 2) / 2 = m / 2 - 1 by omega]; rfl
theorem dig_le_one (n : Nat) : ∀ d ∈ dig n, d = 0 ∨ d = 1 := by
  induction n using Nat.strongRecOn with
  | ind n ih =>
    intro d hd
    by_cases h0 : n = 0
    · subst h0; rw [dig_zero] at hd; cases hd
    · by_cases h : n % 2 = 1
      · rw [dig_odd h] at hd
        rcases List.mem_cons.1 hd with e | hd
        · exact .inl e
        · exact ih _ (by omega) d hd
      · rw [dig_even h0 h] at hd
        rcases List.mem_cons.1 hd with e | hd
        · exact .inr e
        · exact ih _ (by omega) d hd
theorem dig_length (n : Nat) : (dig n).length ≤ n := by
  induction n using Nat.strongRecOn with
  | ind n ih =>
    by_cases h0 : n = 0
    · subst h0; rw [dig_zero]; exact Nat.le_refl _
    · by_cases h : n % 2 = 1
      · rw [dig_odd h, List.length_cons]; have := ih ((n - 1) / 2) (by omega); omega
      · rw [dig_even h0 h, List.length_cons]; have := ih ((n - 2) / 2) (by omega); omega
/-- The number of the digits. -/
def val : Bs → Nat
  | [] => 0
  | d :: ds => d.toNat + 1 + 2 * val ds
theorem val_dig (n : Nat) : val (dig n) = n := by
  induction n using Nat.strongRecOn with
  | ind n ih =>
    by_cases h0 : n = 0
    · subst h0; rw [dig_zero]; rfl
    · by_cases h : n % 2 = 1
      · rw [dig_odd h]
        show 0 + 1 + 2 * val _ = n
        rw [ih _ (by omega)]; omega
      · rw [dig_even h0 h]
        show 1 + 1 + 2 * val _ = n
        rw [ih _ (by omega)]; omega
theorem dig_val (ds : Bs) (h : ∀ d ∈ ds, d = 0 ∨ d = 1) : dig (val ds) = ds := by
  induction ds with
  | nil => exact dig_zero
  | cons d ds ih =>
    have ih := ih (fun x hx => h x (by simp [hx]))
    rcases h d (by simp) with rfl | rfl
    · show dig (0 + 1 + 2 * val ds) = _
      rw [dig_odd (by omega), show (0 + 1 + 2 * val ds - 1) / 2 = val ds by omega, ih]
    · show dig (1 + 1 + 2 * val ds) = _
      rw [dig_even (by omega) (by omega), show (1 + 1 + 2 * val ds - 2) / 2 = val ds by omega, ih]
theorem val_pos (d : UInt8) (ds : Bs) : 0 < val (d :: ds) := by show 0 < d.toNat + 1 + 2 * val ds; omega

/-- How many zeros stand at the beginning. -/
def lead : Bs → Nat
  | [] => 0
  | x :: r => if x = 0 then lead r + 1 else 0
theorem lead_le (l : Bs) : lead l ≤ l.length := by
  induction l with
  | nil => exact Nat.le_refl _
  | cons x r ih => unfold lead; split <;> simp; exact ih
/-- The runs: bytes other than zeros, and zeros with how many there are. -/
def prs (b : Bs) : List (UInt8 × Nat) :=
  match b with
  | [] => []
  | x :: r => if x = 0 then (0, lead r + 1) :: prs (r.drop (lead r)) else (x, 1) :: prs r
termination_by b.length
decreasing_by all_goals simp [List.length_drop]; try omega
def enc (x : UInt8) : Bs := if 254 ≤ x then [255, x - 254] else [x + 1]
def encp (p : UInt8 × Nat) : Bs := if p.1 = 0 then dig p.2 else enc p.1
def code (b : Bs) : Bs := (prs b).flatMap encp
theorem prs_nil : prs [] = [] := by rw [prs]
theorem prs_zero (r : Bs) : prs (0 :: r) = (0, lead r + 1) :: prs (r.drop (lead r)) := by rw [prs]; simp
theorem prs_other {x : UInt8} (h : x ≠ 0) (r : Bs) : prs (x :: r) = (x, 1) :: prs r := by rw [prs]; simp [h]
theorem code_nil : code [] = [] := by unfold code; rw [prs_nil]; rfl
theorem code_zero (r : Bs) : code (0 :: r) = dig (lead r + 1) ++ code (r.drop (lead r)) := by
  unfold code; rw [prs_zero, List.flatMap_cons]; rfl
theorem code_other {x : UInt8} (h : x ≠ 0) (r : Bs) : code (x :: r) = enc x ++ code r := by
  unfold code; rw [prs_other h, List.flatMap_cons]
  show (if x = 0 then dig 1 else enc x) ++ _ = _
  rw [if_neg h]
/-- The way of the recursion. -/
theorem by_runs {P : Bs → Prop} (nil : P []) (zero : ∀ r, P (r.drop (lead r)) → P (0 :: r)) (other : ∀ x r, x ≠ 0 → P r → P (x :: r)) : ∀ b, P b := by
  intro b
  induction h : b.length using Nat.strongRecOn generalizing b with
  | ind n ih =>
    rcases b with _ | ⟨x, r⟩
    · exact nil
    · rw [List.length_cons] at h
      by_cases hx : x = 0
      · subst hx
        exact zero r (ih _ (by rw [List.length_drop]; omega) _ rfl)
      · exact other x r hx (ih r.length (by omega) _ rfl)
theorem enc_length (x : UInt8) : (enc x).length = if 254 ≤ x then 2 else 1 := by unfold enc; split <;> rfl
theorem code_length (b : Bs) : (code b).length ≤ 2 * b.length := by
  induction b using by_runs with
  | nil => rw [code_nil]; simp
  | zero r ih =>
    rw [code_zero, List.length_append, List.length_cons]
    have := dig_length (lead r + 1)
    have := lead_le r
    rw [List.length_drop] at ih
    omega
  | other x r hx ih =>
    rw [code_other hx, List.length_append, List.length_cons, enc_length]
    split <;> omega
theorem lead_replicate (k : Nat) (r : Bs) : lead (List.replicate k 0 ++ r) = k + lead r := by
  induction k with
  | zero => simp
  | succ k ih => rw [List.replicate_succ, List.cons_append]; show (if (0 : UInt8) = 0 then lead _ + 1 else 0) = _; rw [if_pos rfl, ih]; omega
theorem lead_split (r : Bs) : r = List.replicate (lead r) 0 ++ r.drop (lead r) := by
  induction r with
  | nil => rfl
  | cons x r ih =>
    by_cases hx : x = 0
    · subst hx
      have e : lead (0 :: r) = lead r + 1 := by show (if (0 : UInt8) = 0 then lead r + 1 else 0) = _; rw [if_pos rfl]
      rw [e, List.replicate_succ, List.cons_append, List.drop_succ_cons, ← ih]
    · have e : lead (x :: r) = 0 := by show (if x = 0 then lead r + 1 else 0) = _; rw [if_neg hx]
      rw [e]; rfl
theorem lead_drop (r : Bs) : lead (r.drop (lead r)) = 0 := by
  have h := congrArg lead (lead_split r)
  rw [lead_replicate] at h
  omega
theorem code_run (k : Nat) (h : 0 < k) (r : Bs) (hr : lead r = 0) : code (List.replicate k 0 ++ r) = dig k ++ code r := by
  obtain ⟨j, rfl⟩ : ∃ j, k = j + 1 := ⟨k - 1, by omega⟩
  rw [List.replicate_succ, List.cons_append, code_zero, lead_replicate, hr, Nat.add_zero]
  congr 2
  exact List.drop_left' (by simp)
/-! ### the runs, place by place -/
theorem lead_zero {r : Bs} {j : Nat} (h : j < lead r) : r[j]? = some 0 := by
  have e := lead_split r
  rw [e, List.getElem?_append_left (by simpa using h)]
  simp [h]
theorem lead_stop {r : Bs} {y : UInt8} (h : r[lead r]? = some y) : y ≠ 0 := by
  rintro rfl
  have h0 := lead_drop r
  have h1 : (r.drop (lead r))[0]? = some 0 := by rw [List.getElem?_drop]; exact h
  rcases hd : r.drop (lead r) with _ | ⟨z, t⟩
  · rw [hd] at h1; simp at h1
  · rw [hd] at h1 h0
    obtain rfl : z = 0 := by simpa using h1
    have : lead (0 :: t) = lead t + 1 := by show (if (0 : UInt8) = 0 then lead t + 1 else 0) = _; rw [if_pos rfl]
    omega
theorem drop_cons {b : Bs} {i : Nat} {x : UInt8} (h : b[i]? = some x) : b.drop i = x :: b.drop (i + 1) := by
  have hi := (List.getElem?_eq_some_iff.1 h).1
  rw [List.drop_eq_getElem_cons hi]
  rw [List.getElem?_eq_getElem hi] at h
  injection h with h
  rw [h]
theorem prs_drop_other {b : Bs} {i : Nat} {x : UInt8} (h : b[i]? = some x) (hx : x ≠ 0) : prs (b.drop i) = (x, 1) :: prs (b.drop (i + 1)) := by
  rw [drop_cons h, prs_other hx]
theorem prs_drop_zero {b : Bs} {i : Nat} (h : b[i]? = some 0) : prs (b.drop i) = (0, lead (b.drop (i + 1)) + 1) :: prs (b.drop (i + (lead (b.drop (i + 1)) + 1))) := by
  rw [drop_cons h, prs_zero, List.drop_drop]
  congr 3
  omega
theorem prs_end {b : Bs} {i : Nat} (h : b.length ≤ i) : prs (b.drop i) = [] := by
  rw [List.drop_of_length_le h, prs_nil]
theorem prs_bound (b : Bs) : ∀ p ∈ prs b, p.2 ≤ b.length := by
  induction b using by_runs with
  | nil => intro p hp; rw [prs_nil] at hp; cases hp
  | zero r ih =>
    intro p hp
    rw [prs_zero] at hp
    have hl := lead_le r
    rcases List.mem_cons.1 hp with rfl | hp
    · show lead r + 1 ≤ _; simp; exact hl
    · have := ih p hp; rw [List.length_drop] at this; simp; omega
  | other x r hx ih =>
    intro p hp
    rw [prs_other hx] at hp
    rcases List.mem_cons.1 hp with rfl | hp
    · show 1 ≤ _; simp
    · have := ih p hp; simp; omega
theorem prs_length (b : Bs) : (prs b).length ≤ b.length := by
  induction b using by_runs with
  | nil => rw [prs_nil]; exact Nat.le_refl _
  | zero r ih => rw [prs_zero, List.length_cons, List.length_cons]; rw [List.length_drop] at ih; omega
  | other x r hx ih => rw [prs_other hx, List.length_cons, List.length_cons]; omega
end Go.Proofs.Ytgaifkjdaldmnaa.M
