/- Plain law of chapter 45: cutting by content. No program in sight. -/
import Derived.Test.YtcdaieoondmljaaM05P
namespace Go.Proofs.Ytcdaieoondmljaa.M
set_option linter.unusedVariables false

def isPow (u : Int) : Bool := (List.range 15).any fun j => u == ((2 ^ (j + 1) : Nat) : Int)
/-- The error of parameters. -/
def chkC (le us mo wi : Int) : Int := if wi < 1 ∨ 64 < wi ∨ le < wi ∨ mo < le ∨ 65536 < mo then 2 else if isPow us = true then 0 else 1
theorem land_all : (List.range 32769).all (fun u => decide (u < 2) || ((u &&& (u - 1) == 0) == (List.range 15).any fun j => u == 2 ^ (j + 1))) = true := by decide +kernel
theorem land_pow {u : Nat} (h1 : 2 ≤ u) (h2 : u ≤ 32768) : (u &&& (u - 1) = 0) ↔ isPow (u : Int) = true := by
  have h := List.all_eq_true.1 land_all u (by rw [List.mem_range]; omega)
  rw [decide_eq_false (by omega), Bool.false_or] at h
  have e : isPow (u : Int) = (List.range 15).any fun j => u == 2 ^ (j + 1) := by
    unfold isPow
    congr 1
    funext j
    rw [Bool.eq_iff_iff, beq_iff_eq, beq_iff_eq]
    exact ⟨fun e => Int.ofNat.inj e, fun e => by rw [e]⟩
  rw [e]
  rw [beq_iff_eq] at h
  rw [← h, beq_iff_eq]
theorem isPow_iff {u : Int} : isPow u = true ↔ ∃ j : Nat, j < 15 ∧ u = ((2 ^ (j + 1) : Nat) : Int) := by
  unfold isPow
  rw [List.any_eq_true]
  constructor
  · rintro ⟨j, hj, h⟩; exact ⟨j, List.mem_range.1 hj, by simpa using h⟩
  · rintro ⟨j, hj, h⟩; exact ⟨j, List.mem_range.2 hj, by simpa using h⟩
theorem isPow_bd {u : Int} (h : isPow u = true) : 2 ≤ u ∧ u ≤ 32768 := by
  obtain ⟨j, hj, rfl⟩ := isPow_iff.1 h
  have h1 : 2 ^ (j + 1) ≤ 2 ^ 15 := Nat.pow_le_pow_right (by decide) (by omega)
  have h2 : 2 ^ 1 ≤ 2 ^ (j + 1) := Nat.pow_le_pow_right (by decide) (by omega)
  have e1 : (2 : Nat) ^ 15 = 32768 := rfl
  have e2 : (2 : Nat) ^ 1 = 2 := rfl
  omega
/-- Correct parameters. -/
structure Fine (le us mo wi : Nat) : Prop where
  w1 : 1 ≤ wi
  w2 : wi ≤ 64
  l1 : wi ≤ le
  m1 : le ≤ mo
  m2 : mo ≤ 65536
  u1 : 2 ≤ us
  u2 : us ≤ 32768
theorem chk_nat {le us mo wi : Int} (h : chkC le us mo wi = 0) : ∃ le' us' mo' wi' : Nat, le = (le' : Int) ∧ us = (us' : Int) ∧ mo = (mo' : Int) ∧ wi = (wi' : Int) ∧ Fine le' us' mo' wi' := by
  unfold chkC at h
  split at h
  · cases h
  · rename_i h1
    split at h
    · rename_i h2
      obtain ⟨h3, h4⟩ := isPow_bd h2
      exact ⟨le.toNat, us.toNat, mo.toNat, wi.toNat, by omega, by omega, by omega, by omega, by omega, by omega, by omega, by omega, by omega, by omega, by omega⟩
    · cases h

/-- The end of the fragment that begins at a place: the first place from at + le on, at most mo further, at most the end. -/
def nxt (P : List Nat) (le mo N at' : Nat) : Nat := match P.find? (fun p => decide (at' + le ≤ p)) with
  | some p => min p (min (at' + mo) N)
  | none => min (at' + mo) N
theorem nxt_gt {P : List Nat} {le mo N a : Nat} (h1 : 1 ≤ le) (h2 : le ≤ mo) (ha : a < N) : a < nxt P le mo N a := by
  unfold nxt
  split
  · rename_i p hp
    have := List.find?_some hp
    simp at this
    omega
  · omega
theorem nxt_le {P : List Nat} {le mo N a : Nat} : nxt P le mo N a ≤ N := by
  unfold nxt; split <;> omega
theorem nxt_most {P : List Nat} {le mo N a : Nat} : nxt P le mo N a ≤ a + mo := by
  unfold nxt; split <;> omega
abbrev Ex := Nat × Nat
/-- The fragments from a place on. -/
def frs (f : Nat → Nat) (N : Nat) : Nat → Nat → List Ex
  | 0, _ => []
  | k + 1, a => if a < N then (a, f a - a) :: frs f N k (f a) else []
theorem frs_fuel (f : Nat → Nat) (N : Nat) (hf : ∀ a, a < N → a < f a) : ∀ k k' a, N - a ≤ k → N - a ≤ k' → frs f N k a = frs f N k' a := by
  intro k
  induction k with
  | zero =>
    intro k' a h1 h2
    cases k' with
    | zero => rfl
    | succ k' => unfold frs; rw [if_neg (by omega)]
  | succ k ih =>
    intro k' a h1 h2
    cases k' with
    | zero => unfold frs; rw [if_neg (by omega)]
    | succ k' =>
      unfold frs
      by_cases h : a < N
      · rw [if_pos h, if_pos h, ih k' (f a) (by have := hf a h; omega) (by have := hf a h; omega)]
      · rw [if_neg h, if_neg h]
def frg (f : Nat → Nat) (N a : Nat) : List Ex := frs f N N a
theorem frg_step {f : Nat → Nat} {N a : Nat} (hf : ∀ a, a < N → a < f a) (h : a < N) : frg f N a = (a, f a - a) :: frg f N (f a) := by
  unfold frg
  obtain ⟨k, rfl⟩ : ∃ k, N = k + 1 := ⟨N - 1, by omega⟩
  rw [show frs f (k + 1) (k + 1) a = (a, f a - a) :: frs f (k + 1) k (f a) by rw [frs, if_pos h]]
  rw [frs_fuel f (k + 1) hf k (k + 1) (f a) (by have := hf a h; omega) (by omega)]
theorem frg_end {f : Nat → Nat} {N a : Nat} (h : N ≤ a) : frg f N a = [] := by
  unfold frg
  cases N with
  | zero => rfl
  | succ k => rw [frs, if_neg (by omega)]
theorem frg_length (f : Nat → Nat) (N : Nat) (hf : ∀ a, a < N → a < f a) : ∀ k a, N - a ≤ k → (frg f N a).length ≤ k := by
  intro k
  induction k with
  | zero => intro a h; rw [frg_end (by omega)]; simp
  | succ k ih =>
    intro a h
    by_cases ha : a < N
    · rw [frg_step hf ha, List.length_cons]
      have := ih (f a) (by have := hf a ha; omega)
      omega
    · rw [frg_end (by omega)]; simp
end Go.Proofs.Ytcdaieoondmljaa.M
