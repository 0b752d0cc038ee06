/- Plain law of chapter 05: the windows of a string, and the places. No program in sight. -/
import Derived.Test.YtcdaieoondmljaaM05
namespace Go.Proofs.Ytcdaieoondmljaa.M
set_option linter.unusedVariables false

/-- The last k of the first i bytes. -/
def win (b : Bs) (k i : Nat) : Bs := (b.take i).drop (i - k)
theorem win_short {b : Bs} {k i : Nat} {x : UInt8} (hx : b[i]? = some x) (h : i < k) : win b k (i + 1) = win b k i ++ [x] := by
  unfold win
  rw [show i + 1 - k = 0 by omega, show i - k = 0 by omega, List.drop_zero, List.drop_zero, List.take_add_one, hx]; rfl
theorem win_full {b : Bs} {k i : Nat} {x y : UInt8} (hx : b[i]? = some x) (h : k ≤ i) (hk : 1 ≤ k) (hy : b[i - k]? = some y) : ∃ r, win b k i = y :: r ∧ win b k (i + 1) = r ++ [x] ∧ r.length + 1 = k := by
  have hi := (List.getElem?_eq_some_iff.1 hx).1
  have hl : (b.take i).length = i := by rw [List.length_take]; omega
  have e1 : (b.take i)[i - k]? = some y := by rw [List.getElem?_take, if_pos (by omega)]; exact hy
  obtain ⟨h1, h2⟩ := List.getElem?_eq_some_iff.1 e1
  refine ⟨(b.take i).drop (i - k + 1), ?_, ?_, ?_⟩
  · unfold win
    rw [List.drop_eq_getElem_cons h1, h2]
  · unfold win
    rw [show i + 1 - k = i - k + 1 by omega, List.take_add_one, hx]
    show (b.take i ++ [x]).drop _ = _
    rw [List.drop_append_of_le_length (by rw [hl]; omega)]
  · rw [List.length_drop, hl]; omega
theorem hash_short {b : Bs} {k i : Nat} {x : UInt8} (hx : b[i]? = some x) (h : i < k) : rot (hsh (win b k i)) 1 ^^^ val x = hsh (win b k (i + 1)) := by
  rw [win_short hx h, hsh_snoc]
theorem hash_full {b : Bs} {k i : Nat} {x y : UInt8} (hx : b[i]? = some x) (h : k ≤ i) (hk : 1 ≤ k) (hy : b[i - k]? = some y) : rot (hsh (win b k i)) 1 ^^^ val x ^^^ rot (val y) k = hsh (win b k (i + 1)) := by
  obtain ⟨r, h1, h2, h3⟩ := win_full hx h hk hy
  rw [h1, h2]
  exact hsh_roll y x r h3
theorem win_zero (b : Bs) (k : Nat) : win b k 0 = [] := by unfold win; simp
theorem win_length {b : Bs} {k i : Nat} (h1 : k ≤ i) (h2 : i ≤ b.length) : (win b k i).length = k := by unfold win; rw [List.length_drop, List.length_take]; omega

abbrev Pr := Nat × R
/-- The windows that end from j on, with their hashes. -/
def pf (b : Bs) (k j : Nat) : List Pr := (List.range' (max k j) (b.length + 1 - max k j)).map fun i => (i, hsh (win b k i))
def prs (b : Bs) (k : Nat) : List Pr := pf b k 0
theorem pf_hit {b : Bs} {k j : Nat} (h : k ≤ j) (hj : j ≤ b.length) : pf b k j = (j, hsh (win b k j)) :: pf b k (j + 1) := by
  unfold pf
  rw [show max k j = j by omega, show max k (j + 1) = j + 1 by omega, show b.length + 1 - j = (b.length + 1 - (j + 1)) + 1 by omega, List.range'_succ]; rfl
theorem pf_pass {b : Bs} {k j : Nat} (h : j < k) : pf b k j = pf b k (j + 1) := by
  unfold pf
  rw [show max k j = k by omega, show max k (j + 1) = k by omega]
theorem pf_end {b : Bs} {k j : Nat} (h : b.length < j) : pf b k j = [] := by
  unfold pf
  rw [show b.length + 1 - max k j = 0 by omega]; rfl
theorem prs_one {b : Bs} {k : Nat} (hk : 1 ≤ k) : prs b k = pf b k 1 := pf_pass (by omega)
theorem prs_length (b : Bs) (k : Nat) : (prs b k).length = b.length + 1 - k := by unfold prs pf; simp
/-- The places among pairs. -/
def plc (m : R) (l : List Pr) : List Nat := (l.filter fun p => p.2 &&& m == 0#32).map Prod.fst
theorem plc_append (m : R) (l l' : List Pr) : plc m (l ++ l') = plc m l ++ plc m l' := by unfold plc; simp
theorem plc_hit {m : R} {p : Pr} (h : p.2 &&& m = 0#32) : plc m [p] = [p.1] := by unfold plc; simp [h]
theorem plc_miss {m : R} {p : Pr} (h : p.2 &&& m ≠ 0#32) : plc m [p] = [] := by unfold plc; simp [h]
theorem plc_length (m : R) (l : List Pr) : (plc m l).length ≤ l.length := by unfold plc; simp; exact List.length_filter_le _ _
def places (b : Bs) (k : Nat) (m : R) : List Nat := plc m (prs b k)
theorem mem_places {b : Bs} {k : Nat} {m : R} {i : Nat} : i ∈ places b k m ↔ k ≤ i ∧ i ≤ b.length ∧ hsh (win b k i) &&& m = 0#32 := by
  have h0 : ∀ p : Pr, p ∈ prs b k ↔ k ≤ p.1 ∧ p.1 ≤ b.length ∧ p.2 = hsh (win b k p.1) := by
    rintro ⟨a, r⟩
    unfold prs pf
    rw [Nat.max_zero, List.mem_map]
    constructor
    · rintro ⟨j, hj, e⟩
      rw [List.mem_range'_1] at hj
      injection e with e1 e2
      subst e1
      exact ⟨hj.1, by show j ≤ _; omega, e2.symm⟩
    · rintro ⟨h1, h2, h3⟩
      replace h1 : k ≤ a := h1
      replace h2 : a ≤ b.length := h2
      replace h3 : r = _ := h3
      exact ⟨a, by rw [List.mem_range'_1]; omega, by rw [h3]⟩
  unfold places plc
  rw [List.mem_map]
  constructor
  · rintro ⟨p, hp, rfl⟩
    rw [List.mem_filter, h0] at hp
    exact ⟨hp.1.1, hp.1.2.1, by rw [← hp.1.2.2]; simpa using hp.2⟩
  · rintro ⟨h1, h2, h3⟩
    exact ⟨(i, hsh (win b k i)), by rw [List.mem_filter, h0]; exact ⟨⟨h1, h2, rfl⟩, by simp [h3]⟩, rfl⟩
end Go.Proofs.Ytcdaieoondmljaa.M
