/- Plain: the bits of tokens, their packing into bytes, and reading them back. No program in sight. -/
import Derived.Test.YtfahfbkkgcekgaaM36A
namespace Go.Proofs.Ytfahfbkkgcekgaa.M
set_option linter.unusedVariables false
open Go

/-- The c lowest binary digits of n, the greatest first. -/
def numB (c n : Nat) : List Bool := (List.range c).map fun i => n.testBit (c - 1 - i)
theorem numB_length (c n : Nat) : (numB c n).length = c := by simp [numB]
theorem numB_get {c n i : Nat} (h : i < c) : (numB c n)[i]? = some (n.testBit (c - 1 - i)) := by simp [numB, h]
def tokB (t : Tok) : List Bool := if t.1 = 0 then numB 9 t.2.2.toNat else true :: (numB (gb (t.1 - 1)) (t.1 - 1) ++ numB (gb t.2.1) t.2.1)
theorem tokB_length (t : Tok) : (tokB t).length = price t := by
  unfold tokB price
  by_cases h : t.1 = 0
  · rw [if_pos h, if_pos h, numB_length]
  · rw [if_neg h, if_neg h, List.length_cons, List.length_append, numB_length, numB_length]; omega
def encB (l : List Tok) : List Bool := l.flatMap tokB
theorem encB_cons (t : Tok) (l : List Tok) : encB (t :: l) = tokB t ++ encB l := rfl
theorem encB_append (l l' : List Tok) : encB (l ++ l') = encB l ++ encB l' := by unfold encB; rw [List.flatMap_append]
theorem encB_length : ∀ l : List Tok, (encB l).length = cost l
  | [] => rfl
  | t :: l => by rw [encB_cons, List.length_append, tokB_length, encB_length l, cost_cons]
theorem cost_append (l l' : List Tok) : cost (l ++ l') = cost l + cost l' := by unfold cost; rw [List.map_append, List.sum_append]

/-- Bit i of a byte string, the most significant one of each byte first. -/
def bitD (D : Bs) (i : Nat) : Bool := (D.getD (i / 8) 0).toNat.testBit (7 - i % 8)
/-- D holds just these bits, and zeros behind them. -/
def BR (D : Bs) (B : List Bool) : Prop := D.length = (B.length + 7) / 8 ∧ ∀ i, bitD D i = B.getD i false
theorem BR_nil : BR [] [] := ⟨rfl, fun i => by show (([] : Bs).getD (i / 8) 0).toNat.testBit _ = false; simp⟩
theorem BR_zero {D : Bs} {B : List Bool} (h : BR D B) (h8 : B.length % 8 = 0) : (D ++ [0]).length = B.length / 8 + 1 ∧ ∀ i, bitD (D ++ [0]) i = B.getD i false := by
  refine ⟨by rw [List.length_append, h.1]; show _ + 1 = _; omega, fun i => ?_⟩
  rw [← h.2 i]
  unfold bitD
  by_cases hi : i / 8 < D.length
  · rw [List.getD_eq_getElem?_getD, List.getElem?_append_left hi, ← List.getD_eq_getElem?_getD]
  · have e1 : D.getD (i / 8) 0 = 0 := by rw [List.getD_eq_getElem?_getD, List.getElem?_eq_none (by omega)]; rfl
    have e2 : (D ++ [0]).getD (i / 8) 0 = 0 := by
      rw [List.getD_eq_getElem?_getD, List.getElem?_append_right (by omega)]
      cases hk : i / 8 - D.length with
      | zero => rfl
      | succ k => rfl
    rw [e1, e2]
theorem BR_same {D : Bs} {B : List Bool} (h : BR D B) (h8 : ¬ B.length % 8 = 0) : D.length = B.length / 8 + 1 := by have := h.1; omega
/-- One bit more, where its byte is there. -/
theorem BR_push {D : Bs} {B : List Bool} {x : Bool} {v : UInt8} (hl : D.length = B.length / 8 + 1) (hb : ∀ i, bitD D i = B.getD i false) (hv : v.toNat = (D.getD (B.length / 8) 0).toNat ||| (x.toNat * 2 ^ (7 - B.length % 8))) :
    BR (D.set (B.length / 8) v) (B ++ [x]) := by
  refine ⟨by rw [List.length_set, hl, List.length_append]; show _ = (B.length + 1 + 7) / 8; omega, fun i => ?_⟩
  by_cases hi : i / 8 = B.length / 8
  · have e1 : (D.set (B.length / 8) v).getD (i / 8) 0 = v := by
      rw [List.getD_eq_getElem?_getD, hi, List.getElem?_set, if_pos rfl, if_pos (by omega)]; rfl
    have h1 := hb i
    unfold bitD at h1 ⊢
    rw [e1, hv, Nat.testBit_or, ← hi, h1]
    have hx : (x.toNat * 2 ^ (7 - B.length % 8)).testBit (7 - i % 8) = (x && decide (i = B.length)) := by
      cases x with
      | false => simp
      | true =>
        rw [show true.toNat = 1 from rfl, Nat.one_mul, Nat.testBit_two_pow, Bool.true_and]
        by_cases e : i = B.length
        · subst e; simp
        · rw [decide_eq_false e, decide_eq_false (by omega)]
    rw [hx]
    by_cases e : i = B.length
    · subst e
      have e2 : B.getD B.length false = false := by rw [List.getD_eq_getElem?_getD, List.getElem?_eq_none (Nat.le_refl _)]; rfl
      have e3 : (B ++ [x]).getD B.length false = x := by rw [List.getD_eq_getElem?_getD, List.getElem?_append_right (Nat.le_refl _), Nat.sub_self]; rfl
      rw [e2, e3]; simp
    · rw [decide_eq_false e, Bool.and_false, Bool.or_false]
      rcases Nat.lt_or_ge i B.length with h2 | h2
      · rw [List.getD_eq_getElem?_getD, List.getD_eq_getElem?_getD, List.getElem?_append_left h2]
      · rw [List.getD_eq_getElem?_getD, List.getD_eq_getElem?_getD, List.getElem?_eq_none h2, List.getElem?_eq_none (by rw [List.length_append]; show B.length + 1 ≤ i; omega)]
  · have e1 : (D.set (B.length / 8) v).getD (i / 8) 0 = D.getD (i / 8) 0 := by
      rw [List.getD_eq_getElem?_getD, List.getElem?_set, if_neg (fun h => hi h.symm), ← List.getD_eq_getElem?_getD]
    have h1 := hb i
    unfold bitD at h1 ⊢
    rw [e1, h1]
    rcases Nat.lt_or_ge i B.length with h2 | h2
    · rw [List.getD_eq_getElem?_getD, List.getD_eq_getElem?_getD, List.getElem?_append_left h2]
    · rw [List.getD_eq_getElem?_getD, List.getD_eq_getElem?_getD, List.getElem?_eq_none h2, List.getElem?_eq_none (by rw [List.length_append]; show B.length + 1 ≤ i; have : i ≠ B.length := fun e => hi (by rw [e]); omega)]

/-- The number that bits mean. -/
def valB (l : List Bool) : Nat := l.foldl (fun n x => 2 * n + x.toNat) 0
theorem valB_snoc (l : List Bool) (x : Bool) : valB (l ++ [x]) = 2 * valB l + x.toNat := by unfold valB; rw [List.foldl_append]; rfl
/-- The bits of D from a on. -/
def bitsD (D : Bs) (a c : Nat) : List Bool := (List.range c).map fun i => bitD D (a + i)
theorem bitsD_succ (D : Bs) (a c : Nat) : bitsD D a (c + 1) = bitsD D a c ++ [bitD D (a + c)] := by unfold bitsD; rw [List.range_succ, List.map_append]; rfl
def rd (D : Bs) (a c : Nat) : Nat := valB (bitsD D a c)
theorem rd_zero (D : Bs) (a : Nat) : rd D a 0 = 0 := rfl
theorem rd_succ (D : Bs) (a c : Nat) : rd D a (c + 1) = 2 * rd D a c + (bitD D (a + c)).toNat := by unfold rd; rw [bitsD_succ, valB_snoc]
theorem rd_lt (D : Bs) (a : Nat) : ∀ c, rd D a c < 2 ^ c
  | 0 => by rw [rd_zero]; decide
  | c + 1 => by
    have h1 := rd_lt D a c
    have h2 : (bitD D (a + c)).toNat ≤ 1 := by cases bitD D (a + c) <;> decide
    rw [rd_succ, Nat.pow_succ]; omega
/-- What stands at place a. -/
def At (D : Bs) (a : Nat) (L : List Bool) : Prop := ∀ i x, L[i]? = some x → bitD D (a + i) = x
theorem At.of_BR {D : Bs} {P L S : List Bool} (h : BR D (P ++ (L ++ S))) : At D P.length L := fun i x hx => by
  have hi := (List.getElem?_eq_some_iff.1 hx).1
  rw [h.2, List.getD_eq_getElem?_getD, List.getElem?_append_right (by omega), Nat.add_sub_cancel_left, List.getElem?_append_left hi, hx]; rfl
theorem At.left {D : Bs} {a : Nat} {L L' : List Bool} (h : At D a (L ++ L')) : At D a L := fun i x hx => h i x (by rw [List.getElem?_append_left (List.getElem?_eq_some_iff.1 hx).1]; exact hx)
theorem At.right {D : Bs} {a : Nat} {L L' : List Bool} (h : At D a (L ++ L')) : At D (a + L.length) L' := fun i x hx => by
  have := h (L.length + i) x (by rw [List.getElem?_append_right (by omega), Nat.add_sub_cancel_left]; exact hx)
  rw [Nat.add_assoc]; exact this
theorem At.rd_pre {D : Bs} {a c n : Nat} (h : At D a (numB c n)) : ∀ k, k ≤ c → rd D a k = n / 2 ^ (c - k) % 2 ^ k
  | 0, _ => by rw [rd_zero, Nat.pow_zero, Nat.mod_one]
  | k + 1, hk => by
    have h1 := At.rd_pre h k (by omega)
    have h2 := h k _ (numB_get (by omega))
    rw [rd_succ, h1, h2, Nat.testBit_eq_decide_div_mod_eq]
    have e1 : c - 1 - k = c - (k + 1) := by omega
    have e2 : c - k = (c - (k + 1)) + 1 := by omega
    rw [e1, e2, Nat.pow_succ, ← Nat.div_div_eq_div_mul]
    generalize n / 2 ^ (c - (k + 1)) = m
    have h3 : m % 2 ^ (k + 1) = 2 * (m / 2 % 2 ^ k) + m % 2 := by
      rw [Nat.pow_succ, Nat.mul_comm (2 ^ k) 2, Nat.mod_mul]; omega
    rw [h3]
    have h4 : m % 2 = 0 ∨ m % 2 = 1 := by omega
    rcases h4 with h4 | h4 <;> simp [h4]
theorem At.read {D : Bs} {a c n : Nat} (h : At D a (numB c n)) (hn : n < 2 ^ c) : rd D a c = n := by
  rw [h.rd_pre c (Nat.le_refl _), Nat.sub_self, Nat.pow_zero, Nat.div_one, Nat.mod_eq_of_lt hn]
theorem bitLenAux_spec : ∀ (f n : Nat), n < 2 ^ f → n < 2 ^ Lib.bitLenAux f n ∧ (1 ≤ n → 1 ≤ Lib.bitLenAux f n ∧ 2 ^ (Lib.bitLenAux f n - 1) ≤ n)
  | 0, n, h => by
    have : n = 0 := by simpa using h
    subst this
    exact ⟨by decide, fun h => by omega⟩
  | f + 1, n, h => by
    unfold Lib.bitLenAux
    by_cases hn : n = 0
    · rw [if_pos hn]; exact ⟨by rw [hn]; decide, fun h => by omega⟩
    · rw [if_neg hn]
      obtain ⟨h1, h2⟩ := bitLenAux_spec f (n / 2) (by rw [Nat.pow_succ] at h; omega)
      refine ⟨by rw [Nat.add_comm, Nat.pow_succ]; omega, fun _ => ⟨by omega, ?_⟩⟩
      rw [Nat.add_sub_cancel_left]
      rcases Nat.eq_zero_or_pos (n / 2) with h3 | h3
      · rw [h3]
        cases f with
        | zero => show 2 ^ 0 ≤ n; simp; omega
        | succ f => unfold Lib.bitLenAux; rw [if_pos rfl]; simp; omega
      · obtain ⟨h4, h5⟩ := h2 h3
        have : 2 ^ Lib.bitLenAux f (n / 2) = 2 ^ (Lib.bitLenAux f (n / 2) - 1) * 2 := by
          rw [← Nat.pow_succ]; congr 1; omega
        omega
theorem bitLen_spec {n : Nat} (h1 : 1 ≤ n) (h2 : n < 2 ^ 64) : 1 ≤ Lib.bitLen n ∧ n < 2 ^ Lib.bitLen n ∧ 2 ^ (Lib.bitLen n - 1) ≤ n := by
  obtain ⟨h3, h4⟩ := bitLenAux_spec 64 n h2
  exact ⟨(h4 h1).1, h3, (h4 h1).2⟩
/-- A gamma code. -/
theorem At.gamma {D : Bs} {a n k : Nat} (h1 : 1 ≤ n) (h2 : n < 2 ^ 64) (hk : Lib.bitLen n = k) (h : At D a (numB (gb n) n)) : 1 ≤ k ∧ gb n = 2 * k - 1 ∧ (∀ i, i < k - 1 → bitD D (a + i) = false) ∧ bitD D (a + (k - 1)) = true ∧ rd D (a + (k - 1)) k = n := by
  obtain ⟨h3, h4, h5⟩ := bitLen_spec h1 h2
  rw [hk] at h3 h4 h5
  have hg : gb n = 2 * k - 1 := by unfold gb; rw [hk]
  rw [hg] at h
  refine ⟨h3, hg, fun i hi => ?_, ?_, ?_⟩
  · rw [h i _ (numB_get (by omega))]
    refine Nat.testBit_lt_two_pow (Nat.lt_of_lt_of_le h4 (Nat.pow_le_pow_right (by decide) (by omega)))
  · rw [h (k - 1) _ (numB_get (by omega)), show 2 * k - 1 - 1 - (k - 1) = k - 1 by omega]
    rw [Nat.testBit_eq_decide_div_mod_eq, decide_eq_true_iff]
    have : n / 2 ^ (k - 1) = 1 := by
      have h6 : 2 ^ k = 2 ^ (k - 1) * 2 := by rw [← Nat.pow_succ]; congr 1; omega
      apply Nat.div_eq_of_lt_le
      · omega
      · rw [show (1 + 1) * 2 ^ (k - 1) = 2 ^ (k - 1) * 2 by omega]; omega
    rw [this]
  · refine At.read (n := n) (c := k) ?_ h4
    intro i x hx
    have hi : i < k := by have := (List.getElem?_eq_some_iff.1 hx).1; rwa [numB_length] at this
    rw [numB_get hi] at hx
    rw [Nat.add_assoc, h (k - 1 + i) _ (numB_get (by omega)), show 2 * k - 1 - 1 - (k - 1 + i) = k - 1 - i by omega]
    injection hx
/-- Zeros read as 0, and a 1 at the head as no 0. -/
theorem rd_zeros {D : Bs} {a : Nat} : ∀ c, (∀ i, i < c → bitD D (a + i) = false) → rd D a c = 0
  | 0, _ => rfl
  | c + 1, h => by rw [rd_succ, rd_zeros c (fun i hi => h i (by omega)), h c (by omega)]; rfl
theorem rd_pos {D : Bs} {a : Nat} (h : bitD D a = true) : ∀ c, 1 ≤ rd D a (c + 1)
  | 0 => by rw [rd_succ, Nat.add_zero, h, rd_zero]; decide
  | c + 1 => by have := rd_pos h c; rw [rd_succ]; omega
end Go.Proofs.Ytfahfbkkgcekgaa.M
