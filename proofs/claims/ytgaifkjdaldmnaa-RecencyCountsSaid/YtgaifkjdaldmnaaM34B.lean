/- The plain law of chapter 34, second part: how many different bytes stood since. No program in sight. -/
import Derived.Test.YtgaifkjdaldmnaaM34
namespace Go.Proofs.Ytgaifkjdaldmnaa.M
set_option linter.unusedVariables false

theorem idx_erase {y c : UInt8} (hy : y ≠ c) (l : Bs) (hc : c ∈ l) : (l.erase c).idxOf y + (if l.idxOf c < l.idxOf y then 1 else 0) = l.idxOf y := by
  induction l with
  | nil => cases hc
  | cons a l ih =>
    by_cases ha : a = c
    · subst ha
      rw [List.erase_cons_head, idx_cons_self, idx_cons_ne l hy.symm, if_pos (by omega)]
    · rw [List.erase_cons_tail (by simpa using ha)]
      have hc' : c ∈ l := by rcases List.mem_cons.1 hc with e | h; exact absurd e.symm ha; exact h
      by_cases h2 : a = y
      · subst h2
        rw [idx_cons_self, idx_cons_self, if_neg (by omega)]
      · rw [idx_cons_ne _ h2, idx_cons_ne _ h2, idx_cons_ne _ ha]
        have := ih hc'
        by_cases h3 : l.idxOf c < l.idxOf y
        · rw [if_pos h3] at this; rw [if_pos (by omega)]; omega
        · rw [if_neg h3] at this; rw [if_neg (by omega)]; omega
theorem idx_mv {y c : UInt8} (hy : y ≠ c) {l : Bs} (hc : c ∈ l) : (mv l c).idxOf y = l.idxOf y + (if l.idxOf c < l.idxOf y then 0 else 1) := by
  have := idx_erase hy l hc
  unfold mv
  rw [idx_cons_ne _ hy.symm]
  split at this <;> rename_i h
  · rw [if_pos h]; omega
  · rw [if_neg h]; omega

/-- How many different bytes; the last one counts if it is new. -/
def dcr : Bs → Nat
  | [] => 0
  | c :: l => dcr l + if c ∈ l then 0 else 1
def dcount (l : Bs) : Nat := dcr l.reverse
theorem dcount_snoc (l : Bs) (c : UInt8) : dcount (l ++ [c]) = dcount l + if c ∈ l then 0 else 1 := by
  unfold dcount
  rw [List.reverse_append]
  show dcr l.reverse + _ = _
  simp
theorem dcount_le (l : Bs) : dcount l ≤ l.length := by
  unfold dcount
  have : ∀ l, dcr l ≤ l.length := by
    intro l
    induction l with
    | nil => exact Nat.le_refl _
    | cons c l ih => unfold dcr; rw [List.length_cons]; split <;> omega
  have := this l.reverse
  rwa [List.length_reverse] at this

theorem fin_append (l a b : Bs) : fin l (a ++ b) = fin (fin l a) b := by unfold fin; rw [List.foldl_append]
/-- Behind its last occurrence a byte's place is the number of the different bytes since then. -/
theorem since {l : Bs} (h : Full l) (y : UInt8) (q : Bs) (hq : y ∉ q) : (fin (mv l y) q).idxOf y = dcount q ∧ ∀ z, z ≠ y → (before (fin (mv l y) q) z y ↔ z ∈ q) := by
  have key : ∀ (n : Nat) (q : Bs), q.length = n → y ∉ q → (fin (mv l y) q).idxOf y = dcount q ∧ ∀ z, z ≠ y → (before (fin (mv l y) q) z y ↔ z ∈ q) := by
    intro n
    induction n with
    | zero =>
      intro q hl _
      obtain rfl := List.eq_nil_of_length_eq_zero hl
      refine ⟨?_, fun z _ => ?_⟩
      · show (mv l y).idxOf y = 0
        unfold mv; rw [idx_cons_self]
      · constructor
        · intro hb; exact absurd hb (not_before_head l y z)
        · intro hz; cases hz
    | succ n ih =>
      intro q hl hq
      obtain ⟨q', c, rfl⟩ : ∃ q' c, q = q' ++ [c] := ⟨q.dropLast, q.getLast (by intro e; subst e; simp at hl), (List.dropLast_concat_getLast _).symm⟩
      have hq' : y ∉ q' := fun hm => hq (by simp [hm])
      have hc : y ≠ c := fun e => hq (by simp [e])
      obtain ⟨h1, h2⟩ := ih q' (by simpa using hl) hq'
      have hF := ((h.mv y).fin q').all c
      rw [fin_snoc, dcount_snoc]
      refine ⟨?_, fun z hz => ?_⟩
      · rw [idx_mv hc hF, h1]
        have := h2 c hc.symm
        unfold before at this
        rw [h1] at this
        by_cases hm : c ∈ q'
        · rw [if_pos hm, if_pos (this.2 hm)]
        · rw [if_neg hm, if_neg (fun hb => hm (this.1 hb))]
      · rw [before_mv hc, h2 z hz, List.mem_append, List.mem_singleton]
        constructor
        · rintro (e | e); exact .inr e; exact .inl e
        · rintro (e | e); exact .inr e; exact .inl e
  exact key _ q rfl hq
/-- The last place of a byte in a string. -/
def lastIdx (l : Bs) (y : UInt8) : Option Nat := (List.range l.length).reverse.find? (fun k => l.getD k 0 == y)
theorem fresh_idx (y : UInt8) : fresh.idxOf y = y.toNat := by
  have h := fresh_full.idx_at (k := y.toNat) y.toNat_lt
  rw [List.getD_eq_getElem?_getD, fresh_at y.toNat_lt, UInt8.ofNat_toNat] at h
  exact h
theorem never {l : Bs} (h : Full l) (y : UInt8) (q : Bs) (hq : y ∉ q) : l.idxOf y ≤ (fin l q).idxOf y := by
  induction q generalizing l with
  | nil => exact Nat.le_refl _
  | cons c q ih =>
    have hc : y ≠ c := fun e => hq (by simp [e])
    have h1 := idx_mv hc (h.all c)
    have h2 := ih (h.mv c) (fun hm => hq (by simp [hm]))
    show _ ≤ (fin (mv l c) q).idxOf y
    split at h1 <;> omega
/-- What CountsForward asks at a place. -/
theorem count_seen {b : Bs} {i k : Nat} {y : UInt8} (hk : k < i) (hb : b[k]? = some y) (hy : y ∉ (b.take i).drop (k + 1)) :
    (fin fresh (b.take i)).idxOf y = dcount ((b.take i).drop (k + 1)) := by
  have e : b.take i = b.take k ++ [y] ++ (b.take i).drop (k + 1) := by
    have h1 : (b.take i).take (k + 1) = b.take k ++ [y] := by
      rw [List.take_take, Nat.min_eq_left (by omega), List.take_add_one, hb]; rfl
    rw [← h1, List.take_append_drop]
  have hF : Full (fin fresh (b.take k)) := fresh_full.fin _
  have h2 : fin fresh (b.take i) = fin (mv (fin fresh (b.take k)) y) ((b.take i).drop (k + 1)) := by
    conv => lhs; rw [e]
    rw [fin_append, fin_snoc]
  rw [h2]
  exact (since hF y _ hy).1
theorem count_new {b : Bs} {i : Nat} {y : UInt8} (hy : y ∉ b.take i) : y.toNat ≤ (fin fresh (b.take i)).idxOf y := by
  have := never fresh_full y _ hy
  rwa [fresh_idx] at this
theorem fwd_at (b : Bs) : ∀ (l : Bs) (i : Nat) (y : UInt8), b[i]? = some y → (fwd l b)[i]? = some (place (fin l (b.take i)) y) := by
  induction b with
  | nil => intro l i y h; simp at h
  | cons x b ih =>
    intro l i y h
    cases i with
    | zero =>
      obtain rfl : x = y := by simpa using h
      rfl
    | succ i => exact ih (mv l x) i y (by simpa using h)
end Go.Proofs.Ytgaifkjdaldmnaa.M
