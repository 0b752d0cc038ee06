/- The plain law of chapter 34, first part: recency lists, places. No program in sight. -/
import Derived.Lib.Hide
namespace Go.Proofs.Ytgaifkjdaldmnaa.M
set_option linter.unusedVariables false

abbrev Bs := List UInt8
/-- The list before the first byte. -/
def fresh : Bs := (List.range 256).map UInt8.ofNat
/-- The byte at a place moves to the beginning. -/
def front (l : Bs) (k : Nat) : Bs := l.getD k 0 :: l.eraseIdx k
/-- A byte moves to the beginning. -/
def mv (l : Bs) (x : UInt8) : Bs := x :: l.erase x
def fin (l : Bs) (b : Bs) : Bs := b.foldl mv l
def place (l : Bs) (x : UInt8) : UInt8 := UInt8.ofNat (l.idxOf x)
def fwd (l : Bs) : Bs → Bs
  | [] => []
  | x :: b => place l x :: fwd (mv l x) b
def inv (l : Bs) : Bs → Bs
  | [] => []
  | p :: b => l.getD p.toNat 0 :: inv (front l p.toNat) b
/-- All bytes, each once. -/
structure Full (l : Bs) : Prop where
  len : l.length = 256
  nodup : l.Nodup
  all : ∀ x : UInt8, x ∈ l

theorem fresh_len : fresh.length = 256 := by simp [fresh]
theorem fresh_at {k : Nat} (h : k < 256) : fresh[k]? = some (UInt8.ofNat k) := by simp [fresh, h]
theorem fresh_full : Full fresh where
  len := fresh_len
  nodup := by
    rw [List.nodup_iff_pairwise_ne, List.pairwise_iff_getElem]
    intro i j hi hj hij e
    rw [fresh_len] at hi hj
    have h1 := fresh_at hi
    have h2 := fresh_at hj
    rw [List.getElem?_eq_getElem (by rw [fresh_len]; omega)] at h1 h2
    injection h1 with h1
    injection h2 with h2
    rw [h1, h2] at e
    have := congrArg UInt8.toNat e
    simp at this
    omega
  all := fun x => by
    have h := fresh_at (k := x.toNat) (by have := x.toNat_lt; omega)
    rw [UInt8.ofNat_toNat] at h
    exact List.mem_of_getElem? h
theorem eraseIdx_idx (l : Bs) (x : UInt8) : l.eraseIdx (l.idxOf x) = l.erase x := by
  induction l with
  | nil => rfl
  | cons a l ih =>
    by_cases ha : a = x
    · subst ha; rw [List.erase_cons_head, List.idxOf_cons_self]; rfl
    · rw [List.erase_cons_tail (by simpa using ha), List.idxOf_cons, ← ih]
      have : (a == x) = false := by simpa using ha
      rw [this]; rfl
theorem front_idx {l : Bs} {x : UInt8} (h : x ∈ l) : front l (l.idxOf x) = mv l x := by
  have h1 : l.idxOf x < l.length := List.idxOf_lt_length_iff.2 h
  unfold front mv
  rw [eraseIdx_idx, List.getD_eq_getElem?_getD, List.getElem?_eq_getElem h1, List.getElem_idxOf]; rfl
theorem Full.idx_lt {l : Bs} (h : Full l) (x : UInt8) : l.idxOf x < 256 := by
  have := List.idxOf_lt_length_iff.2 (h.all x)
  rw [h.len] at this; exact this
theorem Full.place_val {l : Bs} (h : Full l) (x : UInt8) : (place l x).toNat = l.idxOf x := by
  have := h.idx_lt x
  unfold place; rw [UInt8.toNat_ofNat']; omega
theorem Full.mv {l : Bs} (h : Full l) (x : UInt8) : Full (mv l x) where
  len := by
    unfold M.mv
    rw [List.length_cons, List.length_erase_of_mem (h.all x), h.len]
  nodup := by
    unfold M.mv
    refine List.nodup_cons.2 ⟨fun hm => ?_, h.nodup.erase x⟩
    exact absurd rfl ((List.Nodup.mem_erase_iff h.nodup).1 hm).1
  all := fun y => by
    unfold M.mv
    by_cases e : y = x
    · subst e; simp
    · exact List.mem_cons_of_mem _ ((List.Nodup.mem_erase_iff h.nodup).2 ⟨e, h.all y⟩)
theorem Full.fin {l : Bs} (h : Full l) (b : Bs) : Full (fin l b) := by
  induction b generalizing l with
  | nil => exact h
  | cons x b ih => exact ih (h.mv x)
theorem Full.at_place {l : Bs} (h : Full l) (x : UInt8) : l.getD (place l x).toNat 0 = x := by
  rw [h.place_val, List.getD_eq_getElem?_getD, List.getElem?_eq_getElem (List.idxOf_lt_length_iff.2 (h.all x)), List.getElem_idxOf]; rfl
theorem Full.idx_at {l : Bs} (h : Full l) {k : Nat} (hk : k < 256) : l.idxOf (l.getD k 0) = k := by
  have hk' : k < l.length := by rw [h.len]; exact hk
  have : l.getD k 0 = l[k] := by simp [List.getD, hk']
  rw [this, h.nodup.idxOf_getElem k hk']
theorem Full.front {l : Bs} (h : Full l) {k : Nat} (hk : k < 256) : front l k = M.mv l (l.getD k 0) := by
  rw [← front_idx (h.all _), h.idx_at hk]
theorem inv_fwd {l : Bs} (h : Full l) (b : Bs) : inv l (fwd l b) = b := by
  induction b generalizing l with
  | nil => rfl
  | cons x b ih =>
    have h1 := h.at_place x
    have h2 : M.front l (place l x).toNat = M.mv l x := by rw [h.place_val, front_idx (h.all x)]
    show l.getD (place l x).toNat 0 :: inv (M.front l (place l x).toNat) (fwd (M.mv l x) b) = _
    rw [h1, h2, ih (h.mv x)]
theorem fwd_inv {l : Bs} (h : Full l) (b : Bs) : fwd l (inv l b) = b := by
  induction b generalizing l with
  | nil => rfl
  | cons p b ih =>
    have hp : p.toNat < 256 := p.toNat_lt
    show place l (l.getD p.toNat 0) :: fwd (M.mv l (l.getD p.toNat 0)) (inv (M.front l p.toNat) b) = _
    rw [h.front hp, ih (h.mv _)]
    have : place l (l.getD p.toNat 0) = p := by unfold place; rw [h.idx_at hp, UInt8.ofNat_toNat]
    rw [this]
theorem fwd_length (b : Bs) : ∀ l, (fwd l b).length = b.length := by
  induction b with
  | nil => intro l; rfl
  | cons x b ih => intro l; simp [fwd, ih]
theorem inv_length (b : Bs) : ∀ l, (inv l b).length = b.length := by
  induction b with
  | nil => intro l; rfl
  | cons x b ih => intro l; simp [inv, ih]
theorem fwd_snoc (b : Bs) (x : UInt8) : ∀ l, fwd l (b ++ [x]) = fwd l b ++ [place (fin l b) x] := by
  induction b with
  | nil => intro l; rfl
  | cons y b ih => intro l; show _ :: fwd (mv l y) (b ++ [x]) = _; rw [ih]; rfl
theorem fin_snoc (l b : Bs) (x : UInt8) : fin l (b ++ [x]) = mv (fin l b) x := by unfold fin; rw [List.foldl_append]; rfl
theorem inv_snoc (b : Bs) (p : UInt8) : ∀ l, inv l (b ++ [p]) = inv l b ++ [(b.foldl (fun m q => front m q.toNat) l).getD p.toNat 0] := by
  induction b with
  | nil => intro l; rfl
  | cons y b ih => intro l; show _ :: inv (front l y.toNat) (b ++ [p]) = _; rw [ih]; rfl

/-! ### who stands before whom -/
def before (l : Bs) (z y : UInt8) : Prop := l.idxOf z < l.idxOf y
theorem idx_cons_ne {a z : UInt8} (l : Bs) (h : a ≠ z) : (a :: l).idxOf z = l.idxOf z + 1 := by
  rw [List.idxOf_cons, show (a == z) = false by simpa using h]; rfl
theorem idx_cons_self (a : UInt8) (l : Bs) : (a :: l).idxOf a = 0 := List.idxOf_cons_self
theorem before_erase {x z y : UInt8} (hz : z ≠ x) (hy : y ≠ x) (l : Bs) : (l.erase x).idxOf z < (l.erase x).idxOf y ↔ l.idxOf z < l.idxOf y := by
  induction l with
  | nil => rfl
  | cons a l ih =>
    by_cases ha : a = x
    · subst ha
      rw [List.erase_cons_head, idx_cons_ne l hz.symm, idx_cons_ne l hy.symm]; omega
    · rw [List.erase_cons_tail (by simpa using ha)]
      by_cases h1 : a = z
      · subst h1
        by_cases h2 : a = y
        · subst h2; simp
        · rw [idx_cons_self, idx_cons_self, idx_cons_ne _ h2, idx_cons_ne _ h2]; omega
      · by_cases h2 : a = y
        · subst h2
          rw [idx_cons_self, idx_cons_self]; omega
        · rw [idx_cons_ne _ h1, idx_cons_ne _ h2, idx_cons_ne _ h1, idx_cons_ne _ h2]; omega
theorem before_mv {x z y : UInt8} (hy : y ≠ x) (l : Bs) : before (mv l x) z y ↔ z = x ∨ before l z y := by
  unfold before mv
  by_cases hz : z = x
  · subst hz
    rw [idx_cons_self, idx_cons_ne _ hy.symm]; simp
  · rw [idx_cons_ne _ (fun e => hz e.symm), idx_cons_ne _ hy.symm]
    have := before_erase hz hy l
    simp only [hz, false_or]
    omega
theorem not_before_head (l : Bs) (x z : UInt8) : ¬ before (mv l x) z x := by
  unfold before mv; rw [idx_cons_self]; omega
end Go.Proofs.Ytgaifkjdaldmnaa.M
