/- The plain law of chapter 38: differences and sums of byte strings. No program in sight. -/
import Derived.Lib.Hide
namespace Go.Proofs.Ytmbngfhhegbomaa.M
set_option linter.unusedVariables false

abbrev Bs := List UInt8

theorem snoc_ind {α : Type} {p : List α → Prop} (h0 : p []) (hs : ∀ l x, p l → p (l ++ [x])) (l : List α) : p l := by
  have h : ∀ r : List α, p r.reverse := fun r => by
    induction r with
    | nil => simpa using h0
    | cons x r ih => rw [List.reverse_cons]; exact hs _ _ ih
  simpa using h l.reverse

/-- Differences with a width. -/
def fwd (w : Nat) (l : Bs) : Bs := l.mapIdx fun i x => if i < w then x else x - l.getD (i - w) 0
/-- The string with some differences. -/
def inv (w : Nat) (l : Bs) : Bs := l.foldl (fun o x => o ++ [if o.length < w then x else x + o.getD (o.length - w) 0]) []

theorem length_fwd (w : Nat) (l : Bs) : (fwd w l).length = l.length := by simp [fwd]
theorem inv_snoc (w : Nat) (l : Bs) (x : UInt8) : inv w (l ++ [x]) = inv w l ++ [if (inv w l).length < w then x else x + (inv w l).getD ((inv w l).length - w) 0] := by
  simp [inv, List.foldl_append]
theorem inv_nil (w : Nat) : inv w [] = [] := rfl
theorem length_inv (w : Nat) (l : Bs) : (inv w l).length = l.length := by
  refine snoc_ind (p := fun l => (inv w l).length = l.length) rfl (fun l x ih => ?_) l
  rw [inv_snoc]; simp [ih]

theorem fwd_get {w i : Nat} {l : Bs} {x : UInt8} (h : l[i]? = some x) : (fwd w l)[i]? = some (if i < w then x else x - l.getD (i - w) 0) := by
  simp [fwd, List.getElem?_mapIdx, h]
theorem inv_prefix (w : Nat) (l r : Bs) : (inv w (l ++ r)).take l.length = inv w l := by
  refine snoc_ind (p := fun r => (inv w (l ++ r)).take l.length = inv w l) ?_ (fun r x ih => ?_) r
  · rw [List.append_nil, List.take_of_length_le (by rw [length_inv]; omega)]
  · rw [← List.append_assoc, inv_snoc, List.take_append_of_le_length (by rw [length_inv]; simp), ih]
theorem inv_take (w k : Nat) (l : Bs) : (inv w l).take k = inv w (l.take k) := by
  have h := inv_prefix w (l.take k) (l.drop k)
  rw [List.take_append_drop] at h
  rw [← h]
  rcases Nat.lt_or_ge k l.length with hk | hk
  · rw [List.length_take, Nat.min_eq_left (by omega)]
  · rw [List.take_of_length_le (by rw [length_inv]; omega), List.take_of_length_le (by rw [length_inv, List.length_take]; omega)]
theorem take_snoc {α : Type} {l : List α} {k : Nat} {x : α} (h : l[k]? = some x) : l.take (k + 1) = l.take k ++ [x] := by
  rw [List.take_add_one, h]; rfl
theorem getD_take {l : Bs} {i k : Nat} (h : i < k) : (l.take k).getD i 0 = l.getD i 0 := by
  simp [List.getD, h]
theorem inv_get {w i : Nat} {l : Bs} {x : UInt8} (hw : 1 ≤ w) (h : l[i]? = some x) : (inv w l)[i]? = some (if i < w then x else x + (inv w l).getD (i - w) 0) := by
  have hi : i < l.length := (List.getElem?_eq_some_iff.1 h).1
  have hl : (inv w (l.take i)).length = i := by rw [length_inv, List.length_take]; omega
  have e : (inv w l).take (i + 1) = inv w (l.take i) ++ [if i < w then x else x + (inv w l).getD (i - w) 0] := by
    rw [inv_take, take_snoc h, inv_snoc, hl]
    congr 2
    split
    · rfl
    · rw [← inv_take, getD_take (by omega)]
  have h2 : ((inv w l).take (i + 1))[i]? = (inv w l)[i]? := by rw [List.getElem?_take]; simp
  rw [← h2, e, List.getElem?_append_right (by omega), hl]
  simp

theorem fwd_inv {w : Nat} (hw : 1 ≤ w) (l : Bs) : fwd w (inv w l) = l := by
  apply List.ext_getElem?
  intro i
  rcases Nat.lt_or_ge i l.length with hi | hi
  · have h := inv_get hw (List.getElem?_eq_getElem hi)
    rw [fwd_get h, List.getElem?_eq_getElem hi]
    split
    · rfl
    · rw [UInt8.add_sub_cancel]
  · rw [List.getElem?_eq_none (by rw [length_fwd, length_inv]; omega), List.getElem?_eq_none (by omega)]
theorem inv_fwd {w : Nat} (hw : 1 ≤ w) (l : Bs) : inv w (fwd w l) = l := by
  have key : ∀ n i : Nat, i < n → (inv w (fwd w l))[i]? = l[i]? := by
    intro n
    induction n with
    | zero => intro i hi; omega
    | succ n ih =>
      intro i hin
      rcases Nat.lt_or_ge i l.length with hi | hi
      · have h := fwd_get (w := w) (List.getElem?_eq_getElem hi)
        rw [inv_get hw h, List.getElem?_eq_getElem hi]
        split
        · rfl
        · have := ih (i - w) (by omega)
          rw [List.getD, List.getD, this, UInt8.sub_add_cancel]
      · rw [List.getElem?_eq_none (by rw [length_inv, length_fwd]; omega), List.getElem?_eq_none (by omega)]
  exact List.ext_getElem? fun i => key (i + 1) i (by omega)

/-- Orders. -/
def rep (f : Bs → Bs) : Nat → Bs → Bs
  | 0, l => l
  | n + 1, l => rep f n (f l)
theorem rep_succ' (f : Bs → Bs) (n : Nat) (l : Bs) : rep f (n + 1) l = f (rep f n l) := by
  induction n generalizing l with
  | zero => rfl
  | succ n ih => exact ih (f l)
theorem rep_add (f : Bs → Bs) (n m : Nat) (l : Bs) : rep f (n + m) l = rep f m (rep f n l) := by
  induction n generalizing l with
  | zero => rw [Nat.zero_add]; rfl
  | succ n ih => rw [Nat.succ_add]; exact ih (f l)
theorem rep_length {f : Bs → Bs} (hf : ∀ l, (f l).length = l.length) (n : Nat) (l : Bs) : (rep f n l).length = l.length := by
  induction n generalizing l with
  | zero => rfl
  | succ n ih => exact (ih (f l)).trans (hf l)
theorem rep_cancel {f g : Bs → Bs} (h : ∀ l, g (f l) = l) (n : Nat) (l : Bs) : rep g n (rep f n l) = l := by
  induction n generalizing l with
  | zero => rfl
  | succ n ih => rw [rep_succ' f, rep, h, ih]

/-- Sums. -/
def add (a b : Bs) : Bs := List.zipWith (· + ·) a b
theorem add_get {a b : Bs} {i : Nat} {x y : UInt8} (ha : a[i]? = some x) (hb : b[i]? = some y) : (add a b)[i]? = some (x + y) := by
  simp [add, List.getElem?_zipWith, ha, hb]
theorem fwd_add (w : Nat) {a b : Bs} (h : a.length = b.length) : fwd w (add a b) = add (fwd w a) (fwd w b) := by
  have hl : (add a b).length = a.length := by simp [add, h]
  apply List.ext_getElem?
  intro i
  rcases Nat.lt_or_ge i a.length with hi | hi
  · have ha := List.getElem?_eq_getElem hi
    have hb := List.getElem?_eq_getElem (l := b) (i := i) (by omega)
    rw [fwd_get (add_get ha hb), add_get (fwd_get ha) (fwd_get hb)]
    by_cases hw : i < w
    · simp [hw]
    · simp only [hw, if_false]
      have e1 : a.getD (i - w) 0 = a[i - w] := by simp [List.getD, show i - w < a.length by omega]
      have e2 : b.getD (i - w) 0 = b[i - w] := by simp [List.getD, show i - w < b.length by omega]
      have e3 : (add a b).getD (i - w) 0 = a[i - w] + b[i - w] := by
        rw [List.getD, add_get (List.getElem?_eq_getElem (by omega)) (List.getElem?_eq_getElem (by omega))]; rfl
      rw [e1, e2, e3]
      congr 1
      simp only [UInt8.sub_eq_add_neg, UInt8.neg_add]
      ac_rfl
  · rw [List.getElem?_eq_none (by rw [length_fwd, hl]; omega), List.getElem?_eq_none (by simp [add, length_fwd]; omega)]

/-- Tables. -/
def tbl (n w : Nat) (f : Nat → Nat → UInt8) : Bs := (List.range n).flatMap fun i => (List.range w).map (f i)
theorem tbl_zero (w : Nat) (f : Nat → Nat → UInt8) : tbl 0 w f = [] := rfl
theorem tbl_succ (n w : Nat) (f : Nat → Nat → UInt8) : tbl (n + 1) w f = tbl n w f ++ (List.range w).map (f n) := by simp [tbl, List.range_succ]
theorem tbl_length (n w : Nat) (f : Nat → Nat → UInt8) : (tbl n w f).length = n * w := by
  induction n with
  | zero => simp [tbl]
  | succ n ih => rw [tbl_succ, List.length_append, ih]; simp [Nat.succ_mul]
theorem tbl_get {n w : Nat} {f : Nat → Nat → UInt8} (hw : 0 < w) {j : Nat} (hj : j < n * w) : (tbl n w f)[j]? = some (f (j / w) (j % w)) := by
  induction n with
  | zero => simp at hj
  | succ n ih =>
    rw [tbl_succ]
    rcases Nat.lt_or_ge j (n * w) with h | h
    · rw [List.getElem?_append_left (by rw [tbl_length]; exact h), ih h]
    · rw [List.getElem?_append_right (by rw [tbl_length]; exact h), tbl_length]
      have hlt : j - n * w < w := by rw [Nat.succ_mul] at hj; omega
      have hd : j / w = n := by
        rw [Nat.div_eq_iff hw]
        refine ⟨h, ?_⟩
        rw [Nat.succ_mul] at hj; omega
      have hm : j % w = j - n * w := by
        have := Nat.div_add_mod j w
        rw [hd, Nat.mul_comm] at this; omega
      rw [hd, hm]
      simp [hlt]
theorem getD_of {l : Bs} {i : Nat} {x : UInt8} (h : l[i]? = some x) : l.getD i 0 = x := by simp [List.getD, h]

/-- A table with equal rows. -/
theorem same_zero {n w : Nat} (hw : 0 < w) (r : Nat → UInt8) {j : Nat} {x : UInt8} (hj : w ≤ j) (h : (fwd w (tbl n w fun _ => r))[j]? = some x) : x = 0 := by
  have hlt : j < n * w := by have := (List.getElem?_eq_some_iff.1 h).1; rwa [length_fwd, tbl_length] at this
  rw [fwd_get (tbl_get hw hlt), if_neg (by omega), getD_of (tbl_get hw (by omega))] at h
  have e : (j - w) % w = j % w := (Nat.mod_eq_sub_mod hj).symm
  rw [e, UInt8.sub_self] at h
  injection h with h; exact h.symm
/-- A table whose columns grow by constant steps. -/
theorem grows_zero {n w : Nat} (hw : 0 < w) (r s : Nat → UInt8) {j : Nat} {x : UInt8} (hj : 2 * w ≤ j) (h : (fwd w (fwd w (tbl n w fun i k => r k + UInt8.ofNat i * s k)))[j]? = some x) : x = 0 := by
  have hlt : j < n * w := by have := (List.getElem?_eq_some_iff.1 h).1; rwa [length_fwd, length_fwd, tbl_length] at this
  have step : ∀ j, w ≤ j → j < n * w → (fwd w (tbl n w fun i k => r k + UInt8.ofNat i * s k))[j]? = some (s (j % w)) := by
    intro j hj hlt
    rw [fwd_get (tbl_get hw hlt), if_neg (by omega), getD_of (tbl_get hw (by omega))]
    have e : (j - w) % w = j % w := (Nat.mod_eq_sub_mod hj).symm
    have ed : j / w = (j - w) / w + 1 := Nat.div_eq_sub_div hw hj
    rw [e, ed]
    generalize (j - w) / w = q
    have eo : UInt8.ofNat (q + 1) = UInt8.ofNat q + 1 := by rw [UInt8.ofNat_add]; rfl
    rw [eo, UInt8.add_mul, UInt8.one_mul]
    generalize r (j % w) = a
    generalize UInt8.ofNat q * s (j % w) = b
    generalize s (j % w) = c
    congr 1
    rw [← UInt8.add_assoc, UInt8.add_comm (a + b) c, UInt8.add_sub_cancel]
  rw [fwd_get (step j (by omega) hlt), if_neg (by omega), getD_of (step (j - w) (by omega) (by omega))] at h
  have e : (j - w) % w = j % w := (Nat.mod_eq_sub_mod (by omega)).symm
  rw [e, UInt8.sub_self] at h
  injection h with h; exact h.symm
end Go.Proofs.Ytmbngfhhegbomaa.M
