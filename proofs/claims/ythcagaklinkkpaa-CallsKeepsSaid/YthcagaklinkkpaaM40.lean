/- The plain law of chapter 40: calls and jumps, their sites, and how targets are changed. No program in sight. -/
import Derived.Lib.Hide
namespace Go.Proofs.Ythcagaklinkkpaa.M
set_option linter.unusedVariables false

abbrev Bs := List UInt8
/-- A byte of the list; 0 beyond its end. -/
def at_ (l : Bs) (i : Nat) : UInt8 := l[i]?.getD 0
def isOp (b : Bs) (i : Nat) : Bool := (at_ b i == 232 || at_ b i == 233) && decide (i + 5 ≤ b.length)
def isHi (b : Bs) (i : Nat) : Bool := at_ b (i + 4) == 0 || at_ b (i + 4) == 255
/-- The sites from a place on. -/
def scan (b : Bs) (i : Nat) : List Nat :=
  if i < b.length then
    if isOp b i then (if isHi b i then [i] else []) ++ scan b (i + 5) else scan b (i + 1)
  else []
termination_by b.length - i

def num (a b c : UInt8) : Int := (a.toNat : Int) + 256 * (b.toNat : Int) + 65536 * (c.toNat : Int)
def b0 (n : Int) : UInt8 := UInt8.ofNat ((n % 256).toNat)
def b1 (n : Int) : UInt8 := UInt8.ofNat ((n / 256 % 256).toNat)
def b2 (n : Int) : UInt8 := UInt8.ofNat ((n / 65536 % 256).toNat)
theorem b0_val (n : Int) : ((b0 n).toNat : Int) = n % 256 := by
  have : (b0 n).toNat = (n % 256).toNat := by unfold b0; rw [UInt8.toNat_ofNat']; omega
  omega
theorem b1_val (n : Int) : ((b1 n).toNat : Int) = n / 256 % 256 := by
  have : (b1 n).toNat = (n / 256 % 256).toNat := by unfold b1; rw [UInt8.toNat_ofNat']; omega
  omega
theorem b2_val (n : Int) : ((b2 n).toNat : Int) = n / 65536 % 256 := by
  have : (b2 n).toNat = (n / 65536 % 256).toNat := by unfold b2; rw [UInt8.toNat_ofNat']; omega
  omega
theorem num_b (n : Int) : num (b0 n) (b1 n) (b2 n) = n % 16777216 := by
  unfold num; rw [b0_val, b1_val, b2_val]; omega
theorem b_num (x y z : UInt8) (k : Int) : b0 (num x y z + 16777216 * k) = x ∧ b1 (num x y z + 16777216 * k) = y ∧ b2 (num x y z + 16777216 * k) = z := by
  have hx := x.toNat_lt; have hy := y.toNat_lt; have hz := z.toNat_lt
  have key : ∀ p q : UInt8, (p.toNat : Int) = (q.toNat : Int) → p = q := fun p q h => UInt8.toNat_inj.1 (by omega)
  refine ⟨key _ _ ?_, key _ _ ?_, key _ _ ?_⟩
  · rw [b0_val]; unfold num; omega
  · rw [b1_val]; unfold num; omega
  · rw [b2_val]; unfold num; omega
theorem b_congr {m n : Int} (h : m % 16777216 = n % 16777216) : b0 m = b0 n ∧ b1 m = b1 n ∧ b2 m = b2 n := by
  have key : ∀ p q : UInt8, (p.toNat : Int) = (q.toNat : Int) → p = q := fun p q h => UInt8.toNat_inj.1 (by omega)
  refine ⟨key _ _ ?_, key _ _ ?_, key _ _ ?_⟩
  · rw [b0_val, b0_val]; omega
  · rw [b1_val, b1_val]; omega
  · rw [b2_val, b2_val]; omega

/-- The target at a site, changed. -/
def target (s : Int) (l : Bs) (i : Nat) : Int := num (at_ l (i + 1)) (at_ l (i + 2)) (at_ l (i + 3)) + s * ((i : Int) + 5)
def upd (s : Int) (l : Bs) (i : Nat) : Bs := ((l.set (i + 1) (b0 (target s l i))).set (i + 2) (b1 (target s l i))).set (i + 3) (b2 (target s l i))
def trans (s : Int) (b : Bs) : Bs := (scan b 0).foldl (upd s) b

/-- The same over what is still to come, p places in. -/
def tr (s : Int) (p : Nat) : Bs → Bs
  | x :: a :: b :: c :: d :: rest =>
    if x = 232 ∨ x = 233 then
      (if d = 0 ∨ d = 255 then x :: b0 (num a b c + s * ((p : Int) + 5)) :: b1 (num a b c + s * ((p : Int) + 5)) :: b2 (num a b c + s * ((p : Int) + 5)) :: d :: tr s (p + 5) rest
       else x :: a :: b :: c :: d :: tr s (p + 5) rest)
    else x :: tr s (p + 1) (a :: b :: c :: d :: rest)
  | x :: rest => x :: tr s (p + 1) rest
  | [] => []
def st (p : Nat) : Bs → List Nat
  | x :: a :: b :: c :: d :: rest =>
    if x = 232 ∨ x = 233 then (if d = 0 ∨ d = 255 then [p] else []) ++ st (p + 5) rest
    else st (p + 1) (a :: b :: c :: d :: rest)
  | x :: rest => st (p + 1) rest
  | [] => []

/-- Five at a time, or one: the way both functions go. -/
theorem by_five {P : Bs → Prop} (nil : P []) (short : ∀ x rest, rest.length < 4 → P rest → P (x :: rest))
    (long : ∀ x a b c d rest, P rest → P (a :: b :: c :: d :: rest) → P (x :: a :: b :: c :: d :: rest)) : ∀ l, P l := by
  intro l
  induction h : l.length using Nat.strongRecOn generalizing l with
  | ind n ih =>
    rcases l with _ | ⟨x, rest⟩
    · exact nil
    · by_cases h4 : rest.length < 4
      · exact short x rest h4 (ih rest.length (by simp at h; omega) rest rfl)
      · rcases rest with _ | ⟨a, _ | ⟨b, _ | ⟨c, _ | ⟨d, rest⟩⟩⟩⟩
        all_goals simp at h4
        simp only [List.length_cons] at h
        exact long x a b c d rest (ih rest.length (by omega) rest rfl) (ih _ (by simp only [List.length_cons]; omega) _ rfl)

/-- Four at least. -/
theorem four_long {α : Type} (l : List α) (h : 4 ≤ l.length) : ∃ a b c d r, l = a :: b :: c :: d :: r := by
  rcases l with _ | ⟨a, _ | ⟨b, _ | ⟨c, _ | ⟨d, r⟩⟩⟩⟩
  · simp at h
  · simp at h
  · simp at h
  · simp at h
  · exact ⟨a, b, c, d, r, rfl⟩

theorem tr_short (s : Int) (p : Nat) (x : UInt8) (rest : Bs) (h : rest.length < 4) : tr s p (x :: rest) = x :: tr s (p + 1) rest := by
  rcases rest with _ | ⟨a, _ | ⟨b, _ | ⟨c, _ | ⟨d, rest⟩⟩⟩⟩
  · rfl
  · rfl
  · rfl
  · rfl
  · simp only [List.length_cons] at h; omega
theorem st_short (p : Nat) (x : UInt8) (rest : Bs) (h : rest.length < 4) : st p (x :: rest) = st (p + 1) rest := by
  rcases rest with _ | ⟨a, _ | ⟨b, _ | ⟨c, _ | ⟨d, rest⟩⟩⟩⟩
  · rfl
  · rfl
  · rfl
  · rfl
  · simp only [List.length_cons] at h; omega
theorem tr_hit {x d : UInt8} (hx : x = 232 ∨ x = 233) (hd : d = 0 ∨ d = 255) (s : Int) (p : Nat) (a b c : UInt8) (rest : Bs) :
    tr s p (x :: a :: b :: c :: d :: rest) = x :: b0 (num a b c + s * ((p : Int) + 5)) :: b1 (num a b c + s * ((p : Int) + 5)) :: b2 (num a b c + s * ((p : Int) + 5)) :: d :: tr s (p + 5) rest := by
  rw [tr, if_pos hx, if_pos hd]
theorem tr_pass {x d : UInt8} (hx : x = 232 ∨ x = 233) (hd : ¬ (d = 0 ∨ d = 255)) (s : Int) (p : Nat) (a b c : UInt8) (rest : Bs) :
    tr s p (x :: a :: b :: c :: d :: rest) = x :: a :: b :: c :: d :: tr s (p + 5) rest := by
  rw [tr, if_pos hx, if_neg hd]
theorem tr_step {x d : UInt8} (hx : ¬ (x = 232 ∨ x = 233)) (s : Int) (p : Nat) (a b c : UInt8) (rest : Bs) :
    tr s p (x :: a :: b :: c :: d :: rest) = x :: tr s (p + 1) (a :: b :: c :: d :: rest) := by
  rw [tr, if_neg hx]
theorem st_hit {x d : UInt8} (hx : x = 232 ∨ x = 233) (hd : d = 0 ∨ d = 255) (p : Nat) (a b c : UInt8) (rest : Bs) :
    st p (x :: a :: b :: c :: d :: rest) = p :: st (p + 5) rest := by
  rw [st, if_pos hx, if_pos hd]; rfl
theorem st_pass {x d : UInt8} (hx : x = 232 ∨ x = 233) (hd : ¬ (d = 0 ∨ d = 255)) (p : Nat) (a b c : UInt8) (rest : Bs) :
    st p (x :: a :: b :: c :: d :: rest) = st (p + 5) rest := by
  rw [st, if_pos hx, if_neg hd]; rfl
theorem st_step {x d : UInt8} (hx : ¬ (x = 232 ∨ x = 233)) (p : Nat) (a b c : UInt8) (rest : Bs) :
    st p (x :: a :: b :: c :: d :: rest) = st (p + 1) (a :: b :: c :: d :: rest) := by
  rw [st, if_neg hx]

theorem tr_length (s : Int) (l : Bs) : ∀ p, (tr s p l).length = l.length := by
  induction l using by_five with
  | nil => intro p; rfl
  | short x rest h ih => intro p; rw [tr_short s p x rest h]; simp [ih]
  | long x a b c d rest ih1 ih2 =>
    intro p
    by_cases hx : x = 232 ∨ x = 233
    · by_cases hd : d = 0 ∨ d = 255
      · rw [tr_hit hx hd]; simp [ih1]
      · rw [tr_pass hx hd]; simp [ih1]
    · rw [tr_step hx]; simp [ih2]

/-- What is changed is changed back. -/
theorem tr_tr (s : Int) (l : Bs) : ∀ p, tr (-s) p (tr s p l) = l := by
  induction l using by_five with
  | nil => intro p; rfl
  | short x rest h ih => intro p; rw [tr_short s p x rest h, tr_short _ p x _ (by rw [tr_length]; exact h), ih]
  | long x a b c d rest ih1 ih2 =>
    intro p
    by_cases hx : x = 232 ∨ x = 233
    · by_cases hd : d = 0 ∨ d = 255
      · rw [tr_hit hx hd, tr_hit hx hd, ih1]
        have e : ∀ t : Int, (num (b0 t) (b1 t) (b2 t) + -s * ((p : Int) + 5)) % 16777216 = (t + -s * ((p : Int) + 5)) % 16777216 := fun t => by rw [num_b]; omega
        obtain ⟨e0, e1, e2⟩ := b_congr (e (num a b c + s * ((p : Int) + 5)))
        rw [e0, e1, e2]
        have e3 : num a b c + s * ((p : Int) + 5) + -s * ((p : Int) + 5) = num a b c + 16777216 * 0 := by rw [Int.neg_mul]; omega
        obtain ⟨f0, f1, f2⟩ := b_num a b c 0
        rw [e3, f0, f1, f2]
      · rw [tr_pass hx hd, tr_pass hx hd, ih1]
    · rw [tr_step hx]
      have hl : ∃ a' b' c' d' rest', tr s (p + 1) (a :: b :: c :: d :: rest) = a' :: b' :: c' :: d' :: rest' := by
        exact four_long _ (by rw [tr_length]; simp)
      obtain ⟨a', b', c', d', rest', e⟩ := hl
      rw [e, tr_step hx, ← e, ih2]

theorem st_tr (s : Int) (l : Bs) : ∀ p, st p (tr s p l) = st p l := by
  induction l using by_five with
  | nil => intro p; rfl
  | short x rest h ih => intro p; rw [tr_short s p x rest h, st_short _ _ _ (by rw [tr_length]; exact h), ih, st_short _ _ _ h]
  | long x a b c d rest ih1 ih2 =>
    intro p
    by_cases hx : x = 232 ∨ x = 233
    · by_cases hd : d = 0 ∨ d = 255
      · rw [tr_hit hx hd, st_hit hx hd, ih1, st_hit hx hd]
      · rw [tr_pass hx hd, st_pass hx hd, ih1, st_pass hx hd]
    · rw [tr_step hx]
      have hl : ∃ a' b' c' d' rest', tr s (p + 1) (a :: b :: c :: d :: rest) = a' :: b' :: c' :: d' :: rest' := by
        exact four_long _ (by rw [tr_length]; simp)
      obtain ⟨a', b', c', d', rest', e⟩ := hl
      rw [e, st_step hx, ← e, ih2, st_step hx]

/-! ### the places of a list behind another one -/
theorem at_append (pre suf : Bs) (k : Nat) : at_ (pre ++ suf) (pre.length + k) = at_ suf k := by
  unfold at_
  rw [List.getElem?_append_right (by omega), Nat.add_sub_cancel_left]
theorem set_append (pre suf : Bs) (k : Nat) (v : UInt8) : (pre ++ suf).set (pre.length + k) v = pre ++ suf.set k v := by
  rw [List.set_append, if_neg (by omega), Nat.add_sub_cancel_left]
theorem scan_lt {b : Bs} {i : Nat} (h : i < b.length) : scan b i = if isOp b i then (if isHi b i then [i] else []) ++ scan b (i + 5) else scan b (i + 1) := by
  rw [scan, if_pos h]
theorem scan_end {b : Bs} {i : Nat} (h : b.length ≤ i) : scan b i = [] := by
  rw [scan, if_neg (by omega)]
theorem isOp_append (pre suf : Bs) : isOp (pre ++ suf) pre.length = isOp suf 0 := by
  have := at_append pre suf 0
  rw [Nat.add_zero] at this
  unfold isOp
  rw [this]
  congr 1
  rw [List.length_append, decide_eq_decide]; omega
theorem isHi_append (pre suf : Bs) : isHi (pre ++ suf) pre.length = isHi suf 0 := by
  unfold isHi
  rw [at_append pre suf 4, Nat.zero_add]
theorem isOp_short (x : UInt8) (rest : Bs) (h : rest.length < 4) : isOp (x :: rest) 0 = false := by
  unfold isOp
  have : decide (0 + 5 ≤ (x :: rest).length) = false := by simp; omega
  rw [this, Bool.and_false]
theorem isOp_long (x a b c d : UInt8) (rest : Bs) : isOp (x :: a :: b :: c :: d :: rest) 0 = decide (x = 232 ∨ x = 233) := by
  unfold isOp
  have : decide (0 + 5 ≤ (x :: a :: b :: c :: d :: rest).length) = true := by simp
  rw [this, Bool.and_true]
  show (x == 232 || x == 233) = _
  by_cases h1 : x = 232 <;> by_cases h2 : x = 233 <;> simp [h1, h2]
theorem isHi_long (x a b c d : UInt8) (rest : Bs) : isHi (x :: a :: b :: c :: d :: rest) 0 = decide (d = 0 ∨ d = 255) := by
  unfold isHi
  show (d == 0 || d == 255) = _
  by_cases h1 : d = 0 <;> by_cases h2 : d = 255 <;> simp [h1, h2]
theorem scan_st (suf : Bs) : ∀ pre : Bs, scan (pre ++ suf) pre.length = st pre.length suf := by
  induction suf using by_five with
  | nil => intro pre; rw [scan_end (by simp)]; rfl
  | short x rest h ih =>
    intro pre
    rw [scan_lt (by simp), isOp_append, isOp_short x rest h, if_neg (by simp), st_short _ _ _ h]
    have := ih (pre ++ [x])
    rw [List.length_append, List.append_assoc] at this
    exact this
  | long x a b c d rest ih1 ih2 =>
    intro pre
    rw [scan_lt (by simp), isOp_append, isHi_append, isOp_long, isHi_long]
    by_cases hx : x = 232 ∨ x = 233
    · rw [if_pos (by simpa using hx)]
      have h5 := ih1 (pre ++ [x, a, b, c, d])
      rw [List.length_append, List.append_assoc] at h5
      by_cases hd : d = 0 ∨ d = 255
      · rw [st_hit hx hd, if_pos (by simpa using hd)]
        exact congrArg (pre.length :: ·) h5
      · rw [st_pass hx hd, if_neg (by simpa using hd)]
        exact h5
    · rw [if_neg (by simpa using hx), st_step hx]
      have := ih2 (pre ++ [x])
      rw [List.length_append, List.append_assoc] at this
      exact this
theorem upd_long (s : Int) (pre : Bs) (x a b c d : UInt8) (rest : Bs) : upd s (pre ++ x :: a :: b :: c :: d :: rest) pre.length =
    (pre ++ [x, b0 (num a b c + s * ((pre.length : Int) + 5)), b1 (num a b c + s * ((pre.length : Int) + 5)), b2 (num a b c + s * ((pre.length : Int) + 5)), d]) ++ rest := by
  have e : target s (pre ++ x :: a :: b :: c :: d :: rest) pre.length = num a b c + s * ((pre.length : Int) + 5) := by
    unfold target
    rw [at_append, at_append, at_append]; rfl
  unfold upd
  rw [e, set_append, set_append, set_append]
  simp
theorem foldl_tr (s : Int) (suf : Bs) : ∀ pre : Bs, (st pre.length suf).foldl (upd s) (pre ++ suf) = pre ++ tr s pre.length suf := by
  induction suf using by_five with
  | nil => intro pre; rfl
  | short x rest h ih =>
    intro pre
    rw [st_short _ _ _ h, tr_short _ _ _ _ h]
    have := ih (pre ++ [x])
    rw [List.length_append, List.append_assoc, List.append_assoc] at this
    exact this
  | long x a b c d rest ih1 ih2 =>
    intro pre
    by_cases hx : x = 232 ∨ x = 233
    · by_cases hd : d = 0 ∨ d = 255
      · rw [st_hit hx hd, tr_hit hx hd, List.foldl_cons, upd_long]
        have := ih1 (pre ++ [x, b0 (num a b c + s * ((pre.length : Int) + 5)), b1 (num a b c + s * ((pre.length : Int) + 5)), b2 (num a b c + s * ((pre.length : Int) + 5)), d])
        rw [List.length_append] at this
        rw [show pre.length + 5 = pre.length + [x, b0 (num a b c + s * ((pre.length : Int) + 5)), b1 (num a b c + s * ((pre.length : Int) + 5)), b2 (num a b c + s * ((pre.length : Int) + 5)), d].length from rfl, this]
        simp
      · rw [st_pass hx hd, tr_pass hx hd]
        have := ih1 (pre ++ [x, a, b, c, d])
        rw [List.length_append, List.append_assoc, List.append_assoc] at this
        exact this
    · rw [st_step hx, tr_step hx]
      have := ih2 (pre ++ [x])
      rw [List.length_append, List.append_assoc, List.append_assoc] at this
      exact this
theorem scan_eq (b : Bs) : scan b 0 = st 0 b := scan_st b []
theorem trans_eq (s : Int) (b : Bs) : trans s b = tr s 0 b := by
  unfold trans
  rw [scan_eq]
  exact foldl_tr s b []
theorem trans_length (s : Int) (b : Bs) : (trans s b).length = b.length := by rw [trans_eq, tr_length]
theorem trans_back (s : Int) (b : Bs) : trans (-s) (trans s b) = b := by rw [trans_eq, trans_eq, tr_tr]
theorem scan_trans (s : Int) (b : Bs) : scan (trans s b) 0 = scan b 0 := by rw [scan_eq, scan_eq, trans_eq, st_tr]

/-! ### reading from the old string while the new one is written -/
def updF (s : Int) (b l : Bs) (i : Nat) : Bs := ((l.set (i + 1) (b0 (target s b i))).set (i + 2) (b1 (target s b i))).set (i + 3) (b2 (target s b i))
theorem updF_long (s : Int) (pre pre' : Bs) (hl : pre'.length = pre.length) (x a b c d : UInt8) (rest : Bs) : updF s (pre ++ x :: a :: b :: c :: d :: rest) (pre' ++ x :: a :: b :: c :: d :: rest) pre.length =
    (pre' ++ [x, b0 (num a b c + s * ((pre.length : Int) + 5)), b1 (num a b c + s * ((pre.length : Int) + 5)), b2 (num a b c + s * ((pre.length : Int) + 5)), d]) ++ rest := by
  have e : target s (pre ++ x :: a :: b :: c :: d :: rest) pre.length = num a b c + s * ((pre.length : Int) + 5) := by
    unfold target
    rw [at_append, at_append, at_append]; rfl
  unfold updF
  rw [e]
  generalize num a b c + s * ((pre.length : Int) + 5) = t
  rw [← hl, set_append, set_append, set_append]
  simp
theorem foldl_trF (s : Int) (suf : Bs) : ∀ pre pre' : Bs, pre'.length = pre.length → (st pre.length suf).foldl (updF s (pre ++ suf)) (pre' ++ suf) = pre' ++ tr s pre.length suf := by
  induction suf using by_five with
  | nil => intro pre pre' _; rfl
  | short x rest h ih =>
    intro pre pre' hl
    rw [st_short _ _ _ h, tr_short _ _ _ _ h]
    have := ih (pre ++ [x]) (pre' ++ [x]) (by simp [hl])
    rw [List.length_append, List.append_assoc, List.append_assoc, List.append_assoc] at this
    exact this
  | long x a b c d rest ih1 ih2 =>
    intro pre pre' hl
    by_cases hx : x = 232 ∨ x = 233
    · by_cases hd : d = 0 ∨ d = 255
      · rw [st_hit hx hd, tr_hit hx hd, List.foldl_cons, updF_long s pre pre' hl]
        have := ih1 (pre ++ [x, a, b, c, d]) (pre' ++ [x, b0 (num a b c + s * ((pre.length : Int) + 5)), b1 (num a b c + s * ((pre.length : Int) + 5)), b2 (num a b c + s * ((pre.length : Int) + 5)), d]) (by simp [hl])
        rw [List.length_append, List.append_assoc pre] at this
        refine this.trans ?_
        simp
      · rw [st_pass hx hd, tr_pass hx hd]
        have := ih1 (pre ++ [x, a, b, c, d]) (pre' ++ [x, a, b, c, d]) (by simp [hl])
        rw [List.length_append, List.append_assoc, List.append_assoc, List.append_assoc] at this
        exact this
    · rw [st_step hx, tr_step hx]
      have := ih2 (pre ++ [x]) (pre' ++ [x]) (by simp [hl])
      rw [List.length_append, List.append_assoc, List.append_assoc, List.append_assoc] at this
      exact this
theorem transF_eq (s : Int) (b : Bs) : (scan b 0).foldl (updF s b) b = trans s b := by
  rw [scan_eq, trans_eq]
  exact foldl_trF s b [] [] rfl
end Go.Proofs.Ythcagaklinkkpaa.M
