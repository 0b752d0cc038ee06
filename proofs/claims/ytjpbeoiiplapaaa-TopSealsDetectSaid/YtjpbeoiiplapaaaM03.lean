/- The plain law of chapter 3: the register of CRC-32 as a linear map. No program in sight. -/
import Derived.Lib.Hide
namespace Go.Proofs.Ytjpbeoiiplapaaa.M
set_option linter.unusedVariables false

abbrev R := BitVec 32
abbrev Bs := List UInt8
def poly : R := 3988292384#32

def step1 (r : R) : R := (r >>> 1) ^^^ (if r.getLsbD 0 then poly else 0#32)
def steps : Nat → R → R
  | 0, r => r
  | k + 1, r => steps k (step1 r)
def S (r : R) : R := steps 8 r
/-- A byte as a register. -/
def ext (b : UInt8) : R := b.toBitVec.setWidth 32
def reg (r : R) (b : UInt8) : R := S (r ^^^ ext b)
def F (r : R) (l : Bs) : R := l.foldl reg r

theorem step1_xor (a b : R) : step1 (a ^^^ b) = step1 a ^^^ step1 b := by
  unfold step1
  rw [BitVec.ushiftRight_xor_distrib, BitVec.getLsbD_xor]
  cases a.getLsbD 0 <;> cases b.getLsbD 0 <;> simp
  · ac_rfl
  · ac_rfl
  · have : ∀ x y p : R, x ^^^ y = x ^^^ p ^^^ (y ^^^ p) := fun x y p => by
      rw [show x ^^^ p ^^^ (y ^^^ p) = x ^^^ y ^^^ (p ^^^ p) by ac_rfl]; simp
    exact this _ _ _
theorem steps_xor (k : Nat) : ∀ a b : R, steps k (a ^^^ b) = steps k a ^^^ steps k b := by
  induction k with
  | zero => intro a b; rfl
  | succ k ih => intro a b; rw [steps, step1_xor, ih]; rfl
theorem S_xor (a b : R) : S (a ^^^ b) = S a ^^^ S b := steps_xor 8 a b
theorem step1_zero : step1 0#32 = 0#32 := by decide
theorem S_zero : S 0#32 = 0#32 := by decide
theorem ext_xor (a b : UInt8) : ext (a ^^^ b) = ext a ^^^ ext b := by
  unfold ext
  rw [UInt8.toBitVec_xor, BitVec.setWidth_xor]
theorem ext_zero : ext 0 = 0#32 := by decide

theorem F_nil (r : R) : F r [] = r := rfl
theorem F_cons (r : R) (b : UInt8) (l : Bs) : F r (b :: l) = F (reg r b) l := rfl
theorem F_append (r : R) (x y : Bs) : F r (x ++ y) = F (F r x) y := by simp [F]
theorem F_snoc (r : R) (x : Bs) (b : UInt8) : F r (x ++ [b]) = reg (F r x) b := by simp [F]
def bxor (x y : Bs) : Bs := List.zipWith (· ^^^ ·) x y
theorem F_xor : ∀ (x y : Bs) (a b : R), x.length = y.length → F (a ^^^ b) (bxor x y) = F a x ^^^ F b y
  | [], [], a, b, _ => rfl
  | p :: x, q :: y, a, b, h => by
    have e : reg (a ^^^ b) (p ^^^ q) = reg a p ^^^ reg b q := by
      unfold reg
      rw [ext_xor, ← S_xor]
      congr 1
      ac_rfl
    show F (reg (a ^^^ b) (p ^^^ q)) (bxor x y) = _
    rw [e, F_xor x y _ _ (by simpa using h)]
    rfl

/-! ### even registers: a shift -/
theorem step1_even {x : R} (h : x.toNat % 2 = 0) : (step1 x).toNat = x.toNat / 2 := by
  have h0 : x.getLsbD 0 = false := by
    rw [BitVec.getLsbD, Nat.testBit_zero]
    simp [h]
  unfold step1
  rw [h0]
  simp [BitVec.toNat_ushiftRight, Nat.shiftRight_eq_div_pow]
theorem steps_even (k : Nat) : ∀ x : R, x.toNat % 2 ^ k = 0 → (steps k x).toNat = x.toNat / 2 ^ k := by
  induction k with
  | zero => intro x _; simp [steps]
  | succ k ih =>
    intro x h
    have hp : 2 ^ (k + 1) = 2 * 2 ^ k := by rw [Nat.pow_succ]; omega
    have h2 : x.toNat % 2 = 0 := by
      rw [hp] at h
      exact Nat.mod_eq_zero_of_dvd (Nat.dvd_trans (Nat.dvd_mul_right 2 (2 ^ k)) (Nat.dvd_of_mod_eq_zero h))
    have e := step1_even h2
    rw [steps, ih (step1 x) (by
      rw [e]
      rw [hp] at h
      obtain ⟨q, hq⟩ := Nat.dvd_of_mod_eq_zero h
      rw [hq, Nat.mul_assoc, Nat.mul_div_cancel_left _ (by decide)]
      exact Nat.mul_mod_right _ _), e, hp, Nat.div_div_eq_div_mul]
theorem S_even {x : R} (h : x.toNat % 256 = 0) : (S x).toNat = x.toNat / 256 := steps_even 8 x h

theorem step1_inj {x : R} (h : step1 x = 0#32) : x = 0#32 := by
  unfold step1 at h
  cases h0 : x.getLsbD 0 with
  | true =>
    rw [h0] at h
    have h31 := congrArg (fun y : R => y.getLsbD 31) h
    simp [poly] at h31
  | false =>
    rw [h0] at h
    simp at h
    apply BitVec.eq_of_getLsbD_eq
    intro i hi
    rcases Nat.eq_zero_or_pos i with hz | hz
    · subst hz; simpa using h0
    · have := congrArg (fun y : R => y.getLsbD (i - 1)) h
      simp at this
      have e : 1 + (i - 1) = i := by omega
      rw [e] at this
      simpa using this
theorem steps_inj (k : Nat) : ∀ x : R, steps k x = 0#32 → x = 0#32 := by
  induction k with
  | zero => intro x h; exact h
  | succ k ih => intro x h; exact step1_inj (ih _ h)
theorem S_inj {x : R} (h : S x = 0#32) : x = 0#32 := steps_inj 8 x h

/-! ### bytes of a register -/
def lo (r : R) : UInt8 := UInt8.ofBitVec (r.setWidth 8)
def hi (r : R) : R := (r >>> 8) <<< 8
theorem ext_lo_bit (r : R) (i : Nat) : (ext (lo r)).getLsbD i = (decide (i < 8) && r.getLsbD i) := by
  simp only [ext, lo, BitVec.getLsbD_setWidth]
  by_cases h : i < 8
  · simp [h, show i < 32 by omega]
  · simp [h]
theorem hi_lo (r : R) : hi r ^^^ ext (lo r) = r := by
  apply BitVec.eq_of_getLsbD_eq
  intro i hi'
  rw [BitVec.getLsbD_xor, ext_lo_bit]
  simp only [hi, BitVec.getLsbD_shiftLeft, BitVec.getLsbD_ushiftRight]
  by_cases h : i < 8
  · simp [h]
  · have e : 8 + (i - 8) = i := by omega
    simp [h, hi', e]
theorem S_hi (r : R) : S (hi r) = r >>> 8 := by
  have h1 : (hi r).toNat = r.toNat / 256 * 256 := by
    have := r.isLt
    simp only [hi, BitVec.toNat_shiftLeft, BitVec.toNat_ushiftRight, Nat.shiftRight_eq_div_pow, Nat.shiftLeft_eq]
    omega
  apply BitVec.eq_of_toNat_eq
  rw [S_even (by rw [h1]; exact Nat.mul_mod_left _ _), h1, Nat.mul_div_cancel _ (by decide), BitVec.toNat_ushiftRight, Nat.shiftRight_eq_div_pow]
/-- The table's way. -/
theorem reg_table (r : R) (b : UInt8) : (r >>> 8) ^^^ S (ext (lo r ^^^ b)) = reg r b := by
  unfold reg
  rw [ext_xor, ← S_hi, ← S_xor]
  congr 1
  rw [← BitVec.xor_assoc, hi_lo]
theorem reg_lo (r s : R) : reg r (lo s) = S (r ^^^ s) ^^^ (s >>> 8) := by
  unfold reg
  rw [← S_hi s, ← S_xor]
  congr 1
  have h := hi_lo s
  generalize hi s = a at *
  generalize ext (lo s) = b at *
  rw [← h, show r ^^^ (a ^^^ b) ^^^ a = r ^^^ b ^^^ (a ^^^ a) by ac_rfl]
  simp
def le (s : R) : Bs := [lo s, lo (s >>> 8), lo (s >>> 16), lo (s >>> 24)]
theorem cancel (a b : R) : a ^^^ b ^^^ b = a := by rw [BitVec.xor_assoc]; simp
theorem F_le (r s : R) : F r (le s) = S (S (S (S (r ^^^ s)))) := by
  show reg (reg (reg (reg r (lo s)) (lo (s >>> 8))) (lo (s >>> 16))) (lo (s >>> 24)) = _
  have e1 : s >>> 8 >>> 8 = s >>> 16 := (BitVec.shiftRight_add s 8 8).symm
  have e2 : s >>> 16 >>> 8 = s >>> 24 := (BitVec.shiftRight_add s 16 8).symm
  have e3 : s >>> 24 >>> 8 = 0#32 := by
    rw [← BitVec.shiftRight_add]
    apply BitVec.eq_of_toNat_eq
    have := s.isLt
    simp [BitVec.toNat_ushiftRight, Nat.shiftRight_eq_div_pow]
    omega
  rw [reg_lo r s, reg_lo _ (s >>> 8), cancel, e1, reg_lo _ (s >>> 16), cancel, e2, reg_lo _ (s >>> 24), cancel, e3]
  simp

/-! ### a change within four bytes -/
theorem S_back {x q : R} (hq : q.toNat < 2 ^ 24) (h : S x = q) : x = q <<< 8 := by
  have h1 : (q <<< 8).toNat = q.toNat * 256 := by
    simp only [BitVec.toNat_shiftLeft, Nat.shiftLeft_eq]
    omega
  have h2 : S (q <<< 8) = q := by
    apply BitVec.eq_of_toNat_eq
    rw [S_even (by rw [h1]; exact Nat.mul_mod_left _ _), h1, Nat.mul_div_cancel _ (by decide)]
  have h3 : S (x ^^^ q <<< 8) = 0#32 := by rw [S_xor, h, h2]; simp
  have h4 := S_inj h3
  have := congrArg (· ^^^ q <<< 8) h4
  simp only [cancel] at this
  simpa using this
theorem reg_back {r q : R} {b : UInt8} (hq : q.toNat < 2 ^ 24) (h : reg r b = q) : r = ext b ^^^ q <<< 8 := by
  have := S_back hq h
  rw [← this, show ext b ^^^ (r ^^^ ext b) = r ^^^ (ext b ^^^ ext b) by ac_rfl]
  simp
theorem ext_toNat (b : UInt8) : (ext b).toNat = b.toNat := by
  have := b.toNat_lt
  simp [ext]
theorem size_back {q : R} {b : UInt8} {k : Nat} (hk : k + 8 ≤ 32) (hq : q.toNat < 2 ^ k) : (ext b ^^^ q <<< 8).toNat < 2 ^ (k + 8) := by
  rw [BitVec.toNat_xor]
  refine Nat.xor_lt_two_pow ?_ ?_
  · rw [ext_toNat]
    have := b.toNat_lt
    exact Nat.lt_of_lt_of_le this (Nat.pow_le_pow_right (by decide) (by omega))
  · simp only [BitVec.toNat_shiftLeft, Nat.shiftLeft_eq]
    refine Nat.lt_of_le_of_lt (Nat.mod_le _ _) ?_
    rw [Nat.pow_add]
    exact Nat.mul_lt_mul_of_pos_right hq (by decide)
theorem zero_back {q : R} {b : UInt8} (hq : q.toNat < 2 ^ 24) (h : ext b ^^^ q <<< 8 = 0#32) : b = 0 ∧ q = 0#32 := by
  have h1 : ext b = q <<< 8 := by
    have := congrArg (· ^^^ q <<< 8) h
    simp only [cancel] at this
    simpa using this
  have h2 := congrArg BitVec.toNat h1
  rw [ext_toNat] at h2
  simp only [BitVec.toNat_shiftLeft, Nat.shiftLeft_eq] at h2
  have := b.toNat_lt
  have hb : b.toNat = 0 := by omega
  have hq0 : q.toNat = 0 := by omega
  exact ⟨by rw [← UInt8.toNat_inj]; simpa using hb, BitVec.eq_of_toNat_eq (by simpa using hq0)⟩
theorem burst {b0 b1 b2 b3 : UInt8} (h : F 0#32 [b0, b1, b2, b3] = 0#32) : b0 = 0 ∧ b1 = 0 ∧ b2 = 0 ∧ b3 = 0 := by
  have h : reg (reg (reg (reg 0#32 b0) b1) b2) b3 = 0#32 := h
  have z3 := reg_back (by decide) h
  have s3 : (ext b3 ^^^ (0#32) <<< 8).toNat < 2 ^ 8 := size_back (k := 0) (by omega) (by decide)
  have z2 := reg_back (by omega) z3
  have s2 := size_back (b := b2) (k := 8) (by omega) s3
  have z1 := reg_back (by omega) z2
  have s1 := size_back (b := b1) (k := 16) (by omega) s2
  have z0 := reg_back (by omega) z1
  obtain ⟨e0, f0⟩ := zero_back (by omega) z0.symm
  obtain ⟨e1, f1⟩ := zero_back (by omega) f0
  obtain ⟨e2, f2⟩ := zero_back (by omega) f1
  obtain ⟨e3, _⟩ := zero_back (by decide) f2
  exact ⟨e0, e1, e2, e3⟩
theorem reg_zero (r : R) : reg r 0 = S r := by unfold reg; rw [ext_zero]; simp
theorem F_zeros_inj : ∀ (n : Nat) (x : R), F x (List.replicate n 0) = 0#32 → x = 0#32
  | 0, x, h => h
  | n + 1, x, h => by
    have := F_zeros_inj n (reg x 0) h
    rw [reg_zero] at this
    exact S_inj this
theorem F_zero_zeros : ∀ n : Nat, F 0#32 (List.replicate n 0) = 0#32
  | 0 => rfl
  | n + 1 => by
    show F (reg 0#32 0) (List.replicate n 0) = _
    rw [reg_zero, S_zero]
    exact F_zero_zeros n
/-- The string with four successive bytes changed. -/
def delta4 (n i : Nat) (by4 : Bs) : Bs := List.replicate i 0 ++ by4 ++ List.replicate (n - i - 4) 0
theorem bxor_zeros (x : Bs) : bxor x (List.replicate x.length 0) = x := by
  induction x with
  | nil => rfl
  | cons a x ih => simp only [bxor] at ih ⊢; simp [List.replicate_succ, ih]
theorem detects {b0 b1 b2 b3 : UInt8} (r : R) (b : Bs) (i : Nat) (hi : i + 4 ≤ b.length) (h : F r (bxor b (delta4 b.length i [b0, b1, b2, b3])) = F r b) : b0 = 0 ∧ b1 = 0 ∧ b2 = 0 ∧ b3 = 0 := by
  have hl : b.length = (delta4 b.length i [b0, b1, b2, b3]).length := by simp [delta4]; omega
  have e := F_xor b (delta4 b.length i [b0, b1, b2, b3]) r 0#32 hl
  rw [BitVec.xor_zero] at e
  rw [e] at h
  have h1 : F 0#32 (delta4 b.length i [b0, b1, b2, b3]) = 0#32 := by
    have := congrArg (F r b ^^^ ·) h
    rw [← BitVec.xor_assoc] at this
    simpa using this
  rw [delta4, F_append, F_append, F_zero_zeros] at h1
  exact burst (F_zeros_inj _ _ h1)

/-! ### sums -/
def upd (s : R) (l : Bs) : R := ~~~ (F (~~~ s) l)
def crc (l : Bs) : R := upd 0#32 l
def comb (a b : R) (n : Nat) : R := F a (List.replicate n 0) ^^^ b
theorem upd_crc (x y : Bs) : upd (crc x) y = crc (x ++ y) := by
  unfold crc upd
  rw [BitVec.not_not, F_append]
theorem not_xor (a : R) : ~~~ a = a ^^^ (~~~ 0#32) := by
  apply BitVec.eq_of_getLsbD_eq
  intro i hi
  rw [BitVec.getLsbD_xor, BitVec.getLsbD_not, BitVec.getLsbD_not]
  simp [hi]
theorem comb_crc (x y : Bs) : comb (crc x) (crc y) y.length = crc (x ++ y) := by
  unfold comb crc upd
  rw [F_append]
  generalize hf : F (~~~ 0#32) x = f
  have e : F f y = F (~~~ f) (List.replicate y.length 0) ^^^ F (~~~ 0#32) y := by
    rw [BitVec.xor_comm]
    have := F_xor y (List.replicate y.length 0) (~~~ 0#32) (~~~ f) (by simp)
    rw [← this, bxor_zeros]
    congr 1
    rw [not_xor f, show ~~~ 0#32 ^^^ (f ^^^ ~~~ 0#32) = f ^^^ (~~~ 0#32 ^^^ ~~~ 0#32) by ac_rfl]
    simp
  rw [e]
  generalize F (~~~ f) (List.replicate y.length 0) = p
  generalize F (~~~ 0#32) y = q
  rw [not_xor q, not_xor (p ^^^ q), BitVec.xor_assoc]
theorem crc_adds (x y z : Bs) (h1 : x.length = y.length) (h2 : y.length = z.length) : crc (bxor (bxor x y) z) = crc x ^^^ crc y ^^^ crc z := by
  unfold crc upd
  have hb : (bxor x y).length = z.length := by simp [bxor]; omega
  have e1 := F_xor (bxor x y) z (~~~ 0#32 ^^^ ~~~ 0#32) (~~~ 0#32) hb
  rw [F_xor x y _ _ h1] at e1
  have e2 : (~~~ 0#32 ^^^ ~~~ 0#32 ^^^ ~~~ 0#32 : R) = ~~~ 0#32 := by decide
  rw [e2] at e1
  rw [e1]
  generalize F (~~~ 0#32) x = p
  generalize F (~~~ 0#32) y = q
  generalize F (~~~ 0#32) z = s
  rw [not_xor p, not_xor q, not_xor s, not_xor (p ^^^ q ^^^ s), show p ^^^ ~~~ 0#32 ^^^ (q ^^^ ~~~ 0#32) ^^^ (s ^^^ ~~~ 0#32) = p ^^^ q ^^^ s ^^^ ~~~ 0#32 ^^^ (~~~ 0#32 ^^^ ~~~ 0#32) by ac_rfl]
  simp
def sealed (b : Bs) : Bs := b ++ le (crc b)
/-- The residue: the same for every sealed string. -/
theorem residue (b : Bs) : F (~~~ 0#32) (sealed b) = S (S (S (S (~~~ 0#32)))) := by
  unfold sealed
  rw [F_append, F_le]
  unfold crc upd
  have e : (~~~ 0#32 : R) = ~~~ 0#32 := rfl
  generalize F (~~~ 0#32) b = p
  rw [not_xor p, ← BitVec.xor_assoc]
  simp
end Go.Proofs.Ytjpbeoiiplapaaa.M
