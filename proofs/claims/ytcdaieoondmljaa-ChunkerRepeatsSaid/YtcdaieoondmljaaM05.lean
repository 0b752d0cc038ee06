/- The plain law of chapter 05: a rolling hash. No program in sight. -/
namespace Go.Proofs.Ytcdaieoondmljaa.M
set_option linter.unusedVariables false
abbrev Bs := List UInt8
abbrev R := BitVec 32

def ext (b : UInt8) : R := b.toBitVec.setWidth 32
def val1 (b : UInt8) : R := (ext b + 1#32) * 2654435769#32
def val2 (x : R) : R := (x ^^^ (x >>> 15)) * 2246822519#32
def val3 (z : R) : R := z ^^^ (z >>> 13)
/-- The value of a byte. -/
def val (b : UInt8) : R := val3 (val2 (val1 b))
def rot (x : R) (k : Nat) : R := x.rotateLeft k
def hsh (b : Bs) : R := b.foldl (fun h x => rot h 1 ^^^ val x) 0#32
/-- The reference's way. -/
def rh : Bs → R
  | [] => 0#32
  | x :: l => rot (val x) l.length ^^^ rh l

theorem rot_bit (x : R) (k i : Nat) (hi : i < 32) : (rot x k).getLsbD i = x.getLsbD ((i + (32 - k % 32)) % 32) := by
  unfold rot
  rw [BitVec.getLsbD_rotateLeft]
  obtain ⟨m, hm⟩ : ∃ m, m = k % 32 := ⟨_, rfl⟩
  have hm2 : m < 32 := by omega
  rw [← hm]
  by_cases h : i < m
  · have e : (i + (32 - m)) % 32 = 32 - m + i := by omega
    rw [decide_eq_true h, cond_true, e]
  · have e : (i + (32 - m)) % 32 = i - m := by omega
    rw [decide_eq_false h, cond_false, decide_eq_true hi, Bool.true_and, e]
theorem rot_xor (a b : R) (k : Nat) : rot (a ^^^ b) k = rot a k ^^^ rot b k := by
  apply BitVec.eq_of_getLsbD_eq
  intro i hi
  rw [BitVec.getLsbD_xor, rot_bit _ _ _ hi, rot_bit _ _ _ hi, rot_bit _ _ _ hi, BitVec.getLsbD_xor]
theorem rot_rot (a : R) (j k : Nat) : rot (rot a j) k = rot a (j + k) := by
  apply BitVec.eq_of_getLsbD_eq
  intro i hi
  rw [rot_bit _ _ _ hi, rot_bit _ _ _ (Nat.mod_lt _ (by decide)), rot_bit _ _ _ hi]
  congr 1
  omega
theorem rot_mod (a : R) (k : Nat) : rot a (k % 32) = rot a k := by
  apply BitVec.eq_of_getLsbD_eq
  intro i hi
  rw [rot_bit _ _ _ hi, rot_bit _ _ _ hi, Nat.mod_mod]
theorem rot_zero (a : R) : rot a 0 = a := by
  apply BitVec.eq_of_getLsbD_eq
  intro i hi
  rw [rot_bit _ _ _ hi]
  congr 1
  omega
theorem rot_null (k : Nat) : rot 0#32 k = 0#32 := by
  apply BitVec.eq_of_getLsbD_eq
  intro i hi
  rw [rot_bit _ _ _ hi]; simp
theorem hsh_from (b : Bs) : ∀ h : R, b.foldl (fun h x => rot h 1 ^^^ val x) h = rot h b.length ^^^ rh b := by
  induction b with
  | nil => intro h; show h = rot h 0 ^^^ 0#32; rw [rot_zero]; simp
  | cons x b ih =>
    intro h
    rw [List.foldl_cons, ih]
    show _ = rot h (b.length + 1) ^^^ (rot (val x) b.length ^^^ rh b)
    rw [rot_xor, rot_rot, BitVec.xor_assoc, Nat.add_comm 1]
theorem hsh_rh (b : Bs) : hsh b = rh b := by
  unfold hsh; rw [hsh_from, rot_null]; simp
theorem hsh_snoc (b : Bs) (x : UInt8) : hsh (b ++ [x]) = rot (hsh b) 1 ^^^ val x := by
  unfold hsh; rw [List.foldl_append]; rfl
theorem hsh_append (a b : Bs) : hsh (a ++ b) = rot (hsh a) b.length ^^^ hsh b := by
  rw [hsh_rh b]; unfold hsh; rw [List.foldl_append, hsh_from]
theorem hsh_cons (y : UInt8) (b : Bs) : hsh (y :: b) = rot (val y) b.length ^^^ hsh b := by
  rw [hsh_rh, hsh_rh]; rfl
theorem cancel (a b : R) : a ^^^ b ^^^ b = a := by rw [BitVec.xor_assoc]; simp
/-- The full window: the first byte leaves it. -/
theorem hsh_roll (y x : UInt8) (b : Bs) {w : Nat} (hw : b.length + 1 = w) : rot (hsh (y :: b)) 1 ^^^ val x ^^^ rot (val y) w = hsh (b ++ [x]) := by
  subst hw
  rw [hsh_cons, rot_xor, rot_rot, hsh_snoc, BitVec.xor_comm (rot (val y) _), BitVec.xor_assoc, BitVec.xor_comm (val x), ← BitVec.xor_assoc, cancel]
end Go.Proofs.Ytcdaieoondmljaa.M
