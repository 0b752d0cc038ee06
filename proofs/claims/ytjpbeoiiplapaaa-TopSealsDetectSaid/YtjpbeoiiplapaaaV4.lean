import Derived.Test.YtjpbeoiiplapaaaV3
import Derived.Test.YtjpbeoiiplapaaaVB
namespace Go.Proofs.Ytjpbeoiiplapaaa.C
set_option linter.unusedVariables false
open Go Go.RowKit Go.Shelf Go.Proofs.Ytjpbeoiiplapaaa Go.Proofs.Ytjpbeoiiplapaaa.W Go.Proofs.Ytjpbeoiiplapaaa.M Go.Proofs.Ytjpbeoiiplapaaa.B

theorem values_any (a : Option Addr) (len cap : Nat) (w : World) :
    Calls Try.prog 28 #[.slice a len cap] w fun e w' => e = .returned (.func (.func 37) #[] #[.pointer (some ⟨w.heap.size, 0, none⟩)]) ∧ w' = w.alloc (.cells #[.slice a len cap] 22) :=
  callsIn_wide.1 (values_in Fence.wide 3 trivial rfl a len cap w)
theorem not_u32 (r : R) : bits .xor .u32 IntKind.u32.max (r.toNat : Int) = ((~~~ r).toNat : Int) := by
  have e : IntKind.u32.max = ((~~~ 0#32 : R).toNat : Int) := by decide
  rw [e, bits_xor, BitVec.xor_comm, ← not_xor]

/-- absorb over a slice's bytes, where the slice value lies in a box. -/
theorem absorb_values (r : R) (g : Nat) (A : Option Addr) (c : Nat) (xs : List UInt8) (hn : xs.length ≤ 140737488351232) (w : World) (B : Nat) (h : Sl u8 w B A xs) (hc : Blk w g 22 #[.slice A xs.length c]) :
    Calls Try.prog 27 #[.int .u32 (r.toNat : Int), .func (.func 37) #[] #[.pointer (some ⟨g, 0, none⟩)]] w fun e w' => e = .returned (.int .u32 ((F r xs).toNat : Int)) ∧ Below w.heap.size w w' :=
  absorb_any r _ _ xs _ w (enters_of Try.func37 (by kernel_rfl) rfl) (fun W hB =>
    values_stops Fence.wide 2 trivial rfl (by omega) g w.heap.size A c xs hn W (Nat.lt_of_lt_of_le hc.lt hB.size) hB.size (hc.later hB).cell0 (h.lt.below hB))
theorem update_any (s : R) (A : Option Addr) (c : Nat) (xs : List UInt8) (hn : xs.length ≤ 140737488351232) (w : World) (B : Nat) (h : Sl u8 w B A xs) :
    Calls Try.prog 17 #[.int .u32 (s.toNat : Int), .slice A xs.length c] w fun e w' => e = .returned (.int .u32 ((upd s xs).toNat : Int)) ∧ Below w.heap.size w w' := by
  obtain ⟨q, hq⟩ : ∃ q, q = ~~~ s := ⟨_, rfl⟩
  obtain ⟨o, ho⟩ : ∃ o, o = upd s xs := ⟨_, rfl⟩
  have H1 := Lib.hid (absorb_values q w.heap.size A c xs hn (w.alloc (.cells #[.slice A xs.length c] 22)) _ (h.lt.alloc (Nat.le_refl _) _) (Blk.new w _ _))
  have ho' : o = ~~~ (F q xs) := by rw [ho, hq]; rfl
  rw [← ho]
  obtain ⟨f, hf⟩ : ∃ f, f = F q xs := ⟨_, rfl⟩
  rw [← hf] at H1 ho'
  have hq1 : bits .xor .u32 IntKind.u32.max (s.toNat : Int) = (q.toNat : Int) := by rw [hq]; exact not_u32 s
  have hq2 : bits .xor .u32 (if IntKind.u32.signed = true then -1 else IntKind.u32.max) (s.toNat : Int) = (q.toNat : Int) := hq1
  have ho1 : bits .xor .u32 IntKind.u32.max (f.toNat : Int) = (o.toNat : Int) := by rw [ho']; exact not_u32 f
  have ho2 : bits .xor .u32 (if IntKind.u32.signed = true then -1 else IntKind.u32.max) (f.toNat : Int) = (o.toNat : Int) := ho1
  clear ho hq hf ho'
  go_enter Try.func17, Try.ntmps17
  go_wp2_with (first | (go_at_call 28; refine (values_any _ _ _ _).mono ?_; rintro e w1 ⟨rfl, rfl⟩) | (go_at_call 27; refine H1.out.mono ?_; rintro e w2 ⟨rfl, hb2⟩))
  go_ret
  exact ⟨rfl, ((Below.refl _ w).alloc (Nat.le_refl _) _).trans (hb2.mono (by simp))⟩

theorem sum_any (A : Option Addr) (c : Nat) (xs : List UInt8) (hn : xs.length ≤ 140737488351232) (w : World) (B : Nat) (h : Sl u8 w B A xs) :
    Calls Try.prog 8 #[.slice A xs.length c] w fun e w' => e = .returned (.int .u32 ((crc xs).toNat : Int)) ∧ Below w.heap.size w w' := by
  have H1 : Hid (Calls Try.prog 17 #[.int .u32 0, .slice A xs.length c] w fun e w' => e = .returned (.int .u32 ((crc xs).toNat : Int)) ∧ Below w.heap.size w w') := Lib.hid (update_any 0#32 A c xs hn w B h)
  obtain ⟨v, hv⟩ : ∃ v : Int, v = ((crc xs).toNat : Int) := ⟨_, rfl⟩
  rw [← hv] at H1 ⊢
  clear hv
  go_enter Try.func8, Try.ntmps8
  go_wp2_with (go_at_call 17; refine H1.out.mono ?_; rintro e w2 ⟨rfl, hb2⟩)
  go_ret
  exact ⟨rfl, hb2⟩

def combZ (a b : R) (n : Int) : R := if n < 0 ∨ n > 65536 then 0#32 else comb a b n.toNat

theorem ext_val (b : UInt8) : IntKind.u32.wrap (b.toNat : Int) = ((ext b).toNat : Int) := by
  rw [ext_toNat]
  have := b.toNat_lt
  exact wrap_u32 _ (by omega) (by omega)
theorem rem2 (y : R) : ((y.toNat : Int) % 2 == 1) = y.getLsbD 0 := by
  rw [BitVec.getLsbD, Nat.testBit_zero]
  rcases Nat.mod_two_eq_zero_or_one y.toNat with h | h
  · have e : (y.toNat : Int) % 2 = 0 := by omega
    rw [h, e]; rfl
  · have e : (y.toNat : Int) % 2 = 1 := by omega
    rw [h, e]; rfl

end Go.Proofs.Ytjpbeoiiplapaaa.C
