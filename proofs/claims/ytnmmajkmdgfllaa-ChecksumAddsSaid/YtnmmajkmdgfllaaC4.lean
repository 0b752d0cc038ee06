import Derived.Test.YtnmmajkmdgfllaaC3
import Derived.Test.YtnmmajkmdgfllaaB03
namespace Go.Proofs.Ytnmmajkmdgfllaa.C
set_option linter.unusedVariables false
open Go Go.RowKit Go.Shelf Go.Proofs.Ytnmmajkmdgfllaa Go.Proofs.Ytnmmajkmdgfllaa.W Go.Proofs.Ytnmmajkmdgfllaa.M Go.Proofs.Ytnmmajkmdgfllaa.B

theorem values_any (a : Option Addr) (len cap : Nat) (w : World) :
    Calls Try.prog 23 #[.slice a len cap] w fun e w' => e = .returned (.func (.func 29) #[] #[.pointer (some ⟨w.heap.size, 0, none⟩)]) ∧ w' = w.alloc (.cells #[.slice a len cap] 26) :=
  callsIn_wide.1 (values_in Fence.wide 3 trivial rfl a len cap w)
theorem zeros_any (N : Int) (w : World) :
    Calls Try.prog 21 #[.int .i64 N] w fun e w' => e = .returned (.func (.func 28) #[] #[.pointer (some ⟨w.heap.size, 0, none⟩)]) ∧ w' = w.alloc (.cells #[.int .i64 N] 3) :=
  callsIn_wide.1 (zeros_in Fence.wide 3 trivial rfl N w)

theorem not_u32 (r : R) : bits .xor .u32 IntKind.u32.max (r.toNat : Int) = ((~~~ r).toNat : Int) := by
  have e : IntKind.u32.max = ((~~~ 0#32 : R).toNat : Int) := by decide
  rw [e, bits_xor, BitVec.xor_comm, ← not_xor]

/-- absorb over a slice's bytes, where the slice value lies in a box. -/
theorem absorb_values (r : R) (g : Nat) (A : Option Addr) (c : Nat) (xs : List UInt8) (hn : xs.length ≤ 140737488351232) (w : World) (B : Nat) (h : Sl u8 w B A xs) (hc : Blk w g 26 #[.slice A xs.length c]) :
    Calls Try.prog 20 #[.int .u32 (r.toNat : Int), .func (.func 29) #[] #[.pointer (some ⟨g, 0, none⟩)]] w fun e w' => e = .returned (.int .u32 ((F r xs).toNat : Int)) ∧ Below w.heap.size w w' :=
  absorb_any r _ _ xs _ w (enters_of Try.func29 (by kernel_rfl) rfl) (fun W hB =>
    values_stops Fence.wide 2 trivial rfl (by omega) g w.heap.size A c xs hn W (Nat.lt_of_lt_of_le hc.lt hB.size) hB.size (hc.later hB).cell0 (h.lt.below hB))
theorem absorb_zeros (r : R) (g : Nat) (N : Nat) (hN : N ≤ 65536) (w : World) (hc : Blk w g 3 #[.int .i64 (N : Int)]) :
    Calls Try.prog 20 #[.int .u32 (r.toNat : Int), .func (.func 28) #[] #[.pointer (some ⟨g, 0, none⟩)]] w fun e w' => e = .returned (.int .u32 ((F r (List.replicate N 0)).toNat : Int)) ∧ Below w.heap.size w w' :=
  absorb_any r _ _ (List.replicate N 0) _ w (enters_of Try.func28 (by kernel_rfl) rfl) (fun W hB => by
    rw [List.length_replicate]
    exact zeros_stops Fence.wide 2 trivial rfl (by omega) g w.heap.size N hN W (Nat.lt_of_lt_of_le hc.lt hB.size) (hc.later hB).cell0)

theorem update_any (s : R) (A : Option Addr) (c : Nat) (xs : List UInt8) (hn : xs.length ≤ 140737488351232) (w : World) (B : Nat) (h : Sl u8 w B A xs) :
    Calls Try.prog 13 #[.int .u32 (s.toNat : Int), .slice A xs.length c] w fun e w' => e = .returned (.int .u32 ((upd s xs).toNat : Int)) ∧ Below w.heap.size w w' := by
  obtain ⟨q, hq⟩ : ∃ q, q = ~~~ s := ⟨_, rfl⟩
  obtain ⟨o, ho⟩ : ∃ o, o = upd s xs := ⟨_, rfl⟩
  have H1 := Lib.hid (absorb_values q w.heap.size A c xs hn (w.alloc (.cells #[.slice A xs.length c] 26)) _ (h.lt.alloc (Nat.le_refl _) _) (Blk.new w _ _))
  have ho' : o = ~~~ (F q xs) := by rw [ho, hq]; rfl
  rw [← ho]
  obtain ⟨f, hf⟩ : ∃ f, f = F q xs := ⟨_, rfl⟩
  rw [← hf] at H1 ho'
  have hq1 : bits .xor .u32 IntKind.u32.max (s.toNat : Int) = (q.toNat : Int) := by rw [hq]; exact not_u32 s
  have hq2 : bits .xor .u32 (if IntKind.u32.signed = true then -1 else IntKind.u32.max) (s.toNat : Int) = (q.toNat : Int) := hq1
  have ho1 : bits .xor .u32 IntKind.u32.max (f.toNat : Int) = (o.toNat : Int) := by rw [ho']; exact not_u32 f
  have ho2 : bits .xor .u32 (if IntKind.u32.signed = true then -1 else IntKind.u32.max) (f.toNat : Int) = (o.toNat : Int) := ho1
  clear ho hq hf ho'
  go_enter Try.func13, Try.ntmps13
  go_wp2_with (first | (go_at_call 23; refine (values_any _ _ _ _).mono ?_; rintro e w1 ⟨rfl, rfl⟩) | (go_at_call 20; refine H1.out.mono ?_; rintro e w2 ⟨rfl, hb2⟩))
  go_ret
  exact ⟨rfl, ((Below.refl _ w).alloc (Nat.le_refl _) _).trans (hb2.mono (by simp))⟩

theorem sum_any (A : Option Addr) (c : Nat) (xs : List UInt8) (hn : xs.length ≤ 140737488351232) (w : World) (B : Nat) (h : Sl u8 w B A xs) :
    Calls Try.prog 12 #[.slice A xs.length c] w fun e w' => e = .returned (.int .u32 ((crc xs).toNat : Int)) ∧ Below w.heap.size w w' := by
  have H1 : Hid (Calls Try.prog 13 #[.int .u32 0, .slice A xs.length c] w fun e w' => e = .returned (.int .u32 ((crc xs).toNat : Int)) ∧ Below w.heap.size w w') := Lib.hid (update_any 0#32 A c xs hn w B h)
  obtain ⟨v, hv⟩ : ∃ v : Int, v = ((crc xs).toNat : Int) := ⟨_, rfl⟩
  rw [← hv] at H1 ⊢
  clear hv
  go_enter Try.func12, Try.ntmps12
  go_wp2_with (go_at_call 13; refine H1.out.mono ?_; rintro e w2 ⟨rfl, hb2⟩)
  go_ret
  exact ⟨rfl, hb2⟩

def combZ (a b : R) (n : Int) : R := if n < 0 ∨ n > 65536 then 0#32 else comb a b n.toNat

theorem combine_any (a b : R) (n : Int) (w : World) :
    Calls Try.prog 10 #[.int .u32 (a.toNat : Int), .int .u32 (b.toNat : Int), .int .i64 n] w fun e w' => e = .returned (.int .u32 ((combZ a b n).toNat : Int)) ∧ Below w.heap.size w w' := by
  by_cases h0 : n < 0
  · have hc : combZ a b n = 0#32 := if_pos (.inl h0)
    rw [hc]
    go_enter Try.func10, Try.ntmps10
    go_wp2
    go_ret
    exact ⟨rfl, Below.refl _ _⟩
  · by_cases h1 : n > 65536
    · have hc : combZ a b n = 0#32 := if_pos (.inr h1)
      rw [hc]
      go_enter Try.func10, Try.ntmps10
      go_wp2
      go_ret
      exact ⟨rfl, Below.refl _ _⟩
    · have hc : combZ a b n = comb a b n.toNat := if_neg (by omega)
      obtain ⟨N, rfl⟩ : ∃ N : Nat, n = (N : Int) := ⟨n.toNat, by omega⟩
      have hN : N ≤ 65536 := by omega
      have H1 := Lib.hid (absorb_zeros a w.heap.size N hN (w.alloc (.cells #[.int .i64 (N : Int)] 3)) (Blk.new w _ _))
      obtain ⟨f, hf⟩ : ∃ f, f = F a (List.replicate N 0) := ⟨_, rfl⟩
      rw [← hf] at H1
      have hx := bits_xor f b
      have he : f ^^^ b = combZ a b (N : Int) := by rw [hc, hf]; rfl
      rw [he] at hx
      obtain ⟨o, ho⟩ : ∃ o, o = combZ a b (N : Int) := ⟨_, rfl⟩
      rw [← ho] at hx ⊢
      clear he hc hf ho
      go_enter Try.func10, Try.ntmps10
      go_wp2_with (first | (go_at_call 21; refine (zeros_any _ _).mono ?_; rintro e w1 ⟨rfl, rfl⟩) | (go_at_call 20; refine H1.out.mono ?_; rintro e w2 ⟨rfl, hb2⟩))
      go_ret
      exact ⟨rfl, ((Below.refl _ w).alloc (Nat.le_refl _) _).trans (hb2.mono (by simp))⟩

theorem ext_val (b : UInt8) : IntKind.u32.wrap (b.toNat : Int) = ((ext b).toNat : Int) := by
  rw [ext_toNat]
  have := b.toNat_lt
  exact wrap_u32 _ (by omega) (by omega)
theorem rem2 (y : R) : ((y.toNat : Int) % 2 == 1) = y.getLsbD 0 := by
  rw [BitVec.getLsbD, Nat.testBit_zero]
  rcases Nat.mod_two_eq_zero_or_one y.toNat with h | h
  · have e : (y.toNat : Int) % 2 = 0 := by omega
    rw [h, e]; rfl
  · have e : (y.toNat : Int) % 2 = 1 := by omega
    rw [h, e]; rfl

theorem register_any (r : R) (b : UInt8) (w : World) :
    Calls Try.prog 22 #[.int .u32 (r.toNat : Int), .int .u8 (b.toNat : Int)] w fun e w' => e = .returned (.int .u32 ((reg r b).toNat : Int)) ∧ w = w' := by
  obtain ⟨x, hx⟩ : ∃ x, x = r ^^^ ext b := ⟨_, rfl⟩
  have hr : reg r b = S x := by rw [hx]; rfl
  rw [hr]
  have hv := ext_val b
  have hb1 := bits_xor r (ext b)
  rw [← hx] at hb1
  obtain ⟨z, hz⟩ : ∃ z, z = ext b := ⟨_, rfl⟩
  rw [← hz] at hv hb1
  clear hx hr hz
  go_enter Try.func22, Try.ntmps22
  go_wp2
  go_loop [0, 5] (fun r i => ∃ (k : Nat) (y : R), k ≤ 8 ∧ i = .int .i64 k ∧ r = .int .u32 (y.toNat : Int) ∧ Hid (steps (8 - k) y = S x)) (fun _ i => 8 - (intOf i).toNat)
  case atStart => exact ⟨0, x, Nat.zero_le _, rfl, rfl, Lib.hid rfl⟩
  case round =>
    obtain ⟨k, y, hk, rfl, rfl, hs⟩ := hrel
    by_cases hlt : k < 8
    · have hst : steps (8 - k) y = steps (8 - (k + 1)) (step1 y) := by
        rw [show 8 - k = (8 - (k + 1)) + 1 by omega]; rfl
      have HST := Lib.hid hst
      clear hst
      go_wp2
      · have h1 : ((y.toNat : Int) % 2 == 1) = true := by assumption
        rw [rem2] at h1
        go_round
        case rel =>
          refine ⟨k + 1, step1 y, by omega, by go_num, ?_, Lib.hid (HST.out.symm.trans hs.out)⟩
          rw [shr1, ← poly_val, bits_xor]
          unfold step1; rw [h1]; rfl
        case measure => simp [intOf]; omega
      · have h1 : ((y.toNat : Int) % 2 == 1) = false := by assumption
        rw [rem2] at h1
        go_round
        case rel =>
          refine ⟨k + 1, step1 y, by omega, by go_num, ?_, Lib.hid (HST.out.symm.trans hs.out)⟩
          rw [shr1]
          unfold step1; rw [h1]; simp
        case measure => simp [intOf]; omega
    · obtain rfl : k = 8 := by omega
      go_wp2
      go_ret
      exact ⟨by rw [← hs.out]; rfl, rfl⟩
end Go.Proofs.Ytnmmajkmdgfllaa.C
