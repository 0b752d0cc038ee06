/- wire: further, number, put, PutInt: how many bytes a number takes (which bytes does not matter here). -/
import Derived.Test.YtjpbeoiiplapaaaLen
import Derived.Test.YtjpbeoiiplapaaaV9
namespace Go.Proofs.Ytjpbeoiiplapaaa.C
set_option linter.unusedVariables false
open Go Go.RowKit Go.Shelf Go.Proofs.Ytjpbeoiiplapaaa Go.Proofs.Ytjpbeoiiplapaaa.W Go.Proofs.Ytjpbeoiiplapaaa.M Go.Proofs.Ytjpbeoiiplapaaa.B

set_option maxRecDepth 100000 in
theorem further_ok (n : Nat) (hn : n ≤ 9007199254740991) (w : World) : Calls Try.prog 26 #[.int .i64 (n : Int)] w fun e w' => ∃ k : Nat, k ≤ 7 ∧ e = .returned (.int .i64 (k : Int)) ∧ w' = w := by
  obtain ⟨b, hb⟩ : ∃ b, Lib.bitLen n = b := ⟨_, rfl⟩
  have hb5 : b ≤ 53 := by rw [← hb]; exact L.bitLen_le (by omega)
  have C := Lib.hid (L.bits_Len (n : Int) w (by omega) (by omega))
  rw [Int.toNat_natCast, hb] at C
  have hw : IntKind.u64.wrap (n : Int) = (n : Int) := by simp [IntKind.wrap, IntKind.signed, IntKind.bits]; omega
  clear hb
  go_enter Try.func26, Try.ntmps26
  go_wp2_with (go_at_call 35; refine C.out.mono ?_; rintro e w1 ⟨rfl, rfl⟩)
  go_ret
  exact ⟨(b - 1) / 7, by omega, ret_int (by omega), rfl⟩
theorem number_ok (n : Nat) (hn : n ≤ 9007199254740991) (w : World) : Calls Try.prog 41 #[.int .i64 (n : Int)] w fun e w' => e = .returned (.int .i64 (n : Int)) ∧ w' = w := by
  have h1 : ¬ (n : Int) < 0 := by omega
  have h2 : ¬ (9007199254740991 : Int) < (n : Int) := by omega
  go_enter Try.func41, Try.ntmps41
  go_wp2
  go_ret
  exact ⟨rfl, rfl⟩
theorem some_byte (z : Int) : ∃ v : UInt8, IntKind.u8.wrap z = (v.toNat : Int) := by
  have h : (0 : Int) ≤ z % 256 ∧ z % 256 < 256 := by omega
  refine ⟨UInt8.ofNat (z % 256).toNat, ?_⟩
  rw [UInt8.toNat_ofNat']
  simp [IntKind.wrap, IntKind.signed, IntKind.bits]
  omega
theorem or_u8 (a b : UInt8) : bits .or .u8 (a.toNat : Int) (b.toNat : Int) = ((a ||| b).toNat : Int) := by
  have key : ∀ x : UInt8, BitVec.ofInt 8 (x.toNat : Int) = x.toBitVec := fun x => by
    rw [BitVec.ofInt_natCast]
    apply BitVec.eq_of_toNat_eq
    rw [BitVec.toNat_ofNat]
    exact Nat.mod_eq_of_lt x.toNat_lt
  show IntKind.u8.wrap ((BitVec.ofInt 8 (a.toNat : Int) ||| BitVec.ofInt 8 (b.toNat : Int)).toNat : Int) = _
  rw [key, key]
  have : (a.toBitVec ||| b.toBitVec).toNat = (a ||| b).toNat := by rw [UInt8.toNat_or, BitVec.toNat_or]; rfl
  rw [this]
  have := (a ||| b).toNat_lt
  generalize (a ||| b).toNat = n at *
  simp [IntKind.wrap, IntKind.signed, IntKind.bits]; omega
theorem some_bits (o : BinOp) (x y : Int) : ∃ v : UInt8, bits o .u8 x y = (v.toNat : Int) := some_byte _
theorem some_mod (x : Int) : ∃ v : UInt8, x % 256 = (v.toNat : Int) := by
  obtain ⟨v, h⟩ := some_byte x
  exact ⟨v, by rw [← h]; simp [IntKind.wrap, IntKind.signed, IntKind.bits]⟩
set_option maxRecDepth 100000 in
set_option maxHeartbeats 1000000 in
theorem wput_ok (base m c n : Nat) (l : Bs) (A : Option Addr) (hl : l.length = m) (hm : m ≤ 1000) (hn : n ≤ 9007199254740991) (w : World) (hbase : base ≤ w.heap.size) (hown : w.ownsRow base 5 1 (.slice A m c) m (l.map u8)) :
    Calls Try.prog 33 #[.slice A m c, .int .i64 (n : Int)] w fun e w' => ∃ (A' : Option Addr) (c' : Nat) (bs : Bs), bs.length ≤ 8 ∧ e = .returned (.slice A' (m + bs.length) c') ∧ w'.ownsRow base 5 1 (.slice A' (m + bs.length) c') (m + bs.length) ((l ++ bs).map u8) ∧ Below base w w' := by
  obtain ⟨i0, hi, hz0, hz1, hz2⟩ := info_parts info5
  have C1 := Lib.hid (number_ok n hn w)
  have C2 := Lib.hid (further_ok n hn w)
  go_enter Try.func33, Try.ntmps33
  go_wp2_with (first
    | (go_at_call 41; refine C1.out.mono ?_; rintro e w1 ⟨rfl, rfl⟩)
    | (go_at_call 26; refine C2.out.mono ?_; rintro e w1 ⟨k, hk, rfl, rfl⟩; obtain ⟨v, hv⟩ := some_bits .or (255 * 2 ^ (8 - k) % 256) ((n : Int) / 2 ^ (8 * k) % 256))
    | (at_builtin; refine wpList_append_sl _ u8_one' rfl _ _ 22 rfl base 5 i0 (.int .u8 0) 1 Try.underlying22 hi hz0 hz1 hz2 rfl (.slice A m c) m _ rfl (hown.alloc _) _ _ _ [v] 1 rfl (Sl.of_new rfl rfl) rfl (by unfold maxLen; omega) (by omega) (by simp; omega) ?_; intro v2 w2 o2 g2; have hB2 : Below base w1 w2 := ((Below.refl base w1).alloc hbase _).grown g2 (by simp; omega) (fun j hj => (hown.lt j hj).1); rw [← u8_append] at o2; obtain ⟨A2, c2, rfl, _, _⟩ := own_form o2))
  clear C1 C2 hown
  go_loopw [0, 7] (fun dv iv wm => ∃ (j q : Nat) (A' : Option Addr) (c' : Nat) (bs : Bs), iv = .int .i64 ((j : Int) - 1) ∧ dv = .slice A' (m + q) c' ∧ Hid (bs.length = q) ∧ q + j = k + 1 ∧ wm.ownsRow base 5 1 (.slice A' (m + q) c') (m + q) ((l ++ bs).map u8) ∧ Below base w1 wm) (fun _ iv _ => (intOf iv + 1).toNat)
  case atStart => exact ⟨k, 1, A2, c2, [v], rfl, rfl, Lib.hid rfl, by omega, o2, hB2⟩
  case round =>
    obtain ⟨j, q, A3, c3, bs, rfl, rfl, hbs, hq, o3, hB3⟩ := hrel
    clear o2 hB2
    by_cases hj : j = 0
    · subst hj
      go_wp2
      go_ret
      exact ⟨A3, c3, bs, by rw [hbs.out]; omega, by rw [hbs.out]; rfl, by rw [hbs.out]; exact o3, hB3⟩
    · obtain ⟨i, rfl⟩ : ∃ i, j = i + 1 := ⟨j - 1, by omega⟩
      have e1 : (((i + 1 : Nat) : Int) - 1) = (i : Int) := by omega
      obtain ⟨x, hx⟩ := some_mod ((n : Int) / 2 ^ (8 * i))
      rw [e1]
      go_wp2_with (at_builtin; refine wpList_append_sl _ u8_one' rfl _ _ 22 rfl base 5 i0 (.int .u8 0) 1 Try.underlying22 hi hz0 hz1 hz2 rfl (.slice A3 (m + q) c3) (m + q) _ rfl (o3.alloc _) _ _ _ [x] 1 rfl (Sl.of_new rfl rfl) rfl (by unfold maxLen; omega) (by omega) (by have := hB3.size; simp; omega) ?_; intro v4 w4 o4 g4; have hB4 : Below base w1 w4 := (hB3.alloc (by have := hB3.size; omega) _).grown g4 (by have := hB3.size; simp; omega) (fun j hj => (o3.lt j hj).1); rw [← u8_append, List.append_assoc] at o4; obtain ⟨A4, c4, rfl, _, _⟩ := own_form o4)
      go_roundw
      case rel => exact ⟨i, q + 1, A4, c4, bs ++ [x], by go_num, rfl, Lib.hid (by rw [List.length_append, hbs.out]; rfl), by omega, o4, hB4⟩
      case measure => first | (simp [intOf]; done) | (simp [intOf]; omega)
set_option maxRecDepth 100000 in
theorem putInt_ok (m c n : Nat) (l : Bs) (A : Option Addr) (hl : l.length = m) (hm : m ≤ 1000) (hn : n ≤ 9007199254740991) (w : World) (B : Nat) (h : Sl u8 w B A l) :
    Calls Try.prog 24 #[.slice A m c, .int .i64 (n : Int)] w fun e w' => ∃ (A' : Option Addr) (c' : Nat) (l' : Bs) (m' : Nat), l'.length = m' ∧ m' ≤ m + 8 ∧ e = .returned (.slice A' m' c') ∧ w'.ownsRow w.heap.size 5 1 (.slice A' m' c') m' (l'.map u8) ∧ Below w.heap.size w w' := by
  have C1 := Lib.hid (clone_ok A c m l w B h hl (by omega))
  clear h
  have HLL := Lib.hid hl
  go_enter Try.func24, Try.ntmps24
  go_wp2_with (first
    | (go_at_call 9; refine C1.out.mono ?_; rintro e w1 ⟨A1, c1, rfl, o1, hb1⟩)
    | (go_at_call 33; refine (wput_ok w.heap.size m c1 n l A1 HLL.out hm hn _ hb1.size o1).mono ?_; rintro e w2 ⟨A2, c2, bs, hbs, rfl, o2, hb2⟩))
  go_ret
  exact ⟨A2, c2, l ++ bs, m + bs.length, by rw [List.length_append, hl], by omega, rfl, o2, hb1.trans hb2⟩
end Go.Proofs.Ytjpbeoiiplapaaa.C
