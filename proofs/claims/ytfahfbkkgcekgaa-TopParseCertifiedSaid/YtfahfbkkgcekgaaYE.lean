/- lz: the stream that is written: put, token, Encode. -/
import Derived.Test.YtfahfbkkgcekgaaYD
import Derived.StillTailTactics
import Derived.Laws.BitsAllLaws
import Derived.Lib.RabinKarpLaws
namespace Go.Proofs.Ytfahfbkkgcekgaa.H
set_option linter.unusedVariables false
set_option linter.unusedSimpArgs false
open Go Go.RowKit Go.Proofs.Ytfahfbkkgcekgaa Go.Proofs.Ytfahfbkkgcekgaa.W Go.Proofs.Ytfahfbkkgcekgaa.M

/-- The stream in block S: D holds the bits B. -/
def StW (w : World) (S : Nat) (D : Bs) (B : List Bool) : Prop := ∃ A c, Blk w S 55 #[.slice A D.length c, .int .i64 (B.length : Int), .int .i64 0] ∧ OwnB w (S + 1) (.slice A D.length c) D.length D ∧ BR D B

/-- Tokens' blocks are as they were. -/
def KT (w w' : World) : Prop := ∀ g cs, Blk w g 46 cs → Blk w' g 46 cs
theorem KT.refl (w : World) : KT w w := fun _ _ h => h
theorem KT.far {w w' : World} (h : KT w w') {p : Addr} {t : TypeId} {cs : Array Value} (hb : Blk w' p.block t cs) (ht : t ≠ 46) (u : Value) : KT w (w'.setCell p u) := fun g cs' hg => (h g cs' hg).far (fun e => by
  have h1 := h g cs' hg
  rw [e] at h1
  have := (show w'.heap[p.block]? = _ from h1).symm.trans hb
  simp at this
  exact ht this.2.symm) u
theorem or_byte (y : UInt8) (t s : Nat) (ht : t ≤ 1) (hs : s ≤ 7) : ∃ z : UInt8, z.toNat = y.toNat ||| (t * 2 ^ s) ∧ bits BinOp.or IntKind.u8 (y.toNat : Int) ((t : Int) * 2 ^ s % 256) = (z.toNat : Int) := by
  have hp : 2 ^ s ≤ 2 ^ 7 := Nat.pow_le_pow_right (by decide) hs
  have h1 : t * 2 ^ s < 2 ^ 8 := by
    have : t * 2 ^ s ≤ 1 * 2 ^ 7 := Nat.mul_le_mul ht hp
    omega
  have h2 : y.toNat ||| (t * 2 ^ s) < 2 ^ 8 := Nat.or_lt_two_pow (by have := y.toNat_lt; omega) h1
  have h3 : (UInt8.ofNat (y.toNat ||| (t * 2 ^ s))).toNat = y.toNat ||| (t * 2 ^ s) := by
    rw [UInt8.toNat_ofNat', Nat.mod_eq_of_lt h2]
  refine ⟨UInt8.ofNat (y.toNat ||| (t * 2 ^ s)), h3, ?_⟩
  have e1 : (t : Int) * 2 ^ s % 256 = ((t * 2 ^ s : Nat) : Int) := by
    have : ((t * 2 ^ s : Nat) : Int) = (t : Int) * 2 ^ s := by norm_cast
    rw [← this]; omega
  rw [e1, u8_or_nat _ _ (by have := y.toNat_lt; omega) (by omega), h3]
theorem row_blk {w : World} {base g n c : Nat} {l : Bs} (h : OwnB w base (.slice (some ⟨g, 0, none⟩) n c) n l) : ∃ cur, Blk w g 5 cur := by
  rcases h.2 with ⟨h', _⟩ | ⟨g', cap', cur, h', _, hg, _⟩
  · simp at h'
  · simp only [Value.slice.injEq, Option.some.injEq, Addr.mk.injEq, and_true, true_and] at h'
    obtain ⟨rfl, rfl⟩ := h'
    exact ⟨cur, hg⟩
set_option maxRecDepth 100000 in
set_option maxHeartbeats 2000000 in
theorem put_ok (n count : Nat) (hn : n < 2 ^ 32) (hc : count ≤ 32) (w : World) (S : Nat) (D : Bs) (B : List Bool) (hB6 : B.length ≤ 1000000) (h : StW w S D B) :
    Calls Try.prog 35 #[.pointer (some ⟨S, 0, none⟩), .int .i64 (n : Int), .int .i64 (count : Int)] w fun e w' => (∃ v, e = .returned v) ∧ ∃ D', StW w' S D' (B ++ numB count n) ∧ Below S w w' ∧ KT w w' := by
  obtain ⟨i0, hi, hz0, hz1, hz2⟩ := info_parts info5
  have u1 : IntKind.i64.wrap ((count : Int) - 1) = (count : Int) - 1 := by rw [IntKind.wrap_i64]; omega
  go_enter Try.func35, Try.ntmps35
  go_wp2
  go_loopw [6] (fun iv wm => ∃ (d : Nat) (D' : Bs), d ≤ count ∧ iv = .int .i64 ((count : Int) - 1 - (d : Int)) ∧ StW wm S D' (B ++ (numB count n).take d) ∧ Below S w wm ∧ KT w wm) (fun iv _ => (intOf iv + 1).toNat)
  case atStart => exact ⟨0, D, Nat.zero_le _, by go_num, by simpa using h, Below.refl _ _, KT.refl _⟩
  case round =>
    obtain ⟨d, D1, hd, rfl, ⟨A1, c1, hk, ho, hbr⟩, hB, hKT⟩ := hrel
    have HKT := Lib.hid hKT
    clear hKT
    have hSz : S < wr.heap.size := hk.lt
    by_cases hlt : d < count
    · obtain ⟨i, hi'⟩ : ∃ i, count - 1 - d = i := ⟨_, rfl⟩
      have v1 : (count : Int) - 1 - (d : Int) = (i : Int) := by omega
      rw [v1]
      obtain ⟨B1, hB1⟩ : ∃ B1, B ++ (numB count n).take d = B1 := ⟨_, rfl⟩
      have HB1 := Lib.hid hB1
      have hL : B1.length ≤ 1000032 := by rw [← hB1, List.length_append, List.length_take, numB_length]; omega
      rw [hB1] at hk hbr
      obtain ⟨L, hLL⟩ : ∃ L, B1.length = L := ⟨_, rfl⟩
      rw [hLL] at hk hL
      have HLL := Lib.hid hLL
      obtain ⟨m, hm⟩ : ∃ m, D1.length = m := ⟨_, rfl⟩
      rw [hm] at hk ho
      have HM := Lib.hid hm
      have HBR := Lib.hid hbr
      have c0 : wr.cell? ⟨S, 0, none⟩ = some (.slice A1 m c1) := hk.cell 0
      have c1' : wr.cell? ⟨S, 1, none⟩ = some (.int .i64 (L : Int)) := hk.cell 1
      have f0 := hk.frozen 0
      have f1 := hk.frozen 1
      obtain ⟨q, hq⟩ : ∃ q, L / 8 = q := ⟨_, rfl⟩
      obtain ⟨r, hr⟩ : ∃ r, L % 8 = r := ⟨_, rfl⟩
      have v2 : Int.tmod (L : Int) 8 = (r : Int) := by rw [← hr]; rfl
      have v3 : Int.tdiv (L : Int) 8 = (q : Int) := by rw [← hq]; rfl
      clear hB1 hi'
      by_cases hr0 : r = 0
      case' pos =>
        have hmq : q = m := by have := hbr.1; omega
        have NXT : Hid ((D1 ++ [0]).length = q + 1 ∧ ∀ i, bitD (D1 ++ [0]) i = B1.getD i false) := Lib.hid (by
          have := BR_zero hbr (by rw [hLL, hr]; exact hr0)
          rw [hLL, hq] at this; exact this)
        subst hr0
        clear hLL hm hbr
        subst hmq
        go_wp2_with (at_builtin; refine wpList_append_sl _ u8_one' rfl _ _ 22 rfl (S + 1) 5 i0 (.int .u8 0) 1 Try.underlying22 hi hz0 hz1 hz2 rfl (.slice A1 q c1) q _ rfl (World.ownsRow.alloc ho _) _ _ _ [(0 : UInt8)] 1 rfl (Sl.of_new (by simp) rfl) rfl (by unfold maxLen; omega) (by omega) (by simp; omega) ?_; intro v4 w4 o4 g4; have hB4 : Below S w w4 := (hB.alloc (by omega) _).grown g4 (by simp; omega) (fun j hj => by have := (World.ownsRow.lt ho j hj).1; omega); have hk4 := (hk.alloc _).grown g4 (blk_not_row hk (by decide) ho); have HKT4 : Hid (KT w w4) := Lib.hid (fun g cs hg => ((HKT.out g cs hg).alloc _).grown g4 (blk_not_row (HKT.out g cs hg) (by decide) ho)); have o4' := OwnB.snoc o4; obtain ⟨A9, c9, rfl, _, _⟩ := own_form o4; have e0 := hk4.cell 0; have e1 := hk4.frozen 0)
        have hk9 : Blk (w4.setCell ⟨S, 0, none⟩ (.slice A9 (q + 1) c9)) S 55 #[.slice A9 (q + 1) c9, .int .i64 (L : Int), .int .i64 0] := hk4.store 0 _
        have ho9 : OwnB (w4.setCell ⟨S, 0, none⟩ (.slice A9 (q + 1) c9)) (S + 1) (.slice A9 (q + 1) c9) (q + 1) (D1 ++ [0]) := ownsRow_setCell_below o4' (a := ⟨S, 0, none⟩) (Nat.lt_succ_self S) _
        have hB9 : Below S w (w4.setCell ⟨S, 0, none⟩ (.slice A9 (q + 1) c9)) := hB4.setCell (p := ⟨S, 0, none⟩) (Nat.le_refl _) _
        have HKT9 : Hid (KT w (w4.setCell ⟨S, 0, none⟩ (.slice A9 (q + 1) c9))) := Lib.hid (HKT4.out.far hk4 (by decide) _)
        obtain ⟨w1, hw1⟩ : ∃ w1, w4.setCell ⟨S, 0, none⟩ (.slice A9 (q + 1) c9) = w1 := ⟨_, rfl⟩
        obtain ⟨D9, hD9⟩ : ∃ D9, D1 ++ [0] = D9 := ⟨_, rfl⟩
        rw [hw1] at hk9 ho9 hB9 HKT9 ⊢
        rw [hD9] at ho9 NXT
        clear hw1 hD9 c0 c1' f0 f1 e0 e1 hk4 o4 o4' hB4 hk ho hB
      case' neg =>
        have hr0' : ¬ (r : Int) = 0 := by omega
        have hmq : q + 1 = m := by have := hbr.1; omega
        have NXT : Hid (D1.length = q + 1 ∧ ∀ i, bitD D1 i = B1.getD i false) := Lib.hid ⟨by omega, hbr.2⟩
        clear hLL hm hbr
        subst hmq
        go_wp2_with fail
        obtain ⟨A9, hA9⟩ : ∃ A9, A9 = A1 := ⟨_, rfl⟩
        obtain ⟨c9, hc9⟩ : ∃ c9, c9 = c1 := ⟨_, rfl⟩
        obtain ⟨w1, hw1⟩ : ∃ w1, w1 = wr := ⟨_, rfl⟩
        obtain ⟨D9, hD9⟩ : ∃ D9, D9 = D1 := ⟨_, rfl⟩
        rw [← hA9, ← hc9] at hk ho
        rw [← hw1] at hk ho hB HKT ⊢
        rw [← hD9] at ho NXT
        have hk9 := hk
        have ho9 := ho
        have hB9 := hB
        have HKT9 := HKT
        clear hA9 hc9 hw1 hD9 c0 c1' f0 f1 hk ho hB
      all_goals
        clear v2
        obtain ⟨r', hr'⟩ : ∃ r', L % 8 = r' := ⟨_, rfl⟩
        have v2 : Int.tmod (L : Int) 8 = (r' : Int) := by rw [← hr']; rfl
        obtain ⟨s, hs⟩ : ∃ s, 7 - r' = s := ⟨_, rfl⟩
        have v4 : (7 : Int) - (r' : Int) = (s : Int) := by omega
        have v5 : IntKind.i64.wrap (s : Int) = (s : Int) := by rw [IntKind.wrap_i64]; omega
        have v6 : (q : Int) < (q : Int) + 1 := by omega
        have v7 : IntKind.i64.wrap (q : Int) = (q : Int) := by rw [IntKind.wrap_i64]; omega
        have v8 : IntKind.i64.wrap (r' : Int) = (r' : Int) := by rw [IntKind.wrap_i64]; omega
        have hSz1 : S < w1.heap.size := hk9.lt
        have hD9 : D9.length = q + 1 := NXT.out.1
        obtain ⟨y, hy⟩ : ∃ y, D9[q]? = some y := ⟨_, List.getElem?_eq_getElem (by omega)⟩
        obtain ⟨g, rfl, ky⟩ := ho9.at_ hy
        have fy : w1.frozen? ⟨g, q, none⟩ = false := World.ownsRow.frozenAt ho9 q
        have c0 : w1.cell? ⟨S, 0, none⟩ = some (.slice (some ⟨g, 0, none⟩) (q + 1) c9) := hk9.cell 0
        have c1' : w1.cell? ⟨S, 1, none⟩ = some (.int .i64 (L : Int)) := hk9.cell 1
        obtain ⟨t, ht⟩ : ∃ t, (n.testBit i).toNat = t := ⟨_, rfl⟩
        have ht1 : t ≤ 1 := by rw [← ht]; cases n.testBit i <;> decide
        have x1 : (n : Int) / 2 ^ i = ((n / 2 ^ i : Nat) : Int) := by norm_cast
        have x2 : bits BinOp.and IntKind.i64 ((n : Int) / 2 ^ i) 1 = (t : Int) := by
          rw [x1, and_one (n / 2 ^ i) (by have := Nat.div_le_self n (2 ^ i); omega), ← ht, Nat.testBit_eq_decide_div_mod_eq]
          have h4 : n / 2 ^ i % 2 = 0 ∨ n / 2 ^ i % 2 = 1 := by omega
          rcases h4 with h4 | h4 <;> simp [h4]
        clear x1
        have x3 : IntKind.u8.wrap (t : Int) = (t : Int) := by simp [IntKind.wrap, IntKind.signed, IntKind.bits]; omega
        obtain ⟨z, hz, x4⟩ := or_byte y t s ht1 (by omega)
        have hgS : S + 1 ≤ g := (World.ownsRow.lt ho9 g rfl).1
        have hk2 : Blk (w1.setCell ⟨g, q, none⟩ (.int .u8 (z.toNat : Int))) S 55 #[.slice (some ⟨g, 0, none⟩) (q + 1) c9, .int .i64 (L : Int), .int .i64 0] := hk9.far (p := ⟨g, q, none⟩) (by show S ≠ g; omega) _
        have ho2 : OwnB (w1.setCell ⟨g, q, none⟩ (.int .u8 (z.toNat : Int))) (S + 1) (.slice (some ⟨g, 0, none⟩) (q + 1) c9) (q + 1) (D9.set q z) := by
          have := (World.ownsRow.stored ho9 q (.int .u8 (z.toNat : Int))).1
          unfold OwnB
          rw [List.map_set]; exact this
        have hB2 : Below S w (w1.setCell ⟨g, q, none⟩ (.int .u8 (z.toNat : Int))) := hB9.setCell (p := ⟨g, q, none⟩) (by show S ≤ g; omega) _
        have HKT2 : Hid (KT w ((w1.setCell ⟨g, q, none⟩ (.int .u8 (z.toNat : Int))).setCell ⟨S, 1, none⟩ (.int .i64 ((L : Int) + 1)))) := Lib.hid ((HKT9.out.far (row_blk ho9).choose_spec (by decide) _).far hk2 (by decide) _)
        have hnb : B ++ (numB count n).take (d + 1) = B1 ++ [n.testBit i] := by
          rw [take_succ (numB_get hlt), ← List.append_assoc, HB1.out, show count - 1 - d = i by omega]
        have hBR2 : BR (D9.set q z) (B1 ++ [n.testBit i]) := by
          have := BR_push (x := n.testBit i) (v := z) (by rw [HLL.out, hq]; exact NXT.out.1) NXT.out.2 (by rw [HLL.out, hq, hr', hs, hz, ht, List.getD_eq_getElem?_getD, hy]; rfl)
          rw [HLL.out, hq] at this
          exact this
        have PP : Hid (StW ((w1.setCell ⟨g, q, none⟩ (.int .u8 (z.toNat : Int))).setCell ⟨S, 1, none⟩ (.int .i64 ((L : Int) + 1))) S (D9.set q z) (B ++ (numB count n).take (d + 1)) ∧ Below S w ((w1.setCell ⟨g, q, none⟩ (.int .u8 (z.toNat : Int))).setCell ⟨S, 1, none⟩ (.int .i64 ((L : Int) + 1)))) := Lib.hid (by
          refine ⟨⟨some ⟨g, 0, none⟩, c9, ?_, ?_, by rw [hnb]; exact hBR2⟩, hB2.setCell (p := ⟨S, 1, none⟩) (Nat.le_refl _) _⟩
          · rw [List.length_set, hD9, hnb, List.length_append, HLL.out]
            exact hk2.store 1 _
          · rw [List.length_set, hD9]
            exact ownsRow_setCell_below ho2 (a := ⟨S, 1, none⟩) (Nat.lt_succ_self S) _)
        have e1 := hk2.cell 1
        have e2 := hk2.frozen 1
        have v9 : IntKind.i64.wrap ((L : Int) + 1) = (L : Int) + 1 := by rw [IntKind.wrap_i64]; omega
        clear hk2 ho2 hB2 hnb hBR2 hk9 ho9 hB9 ht hy hz hs hr' hr hq
        go_still_tail 28, (by kernel_rfl)
        change wpList _ _ _ _ _ w1.drew
        have ky' : w1.drew.cell? ⟨g, q, none⟩ = some (.int .u8 (y.toNat : Int)) := ky
        have fy' : w1.drew.frozen? ⟨g, q, none⟩ = false := fy
        go_wp2_with fail
        go_roundw
        case rel => exact ⟨d + 1, D9.set q z, by omega, by go_num, PP.out.1, PP.out.2.drew, HKT2.out⟩
        case measure => simp [intOf]
    · obtain rfl : d = count := by omega
      have v1 : (d : Int) - 1 - (d : Int) = -1 := by omega
      rw [v1]
      rw [List.take_of_length_le (by rw [numB_length]; exact Nat.le_refl _)] at hk hbr
      have ST : Hid (StW wr S D1 (B ++ numB d n)) := Lib.hid ⟨A1, c1, hk, ho, hbr⟩
      go_wp2
      go_end0
      exact ⟨⟨_, rfl⟩, D1, ST.out, hB, HKT.out⟩
end Go.Proofs.Ytfahfbkkgcekgaa.H
