/- lz.Expand at factorizations. -/
import Derived.Test.YtfahfbkkgcekgaaY2
namespace Go.Proofs.Ytfahfbkkgcekgaa.H
set_option linter.unusedVariables false
open Go Go.RowKit Go.Proofs.Ytfahfbkkgcekgaa Go.Proofs.Ytfahfbkkgcekgaa.W Go.Proofs.Ytfahfbkkgcekgaa.M

theorem info5 : (Try.prog.info? 5).map (fun i => (i.zero, i.size, i.bytes)) = some (some (.int .u8 0), 1, 1) := by kernel_rfl
theorem blk_not_row {W : World} {B : Nat} {t e : TypeId} {cs : Array Value} (h : Blk W B t cs) (hte : t ≠ e) {base size k : Nat} {v : Value} {xs : List Value} (hr : W.ownsRow base e size v k xs) : some B ≠ v.ownBlock := by
  rcases hr.2 with ⟨rfl, _⟩ | ⟨g, cap, cur, rfl, _, hgb, _⟩
  · simp [Value.ownBlock]
  · intro e'
    obtain rfl : B = g := by simpa [Value.ownBlock] using e'
    have := (show W.heap[B]? = _ from h).symm.trans hgb
    simp at this
    exact hte this.2
/-- An owned row of bytes. -/
def OwnB (w : World) (base : Nat) (v : Value) (k : Nat) (l : Bs) : Prop := w.ownsRow base 5 1 v k (l.map u8)
theorem OwnB.nil {w : World} {base : Nat} : OwnB w base (.slice none 0 0) 0 [] := World.ownsRow_nil _ _ _ _
theorem own_later {w w' : World} {base : Nat} {e : TypeId} {size n : Nat} {v : Value} {xs : List Value} (h : w.ownsRow base e size v n xs) (hb : Below w.heap.size w w') : w'.ownsRow base e size v n xs :=
  h.kept (row := some w.heap.size) ⟨hb.os, hb.tape, hb.output, hb.size, fun k hk _ => hb.block k hk⟩ (.inr (fun e => by have := h.lt _ e; omega))
theorem OwnB.later {w w' : World} {base k : Nat} {v : Value} {l : Bs} (h : OwnB w base v k l) (hb : Below w.heap.size w w') : OwnB w' base v k l := own_later h hb
theorem OwnB.snoc {w : World} {base k : Nat} {v : Value} {l l' : Bs} (h : w.ownsRow base 5 1 v k (l.map u8 ++ l'.map u8)) : OwnB w base v k (l ++ l') := by unfold OwnB; rw [List.map_append]; exact h
theorem OwnB.sl {w : World} {base k c : Nat} {A : Option Addr} {l : Bs} (h : OwnB w base (.slice A k c) k l) : Sl u8 w w.heap.size A l := Sl.of_own h
theorem OwnB.at_ {w : World} {base k c : Nat} {A : Option Addr} {l : Bs} (h : OwnB w base (.slice A k c) k l) {i : Nat} {x : UInt8} (hx : l[i]? = some x) : ∃ g, A = some ⟨g, 0, none⟩ ∧ w.cell? ⟨g, i, none⟩ = some (.int .u8 (x.toNat : Int)) := by
  have hk : l.length = k := by have := h.1; simpa using this
  have hi := (List.getElem?_eq_some_iff.1 hx).1
  obtain ⟨g, cap, hv, _, _⟩ := World.ownsRow.form h (by omega)
  have hA : A = some ⟨g, 0, none⟩ := by injection hv
  subst hA
  refine ⟨g, rfl, ?_⟩
  have := World.ownsRow.cells h (g := g) rfl i (u8 x) (by rw [List.getElem?_map, hx]; rfl)
  have ha : (⟨g, 0, none⟩ : Addr).add i = ⟨g, i, none⟩ := by unfold Addr.add; by_cases hj : i = 0 <;> simp [hj]
  rwa [ha] at this

set_option maxRecDepth 100000 in
set_option maxHeartbeats 2000000 in
theorem Expand_ok (b : Bs) (N : Nat) (hN : b.length = N) (hN6 : N ≤ 65536) (A : Option Addr) (n c : Nat) (l : List Tok) (hl : l.length = n) (hF : Fac b 0 l) (w : World) (hS : SlT w w.heap.size A l) :
    Calls Try.prog 9 #[.slice A n c] w fun e w' => ∃ A' c', e = .returned (.tuple #[.slice A' N c', .int .i64 0]) ∧ Sl u8 w' w'.heap.size A' b ∧ N ≤ c' ∧ c' ≤ maxLen ∧ Below w.heap.size w w' := by
  obtain ⟨i0, hi, hz0, hz1, hz2⟩ := info_parts info5
  have HF := Lib.hid hF
  have HL := Lib.hid hl
  have HN := Lib.hid hN
  have hn6 : n ≤ 65536 := by have := fac_len hF; omega
  have CK := Lib.hid (Check_ok b N hN hN6 A n c l hl hF w hS)
  clear hF hl hN
  go_enter Try.func9, Try.ntmps9
  go_wp2_with (go_at_call 18; refine CK.out.mono ?_; rintro e w1 ⟨rfl, hb1⟩; have hS1 := SlT.later hS hb1)
  go_loopw [5, 15] (fun ov iv wm => ∃ (i s : Nat) (A' : Option Addr) (c' : Nat), i ≤ n ∧ iv = .int .i64 (i : Int) ∧ ov = .slice A' s c' ∧ Hid (pos l i = s) ∧ s ≤ N ∧ OwnB wm w1.heap.size (.slice A' s c') s (b.take s) ∧ SlT wm w1.heap.size A l ∧ Below w1.heap.size w1 wm) (fun _ iv _ => n - (intOf iv).toNat)
  case atStart => exact ⟨0, 0, none, 0, Nat.zero_le _, rfl, rfl, Lib.hid rfl, Nat.zero_le _, OwnB.nil, hS1, Below.refl _ _⟩
  case round =>
    obtain ⟨i, s, A', c', hi', rfl, rfl, hs, hsN, ho, hS, hB⟩ := hrel
    by_cases hlt : i < n
    · obtain ⟨b0, q0, t, rfl, _, ht, hc1, hc2, hc3⟩ := hS.at_ (i := i) (by rw [HL.out]; exact hlt)
      have hok := fac_at HF.out ht
      rw [Nat.zero_add, hs.out] at hok
      have hend := okAt_end hok
      rw [HN.out] at hend
      have hstep := Lib.hid (show pos l (i + 1) = s + tsz t by rw [pos_succ ht, hs.out])
      obtain ⟨x, d, y⟩ := t
      replace hc1 : wr.cell? ⟨b0, q0 + i * 3, none⟩ = some (.int .i64 (x : Int)) := hc1
      replace hc2 : wr.cell? ⟨b0, q0 + i * 3 + 1, none⟩ = some (.int .i64 (d : Int)) := hc2
      replace hc3 : wr.cell? ⟨b0, q0 + i * 3 + 2, none⟩ = some (.int .u8 (y.toNat : Int)) := hc3
      have hal : Below wr.heap.size wr (wr.alloc (.cells #[.int .i64 (x : Int), .int .i64 (d : Int), .int .u8 (y.toNat : Int)] 46)) := (Below.refl _ _).alloc (Nat.le_refl _) _
      have hS1 := SlT.alloc hS hB.size (.cells #[.int .i64 (x : Int), .int .i64 (d : Int), .int .u8 (y.toNat : Int)] 46)
      have hB1 := hB.alloc hB.size (.cells #[.int .i64 (x : Int), .int .i64 (d : Int), .int .u8 (y.toNat : Int)] 46)
      have ho1 := ho.later hal
      have hx1 : Blk (wr.alloc (.cells #[.int .i64 (x : Int), .int .i64 (d : Int), .int .u8 (y.toNat : Int)] 46)) wr.heap.size 46 #[.int .i64 (x : Int), .int .i64 (d : Int), .int .u8 (y.toNat : Int)] := Blk.new _ _ _
      have hzz : wr.heap.size < (wr.alloc (.cells #[.int .i64 (x : Int), .int .i64 (d : Int), .int .u8 (y.toNat : Int)] 46)).heap.size := hx1.lt
      rcases hok with ⟨h1, h2, h3⟩ | ⟨h1, h2, h3, h4, h5, h6, h7, h8⟩
      · obtain rfl : x = 0 := h1
        replace h3 : b[s]? = some y := h3
        have e1 : tsz (0, d, y) = 1 := rfl
        rw [e1] at hstep hend
        have hnx : Hid (b.take (s + 1) = b.take s ++ [y]) := Lib.hid (take_succ h3)
        obtain ⟨T, hT⟩ : ∃ T, b.take s = T := ⟨_, rfl⟩
        rw [hT] at ho1 hnx
        clear hT h2 h3 ht hS hB ho
        go_wp2_with (at_builtin; refine wpList_append_sl _ u8_one' rfl _ _ 22 rfl w1.heap.size 5 i0 (.int .u8 0) 1 Try.underlying22 hi hz0 hz1 hz2 rfl (.slice A' s c') s _ rfl (World.ownsRow.alloc ho1 _) _ _ _ [y] 1 rfl (Sl.of_new (by simp) rfl) rfl (by unfold maxLen; omega) (by omega) (by have := hB1.size; simp at this ⊢; omega) ?_; intro v4 w4 o4 g4; have hB4 : Below w1.heap.size w1 w4 := (hB1.alloc hB1.size _).grown g4 (by have := hB1.size; simp at this ⊢; omega) (fun j hj => (World.ownsRow.lt ho1 j hj).1); have hS4 := Sl.grown (SlT.alloc hS1 hB1.size _) g4 (by have := hB1.size; simp at this ⊢; omega) (fun j hj => (World.ownsRow.lt ho1 j hj).1); have o4' := OwnB.snoc o4; obtain ⟨A4, c4, rfl, _, _⟩ := own_form o4)
        go_roundw
        case rel => exact ⟨i + 1, s + 1, A4, c4, by omega, by go_num, rfl, hstep, hend, by rw [hnx.out]; exact o4', hS4, hB4⟩
        case measure => simp [intOf]; omega
      · replace h2 : 2 ≤ x := h2
        replace h3 : x ≤ 255 := h3
        replace h4 : 1 ≤ d := h4
        replace h6 : d ≤ s := h6
        replace h7 : s + x ≤ b.length := h7
        have hx0 : ((x : Int) == 0) = false := by rw [beq_eq_false_iff_ne]; omega
        have e1 : tsz (x, d, y) = x := by show max x 1 = x; omega
        rw [e1] at hstep hend
        have HC : Hid (∀ k, k < x → b[s + k]? = b[s + k - d]?) := Lib.hid h8
        have e0 := hx1.cell 0
        have hwz : w1.heap.size ≤ wr.heap.size := hB.size
        clear h8 h1 hS hB ho ht
        go_wp2_with fail
        obtain ⟨w2, hw2⟩ : ∃ w2, wr.alloc (.cells #[.int .i64 (x : Int), .int .i64 (d : Int), .int .u8 (y.toNat : Int)] 46) = w2 := ⟨_, rfl⟩
        obtain ⟨gx, hgx⟩ : ∃ gx, wr.heap.size = gx := ⟨_, rfl⟩
        rw [hw2] at ho1 hS1 hB1 hx1 hzz
        rw [hgx] at hx1 hzz
        rw [hw2, hgx]
        have hgx1 : w1.heap.size ≤ gx := by rw [← hgx]; exact hwz
        clear hw2 hgx e0 hal hwz hc1 hc2 hc3
        go_loopw [5, 29] (fun ov kv wm => ∃ (k : Nat) (A2 : Option Addr) (c2 : Nat), k ≤ x ∧ kv = .int .i64 (k : Int) ∧ ov = .slice A2 (s + k) c2 ∧ OwnB wm w1.heap.size (.slice A2 (s + k) c2) (s + k) (b.take (s + k)) ∧ SlT wm w1.heap.size (some ⟨b0, q0, none⟩) l ∧ Blk wm gx 46 #[.int .i64 (x : Int), .int .i64 (d : Int), .int .u8 (y.toNat : Int)] ∧ Below w1.heap.size w1 wm) (fun _ kv _ => x - (intOf kv).toNat)
        case atStart => exact ⟨0, A', c', Nat.zero_le _, rfl, rfl, ho1, hS1, hx1, hB1⟩
        case round =>
          obtain ⟨k, A2, c2, hk, rfl, rfl, ho, hS, hx2, hB⟩ := hrel
          clear ho1 hS1 hx1 hB1
          by_cases hlt2 : k < x
          · obtain ⟨z, hz⟩ : ∃ z, b[s + k]? = some z := ⟨_, List.getElem?_eq_getElem (by omega)⟩
            have hz2' : (b.take (s + k))[s + k - d]? = some z := by
              rw [List.getElem?_take, if_pos (by omega), ← HC.out k hlt2, hz]
            obtain ⟨g2, rfl, kz⟩ := ho.at_ hz2'
            have e1 := hx2.cell 1
            have hnx : Hid (b.take (s + (k + 1)) = b.take (s + k) ++ [z]) := Lib.hid (take_succ hz)
            obtain ⟨m, hm⟩ : ∃ m, s + k = m := ⟨_, rfl⟩
            have hm2 : s + (k + 1) = m + 1 := by omega
            rw [hm] at ho kz hnx
            have q1 : (m : Int) - (d : Int) = ((m - d : Nat) : Int) := by omega
            have q2 : IntKind.i64.wrap ((m - d : Nat) : Int) = ((m - d : Nat) : Int) := by rw [IntKind.wrap_i64]; omega
            have q3 : ((m - d : Nat) : Int) < (m : Int) := by omega
            obtain ⟨r, hr⟩ : ∃ r, m - d = r := ⟨_, rfl⟩
            rw [hr] at q1 q2 q3 kz
            obtain ⟨T, hT⟩ : ∃ T, b.take m = T := ⟨_, rfl⟩
            rw [hT] at ho hnx
            have hm6 : m ≤ 65536 := by omega
            have HM2 := Lib.hid hm2
            rw [hm]
            clear hT hz hz2' hr hm hm2
            go_wp2_with (at_builtin; refine wpList_append_sl _ u8_one' rfl _ _ 22 rfl w1.heap.size 5 i0 (.int .u8 0) 1 Try.underlying22 hi hz0 hz1 hz2 rfl (.slice (some ⟨g2, 0, none⟩) m c2) m _ rfl (World.ownsRow.alloc ho _) _ _ _ [z] 1 rfl (Sl.of_new (by simp) rfl) rfl (by unfold maxLen; omega) (by omega) (by have := hB.size; simp at this ⊢; omega) ?_; intro v4 w4 o4 g4; have hB4 : Below w1.heap.size w1 w4 := (hB.alloc hB.size _).grown g4 (by have := hB.size; simp at this ⊢; omega) (fun j hj => (World.ownsRow.lt ho j hj).1); have hS4 := Sl.grown (SlT.alloc hS hB.size _) g4 (by have := hB.size; simp at this ⊢; omega) (fun j hj => (World.ownsRow.lt ho j hj).1); have hx4 := (hx2.alloc _).grown g4 (blk_not_row hx2 (by decide) ho); have o4' := OwnB.snoc o4; obtain ⟨A4, c4, rfl, _, _⟩ := own_form o4)
            go_roundw
            case rel => exact ⟨k + 1, A4, c4, by omega, by go_num, by rw [HM2.out], by rw [hnx.out, HM2.out]; exact o4', hS4, hx4, hB4⟩
            case measure => simp [intOf]; omega
          · obtain rfl : k = x := by omega
            go_wp2_with fail
            go_roundw
            case rel => exact ⟨i + 1, s + k, A2, c2, by omega, by go_num, rfl, hstep, hend, ho, hS, hB⟩
            case measure => simp [intOf]; omega
    · obtain rfl : i = n := by omega
      have hsN' : s = N := by
        have := fac_pos HF.out
        rw [Nat.zero_add, HL.out, hs.out, HN.out] at this
        exact this
      subst hsN'
      rw [show b.take s = b by rw [← HN.out, List.take_length]] at ho
      obtain ⟨_, _, hsl, hkc, hcm⟩ := own_form ho
      obtain ⟨rfl, rfl⟩ : A' = _ ∧ c' = _ := by injection hsl with h1 _ h3; exact ⟨h1, h3⟩
      go_wp2
      go_ret2
      exact ⟨A', c', rfl, ho.sl, hkc, hcm, bsa hb1 hB⟩
end Go.Proofs.Ytfahfbkkgcekgaa.H
