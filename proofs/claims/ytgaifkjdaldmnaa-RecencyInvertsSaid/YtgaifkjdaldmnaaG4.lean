/- recency.Expand. -/
import Derived.Test.YtgaifkjdaldmnaaG3
import Derived.Test.YtgaifkjdaldmnaaZeros
namespace Go.Proofs.Ytgaifkjdaldmnaa.F
set_option linter.unusedVariables false
open Go Go.RowKit Go.Proofs.Ytgaifkjdaldmnaa Go.Proofs.Ytgaifkjdaldmnaa.W Go.Proofs.Ytgaifkjdaldmnaa.M Go.Proofs.Ytgaifkjdaldmnaa.B

theorem underlying3' : Try.prog.underlying 3 = some (.int .i64) := by kernel_rfl
theorem back_step {b o o' l l' : Bs} (hI : ∀ res, Ex o l res → Ex [] b res) (h : next o l = .inr (o', l')) : ∀ res, Ex o' l' res → Ex [] b res := fun res hr => hI res (.go h hr)
theorem back_stop {b o l : Bs} {res : Bs × Int} (hI : ∀ res, Ex o l res → Ex [] b res) (h : next o l = .inl res) : Ex [] b res := hI res (.stop h)
theorem next_byte {o l : Bs} {v : UInt8} {r : Bs} (hl : l = v :: r) (h1 : 1 < v.toNat) (h5 : v ≠ 255) (ho : o.length ≤ 65536) : next o l = put o (v - 1) r := by
  subst hl
  have hd := dlen_cons_no h1 r
  unfold next
  rw [dval_zero hd, hd, if_neg (by omega)]
  show after (o ++ List.replicate 0 0) (v :: r) = _
  rw [after_byte _ h5]; simp
theorem next_esc {o l : Bs} {c : UInt8} {r : Bs} (hl : l = 255 :: c :: r) (ho : o.length ≤ 65536) : next o l = if 1 < c.toNat then .inl ([], 3) else put o (254 + c) r := by
  subst hl
  have hd := dlen_cons_no (x := 255) (by decide) (c :: r)
  unfold next
  rw [dval_zero hd, hd, if_neg (by omega)]
  show after (o ++ List.replicate 0 0) (255 :: c :: r) = _
  rw [after_esc]; simp
theorem next_torn {o l : Bs} (hl : l = [255]) (ho : o.length ≤ 65536) : next o l = .inl ([], 9) := by
  subst hl
  have hd := dlen_cons_no (x := 255) (by decide) []
  unfold next
  rw [dval_zero hd, hd, if_neg (by omega)]
  show after (o ++ List.replicate 0 0) [255] = _
  rw [after_torn]
theorem next_end {o : Bs} (ho : o.length ≤ 65536) : next o [] = .inl (o, 0) := by
  unfold next
  have hd : dlen [] = 0 := rfl
  rw [dval_zero hd, hd, if_neg (by omega)]
  show after (o ++ List.replicate 0 0) [] = _
  rw [after_nil]; simp

set_option maxRecDepth 100000 in
set_option maxHeartbeats 4000000 in
theorem Expand_ok (A : Option Addr) (c n : Nat) (b : Bs) (hl : b.length = n) (hn : n ≤ 65536) (hc : n ≤ c) (hcm : c ≤ maxLen) (w : World) (B : Nat) (h : Sl u8 w B A b) :
    Calls Try.prog 22 #[.slice A n c] w fun e w' => ∃ (z : Bs) (er : Int) (m : Nat) (A' : Option Addr) (c' : Nat), Ex [] b (z, er) ∧ z.length = m ∧ m ≤ 65536 ∧ e = .returned (.tuple #[.slice A' m c', .int .i64 er]) ∧
      w'.ownsRow w.heap.size 5 1 (.slice A' m c') m (z.map u8) ∧ Below w.heap.size w w' := by
  obtain ⟨i0, hi, hz0, hz1, hz2⟩ := info_parts info5
  have hSl := h.lt
  have HL := Lib.hid hl
  unfold maxLen at hcm
  clear h hl
  go_enter Try.func22, Try.ntmps22
  go_wp2_with (go_at_call 24; refine (short_ok _ _ _ hn _).mono ?_; rintro e w2 ⟨rfl, rfl⟩)
  go_loopw [5, 6] (fun v iv wm => ∃ (i : Nat) (o : Bs) (k : Nat) (A' : Option Addr) (c' : Nat), i ≤ n ∧ iv = .int .i64 (i : Int) ∧ v = .slice A' k c' ∧ Hid (o.length = k) ∧ k ≤ 65536 ∧ Hid (∀ res, Ex o (b.drop i) res → Ex [] b res) ∧ wm.ownsRow w.heap.size 5 1 (.slice A' k c') k (o.map u8) ∧ Below w.heap.size w wm) (fun _ iv _ => n - (intOf iv).toNat)
  case atStart => exact ⟨0, [], 0, none, 0, by omega, rfl, rfl, Lib.hid rfl, by omega, Lib.hid (fun _ h => h), World.ownsRow_nil _ _ _ _, Below.refl _ _⟩
  case round =>
    obtain ⟨i, o, k, A', c', hiN, rfl, rfl, hk, hk6, hI, hown, hB⟩ := hrel
    by_cases hlt : i < n
    · have hil : i < b.length := by rw [HL.out]; exact hlt
      have hSw := hSl.below hB
      obtain ⟨bl, oo, hA, _, hcs⟩ := hSw.open_ (by omega)
      obtain ⟨x, hx⟩ : ∃ x, b[i]? = some x := ⟨b[i], List.getElem?_eq_getElem hil⟩
      have hcx := hcs i x hx
      rw [u8_def] at hcx
      have hdc := drop_cons hx
      subst hA
      have hxl := lt256 x
      by_cases h1 : x.toNat ≤ 1
      · -- digits
        have hx1 : (x.toNat : Int) ≤ 1 := by omega
        obtain ⟨D, hD⟩ : ∃ D, dlen (b.drop i) = D := ⟨_, rfl⟩
        obtain ⟨V, hV⟩ : ∃ V, dval (b.drop i) = V := ⟨_, rfl⟩
        have hD0 : 0 < D := by
          rw [← hD, hdc]; show 0 < (if x.toNat ≤ 1 then dlen (b.drop (i + 1)) + 1 else 0); rw [if_pos h1]; omega
        have hDn : i + D ≤ n := by have := dlen_le (b.drop i); rw [hD, List.length_drop, HL.out] at this; omega
        have hd : Sl W.u8 wr w.heap.size (some ⟨bl, oo + i, none⟩) (b.drop i) := fun hne => by
          have h0 := hSw.drop (k := i) (cap := c) (by rw [HL.out]; exact hc) hne
          rw [if_neg (by omega)] at h0
          obtain ⟨b', o', e1, e2, e3⟩ := h0
          refine ⟨b', o', ?_, e2, e3⟩
          rw [← e1]
          show some _ = some ((⟨bl, oo, none⟩ : Addr).add i)
          unfold Addr.add
          by_cases hi0 : i = 0 <;> simp [hi0]
        have C0 := number_any (some ⟨bl, oo + i, none⟩) (c - i) (n - i) (b.drop i) (by rw [List.length_drop, HL.out]) (by omega) wr _ hd
        rw [hD, hV] at C0
        have C := Lib.hid C0
        clear C0
        have hci : ¬ (c = i) := by omega
        have HD := Lib.hid hD
        have HV := Lib.hid hV
        obtain ⟨CV, hCV⟩ : ∃ CV, CV = clip V := ⟨_, rfl⟩
        rw [← hCV] at C
        have hcv : CV = min V 65537 := hCV
        clear hcs hx hdc h1 hD hV hCV
        by_cases hbig : 65536 < k + V
        · have hbig' : (65536 : Int) < (k : Int) + (CV : Int) := by omega
          have hcv2 : CV ≤ 65537 := by omega
          have hstop : Hid (Ex [] b ([], 5)) := Lib.hid (back_stop hI.out (by unfold next; rw [if_pos (by rw [hk.out, HV.out]; exact hbig)]))
          clear hcv hbig
          go_wp2_with (go_at_call 34; refine C.out.mono ?_; rintro e w3 ⟨rfl, rfl⟩)
          go_ret2
          exact ⟨[], 5, 0, none, 0, hstop.out, rfl, by omega, rfl, World.ownsRow_nil _ _ _ _, hB⟩
        · obtain rfl : CV = V := by omega
          have hbig' : ¬ ((65536 : Int) < (k : Int) + (CV : Int)) := by omega
          have hkv : k + CV ≤ 65536 := by omega
          have hI' : Hid (∀ res, Ex (o ++ List.replicate CV 0) (b.drop (i + D)) res → Ex [] b res) := Lib.hid fun res hr => hI.out res (Ex.congr (by
            have := next_digits (out := o) (l := b.drop i) (by rw [hk.out, HV.out]; exact hkv)
            rw [HV.out, HD.out, List.drop_drop] at this
            exact this.symm) hr)
          clear hcv hbig
          go_wp2_with (first
            | (go_at_call 34; refine C.out.mono ?_; rintro e w3 ⟨rfl, rfl⟩)
            | (at_builtin; refine wpList_append_zeros _ rfl _ _ 22 3 rfl w.heap.size 5 i0 (.int .u8 0) 1 .i64 .i64 Try.underlying22 underlying3' hi hz0 hz1 hz2 rfl rfl (.slice A' k c') k _ rfl hown CV rfl (by unfold maxLen; omega) (by omega) hB.size ?_; intro v4 w4 o4 g4 _; have hB4 := hB.grown g4 hB.size (fun q hq => (hown.lt q hq).1); obtain ⟨A4, c4, rfl, _, _⟩ := own_form o4))
          go_roundw
          case rel => exact ⟨i + D, o ++ List.replicate CV 0, k + CV, A4, c4, by omega, by go_num, rfl, Lib.hid (by rw [List.length_append, hk.out, List.length_replicate]), hkv, hI', by rw [List.map_append, List.map_replicate]; exact o4, hB4⟩
          case measure => simp [intOf]; omega
      · have hx1 : ¬ ((x.toNat : Int) ≤ 1) := by omega
        have hx2 : 1 < x.toNat := by omega
        by_cases h5 : x = 255
        · subst h5
          replace hcx : wr.cell? ⟨bl, oo + i, none⟩ = some (.int .u8 255) := hcx
          by_cases hend : i + 1 = n
          · have hl5 : b.drop i = [255] := by rw [hdc, List.drop_of_length_le (by rw [HL.out]; omega)]
            have hstop : Hid (Ex [] b ([], 9)) := Lib.hid (back_stop hI.out (next_torn hl5 (by rw [hk.out]; exact hk6)))
            have hend' : (i : Int) + 1 = (n : Int) := by omega
            clear hcs hx hdc h1 hx1 hx2 hl5 hend hxl
            go_wp2
            go_ret2
            exact ⟨[], 9, 0, none, 0, hstop.out, rfl, by omega, rfl, World.ownsRow_nil _ _ _ _, hB⟩
          · have hend' : ¬ ((i : Int) + 1 = (n : Int)) := by omega
            have hi1 : i + 1 < n := by omega
            obtain ⟨y, hy⟩ : ∃ y, b[i + 1]? = some y := ⟨b[i + 1]'(by rw [HL.out]; exact hi1), List.getElem?_eq_getElem _⟩
            have hcy := hcs (i + 1) y hy
            rw [u8_def] at hcy
            have hdc2 := drop_cons hy
            have hyl := lt256 y
            have HE : Hid (next o (b.drop i) = if 1 < y.toNat then .inl ([], 3) else put o (254 + y) (b.drop (i + 2))) := Lib.hid (next_esc (by rw [hdc, hdc2]) (by rw [hk.out]; exact hk6))
            by_cases hy1 : 1 < y.toNat
            · have hstop : Hid (Ex [] b ([], 3)) := Lib.hid (back_stop hI.out (by rw [HE.out, if_pos hy1]))
              have hy2 : (1 : Int) < (y.toNat : Int) := by omega
              clear hcs hx hdc h1 hx1 hx2 hend hxl hy hdc2 hy1
              go_wp2
              go_ret2
              exact ⟨[], 3, 0, none, 0, hstop.out, rfl, by omega, rfl, World.ownsRow_nil _ _ _ _, hB⟩
            · have HP : Hid (next o (b.drop i) = put o (254 + y) (b.drop (i + 2))) := Lib.hid (by rw [HE.out, if_neg hy1])
              have hy2 : (y.toNat : Int) ≤ 1 := by omega
              have HS : Hid (((254 + y).toNat : Int) = 254 + (y.toNat : Int)) := Lib.hid (by rw [UInt8.toNat_add]; have h8 : (254 : UInt8).toNat = 254 := rfl; omega)
              clear hcs hx hdc h1 hx1 hx2 hend hxl hy hdc2 hy1
              by_cases hk1 : k < 65536
              · have hput : Hid (next o (b.drop i) = .inr (o ++ [254 + y], b.drop (i + 2))) := Lib.hid (by rw [HP.out]; unfold put; rw [if_neg (by rw [hk.out]; omega)])
                have hI' := Lib.hid (back_step hI.out hput.out)
                go_wp2_with (first
                  | (at_builtin; refine wpList_append_at _ u8_one' rfl _ _ 22 rfl w.heap.size 5 i0 (.int .u8 0) 1 Try.underlying22 hi hz0 hz1 hz2 rfl (.slice A' k c') k _ rfl (hown.alloc _) _ _ 1 [254 + y] 1 rfl (Sl.of_new rfl (by rw [List.map_cons, List.map_nil, W.u8_def, HS.out])) rfl (by unfold maxLen; omega) (by omega) (by have := hB.size; simp; omega) ?_; intro v4 w4 o4 g4 _; have hB4 := (hB.alloc hB.size _).grown g4 (by have := hB.size; simp; omega) (fun q hq => (hown.lt q hq).1); obtain ⟨A4, c4, rfl, _, _⟩ := own_form o4)
                  | (go_at_call 24; refine (short_ok _ _ _ (by omega) _).mono ?_; rintro e w5 ⟨rfl, rfl⟩))
                go_roundw
                case rel => exact ⟨i + 2, o ++ [254 + y], k + 1, A4, c4, by omega, by go_num, rfl, Lib.hid (by rw [List.length_append, hk.out]; rfl), by omega, hI', by rw [List.map_append]; exact o4, hB4⟩
                case measure => simp [intOf]; omega
              · have hput : Hid (Ex [] b ([], 5)) := Lib.hid (back_stop hI.out (by rw [HP.out]; unfold put; rw [if_pos (by rw [hk.out]; omega)]))
                go_wp2_with (first
                  | (at_builtin; refine wpList_append_at _ u8_one' rfl _ _ 22 rfl w.heap.size 5 i0 (.int .u8 0) 1 Try.underlying22 hi hz0 hz1 hz2 rfl (.slice A' k c') k _ rfl (hown.alloc _) _ _ 1 [254 + y] 1 rfl (Sl.of_new rfl (by rw [List.map_cons, List.map_nil, W.u8_def, HS.out])) rfl (by unfold maxLen; omega) (by omega) (by have := hB.size; simp; omega) ?_; intro v4 w4 o4 g4 _; have hB4 := (hB.alloc hB.size _).grown g4 (by have := hB.size; simp; omega) (fun q hq => (hown.lt q hq).1); obtain ⟨A4, c4, rfl, _, _⟩ := own_form o4)
                  | (go_at_call 24; refine (short_no _ _ _ (by omega) (by omega) _).mono ?_; rintro e w5 ⟨rfl, rfl⟩))
                go_ret2
                exact ⟨[], 5, 0, none, 0, hput.out, rfl, by omega, rfl, World.ownsRow_nil _ _ _ _, hB4⟩
        · have HP : Hid (next o (b.drop i) = put o (x - 1) (b.drop (i + 1))) := Lib.hid (next_byte hdc hx2 h5 (by rw [hk.out]; exact hk6))
          have hx255 : (x.toNat : Int) < 255 := by have h9 : x.toNat ≠ 255 := fun e => h5 (UInt8.toNat_inj.1 e); omega
          have HS : Hid (((x - 1).toNat : Int) = (x.toNat : Int) - 1) := Lib.hid (by rw [UInt8.toNat_sub_of_le _ _ (UInt8.le_iff_toNat_le.2 (by have h7 : (1 : UInt8).toNat = 1 := rfl; omega))]; have h7 : (1 : UInt8).toNat = 1 := rfl; omega)
          have hxge : (2 : Int) ≤ (x.toNat : Int) := by omega
          clear hcs hx hdc h1 hx1 hx2 h5
          by_cases hk1 : k < 65536
          · have hput : Hid (next o (b.drop i) = .inr (o ++ [x - 1], b.drop (i + 1))) := Lib.hid (by rw [HP.out]; unfold put; rw [if_neg (by rw [hk.out]; omega)])
            have hI' := Lib.hid (back_step hI.out hput.out)
            go_wp2_with (first
              | (at_builtin; refine wpList_append_at _ u8_one' rfl _ _ 22 rfl w.heap.size 5 i0 (.int .u8 0) 1 Try.underlying22 hi hz0 hz1 hz2 rfl (.slice A' k c') k _ rfl (hown.alloc _) _ _ 1 [x - 1] 1 rfl (Sl.of_new rfl (by rw [List.map_cons, List.map_nil, W.u8_def, HS.out])) rfl (by unfold maxLen; omega) (by omega) (by have := hB.size; simp; omega) ?_; intro v4 w4 o4 g4 _; have hB4 := (hB.alloc hB.size _).grown g4 (by have := hB.size; simp; omega) (fun q hq => (hown.lt q hq).1); obtain ⟨A4, c4, rfl, _, _⟩ := own_form o4)
              | (go_at_call 24; refine (short_ok _ _ _ (by omega) _).mono ?_; rintro e w5 ⟨rfl, rfl⟩))
            go_roundw
            case rel => exact ⟨i + 1, o ++ [x - 1], k + 1, A4, c4, by omega, by go_num, rfl, Lib.hid (by rw [List.length_append, hk.out]; rfl), by omega, hI', by rw [List.map_append]; exact o4, hB4⟩
            case measure => simp [intOf]; omega
          · have hput : Hid (Ex [] b ([], 5)) := Lib.hid (back_stop hI.out (by rw [HP.out]; unfold put; rw [if_pos (by rw [hk.out]; omega)]))
            go_wp2_with (first
              | (at_builtin; refine wpList_append_at _ u8_one' rfl _ _ 22 rfl w.heap.size 5 i0 (.int .u8 0) 1 Try.underlying22 hi hz0 hz1 hz2 rfl (.slice A' k c') k _ rfl (hown.alloc _) _ _ 1 [x - 1] 1 rfl (Sl.of_new rfl (by rw [List.map_cons, List.map_nil, W.u8_def, HS.out])) rfl (by unfold maxLen; omega) (by omega) (by have := hB.size; simp; omega) ?_; intro v4 w4 o4 g4 _; have hB4 := (hB.alloc hB.size _).grown g4 (by have := hB.size; simp; omega) (fun q hq => (hown.lt q hq).1); obtain ⟨A4, c4, rfl, _, _⟩ := own_form o4)
              | (go_at_call 24; refine (short_no _ _ _ (by omega) (by omega) _).mono ?_; rintro e w5 ⟨rfl, rfl⟩))
            go_ret2
            exact ⟨[], 5, 0, none, 0, hput.out, rfl, by omega, rfl, World.ownsRow_nil _ _ _ _, hB4⟩
    · obtain rfl : i = n := by omega
      have hfin : Hid (Ex [] b (o, 0)) := Lib.hid (back_stop hI.out (by rw [List.drop_of_length_le (by rw [HL.out]; exact Nat.le_refl _)]; exact next_end (by rw [hk.out]; exact hk6)))
      go_wp2
      go_ret2
      exact ⟨o, 0, k, A', c', hfin.out, hk.out, hk6, rfl, hown, hB⟩
end Go.Proofs.Ytgaifkjdaldmnaa.F
