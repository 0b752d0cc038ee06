/- The reference's Expand. -/
import Derived.Test.YtgaifkjdaldmnaaG4
namespace Go.Proofs.Ytgaifkjdaldmnaa.F
set_option linter.unusedVariables false
open Go Go.RowKit Go.Proofs.Ytgaifkjdaldmnaa Go.Proofs.Ytgaifkjdaldmnaa.W Go.Proofs.Ytgaifkjdaldmnaa.M Go.Proofs.Ytgaifkjdaldmnaa.B

/-- What the reference knows of the number behind j digits. -/
def NumR (l : Bs) (j nn P : Nat) : Prop := (nn = val (l.take j) ∧ P = 2 ^ j ∧ P ≤ nn + 1) ∨ (65536 < nn ∧ 65536 < val (l.take j))
theorem numR_next {l : Bs} {j nn P : Nat} {d : UInt8} (h : NumR l j nn P) (hd : l[j]? = some d) (hn : nn ≤ 65536) : NumR l (j + 1) (nn + (d.toNat + 1) * P) (2 * P) ∧ P ≤ 65537 := by
  rcases h with ⟨h1, h2, h3⟩ | ⟨h1, h2⟩
  · have hj := (List.getElem?_eq_some_iff.1 hd).1
    refine ⟨.inl ⟨?_, by rw [h2, Nat.pow_succ]; omega, ?_⟩, by omega⟩
    · rw [take_succ hd, val_snoc, show (l.take j).length = j by simp; omega, h1, h2]
    · have : P ≤ (d.toNat + 1) * P := Nat.le_mul_of_pos_left _ (by omega)
      omega
  · omega
theorem numR_stay {l : Bs} {j nn P : Nat} (h : NumR l j nn P) (hn : 65536 < nn) : NumR l (j + 1) nn P := by
  have := val_take_le l (show j ≤ j + 1 by omega)
  rcases h with ⟨h1, h2, h3⟩ | ⟨h1, h2⟩
  · exact .inr ⟨hn, by omega⟩
  · exact .inr ⟨hn, by omega⟩

/-- What Expand hands back. -/
def ExpRes (b : Bs) (w : World) (e : Ending) (w' : World) : Prop := ∃ (z : Bs) (er : Int) (m : Nat) (A' : Option Addr) (c' : Nat), Ex [] b (z, er) ∧ z.length = m ∧ m ≤ 65536 ∧ e = .returned (.tuple #[.slice A' m c', .int .i64 er]) ∧
      w'.ownsRow w.heap.size 5 1 (.slice A' m c') m (z.map u8) ∧ Below w.heap.size w w'
theorem ExpRes.err {b : Bs} {w w' : World} {er : Int} (h : Ex [] b ([], er)) (hb : Below w.heap.size w w') : ExpRes b w (.returned (.tuple #[.slice none 0 0, .int .i64 er])) w' :=
  ⟨[], er, 0, none, 0, h, rfl, by omega, rfl, World.ownsRow_nil _ _ _ _, hb⟩
theorem ExpRes.ok {b z : Bs} {w w' : World} {m : Nat} {A' : Option Addr} {c' : Nat} (h : Ex [] b (z, 0)) (hz : z.length = m) (hm : m ≤ 65536) (ho : w'.ownsRow w.heap.size 5 1 (.slice A' m c') m (z.map u8)) (hb : Below w.heap.size w w') : ExpRes b w (.returned (.tuple #[.slice A' m c', .int .i64 0])) w' :=
  ⟨z, 0, m, A', c', h, hz, hm, rfl, ho, hb⟩

set_option maxRecDepth 100000 in
set_option maxHeartbeats 8000000 in
theorem rExpand_ok (A : Option Addr) (c n : Nat) (b : Bs) (hl : b.length = n) (hn : n ≤ 65536) (w : World) (B : Nat) (h : Sl u8 w B A b) :
    Calls Try.prog 23 #[.slice A n c] w (ExpRes b w) := by
  obtain ⟨i0, hi, hz0, hz1, hz2⟩ := info_parts info5
  have hSl := h.lt
  have HL := Lib.hid hl
  clear h hl
  go_enter Try.func23, Try.ntmps23
  go_wp2
  go_loopw [4, 5, 6, 7, 8] (fun v iv _ _ _ wm => ∃ (i : Nat) (o : Bs) (k : Nat) (A' : Option Addr) (c' : Nat), i ≤ n ∧ iv = .int .i64 (i : Int) ∧ v = .slice A' k c' ∧ Hid (o.length = k) ∧ k ≤ 65536 ∧ Hid (∀ res, Ex o (b.drop i) res → Ex [] b res) ∧ wm.ownsRow w.heap.size 5 1 (.slice A' k c') k (o.map u8) ∧ Below w.heap.size w wm) (fun _ iv _ _ _ _ => n - (intOf iv).toNat)
  case atStart => exact ⟨0, [], 0, none, 0, by omega, rfl, rfl, Lib.hid rfl, by omega, Lib.hid (fun _ h => h), World.ownsRow_nil _ _ _ _, Below.refl _ _⟩
  case round =>
    obtain ⟨wo, rfl⟩ : ∃ wo : World, wo = wr := ⟨_, rfl⟩
    obtain ⟨i, o, k, A', c', hiN, rfl, rfl, hk, hk6, hI, hown, hB⟩ := hrel
    by_cases hlt : i < n
    · have hil : i < b.length := by rw [HL.out]; exact hlt
      have hSw := hSl.below hB
      obtain ⟨bl, oo, hA, _, hcs⟩ := hSw.open_ (by omega)
      have HCS : Hid (∀ j x, b[j]? = some x → wo.cell? ⟨bl, oo + j, none⟩ = some (.int .u8 (x.toNat : Int))) := Lib.hid fun j x hx => by rw [hcs j x hx]; rfl
      have HCW : Hid (∀ wm, Below w.heap.size w wm → ∀ j x, b[j]? = some x → wm.cell? ⟨bl, oo + j, none⟩ = some (.int .u8 (x.toNat : Int))) := Lib.hid fun wm hbm j x hx => by
        obtain ⟨b', o', e1, _, e3⟩ := (hSl.below hbm).open_ (by omega)
        rw [hA] at e1
        injection e1 with e1
        injection e1 with e1 e2
        subst e1 e2
        rw [e3 j x hx]; rfl
      subst hA
      obtain ⟨L, hL⟩ : ∃ L, L = b.drop i := ⟨_, rfl⟩
      obtain ⟨D, hD⟩ : ∃ D, dlen L = D := ⟨_, rfl⟩
      obtain ⟨V, hV⟩ : ∃ V, dval L = V := ⟨_, rfl⟩
      have hDn : i + D ≤ n := by have := dlen_le L; rw [hD, hL, List.length_drop, HL.out] at this; omega
      have HG : Hid (∀ j, L[j]? = b[i + j]?) := Lib.hid fun j => by rw [hL, List.getElem?_drop]
      have HD := Lib.hid hD
      have HV := Lib.hid hV
      have HVt : Hid (V = val (L.take D)) := Lib.hid (by rw [← hV, ← hD]; rfl)
      have HLd := Lib.hid hL
      rw [← hL] at hI
      clear hL hD hV hcs hil
      go_wp2
      go_loop [5, 6, 7] (fun iv nv pv => ∃ j nn P : Nat, j ≤ D ∧ iv = .int .i64 ((i + j : Nat) : Int) ∧ nv = .int .i64 (nn : Int) ∧ pv = .int .i64 (P : Int) ∧ nn ≤ 200000 ∧ P ≤ 200000 ∧ Hid (NumR L j nn P)) (fun iv _ _ => n - (intOf iv).toNat)
      case atStart => exact ⟨0, 0, 1, Nat.zero_le _, rfl, rfl, rfl, by omega, by omega, Lib.hid (.inl ⟨rfl, rfl, by omega⟩)⟩
      case round =>
        obtain ⟨j, nn, P, hj, rfl, rfl, rfl, hnn, hP, hN⟩ := hrel
        by_cases hlt2 : j < D
        · have hij : ((i + j : Nat) : Int) < (n : Int) := by omega
          obtain ⟨d, hd, hd1⟩ := dlen_digit (l := L) (j := j) (by rw [HD.out]; exact hlt2)
          have hcd := HCS.out (i + j) d (by rw [← HG.out]; exact hd)
          have hd2 : (d.toNat : Int) < 2 := by omega
          by_cases hn6 : nn ≤ 65536
          · obtain ⟨hN', hP'⟩ := numR_next hN.out hd hn6
            have HN' := Lib.hid hN'
            clear hN' hd
            rcases (show d.toNat = 0 ∨ d.toNat = 1 by omega) with h0 | h0
            · rw [h0] at hcd HN'
              replace hcd : wo.cell? ⟨bl, oo + (i + j), none⟩ = some (.int .u8 0) := hcd
              clear h0 hd1 hd2
              go_wp2
              go_round
              case rel => exact ⟨j + 1, nn + P, 2 * P, by omega, by go_num, by go_num, by go_num, by omega, by omega, Lib.hid (by have := HN'.out; rwa [Nat.zero_add, Nat.one_mul] at this)⟩
              case measure => simp [intOf]; omega
            · rw [h0] at hcd HN'
              replace hcd : wo.cell? ⟨bl, oo + (i + j), none⟩ = some (.int .u8 1) := hcd
              clear h0 hd1 hd2
              go_wp2
              go_round
              case rel => exact ⟨j + 1, nn + 2 * P, 2 * P, by omega, by go_num, by go_num, by go_num, by omega, by omega, Lib.hid HN'.out⟩
              case measure => simp [intOf]; omega
          · have HN' := Lib.hid (numR_stay hN.out (by omega))
            have hn6' : ¬ ((nn : Int) ≤ 65536) := by omega
            clear hd hd1 hn6
            go_wp2
            go_round
            case rel => exact ⟨j + 1, nn, P, by omega, by go_num, rfl, rfl, by omega, by omega, HN'⟩
            case measure => simp [intOf]; omega
        · obtain rfl : j = D := by omega
          have hiff : (65536 < k + nn ↔ 65536 < k + V) ∧ (nn ≤ 65536 → nn = V) := by
            rcases hN.out with ⟨h1, _, _⟩ | ⟨h1, h2⟩
            · rw [← HVt.out] at h1; subst h1; exact ⟨Iff.rfl, fun _ => rfl⟩
            · rw [← HVt.out] at h2; exact ⟨by omega, by omega⟩
          obtain ⟨hif1, hif2⟩ := hiff
          by_cases hend : i + j < n
          · obtain ⟨x, hx⟩ : ∃ x, b[i + j]? = some x := ⟨b[i + j]'(by rw [HL.out]; exact hend), List.getElem?_eq_getElem _⟩
            have hcx := HCS.out (i + j) x hx
            have hx2 := dlen_stop (l := L) (y := x) (by rw [HD.out, HG.out]; exact hx)
            have hxl := lt256 x
            have hx2' : ¬ ((x.toNat : Int) < 2) := by omega
            have hij : ((i + j : Nat) : Int) < (n : Int) := by omega
            have hne : ¬ ((i + j : Nat) : Int) = (n : Int) := by omega
            by_cases hbig : 65536 < k + nn
            · have hbig' : (65536 : Int) < (k : Int) + (nn : Int) := by omega
              have hstop : Hid (Ex [] b ([], 5)) := Lib.hid (back_stop hI.out (by unfold next; rw [if_pos (by rw [hk.out, HV.out]; exact hif1.1 hbig)]))
              clear hif1 hif2 hbig
              go_wp2
              go_ret2
              exact .err hstop.out hB
            · have hkv : k + V ≤ 65536 := by omega
              obtain rfl : nn = V := hif2 (by omega)
              have hbig' : ¬ ((65536 : Int) < (k : Int) + (nn : Int)) := by omega
              have HND : Hid (next o L = next (o ++ List.replicate nn 0) (b.drop (i + j))) := Lib.hid (by
                have := next_digits (out := o) (l := L) (by rw [hk.out, HV.out]; exact hkv)
                rw [HV.out, HD.out, HLd.out, List.drop_drop] at this
                rw [HLd.out]; exact this.symm)
              have HKL : Hid ((o ++ List.replicate nn 0).length = k + nn) := Lib.hid (by rw [List.length_append, hk.out, List.length_replicate])
              have hdc := drop_cons hx
              have HXC : Hid (b[i + j]? = some x) := Lib.hid hx
              clear hif1 hif2 hbig
              by_cases h5 : x = 255
              · subst h5
                replace hcx : wo.cell? ⟨bl, oo + (i + j), none⟩ = some (.int .u8 255) := hcx
                by_cases hend2 : i + j + 1 = n
                · have hstop : Hid (Ex [] b ([], 9)) := Lib.hid (back_stop hI.out (by rw [HND.out]; exact next_torn (by rw [hdc, List.drop_of_length_le (by rw [HL.out]; omega)]) (by rw [HKL.out]; exact hkv)))
                  have he2 : ((i + j : Nat) : Int) + 1 = (n : Int) := by omega
                  clear hx hdc hx2 hx2' hxl hend2
                  go_wp2_with (at_builtin; refine wpList_append_zeros _ rfl _ _ 22 3 rfl w.heap.size 5 i0 (.int .u8 0) 1 .i64 .i64 Try.underlying22 underlying3' hi hz0 hz1 hz2 rfl rfl (.slice A' k c') k _ rfl hown nn rfl (by unfold maxLen; omega) (by omega) hB.size ?_; intro v4 w4 o4 g4 _; have hB4 := hB.grown g4 hB.size (fun q hq => (hown.lt q hq).1); obtain ⟨A4, c4, rfl, _, _⟩ := own_form o4; have hcx := HCW.out _ hB4 _ _ HXC.out; replace hcx : w4.cell? ⟨bl, oo + (i + j), none⟩ = some (.int .u8 255) := hcx)
                  go_ret2
                  exact .err hstop.out hB4
                · have hi1 : i + j + 1 < n := by omega
                  have he2 : ¬ ((i + j : Nat) : Int) + 1 = (n : Int) := by omega
                  obtain ⟨y, hy⟩ : ∃ y, b[i + j + 1]? = some y := ⟨b[i + j + 1]'(by rw [HL.out]; exact hi1), List.getElem?_eq_getElem _⟩
                  have HYC := Lib.hid hy
                  have hdc2 := drop_cons hy
                  have hyl := lt256 y
                  have HE : Hid (next o L = if 1 < y.toNat then .inl ([], 3) else put (o ++ List.replicate nn 0) (254 + y) (b.drop (i + j + 2))) := Lib.hid (by rw [HND.out]; exact next_esc (by rw [hdc, hdc2]) (by rw [HKL.out]; exact hkv))
                  by_cases hy1 : 1 < y.toNat
                  · have hstop : Hid (Ex [] b ([], 3)) := Lib.hid (back_stop hI.out (by rw [HE.out, if_pos hy1]))
                    have hy2 : (1 : Int) < (y.toNat : Int) := by omega
                    clear hx hdc hx2 hx2' hxl hend2 hy hdc2 hy1
                    go_wp2_with (at_builtin; refine wpList_append_zeros _ rfl _ _ 22 3 rfl w.heap.size 5 i0 (.int .u8 0) 1 .i64 .i64 Try.underlying22 underlying3' hi hz0 hz1 hz2 rfl rfl (.slice A' k c') k _ rfl hown nn rfl (by unfold maxLen; omega) (by omega) hB.size ?_; intro v4 w4 o4 g4 _; have hB4 := hB.grown g4 hB.size (fun q hq => (hown.lt q hq).1); obtain ⟨A4, c4, rfl, _, _⟩ := own_form o4; have hcx := HCW.out _ hB4 _ _ HXC.out; replace hcx : w4.cell? ⟨bl, oo + (i + j), none⟩ = some (.int .u8 255) := hcx; have hcy := HCW.out _ hB4 _ _ HYC.out)
                    go_ret2
                    exact .err hstop.out hB4
                  · have HP : Hid (next o L = put (o ++ List.replicate nn 0) (254 + y) (b.drop (i + j + 2))) := Lib.hid (by rw [HE.out, if_neg hy1])
                    have hy2 : (y.toNat : Int) ≤ 1 := by omega
                    have HS : Hid (((254 + y).toNat : Int) = 254 + (y.toNat : Int)) := Lib.hid (by rw [UInt8.toNat_add]; have h8 : (254 : UInt8).toNat = 254 := rfl; omega)
                    clear hx hdc hx2 hx2' hxl hend2 hy hdc2 hy1
                    by_cases hk1 : k + nn < 65536
                    · have hput : Hid (next o L = .inr (o ++ List.replicate nn 0 ++ [254 + y], b.drop (i + j + 2))) := Lib.hid (by rw [HP.out]; unfold put; rw [if_neg (by rw [HKL.out]; omega)])
                      have hI' := Lib.hid (back_step hI.out hput.out)
                      have hk1' : ¬ ((65536 : Int) ≤ (k : Int) + (nn : Int)) := by omega
                      go_wp2_with (first
                        | (at_builtin; refine wpList_append_zeros _ rfl _ _ 22 3 rfl w.heap.size 5 i0 (.int .u8 0) 1 .i64 .i64 Try.underlying22 underlying3' hi hz0 hz1 hz2 rfl rfl (.slice A' k c') k _ rfl hown nn rfl (by unfold maxLen; omega) (by omega) hB.size ?_; intro v4 w4 o4 g4 _; have hB4 := hB.grown g4 hB.size (fun q hq => (hown.lt q hq).1); obtain ⟨A4, c4, rfl, _, _⟩ := own_form o4; have hcx := HCW.out _ hB4 _ _ HXC.out; replace hcx : w4.cell? ⟨bl, oo + (i + j), none⟩ = some (.int .u8 255) := hcx; have hcy := HCW.out _ hB4 _ _ HYC.out)
                        | (at_builtin; refine wpList_append_at _ u8_one' rfl _ _ 22 rfl w.heap.size 5 i0 (.int .u8 0) 1 Try.underlying22 hi hz0 hz1 hz2 rfl (.slice A4 (k + nn) c4) (k + nn) _ rfl (o4.alloc _) _ _ 1 [254 + y] 1 rfl (Sl.of_new rfl (by rw [List.map_cons, List.map_nil, W.u8_def, HS.out])) rfl (by unfold maxLen; omega) (by omega) (by have := hB4.size; simp; omega) ?_; intro v6 w6 o6 g6 _; have hB6 := (hB4.alloc hB4.size _).grown g6 (by have := hB4.size; simp; omega) (fun q hq => (o4.lt q hq).1); obtain ⟨A6, c6, rfl, _, _⟩ := own_form o6))
                      go_roundw
                      case rel => exact ⟨i + j + 2, o ++ List.replicate nn 0 ++ [254 + y], k + nn + 1, A6, c6, by omega, by go_num, rfl, Lib.hid (by rw [List.length_append, HKL.out]; rfl), by omega, hI', by rw [List.map_append, List.map_append, List.map_replicate]; exact o6, hB6⟩
                      case measure => simp [intOf]; omega
                    · have hstop : Hid (Ex [] b ([], 5)) := Lib.hid (back_stop hI.out (by rw [HP.out]; unfold put; rw [if_pos (by rw [HKL.out]; omega)]))
                      have hk1' : (65536 : Int) ≤ (k : Int) + (nn : Int) := by omega
                      go_wp2_with (at_builtin; refine wpList_append_zeros _ rfl _ _ 22 3 rfl w.heap.size 5 i0 (.int .u8 0) 1 .i64 .i64 Try.underlying22 underlying3' hi hz0 hz1 hz2 rfl rfl (.slice A' k c') k _ rfl hown nn rfl (by unfold maxLen; omega) (by omega) hB.size ?_; intro v4 w4 o4 g4 _; have hB4 := hB.grown g4 hB.size (fun q hq => (hown.lt q hq).1); obtain ⟨A4, c4, rfl, _, _⟩ := own_form o4; have hcx := HCW.out _ hB4 _ _ HXC.out; replace hcx : w4.cell? ⟨bl, oo + (i + j), none⟩ = some (.int .u8 255) := hcx; have hcy := HCW.out _ hB4 _ _ HYC.out)
                      go_ret2
                      exact .err hstop.out hB4
              · have HP : Hid (next o L = put (o ++ List.replicate nn 0) (x - 1) (b.drop (i + j + 1))) := Lib.hid (by rw [HND.out]; exact next_byte hdc hx2 h5 (by rw [HKL.out]; exact hkv))
                have HS : Hid (((x - 1).toNat : Int) = (x.toNat : Int) - 1) := Lib.hid (by rw [UInt8.toNat_sub_of_le _ _ (UInt8.le_iff_toNat_le.2 (by have h7 : (1 : UInt8).toNat = 1 := rfl; omega))]; have h7 : (1 : UInt8).toNat = 1 := rfl; omega)
                have hxge : (2 : Int) ≤ (x.toNat : Int) := by omega
                have hx254 : ((x.toNat : Int) - 1 == 254) = false := by rw [beq_eq_false_iff_ne]; intro e; exact h5 (UInt8.toNat_inj.1 (show x.toNat = 255 by omega))
                clear hx hdc hx2 h5
                by_cases hk1 : k + nn < 65536
                · have hput : Hid (next o L = .inr (o ++ List.replicate nn 0 ++ [x - 1], b.drop (i + j + 1))) := Lib.hid (by rw [HP.out]; unfold put; rw [if_neg (by rw [HKL.out]; omega)])
                  have hI' := Lib.hid (back_step hI.out hput.out)
                  have hk1' : ¬ ((65536 : Int) ≤ (k : Int) + (nn : Int)) := by omega
                  go_wp2_with (first
                    | (at_builtin; refine wpList_append_zeros _ rfl _ _ 22 3 rfl w.heap.size 5 i0 (.int .u8 0) 1 .i64 .i64 Try.underlying22 underlying3' hi hz0 hz1 hz2 rfl rfl (.slice A' k c') k _ rfl hown nn rfl (by unfold maxLen; omega) (by omega) hB.size ?_; intro v4 w4 o4 g4 _; have hB4 := hB.grown g4 hB.size (fun q hq => (hown.lt q hq).1); obtain ⟨A4, c4, rfl, _, _⟩ := own_form o4; have hcx := HCW.out _ hB4 _ _ HXC.out)
                    | (at_builtin; refine wpList_append_at _ u8_one' rfl _ _ 22 rfl w.heap.size 5 i0 (.int .u8 0) 1 Try.underlying22 hi hz0 hz1 hz2 rfl (.slice A4 (k + nn) c4) (k + nn) _ rfl (o4.alloc _) _ _ 1 [x - 1] 1 rfl (Sl.of_new rfl (by rw [List.map_cons, List.map_nil, W.u8_def, HS.out])) rfl (by unfold maxLen; omega) (by omega) (by have := hB4.size; simp; omega) ?_; intro v6 w6 o6 g6 _; have hB6 := (hB4.alloc hB4.size _).grown g6 (by have := hB4.size; simp; omega) (fun q hq => (o4.lt q hq).1); obtain ⟨A6, c6, rfl, _, _⟩ := own_form o6))
                  go_roundw
                  case rel => exact ⟨i + j + 1, o ++ List.replicate nn 0 ++ [x - 1], k + nn + 1, A6, c6, by omega, by go_num, rfl, Lib.hid (by rw [List.length_append, HKL.out]; rfl), by omega, hI', by rw [List.map_append, List.map_append, List.map_replicate]; exact o6, hB6⟩
                  case measure => simp [intOf]; omega
                · have hstop : Hid (Ex [] b ([], 5)) := Lib.hid (back_stop hI.out (by rw [HP.out]; unfold put; rw [if_pos (by rw [HKL.out]; omega)]))
                  have hk1' : (65536 : Int) ≤ (k : Int) + (nn : Int) := by omega
                  go_wp2_with (at_builtin; refine wpList_append_zeros _ rfl _ _ 22 3 rfl w.heap.size 5 i0 (.int .u8 0) 1 .i64 .i64 Try.underlying22 underlying3' hi hz0 hz1 hz2 rfl rfl (.slice A' k c') k _ rfl hown nn rfl (by unfold maxLen; omega) (by omega) hB.size ?_; intro v4 w4 o4 g4 _; have hB4 := hB.grown g4 hB.size (fun q hq => (hown.lt q hq).1); obtain ⟨A4, c4, rfl, _, _⟩ := own_form o4; have hcx := HCW.out _ hB4 _ _ HXC.out)
                  go_ret2
                  exact .err hstop.out hB4
          · have hij : ((i + j : Nat) : Int) = (n : Int) := by omega
            have hij2 : decide (((i + j : Nat) : Int) < (n : Int)) = false := by rw [decide_eq_false_iff_not]; omega
            by_cases hbig : 65536 < k + nn
            · have hbig' : (65536 : Int) < (k : Int) + (nn : Int) := by omega
              have hstop : Hid (Ex [] b ([], 5)) := Lib.hid (back_stop hI.out (by unfold next; rw [if_pos (by rw [hk.out, HV.out]; exact hif1.1 hbig)]))
              clear hif1 hif2 hbig
              go_wp2
              go_ret2
              exact .err hstop.out hB
            · have hkv : k + V ≤ 65536 := by omega
              obtain rfl : nn = V := hif2 (by omega)
              have hbig' : ¬ ((65536 : Int) < (k : Int) + (nn : Int)) := by omega
              have hfin : Hid (Ex [] b (o ++ List.replicate nn 0, 0)) := Lib.hid (back_stop hI.out (by
                have := next_digits (out := o) (l := L) (by rw [hk.out, HV.out]; exact hkv)
                rw [HV.out, HD.out, HLd.out, List.drop_drop, List.drop_of_length_le (show b.length ≤ i + j by rw [HL.out]; omega)] at this
                rw [HLd.out, ← this]; exact next_end (by rw [List.length_append, hk.out, List.length_replicate]; exact hkv)))
              have HKL : Hid ((o ++ List.replicate nn 0).length = k + nn) := Lib.hid (by rw [List.length_append, hk.out, List.length_replicate])
              clear hif1 hif2 hbig
              go_wp2_with (at_builtin; refine wpList_append_zeros _ rfl _ _ 22 3 rfl w.heap.size 5 i0 (.int .u8 0) 1 .i64 .i64 Try.underlying22 underlying3' hi hz0 hz1 hz2 rfl rfl (.slice A' k c') k _ rfl hown nn rfl (by unfold maxLen; omega) (by omega) hB.size ?_; intro v4 w4 o4 g4 _; have hB4 := hB.grown g4 hB.size (fun q hq => (hown.lt q hq).1); obtain ⟨A4, c4, rfl, _, _⟩ := own_form o4)
              go_ret2
              exact .ok hfin.out HKL.out hkv (by rw [List.map_append, List.map_replicate]; exact o4) hB4
    · obtain rfl : i = n := by omega
      have hfin : Hid (Ex [] b (o, 0)) := Lib.hid (back_stop hI.out (by rw [List.drop_of_length_le (by rw [HL.out]; exact Nat.le_refl _)]; exact next_end (by rw [hk.out]; exact hk6)))
      go_wp2
      go_ret2
      exact .ok hfin.out hk.out hk6 hown hB
end Go.Proofs.Ytgaifkjdaldmnaa.F
