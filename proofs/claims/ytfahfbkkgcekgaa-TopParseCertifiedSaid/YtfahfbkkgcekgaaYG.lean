/- lz.Encode. -/
import Derived.Test.YtfahfbkkgcekgaaYF
namespace Go.Proofs.Ytfahfbkkgcekgaa.H
set_option linter.unusedVariables false
set_option linter.unusedSimpArgs false
open Go Go.RowKit Go.Proofs.Ytfahfbkkgcekgaa Go.Proofs.Ytfahfbkkgcekgaa.W Go.Proofs.Ytfahfbkkgcekgaa.M

theorem encB_succ {l : List Tok} {i : Nat} {t : Tok} (h : l[i]? = some t) : encB (l.take (i + 1)) = encB (l.take i) ++ tokB t := by
  rw [take_succ h, encB_append]; show _ = _; unfold encB; simp
set_option maxRecDepth 100000 in
set_option maxHeartbeats 2000000 in
theorem Encode_ok (b : Bs) (N : Nat) (hN : b.length = N) (hN6 : N ≤ 60) (A : Option Addr) (n c : Nat) (l : List Tok) (hl : l.length = n) (hF : Fac b 0 l) (w : World) (hS : SlT w w.heap.size A l) :
    Calls Try.prog 8 #[.slice A n c] w fun e w' => ∃ A' c' D, e = .returned (.tuple #[.slice A' D.length c', .int .i64 0]) ∧ Sl u8 w' w'.heap.size A' D ∧ BR D (encB l) ∧ D.length ≤ c' ∧ c' ≤ maxLen ∧ Below w.heap.size w w' := by
  have HF := Lib.hid hF
  have HS0 := Lib.hid hS
  have HL := Lib.hid hl
  have hn6 : n ≤ 60 := by have := fac_len hF; omega
  have CK := Lib.hid (Check_ok b N hN (by omega) A n c l hl hF w hS)
  have HP : Hid (∀ i t, l[i]? = some t → Right t) := Lib.hid fun i t ht => (okAt_right (fac_at hF ht)).1
  have HB : Hid (∀ i, i ≤ n → cost (l.take i) ≤ 51 * i) := Lib.hid fun i => by
    induction i with
    | zero => intro _; exact Nat.le_refl _
    | succ i ih =>
      intro h
      have h1 := ih (by omega)
      have h2 := cost_succ (List.getElem?_eq_getElem (show i < l.length by omega))
      have h3 := (price_le (okAt_right (fac_at hF (List.getElem?_eq_getElem (show i < l.length by omega)))).1).1
      omega
  clear hF hl hN
  go_enter Try.func8, Try.ntmps8
  go_wp2_with (go_at_call 18; refine CK.out.mono ?_; rintro e w1 ⟨rfl, hb1⟩; have hS1 := SlT.later hS hb1)
  go_loopw [5, 18] (fun sv iv wm => ∃ (i s : Nat), i ≤ n ∧ iv = .int .i64 (i : Int) ∧ sv = .int .i64 (s : Int) ∧ Hid (cost (l.take i) = s) ∧ SlT wm wm.heap.size A l ∧ Below w.heap.size w wm) (fun _ iv _ => n - (intOf iv).toNat)
  case atStart => exact ⟨0, 0, Nat.zero_le _, rfl, rfl, Lib.hid rfl, hS1, hb1⟩
  case round =>
    obtain ⟨i, s, hi, rfl, rfl, hs, hS, hB⟩ := hrel
    have hs6 : s ≤ 51 * 60 := by have := HB.out i hi; rw [hs.out] at this; omega
    by_cases hlt : i < n
    · obtain ⟨b0, q0, t, rfl, _, ht, hc1, hc2, hc3⟩ := hS.at_ (i := i) (by rw [HL.out]; exact hlt)
      have hR := HP.out i t ht
      have hp := (price_le hR).1
      have hstep := Lib.hid (show cost (l.take (i + 1)) = s + price t by rw [cost_succ ht, hs.out])
      have C1 := Lib.hid (fun W => price_ok t hR W)
      obtain ⟨q, hq⟩ : ∃ q, price t = q := ⟨_, rfl⟩
      rw [hq] at C1 hp hstep
      obtain ⟨x, d, y⟩ := t
      unfold tokV at C1
      replace hc1 : wr.cell? ⟨b0, q0 + i * 3, none⟩ = some (.int .i64 (x : Int)) := hc1
      replace hc2 : wr.cell? ⟨b0, q0 + i * 3 + 1, none⟩ = some (.int .i64 (d : Int)) := hc2
      replace hc3 : wr.cell? ⟨b0, q0 + i * 3 + 2, none⟩ = some (.int .u8 (y.toNat : Int)) := hc3
      have hS1 := SlT.later hS ((Below.refl _ _).alloc (Nat.le_refl _) (.cells #[.int .i64 (x : Int), .int .i64 (d : Int), .int .u8 (y.toNat : Int)] 46))
      have hB1 := hB.alloc hB.size (.cells #[.int .i64 (x : Int), .int .i64 (d : Int), .int .u8 (y.toNat : Int)] 46)
      clear hR ht hS hB hq
      go_wp2_with (go_at_call 19; refine (C1.out _).mono ?_; clear C1; rintro e w3 ⟨rfl, hb3⟩; have hS3 := hS1.later hb3; have hB3 := bsa hB1 hb3)
      go_roundw
      case rel => exact ⟨i + 1, s + q, by omega, by go_num, by go_num, hstep, hS3, hB3⟩
      case measure => simp [intOf]; omega
    · obtain rfl : i = n := by omega
      have hsn : ¬ (524288 : Int) < (s : Int) := by omega
      have hB5 := hB.alloc hB.size (.cells #[.slice none 0 0, .int .i64 0, .int .i64 0] 55)
      have hS5 := SlT.later hS ((Below.refl _ _).alloc (Nat.le_refl _) (.cells #[.slice none 0 0, .int .i64 0, .int .i64 0] 55))
      have hst5 : StW (wr.alloc (.cells #[.slice none 0 0, .int .i64 0, .int .i64 0] 55)) wr.heap.size [] [] := ⟨none, 0, Blk.new _ _ _, OwnB.nil, BR_nil⟩
      have hzz := hB.size
      clear hS hS1 hb1 hS5
      go_wp2_with fail
      obtain ⟨S, hSe⟩ : ∃ S, S = wr.heap.size := ⟨_, rfl⟩
      obtain ⟨w5, hw5⟩ : ∃ w5, w5 = wr.alloc (.cells #[.slice none 0 0, .int .i64 0, .int .i64 0] 55) := ⟨_, rfl⟩
      rw [← hw5] at hB5 hst5 ⊢
      rw [← hSe] at hst5 hzz ⊢
      clear hw5 hSe
      go_loopw [33] (fun iv wm => ∃ (k : Nat) (D : Bs), k ≤ i ∧ iv = .int .i64 (k : Int) ∧ StW wm S D (encB (l.take k)) ∧ Below w.heap.size w wm) (fun iv _ => i - (intOf iv).toNat)
      case atStart => exact ⟨0, [], Nat.zero_le _, rfl, hst5, hB5⟩
      case round =>
        obtain ⟨k, D, hk, rfl, hst, hB⟩ := hrel
        clear hst5 hB5
        by_cases hlt : k < i
        · obtain ⟨b0, q0, t, rfl, _, ht, hc1, hc2, hc3⟩ := (SlT.later HS0.out hB).at_ (i := k) (by rw [HL.out]; exact hlt)
          have hR := HP.out k t ht
          have hlen : (encB (l.take k)).length ≤ 900000 := by rw [encB_length]; have := HB.out k (by omega); omega
          have hstep := Lib.hid (encB_succ ht)
          obtain ⟨x, d, y⟩ := t
          replace hc1 : wr.cell? ⟨b0, q0 + k * 3, none⟩ = some (.int .i64 (x : Int)) := hc1
          replace hc2 : wr.cell? ⟨b0, q0 + k * 3 + 1, none⟩ = some (.int .i64 (d : Int)) := hc2
          replace hc3 : wr.cell? ⟨b0, q0 + k * 3 + 2, none⟩ = some (.int .u8 (y.toNat : Int)) := hc3
          have T := Lib.hid (token_ok (x, d, y) hR _ S D _ hlen (hst.alloc (.cells #[.int .i64 (x : Int), .int .i64 (d : Int), .int .u8 (y.toNat : Int)] 46)))
          unfold tokV at T
          have hB1 := hB.alloc hB.size (.cells #[.int .i64 (x : Int), .int .i64 (d : Int), .int .u8 (y.toNat : Int)] 46)
          clear hR ht hB hst hlen
          go_wp2_with (go_at_call 20; refine T.out.mono ?_; rintro e w3 ⟨⟨v, rfl⟩, D3, hs3, hb3, _⟩)
          go_roundw
          case rel => exact ⟨k + 1, D3, by omega, by go_num, by rw [hstep.out]; exact hs3, hB1.trans (hb3.mono hzz)⟩
          case measure => simp [intOf]; omega
        · obtain rfl : k = i := by omega
          rw [show l.take k = l by rw [← HL.out, List.take_length]] at hst
          obtain ⟨A7, c7, hk7, ho7, hbr⟩ := hst
          have HBR := Lib.hid hbr
          have e0 := hk7.cell 0
          obtain ⟨L, hL⟩ : ∃ L, D.length = L := ⟨_, rfl⟩
          rw [hL] at ho7
          have hk7' : wr.cell? ⟨S, 0, none⟩ = some (.slice A7 L c7) := by rw [← hL]; exact hk7.cell 0
          obtain ⟨A9, c9, hsl, hkc, hcm⟩ := own_form ho7
          obtain ⟨rfl, rfl⟩ : A7 = _ ∧ c7 = _ := by injection hsl with h1 _ h3; exact ⟨h1, h3⟩
          have HLL := Lib.hid hL
          clear hsl hbr e0 hk7 hL
          go_wp2
          go_ret2
          exact ⟨A7, c7, D, by rw [HLL.out]; rfl, ho7.sl, HBR.out, by rw [HLL.out]; exact hkc, hcm, hB⟩
end Go.Proofs.Ytfahfbkkgcekgaa.H
