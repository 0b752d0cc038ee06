/- Slices of tokens; lz.Check, lz.Expand, parse.Cost at factorizations. -/
import Derived.Test.YtfahfbkkgcekgaaY1
namespace Go.Proofs.Ytfahfbkkgcekgaa.H
set_option linter.unusedVariables false
open Go Go.RowKit Go.Proofs.Ytfahfbkkgcekgaa Go.Proofs.Ytfahfbkkgcekgaa.W Go.Proofs.Ytfahfbkkgcekgaa.M

/-- The cells of tokens. -/
def flatT (l : List Tok) : List Value := l.flatMap fun t => [.int .i64 (t.1 : Int), .int .i64 (t.2.1 : Int), .int .u8 (t.2.2.toNat : Int)]
theorem flatT_length (l : List Tok) : (flatT l).length = l.length * 3 := by
  unfold flatT
  induction l with
  | nil => rfl
  | cons a l ih => rw [List.flatMap_cons, List.length_append, ih, List.length_cons]; simp; omega
theorem flatT_cons (a : Tok) (l : List Tok) : flatT (a :: l) = .int .i64 (a.1 : Int) :: .int .i64 (a.2.1 : Int) :: .int .u8 (a.2.2.toNat : Int) :: flatT l := rfl
theorem flatT_append (l l' : List Tok) : flatT (l ++ l') = flatT l ++ flatT l' := by unfold flatT; rw [List.flatMap_append]
theorem flatT_get : ∀ {l : List Tok} {i : Nat} {t : Tok}, l[i]? = some t → (flatT l)[i * 3]? = some (.int .i64 (t.1 : Int)) ∧ (flatT l)[i * 3 + 1]? = some (.int .i64 (t.2.1 : Int)) ∧ (flatT l)[i * 3 + 2]? = some (.int .u8 (t.2.2.toNat : Int))
  | [], i, e, h => by simp at h
  | a :: l, 0, e, h => by
    obtain rfl : a = e := by simpa using h
    exact ⟨rfl, rfl, rfl⟩
  | a :: l, i + 1, e, h => by
    have h' : l[i]? = some e := by simpa using h
    obtain ⟨h1, h2, h3⟩ := flatT_get h'
    rw [flatT_cons, show (i + 1) * 3 = i * 3 + 1 + 1 + 1 by omega]
    exact ⟨by simpa using h1, by simpa using h2, by simpa using h3⟩
/-- A slice that reads as a list of tokens. -/
def SlT (w : World) (B : Nat) (A : Option Addr) (l : List Tok) : Prop := Sl (fun v : Value => v) w B A (flatT l)
theorem SlT.nil {w : World} {B : Nat} {A : Option Addr} : SlT w B A [] := Sl.nil
theorem SlT.later {w w' : World} {A : Option Addr} {l : List Tok} (h : SlT w w.heap.size A l) (hb : Below w.heap.size w w') : SlT w' w'.heap.size A l := Sl.later h hb
theorem SlT.lt {w : World} {B : Nat} {A : Option Addr} {l : List Tok} (h : SlT w B A l) : SlT w w.heap.size A l := Sl.lt h
theorem SlT.alloc {w : World} {B : Nat} {A : Option Addr} {l : List Tok} (h : SlT w B A l) (hB : B ≤ w.heap.size) (o : Obj) : SlT (w.alloc o) B A l := Sl.alloc h hB o
theorem SlT.at_ {w : World} {B : Nat} {A : Option Addr} {l : List Tok} (h : SlT w B A l) {i : Nat} (hi : i < l.length) : ∃ b o t, A = some ⟨b, o, none⟩ ∧ b < B ∧ l[i]? = some t ∧ w.cell? ⟨b, o + i * 3, none⟩ = some (.int .i64 (t.1 : Int)) ∧ w.cell? ⟨b, o + i * 3 + 1, none⟩ = some (.int .i64 (t.2.1 : Int)) ∧ w.cell? ⟨b, o + i * 3 + 2, none⟩ = some (.int .u8 (t.2.2.toNat : Int)) := by
  have hl : l[i]? = some l[i] := List.getElem?_eq_getElem hi
  obtain ⟨h1, h2, h3⟩ := flatT_get hl
  obtain ⟨b, o, e, hb, hc⟩ := Sl.open_ h (by rw [flatT_length]; omega)
  exact ⟨b, o, l[i], e, hb, hl, hc _ _ h1, by rw [Nat.add_assoc]; exact hc _ _ h2, by rw [Nat.add_assoc]; exact hc _ _ h3⟩
theorem SlT.of_own {w : World} {base : Nat} {e : TypeId} {A : Option Addr} {n c : Nat} {l : List Tok} (h : w.ownsRow base e 3 (.slice A n c) n (flatT l)) : SlT w w.heap.size A l := fun hl => by
  have h0 : 0 < (flatT l).length := List.length_pos_iff.2 hl
  have hn : 0 < n := by have := h.1; omega
  obtain ⟨g, cap, hv, _, hlt⟩ := h.form hn
  have hA : A = some ⟨g, 0, none⟩ := by injection hv
  subst hA
  refine ⟨g, 0, rfl, hlt, fun j x hx => ?_⟩
  have := h.cells (g := g) rfl j x hx
  have ha : (⟨g, 0, none⟩ : Addr).add j = ⟨g, 0 + j, none⟩ := by unfold Addr.add; by_cases hj : j = 0 <;> simp [hj]
  rw [← ha]
  exact this
/-- Where token i begins. -/
def pos (l : List Tok) (i : Nat) : Nat := ((l.take i).map tsz).sum
theorem pos_zero (l : List Tok) : pos l 0 = 0 := rfl
theorem pos_succ {l : List Tok} {i : Nat} {t : Tok} (h : l[i]? = some t) : pos l (i + 1) = pos l i + tsz t := by
  unfold pos; rw [take_succ h, List.map_append, List.sum_append]; simp
theorem fac_at {b : Bs} : ∀ {l : List Tok} {a i : Nat} {t : Tok}, Fac b a l → l[i]? = some t → okAt b (a + pos l i) t
  | [], _, _, _, _, h => by simp at h
  | t' :: l, a, 0, t, h, hi => by
    obtain rfl : t' = t := by simpa using hi
    exact h.1
  | t' :: l, a, i + 1, t, h, hi => by
    have := fac_at h.2 (show l[i]? = some t by simpa using hi)
    have e : pos (t' :: l) (i + 1) = tsz t' + pos l i := by unfold pos; rw [List.take_succ_cons, List.map_cons, List.sum_cons]
    rw [e, ← Nat.add_assoc]; exact this
theorem fac_pos {b : Bs} : ∀ {l : List Tok} {a : Nat}, Fac b a l → a + pos l l.length = b.length
  | [], a, h => h
  | t :: l, a, h => by
    have := fac_pos h.2
    have e : pos (t :: l) (t :: l).length = tsz t + pos l l.length := by unfold pos; rw [List.length_cons, List.take_succ_cons, List.map_cons, List.sum_cons]
    rw [e, ← Nat.add_assoc]; exact this
theorem pos_ge : ∀ (l : List Tok) (i : Nat), i ≤ l.length → i ≤ pos l i
  | _, 0, _ => Nat.zero_le _
  | l, i + 1, h => by
    have h1 := pos_ge l i (by omega)
    have h2 := pos_succ (List.getElem?_eq_getElem (show i < l.length by omega))
    have h3 := tsz_pos l[i]
    omega
theorem fac_len {b : Bs} {l : List Tok} (h : Fac b 0 l) : l.length ≤ b.length := by
  have h1 := fac_pos h
  have h2 := pos_ge l l.length (Nat.le_refl _)
  omega
theorem cost_succ {l : List Tok} {i : Nat} {t : Tok} (h : l[i]? = some t) : cost (l.take (i + 1)) = cost (l.take i) + price t := by
  rw [take_succ h, cost_append]; rfl

set_option maxRecDepth 100000 in
theorem Check_ok (b : Bs) (N : Nat) (hN : b.length = N) (hN6 : N ≤ 65536) (A : Option Addr) (n c : Nat) (l : List Tok) (hl : l.length = n) (hF : Fac b 0 l) (w : World) (hS : SlT w w.heap.size A l) :
    Calls Try.prog 18 #[.slice A n c] w fun e w' => e = .returned (.int .i64 0) ∧ Below w.heap.size w w' := by
  have HF := Lib.hid hF
  have HL := Lib.hid hl
  have HN := Lib.hid hN
  have hn6 : n ≤ 65536 := by have := fac_len hF; omega
  have hn : ¬ (65536 : Int) < (n : Int) := by omega
  clear hF hl hN
  go_enter Try.func18, Try.ntmps18
  go_wp2
  go_loopw [3, 12] (fun sv iv wm => ∃ (i s : Nat), i ≤ n ∧ iv = .int .i64 (i : Int) ∧ sv = .int .i64 (s : Int) ∧ Hid (pos l i = s) ∧ SlT wm wm.heap.size A l ∧ Below w.heap.size w wm) (fun _ iv _ => n - (intOf iv).toNat)
  case atStart => exact ⟨0, 0, Nat.zero_le _, rfl, rfl, Lib.hid rfl, hS, Below.refl _ _⟩
  case round =>
    obtain ⟨i, s, hi, rfl, rfl, hs, hS, hB⟩ := hrel
    by_cases hlt : i < n
    · obtain ⟨b0, q0, t, rfl, _, ht, hc1, hc2, hc3⟩ := hS.at_ (i := i) (by rw [HL.out]; exact hlt)
      have hok := fac_at HF.out ht
      rw [Nat.zero_add, hs.out] at hok
      have hend := okAt_end hok
      rw [HN.out] at hend
      have hstep := Lib.hid (show pos l (i + 1) = s + tsz t by rw [pos_succ ht, hs.out])
      obtain ⟨hR, hd⟩ := okAt_right hok
      have C1 := Lib.hid (fun W => check_ok t hR s hd (by omega) W)
      have C2 := Lib.hid (fun W => lsize_ok t (by have := hR.le; omega) W)
      obtain ⟨q, hq⟩ : ∃ q, tsz t = q := ⟨_, rfl⟩
      rw [hq] at C2 hend hstep
      obtain ⟨x, d, y⟩ := t
      unfold tokV at C1 C2
      replace hc1 : wr.cell? ⟨b0, q0 + i * 3, none⟩ = some (.int .i64 (x : Int)) := hc1
      replace hc2 : wr.cell? ⟨b0, q0 + i * 3 + 1, none⟩ = some (.int .i64 (d : Int)) := hc2
      replace hc3 : wr.cell? ⟨b0, q0 + i * 3 + 2, none⟩ = some (.int .u8 (y.toNat : Int)) := hc3
      have hS1 := SlT.later hS ((Below.refl _ _).alloc (Nat.le_refl _) (.cells #[.int .i64 (x : Int), .int .i64 (d : Int), .int .u8 (y.toNat : Int)] 46))
      have hB1 := hB.alloc hB.size (.cells #[.int .i64 (x : Int), .int .i64 (d : Int), .int .u8 (y.toNat : Int)] 46)
      have hb1 : Blk (wr.alloc (.cells #[.int .i64 (x : Int), .int .i64 (d : Int), .int .u8 (y.toNat : Int)] 46)) wr.heap.size 46 #[.int .i64 (x : Int), .int .i64 (d : Int), .int .u8 (y.toNat : Int)] := Blk.new _ _ _
      clear hok hR hd ht hS hB hq
      go_wp2_with (first
        | (go_at_call 31; refine (C1.out _).mono ?_; clear C1; rintro e w3 ⟨rfl, hb3⟩; have hS3 := hS1.later hb3; have hB3 := bsa hB1 hb3; have hx3 := hb1.later hb3; have e0 := hx3.cell 0; have e1 := hx3.cell 1; have e2 := hx3.cell 2)
        | (go_at_call 32; refine (C2.out _).mono ?_; clear C2; rintro e w4 ⟨rfl, hb4⟩; have hS4 := hS3.later hb4; have hB4 := bsa hB3 hb4))
      go_roundw
      case rel => exact ⟨i + 1, s + q, by omega, by go_num, by go_num, hstep, hS4, hB4⟩
      case measure => simp [intOf]; omega
    · obtain rfl : i = n := by omega
      go_wp2
      go_ret
      exact ⟨rfl, hB⟩
set_option maxRecDepth 100000 in
theorem Cost_ok (b : Bs) (N : Nat) (hN : b.length = N) (hN6 : N ≤ 65536) (A : Option Addr) (n c : Nat) (l : List Tok) (hl : l.length = n) (hF : Fac b 0 l) (C : Nat) (hC : cost l = C) (w : World) (hS : SlT w w.heap.size A l) :
    Calls Try.prog 7 #[.slice A n c] w fun e w' => e = .returned (.tuple #[.int .i64 (C : Int), .int .i64 0]) ∧ Below w.heap.size w w' := by
  have HF := Lib.hid hF
  have HL := Lib.hid hl
  have HC := Lib.hid hC
  have hn6 : n ≤ 65536 := by have := fac_len hF; omega
  have CK := Lib.hid (Check_ok b N hN hN6 A n c l hl hF w hS)
  have HP : Hid (∀ i t, l[i]? = some t → Right t) := Lib.hid fun i t ht => (okAt_right (fac_at hF ht)).1
  have HB : Hid (∀ i, i ≤ n → cost (l.take i) ≤ 51 * i) := Lib.hid fun i => by
    induction i with
    | zero => intro _; exact Nat.le_refl _
    | succ i ih =>
      intro h
      have h1 := ih (by omega)
      have h2 := cost_succ (List.getElem?_eq_getElem (show i < l.length by omega))
      have h3 := (price_le (okAt_right (fac_at hF (List.getElem?_eq_getElem (show i < l.length by omega)))).1).1
      omega
  clear hF hl hC
  go_enter Try.func7, Try.ntmps7
  go_wp2_with (go_at_call 18; refine CK.out.mono ?_; rintro e w1 ⟨rfl, hb1⟩; have hS1 := SlT.later hS hb1)
  go_loopw [5, 15] (fun sv iv wm => ∃ (i s : Nat), i ≤ n ∧ iv = .int .i64 (i : Int) ∧ sv = .int .i64 (s : Int) ∧ Hid (cost (l.take i) = s) ∧ SlT wm wm.heap.size A l ∧ Below w.heap.size w wm) (fun _ iv _ => n - (intOf iv).toNat)
  case atStart => exact ⟨0, 0, Nat.zero_le _, rfl, rfl, Lib.hid rfl, hS1, hb1⟩
  case round =>
    obtain ⟨i, s, hi, rfl, rfl, hs, hS, hB⟩ := hrel
    have hs6 : s ≤ 51 * 65536 := by have := HB.out i hi; rw [hs.out] at this; omega
    by_cases hlt : i < n
    · obtain ⟨b0, q0, t, rfl, _, ht, hc1, hc2, hc3⟩ := hS.at_ (i := i) (by rw [HL.out]; exact hlt)
      have hR := HP.out i t ht
      have hp := (price_le hR).1
      have hstep := Lib.hid (show cost (l.take (i + 1)) = s + price t by rw [cost_succ ht, hs.out])
      have C1 := Lib.hid (fun W => price_ok t hR W)
      obtain ⟨q, hq⟩ : ∃ q, price t = q := ⟨_, rfl⟩
      rw [hq] at C1 hp hstep
      obtain ⟨x, d, y⟩ := t
      unfold tokV at C1
      replace hc1 : wr.cell? ⟨b0, q0 + i * 3, none⟩ = some (.int .i64 (x : Int)) := hc1
      replace hc2 : wr.cell? ⟨b0, q0 + i * 3 + 1, none⟩ = some (.int .i64 (d : Int)) := hc2
      replace hc3 : wr.cell? ⟨b0, q0 + i * 3 + 2, none⟩ = some (.int .u8 (y.toNat : Int)) := hc3
      have hS1 := SlT.later hS ((Below.refl _ _).alloc (Nat.le_refl _) (.cells #[.int .i64 (x : Int), .int .i64 (d : Int), .int .u8 (y.toNat : Int)] 46))
      have hB1 := hB.alloc hB.size (.cells #[.int .i64 (x : Int), .int .i64 (d : Int), .int .u8 (y.toNat : Int)] 46)
      clear hR ht hS hB hq
      go_wp2_with (go_at_call 19; refine (C1.out _).mono ?_; clear C1; rintro e w3 ⟨rfl, hb3⟩; have hS3 := hS1.later hb3; have hB3 := bsa hB1 hb3)
      go_roundw
      case rel => exact ⟨i + 1, s + q, by omega, by go_num, by go_num, hstep, hS3, hB3⟩
      case measure => simp [intOf]; omega
    · obtain rfl : i = n := by omega
      have hsC : Hid (s = C) := Lib.hid (by rw [← hs.out, ← HC.out, ← HL.out, List.take_length])
      go_wp2
      go_ret2
      have e1 := hsC.out
      subst e1
      exact ⟨rfl, hB⟩
end Go.Proofs.Ytfahfbkkgcekgaa.H
