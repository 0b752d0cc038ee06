/- parse.Forward, Inverse; bytes.Equal, slices.Equal; slices.ContainsFunc with Certify's question. -/
import Derived.Test.YtfahfbkkgcekgaaYN
namespace Go.Proofs.Ytfahfbkkgcekgaa.H
set_option linter.unusedVariables false
set_option linter.unusedSimpArgs false
open Go Go.RowKit Go.Proofs.Ytfahfbkkgcekgaa Go.Proofs.Ytfahfbkkgcekgaa.W Go.Proofs.Ytfahfbkkgcekgaa.M

theorem Forward_ok (b : Bs) (N : Nat) (hN : b.length = N) (hN6 : N ≤ 60) (A : Option Addr) (c : Nat) (w : World) (hS : Sl u8 w w.heap.size A b) :
    Calls Try.prog 11 #[.slice A N c] w fun e w' => ∃ A' c' D, e = .returned (.tuple #[.slice A' D.length c', .int .i64 0]) ∧ Sl u8 w' w'.heap.size A' D ∧ BR D (encB (opt b 0)) ∧ D.length ≤ c' ∧ c' ≤ maxLen ∧ Below w.heap.size w w' := by
  obtain ⟨k, hk⟩ : ∃ k, (opt b 0).length = k := ⟨_, rfl⟩
  have O := Lib.hid (Optimal_ok b N hN (by omega) A c (opt b 0) k (pot b 0) rfl hk rfl w hS)
  have EN := Lib.hid (fun A' c' W h => Encode_ok b N hN hN6 A' k c' (opt b 0) hk (opt_fac b).1 W h)
  obtain ⟨n, hn⟩ : ∃ n, pot b 0 = n := ⟨_, rfl⟩
  rw [hn] at O
  clear hN hk hn hS
  go_enter Try.func11, Try.ntmps11
  go_wp2_with (first
    | (go_at_call 10; refine O.out.mono ?_; rintro e w1 ⟨A1, c1, rfl, hT1, _, _, hb1⟩)
    | (go_at_call 8; refine (EN.out _ _ _ hT1).mono ?_; rintro e w2 ⟨A2, c2, D, rfl, hD, hBR, hc1, hc2, hb2⟩; have HBR := Lib.hid hBR; clear hBR))
  go_ret2
  exact ⟨A2, c2, D, rfl, hD, HBR.out, hc1, hc2, bsa hb1 hb2⟩
theorem Inverse_ok (b : Bs) (N : Nat) (hN : b.length = N) (hN6 : N ≤ 60) (A : Option Addr) (c L : Nat) (D : Bs) (hDl : D.length = L) (hL6 : L ≤ 65536) (l : List Tok) (hF : Fac b 0 l) (hBR : BR D (encB l)) (w : World) (hS : Sl u8 w w.heap.size A D) :
    Calls Try.prog 12 #[.slice A L c] w fun e w' => ∃ A' c', e = .returned (.tuple #[.slice A' N c', .int .i64 0]) ∧ Sl u8 w' w'.heap.size A' b ∧ N ≤ c' ∧ c' ≤ maxLen ∧ Below w.heap.size w w' := by
  obtain ⟨k, hk⟩ : ∃ k, l.length = k := ⟨_, rfl⟩
  have O := Lib.hid (Decode_ok b N hN (by omega) A c L D hDl hL6 l k hk hF hBR w hS)
  have EX := Lib.hid (fun A' c' W h => Expand_ok b N hN (by omega) A' k c' l hk hF W h)
  clear hN hk hS hF hBR hDl
  go_enter Try.func12, Try.ntmps12
  go_wp2_with (first
    | (go_at_call 23; refine O.out.mono ?_; rintro e w1 ⟨A1, c1, rfl, hT1, _, _, hb1⟩)
    | (go_at_call 9; refine (EX.out _ _ _ hT1).mono ?_; rintro e w2 ⟨A2, c2, rfl, hD, hc1, hc2, hb2⟩))
  go_ret2
  exact ⟨A2, c2, rfl, hD, hc1, hc2, bsa hb1 hb2⟩
theorem equal_any (A A' : Option Addr) (c c' : Nat) (l l' : List UInt8) (w : World) (B B' : Nat) (h : Sl u8 w B A l) (h' : Sl u8 w B' A' l') :
    Calls Try.prog 13 #[.slice A l.length c, .slice A' l'.length c'] w fun e w' => e = .returned (.bool (l == l')) ∧ w = w' := by
  have k1 := h.convert (P := Try.prog) c _ _ _ Try.underlying22 Try.underlying5 Try.underlying9
  have k2 := h'.convert (P := Try.prog) c' _ _ _ Try.underlying22 Try.underlying5 Try.underlying9
  go_enter Try.func13, Try.ntmps13
  go_wp2
  go_ret
  exact ⟨rfl, rfl⟩
theorem equal_same {A A' : Option Addr} {c c' n : Nat} {l : List UInt8} (hl : l.length = n) {w : World} {B B' : Nat} (h : Sl u8 w B A l) (h' : Sl u8 w B' A' l) :
    Calls Try.prog 13 #[.slice A n c, .slice A' n c'] w fun e w' => e = .returned (.bool true) ∧ w = w' := by
  subst hl
  refine (equal_any A A' c c' l l w B B' h h').mono ?_
  rintro e w' ⟨rfl, rfl⟩
  exact ⟨by simp, rfl⟩
set_option maxRecDepth 100000 in
theorem sequal_ok (A A' : Option Addr) (c c' n : Nat) (b : Bs) (hb : b.length = n) (hn6 : n ≤ 65536) (w : World) (h : Sl u8 w w.heap.size A b) (h' : Sl u8 w w.heap.size A' b) :
    Calls Try.prog 24 #[.slice A n c, .slice A' n c'] w fun e w' => e = .returned (.bool true) ∧ Below w.heap.size w w' := by
  have HL := Lib.hid hb
  have HA : Hid (∀ W, Below w.heap.size w W → ∀ i, i < n → ∃ p q p' q' x, A = some ⟨p, q, none⟩ ∧ A' = some ⟨p', q', none⟩ ∧ W.cell? ⟨p, q + i, none⟩ = some (.int .u8 ((x : UInt8).toNat : Int)) ∧ W.cell? ⟨p', q' + i, none⟩ = some (.int .u8 (x.toNat : Int))) := Lib.hid fun W hW i hi => by
    obtain ⟨p, q, x, e1, h1, h2, h3⟩ := (h.later hW).byte (j := i) (by omega)
    obtain ⟨p', q', x', e2, h4, h5, h6⟩ := (h'.later hW).byte (j := i) (by omega)
    rw [h2] at h5; injection h5 with h5; subst h5
    exact ⟨p, q, p', q', x, e1, e2, h3, h6⟩
  clear h h' hb
  go_enter Try.func24, Try.ntmps24
  go_wp2
  go_loopw [13] (fun iv wm => ∃ (i : Nat), i ≤ n ∧ iv = .int .i64 (i : Int) ∧ Below w.heap.size w wm) (fun iv _ => n - (intOf iv).toNat)
  case atStart => exact ⟨0, Nat.zero_le _, rfl, Below.refl _ _⟩
  case round =>
    obtain ⟨i, hi, rfl, hB⟩ := hrel
    by_cases hlt : i < n
    · obtain ⟨p, q, p', q', x, rfl, rfl, h3, h6⟩ := HA.out _ hB i hlt
      have v1 : (i : Int) < (n : Int) := by omega
      go_wp2_with fail
      go_quiet (fail)
      go_wp2_with fail
      go_roundw
      case rel => exact ⟨i + 1, by omega, by go_num, below_drewN hB _⟩
      case measure => simp [intOf]; omega
    · obtain rfl : i = n := by omega
      go_wp2
      go_ret
      exact ⟨rfl, hB⟩
def zI (x : Int) : Value := .int .i64 x
/-- Certify's question: a number out of its range. -/
def bad (x : Int) : Bool := decide (x < 0) || decide (589824 < x)
theorem cert1_ok (x : Int) (w : World) : Calls Try.prog 26 #[.int .i64 x] w fun e w' => e = .returned (.bool (bad x)) ∧ w' = w := by
  by_cases h1 : x < 0
  · have h2 : bad x = true := by unfold bad; rw [decide_eq_true h1]; rfl
    go_enter Try.func26, Try.ntmps26
    go_wp2
    go_ret
    exact ⟨by rw [h2]; rfl, rfl⟩
  · have h2 : bad x = decide (589824 < x) := by unfold bad; rw [decide_eq_false h1]; rfl
    go_enter Try.func26, Try.ntmps26
    go_wp2
    go_ret
    exact ⟨rfl, rfl⟩
set_option maxRecDepth 100000 in
theorem index_ok (A : Option Addr) (c M : Nat) (Q : List Int) (hQ : Q.length = M) (hM6 : M ≤ 65537) (w : World) (h : Sl zI w w.heap.size A Q) :
    Calls Try.prog 39 #[.slice A M c, .func (.func 26) #[] #[]] w fun e w' => ∃ r : Int, e = .returned (.int .i64 r) ∧ (decide (0 ≤ r) = Q.any bad) ∧ Below w.heap.size w w' := by
  have HL := Lib.hid hQ
  have HA : Hid (∀ i, i < M → ∃ p q x, A = some ⟨p, q, none⟩ ∧ Q[i]? = some x ∧ w.cell? ⟨p, q + i, none⟩ = some (.int .i64 x)) := Lib.hid fun i hi => by
    obtain ⟨p, q, x, e1, h1, h2, h3⟩ := h.at_ (j := i) (by omega)
    exact ⟨p, q, x, e1, h2, h3⟩
  clear h hQ
  go_enter Try.func39, Try.ntmps39
  go_wp2
  go_loopw [8] (fun iv wm => ∃ (i : Nat), i ≤ M ∧ iv = .int .i64 (i : Int) ∧ Hid ((Q.take i).any bad = false) ∧ wm = w) (fun iv _ => M - (intOf iv).toNat)
  case atStart => exact ⟨0, Nat.zero_le _, rfl, Lib.hid rfl, rfl⟩
  case round =>
    obtain ⟨i, hi, rfl, hq, rfl⟩ := hrel
    by_cases hlt : i < M
    · obtain ⟨p, q, x, rfl, hx, h3⟩ := HA.out i hlt
      have v1 : (i : Int) < (M : Int) := by omega
      have C := Lib.hid (cert1_ok x wr)
      have hnx : Hid ((Q.take (i + 1)).any bad = bad x) := Lib.hid (by rw [take_succ hx, List.any_append, hq.out]; simp)
      have hany : Hid (bad x = true → Q.any bad = true) := Lib.hid fun e => List.any_eq_true.2 ⟨x, List.mem_of_getElem? hx, e⟩
      clear hx
      cases hbx : bad x with
      | true =>
        rw [hbx] at C hnx
        have hany' := Lib.hid (hany.out hbx)
        clear hany hbx
        go_wp2_with (go_at_call 26; refine C.out.mono ?_; rintro e w1 ⟨rfl, rfl⟩)
        go_ret
        exact ⟨_, rfl, by rw [hany'.out]; exact decide_eq_true (by omega), Below.refl _ _⟩
      | false =>
        rw [hbx] at C hnx
        clear hany hbx
        go_wp2_with (go_at_call 26; refine C.out.mono ?_; rintro e w1 ⟨rfl, rfl⟩)
        go_roundw
        case rel => exact ⟨i + 1, by omega, by go_num, hnx, trivial⟩
        case measure => simp [intOf]; omega
    · obtain rfl : i = M := by omega
      have hall : Q.take i = Q := by rw [← HL.out, List.take_length]
      rw [hall] at hq
      go_wp2
      go_ret
      exact ⟨_, rfl, by rw [hq.out]; rfl, Below.refl _ _⟩
theorem contains_ok (A : Option Addr) (c M : Nat) (Q : List Int) (hQ : Q.length = M) (hM6 : M ≤ 65537) (w : World) (h : Sl zI w w.heap.size A Q) :
    Calls Try.prog 25 #[.slice A M c, .func (.func 26) #[] #[]] w fun e w' => e = .returned (.bool (Q.any bad)) ∧ Below w.heap.size w w' := by
  have I := Lib.hid (index_ok A c M Q hQ hM6 w h)
  clear h hQ
  go_enter Try.func25, Try.ntmps25
  go_wp2_with (go_at_call 39; refine I.out.mono ?_; rintro e w1 ⟨r, rfl, hr, hb1⟩; have HR := Lib.hid hr; clear hr)
  go_ret
  exact ⟨by rw [← HR.out]; rfl, hb1⟩
end Go.Proofs.Ytfahfbkkgcekgaa.H
