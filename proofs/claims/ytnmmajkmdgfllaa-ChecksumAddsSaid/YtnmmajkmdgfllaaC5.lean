import Derived.Test.YtnmmajkmdgfllaaC4
namespace Go.Proofs.Ytnmmajkmdgfllaa.C
set_option linter.unusedVariables false
open Go Go.RowKit Go.Shelf Go.Proofs.Ytnmmajkmdgfllaa Go.Proofs.Ytnmmajkmdgfllaa.W Go.Proofs.Ytnmmajkmdgfllaa.M Go.Proofs.Ytnmmajkmdgfllaa.B

theorem refUpdate_any (s : R) (A : Option Addr) (c : Nat) (xs : List UInt8) (hn : xs.length ≤ 140737488351232) (w : World) (B : Nat) (h : Sl u8 w B A xs) :
    Calls Try.prog 30 #[.int .u32 (s.toNat : Int), .slice A xs.length c] w fun e w' => e = .returned (.int .u32 ((upd s xs).toNat : Int)) ∧ w = w' := by
  obtain ⟨q, hq⟩ : ∃ q, q = ~~~ s := ⟨_, rfl⟩
  have hq1 : bits .xor .u32 IntKind.u32.max (s.toNat : Int) = (q.toNat : Int) := by rw [hq]; exact not_u32 s
  have hq2 : bits .xor .u32 (if IntKind.u32.signed = true then -1 else IntKind.u32.max) (s.toNat : Int) = (q.toNat : Int) := hq1
  have HQ := Lib.hid hq
  clear hq
  go_enter Try.func30, Try.ntmps30
  go_wp2
  go_loop [5, 6] (fun r i => ∃ (k : Nat) (y : R), k ≤ xs.length ∧ i = .int .i64 k ∧ r = .int .u32 (y.toNat : Int) ∧ Hid (y = F q (xs.take k))) (fun _ i => xs.length - (intOf i).toNat)
  case atStart => exact ⟨0, q, Nat.zero_le _, rfl, rfl, Lib.hid rfl⟩
  case round =>
    obtain ⟨k, y, hk, rfl, rfl, hs⟩ := hrel
    by_cases hlt : k < xs.length
    · obtain ⟨b, o, x, rfl, _, hx, hcx⟩ := h.byte hlt
      have HX := Lib.hid hx
      clear hx
      go_wp2_with (go_at_call 22; refine (register_any _ _ _).mono ?_; rintro e w1 ⟨rfl, rfl⟩)
      go_round
      case rel => exact ⟨k + 1, reg y x, by omega, by go_num, rfl, Lib.hid (by rw [take_succ HX.out, F_snoc, hs.out])⟩
      case measure => simp [intOf]; omega
    · obtain rfl : k = xs.length := by omega
      obtain ⟨o, ho⟩ : ∃ o, o = upd s xs := ⟨_, rfl⟩
      have ho1 : bits .xor .u32 IntKind.u32.max (y.toNat : Int) = (o.toNat : Int) := by rw [ho, hs.out, List.take_length, HQ.out]; exact not_u32 _
      have ho2 : bits .xor .u32 (if IntKind.u32.signed = true then -1 else IntKind.u32.max) (y.toNat : Int) = (o.toNat : Int) := ho1
      have HO := Lib.hid ho
      clear ho
      go_wp2
      go_ret
      exact ⟨by rw [← HO.out]; rfl, rfl⟩

theorem refSum_any (A : Option Addr) (c : Nat) (xs : List UInt8) (hn : xs.length ≤ 140737488351232) (w : World) (B : Nat) (h : Sl u8 w B A xs) :
    Calls Try.prog 26 #[.slice A xs.length c] w fun e w' => e = .returned (.int .u32 ((crc xs).toNat : Int)) ∧ w = w' := by
  have H1 : Hid (Calls Try.prog 30 #[.int .u32 0, .slice A xs.length c] w fun e w' => e = .returned (.int .u32 ((crc xs).toNat : Int)) ∧ w = w') := Lib.hid (refUpdate_any 0#32 A c xs hn w B h)
  obtain ⟨v, hv⟩ : ∃ v : Int, v = ((crc xs).toNat : Int) := ⟨_, rfl⟩
  rw [← hv] at H1 ⊢
  clear hv
  go_enter Try.func26, Try.ntmps26
  go_wp2_with (go_at_call 30; refine H1.out.mono ?_; rintro e w2 ⟨rfl, rfl⟩)
  go_ret
  exact ⟨rfl, rfl⟩

theorem refCombine_any (a b : R) (n : Int) (w : World) :
    Calls Try.prog 11 #[.int .u32 (a.toNat : Int), .int .u32 (b.toNat : Int), .int .i64 n] w fun e w' => e = .returned (.int .u32 ((combZ a b n).toNat : Int)) ∧ w = w' := by
  by_cases h0 : n < 0
  · have hc : combZ a b n = 0#32 := if_pos (.inl h0)
    rw [hc]
    go_enter Try.func11, Try.ntmps11
    go_wp2
    go_ret
    exact ⟨rfl, rfl⟩
  · by_cases h1 : n > 65536
    · have hc : combZ a b n = 0#32 := if_pos (.inr h1)
      rw [hc]
      go_enter Try.func11, Try.ntmps11
      go_wp2
      go_ret
      exact ⟨rfl, rfl⟩
    · have hc : combZ a b n = comb a b n.toNat := if_neg (by omega)
      obtain ⟨N, rfl⟩ : ∃ N : Nat, n = (N : Int) := ⟨n.toNat, by omega⟩
      have hN : N ≤ 65536 := by omega
      have HC := Lib.hid hc
      clear hc
      go_enter Try.func11, Try.ntmps11
      go_wp2
      go_loop [0, 7] (fun r i => ∃ (k : Nat) (y : R), k ≤ N ∧ i = .int .i64 k ∧ r = .int .u32 (y.toNat : Int) ∧ Hid (y = F a (List.replicate k 0))) (fun _ i => N - (intOf i).toNat)
      case atStart => exact ⟨0, a, Nat.zero_le _, rfl, rfl, Lib.hid rfl⟩
      case round =>
        obtain ⟨k, y, hk, rfl, rfl, hs⟩ := hrel
        by_cases hlt : k < N
        · have H1 : Hid (∀ w, Calls Try.prog 22 #[.int .u32 (y.toNat : Int), .int .u8 0] w fun e w' => e = .returned (.int .u32 ((reg y 0).toNat : Int)) ∧ w = w') := Lib.hid (fun w => register_any y 0 w)
          go_wp2_with (go_at_call 22; refine (H1.out _).mono ?_; rintro e w1 ⟨rfl, rfl⟩)
          go_round
          case rel => exact ⟨k + 1, reg y 0, by omega, by go_num, rfl, Lib.hid (by rw [List.replicate_succ', F_snoc, hs.out])⟩
          case measure => simp [intOf]; omega
        · obtain rfl : k = N := by omega
          have hx := bits_xor y b
          obtain ⟨o, ho⟩ : ∃ o, o = y ^^^ b := ⟨_, rfl⟩
          rw [← ho] at hx
          have HO : Hid (o = combZ a b (k : Int)) := Lib.hid (by rw [ho, hs.out, HC.out]; rfl)
          clear ho
          go_wp2
          go_ret
          exact ⟨by rw [← HO.out]; rfl, rfl⟩

theorem u8_append (a b : List UInt8) : (a ++ b).map u8 = a.map u8 ++ b.map u8 := List.map_append ..

/-- The four bytes behind a sealed string, as the code makes them. -/
theorem four (s : R) : ∃ (s1 s2 s3 : R) (b0 b1 b2 b3 : UInt8), le s = [b0, b1, b2, b3] ∧ (s.toNat : Int) / 256 = (s1.toNat : Int) ∧ (s.toNat : Int) / 65536 = (s2.toNat : Int) ∧ (s.toNat : Int) / 16777216 = (s3.toNat : Int) ∧
    IntKind.u8.wrap (s.toNat : Int) = (b0.toNat : Int) ∧ IntKind.u8.wrap (s1.toNat : Int) = (b1.toNat : Int) ∧ IntKind.u8.wrap (s2.toNat : Int) = (b2.toNat : Int) ∧ IntKind.u8.wrap (s3.toNat : Int) = (b3.toNat : Int) :=
  ⟨s >>> 8, s >>> 16, s >>> 24, _, _, _, _, rfl, shr8 s, by rw [BitVec.toNat_ushiftRight, Nat.shiftRight_eq_div_pow]; omega, by rw [BitVec.toNat_ushiftRight, Nat.shiftRight_eq_div_pow]; omega, byte_of _, byte_of _, byte_of _, byte_of _⟩

theorem seal_any (A : Option Addr) (c : Nat) (l : List UInt8) (hn : l.length ≤ 140737488351232) (w : World) (B : Nat) (h : Sl u8 w B A l) :
    Calls Try.prog 18 #[.slice A l.length c] w fun e w' => ∃ A' c', e = .returned (.slice A' (l.length + 4) c') ∧
      w'.ownsRow w.heap.size 5 1 (.slice A' (l.length + 4) c') (l.length + 4) ((sealed l).map u8) ∧ Below w.heap.size w w' := by
  obtain ⟨s1, s2, s3, b0, b1, b2, b3, hle, e1, e2, e3, v0, v1, v2, v3⟩ := four (crc l)
  have HLE : Hid (sealed l = l ++ [b0, b1, b2, b3]) := Lib.hid (by rw [sealed, hle])
  have H1 := Lib.hid (sum_any A c l (by omega) w B h)
  obtain ⟨s, hs⟩ : ∃ s, s = crc l := ⟨_, rfl⟩
  rw [← hs] at H1 e1 e2 e3 v0
  clear hs hle
  obtain ⟨i0, hi, hz0, hz1, hz2⟩ := info_parts info5
  go_enter Try.func18, Try.ntmps18
  go_wp2_with (first
    | (go_at_call 12; refine H1.out.mono ?_; rintro e w1 ⟨rfl, hb1⟩)
    | (go_at_call 25; refine (clone_any A c l _ _ (h.lt.below hb1) (by omega)).mono ?_; rintro e w2 ⟨A2, c2, rfl, hown2, hb2⟩)
    | (at_builtin; refine wpList_append_sl _ u8_one' rfl _ _ 26 rfl w1.heap.size 5 i0 (.int .u8 0) 1 Try.underlying26 hi hz0 hz1 hz2 rfl _ l.length _ rfl (hown2.alloc _) _ _ _ [b0, b1, b2, b3] 4 rfl (Sl.of_new rfl rfl) rfl (by unfold maxLen; omega) (by omega) (by have := hb2.size; simp; omega) ?_; intro v' w3 hown3 hgrow))
  go_ret
  have hz1 : w.heap.size ≤ w1.heap.size := hb1.size
  have hbb : Below w.heap.size w w3 := ((hb1.trans (hb2.mono hz1)).alloc (Nat.le_trans hz1 hb2.size) _).grown hgrow (by have := hb2.size; simp; omega) (fun k hk => by have := (hown2.lt k hk).1; omega)
  rw [← u8_append, ← HLE.out] at hown3
  obtain ⟨A', c', rfl, _, _⟩ := own_form hown3
  exact ⟨A', c', rfl, own_base hown3 hz1, hbb⟩

theorem refSeal_any (A : Option Addr) (c : Nat) (l : List UInt8) (hn : l.length ≤ 140737488351232) (w : World) (B : Nat) (h : Sl u8 w B A l) :
    Calls Try.prog 19 #[.slice A l.length c] w fun e w' => ∃ A' c', e = .returned (.slice A' (l.length + 4) c') ∧
      w'.ownsRow w.heap.size 5 1 (.slice A' (l.length + 4) c') (l.length + 4) ((sealed l).map u8) ∧ Below w.heap.size w w' := by
  obtain ⟨s1, s2, s3, b0, b1, b2, b3, hle, e1, e2, e3, v0, v1, v2, v3⟩ := four (crc l)
  have HLE : Hid (sealed l = l ++ [b0, b1, b2, b3]) := Lib.hid (by rw [sealed, hle])
  have H1 : Hid (∀ W, Below w.heap.size w W → Calls Try.prog 26 #[.slice A l.length c] W fun e w' => e = .returned (.int .u32 ((crc l).toNat : Int)) ∧ W = w') := Lib.hid fun W hW => refSum_any A c l (by omega) W _ (h.lt.below hW)
  obtain ⟨s, hs⟩ : ∃ s, s = crc l := ⟨_, rfl⟩
  rw [← hs] at H1 e1 e2 e3 v0
  clear hs hle
  obtain ⟨i0, hi, hz0, hz1, hz2⟩ := info_parts info5
  go_enter Try.func19, Try.ntmps19
  go_wp2_with (at_builtin; refine wpList_append_sl _ u8_one' rfl _ _ 26 rfl w.heap.size 5 i0 (.int .u8 0) 1 Try.underlying26 hi hz0 hz1 hz2 rfl _ 0 [] rfl (World.ownsRow_nil _ _ _ _) B A c l l.length rfl h rfl (by unfold maxLen; omega) (by omega) (by simp) ?_; intro v1' w1 hown1 hgrow1; rw [Nat.zero_add, List.nil_append] at hown1; obtain ⟨A1, c1, rfl, _, _⟩ := own_form hown1; have hb1 : Below w.heap.size w w1 := (Below.refl _ w).grown hgrow1 (Nat.le_refl _) (fun k hk => by cases hk))
  go_wp2_with (first
    | (go_at_call 26; refine (H1.out _ hb1).mono ?_; rintro e w2 ⟨rfl, rfl⟩)
    | (at_builtin; refine wpList_append_sl _ u8_one' rfl _ _ 26 rfl w.heap.size 5 i0 (.int .u8 0) 1 Try.underlying26 hi hz0 hz1 hz2 rfl _ l.length _ rfl (hown1.alloc _) _ _ _ [b0, b1, b2, b3] 4 rfl (Sl.of_new rfl rfl) rfl (by unfold maxLen; omega) (by omega) (by have := hb1.size; simp; omega) ?_; intro v' w3 hown3 hgrow))
  go_ret
  have hbb : Below w.heap.size w w3 := (hb1.alloc hb1.size _).grown hgrow (by have := hb1.size; simp; omega) (fun k hk => (hown1.lt k hk).1)
  rw [← u8_append, ← HLE.out] at hown3
  obtain ⟨A', c', rfl, _, _⟩ := own_form hown3
  exact ⟨A', c', rfl, hown3, hbb⟩

theorem seal_ok (A : Option Addr) (c N : Nat) (l : List UInt8) (hN : l.length = N) (hn : N ≤ 140737488351232) (w : World) (B : Nat) (h : Sl u8 w B A l) :
    Calls Try.prog 18 #[.slice A N c] w fun e w' => ∃ A' c', e = .returned (.slice A' (N + 4) c') ∧
      w'.ownsRow w.heap.size 5 1 (.slice A' (N + 4) c') (N + 4) ((sealed l).map u8) ∧ Below w.heap.size w w' := by
  subst hN; exact seal_any A c l hn w B h
theorem refSeal_ok (A : Option Addr) (c N : Nat) (l : List UInt8) (hN : l.length = N) (hn : N ≤ 140737488351232) (w : World) (B : Nat) (h : Sl u8 w B A l) :
    Calls Try.prog 19 #[.slice A N c] w fun e w' => ∃ A' c', e = .returned (.slice A' (N + 4) c') ∧
      w'.ownsRow w.heap.size 5 1 (.slice A' (N + 4) c') (N + 4) ((sealed l).map u8) ∧ Below w.heap.size w w' := by
  subst hN; exact refSeal_any A c l hn w B h
theorem same_ok (A A' : Option Addr) (c c' N N' : Nat) (l l' : List UInt8) (w : World) (B B' : Nat) (h : Sl u8 w B A l) (h' : Sl u8 w B' A' l') (hN : l.length = N) (hN' : l'.length = N') (hn : N ≤ 140737488355328) (hn' : N' ≤ 140737488355328) (r : Bool) (hr : (l == l') = r) :
    Calls Try.prog 17 #[.slice A N c, .slice A' N' c'] w fun e w' => e = .returned (.bool r) ∧ Below w.heap.size w w' := by
  subst hN; subst hN'; subst hr; exact same_any A A' c c' l l' w B B' h h' hn hn'
theorem equal_ok (A A' : Option Addr) (c c' N N' : Nat) (l l' : List UInt8) (w : World) (B B' : Nat) (h : Sl u8 w B A l) (h' : Sl u8 w B' A' l') (hN : l.length = N) (hN' : l'.length = N') (hn : N ≤ 140737488355328) (hn' : N' ≤ 140737488355328) (r : Bool) (hr : (l == l') = r) :
    Calls Try.prog 24 #[.slice A N c, .slice A' N' c'] w fun e w' => e = .returned (.bool r) ∧ Below w.heap.size w w' := by
  subst hN; subst hN'; subst hr; exact equal_any A A' c c' l l' w B B' h h' hn hn'
theorem clone_ok (A : Option Addr) (c N : Nat) (l : List UInt8) (w : World) (B : Nat) (h : Sl u8 w B A l) (hN : l.length = N) (hn : N ≤ 140737488355328) :
    Calls Try.prog 25 #[.slice A N c] w fun e w' => ∃ A' c', e = .returned (.slice A' N c') ∧
      w'.ownsRow w.heap.size 5 1 (.slice A' N c') N (l.map u8) ∧ Below w.heap.size w w' := by
  subst hN; exact clone_any A c l w B h hn
theorem sealed_length (l : List UInt8) : (sealed l).length = l.length + 4 := by simp [sealed, le]

/-- What Open answers: an error's number, and the bytes. -/
def opened (l : List UInt8) : List UInt8 × Int :=
  if l.length > 65536 then ([], 5) else if l.length < 4 then ([], 9) else if sealed (l.take (l.length - 4)) == l then (l.take (l.length - 4), 0) else ([], 10)

/-- How Open and the reference's Open answer. -/
def Says (w : World) (l : List UInt8) (e : Ending) (w' : World) : Prop := ∃ A' N c', e = .returned (.tuple #[.slice A' N c', .int .i64 (opened l).2]) ∧ (opened l).1.length = N ∧
      w'.ownsRow w.heap.size 5 1 (.slice A' N c') N ((opened l).1.map u8) ∧ Below w.heap.size w w'

set_option maxRecDepth 100000 in
theorem open_any (A : Option Addr) (c N : Nat) (l : List UInt8) (hN : l.length = N) (hc : N ≤ c) (hn : c ≤ 9223372036854775807) (w : World) (B : Nat) (h : Sl u8 w B A l) :
    Calls Try.prog 15 #[.slice A N c] w (Says w l) := by
  by_cases h1 : N > 65536
  · have ho : Hid (opened l = ([], 5)) := Lib.hid (if_pos (by omega))
    go_enter Try.func15, Try.ntmps15
    go_wp2
    go_ret2
    exact ⟨none, 0, 0, by rw [ho.out]; rfl, by rw [ho.out]; rfl, by rw [ho.out]; exact World.ownsRow_nil _ _ _ _, Below.refl _ _⟩
  · by_cases h2 : N < 4
    · have ho : Hid (opened l = ([], 9)) := Lib.hid (by unfold opened; rw [if_neg (by omega), if_pos (by omega)])
      go_enter Try.func15, Try.ntmps15
      go_wp2
      go_ret2
      exact ⟨none, 0, 0, by rw [ho.out]; rfl, by rw [ho.out]; rfl, by rw [ho.out]; exact World.ownsRow_nil _ _ _ _, Below.refl _ _⟩
    · obtain ⟨m, rfl⟩ : ∃ m, N = m + 4 := ⟨N - 4, by omega⟩
      have ht : (l.take m).length = m := by rw [List.length_take]; omega
      have hm : l.length - 4 = m := by omega
      obtain ⟨lt, hlt⟩ : ∃ lt, lt = l.take m := ⟨_, rfl⟩
      have hst : Sl u8 w w.heap.size A lt := by rw [hlt]; exact h.lt.take m
      rw [← hlt] at ht
      have HT := Lib.hid ht
      have HN := Lib.hid hN
      have e4 : ((m : Int) + 4 - 4) = m := by omega
      have e6 : ¬ ((m : Int) + 4 > 65536) := by omega
      have e7 : ¬ ((m : Int) < 0) := by omega
      obtain ⟨i0, hi, hz0, hz1, hz2⟩ := info_parts info5
      by_cases hr : (sealed lt == l) = true
      · have HO : Hid (opened l = (lt, 0)) := Lib.hid (by
          unfold opened; rw [if_neg (by omega), if_neg (by omega), hm, ← hlt, if_pos hr])
        have HR := Lib.hid hr
        clear hr hlt hN ht hm h1 h2
        go_enter Try.func15, Try.ntmps15
        go_wp2_with (first
          | (go_at_call 18; refine (seal_ok A _ m lt HT.out (by omega) _ _ hst).mono ?_; rintro e w1 ⟨A1, c1, rfl, hown1, hb1⟩)
          | (go_at_call 24; refine (equal_ok _ _ _ _ _ _ (sealed lt) l _ _ _ (Sl.of_own hown1) (h.lt.below hb1) (by rw [sealed_length, HT.out]) HN.out (by omega) (by omega) true HR.out).mono ?_; rintro e w2 ⟨rfl, hb2⟩)
          | (go_at_call 25; refine (clone_ok _ _ m lt _ _ (hst.below (hb1.trans (hb2.mono hb1.size))) HT.out (by omega)).mono ?_; rintro e w3 ⟨A3, c3, rfl, hown3, hb3⟩))
        go_ret2
        have hz12 : w.heap.size ≤ w2.heap.size := Nat.le_trans hb1.size hb2.size
        exact ⟨A3, m, c3, by rw [HO.out]; rfl, by rw [HO.out]; exact HT.out, by rw [HO.out]; exact own_base hown3 hz12, (hb1.trans (hb2.mono hb1.size)).trans (hb3.mono hz12)⟩
      · have hr' := Bool.eq_false_iff.2 hr
        have HO : Hid (opened l = ([], 10)) := Lib.hid (by
          unfold opened; rw [if_neg (by omega), if_neg (by omega), hm, ← hlt, if_neg hr])
        have HR := Lib.hid hr'
        clear hr hr' hlt hN ht hm h1 h2
        go_enter Try.func15, Try.ntmps15
        go_wp2_with (first
          | (go_at_call 18; refine (seal_ok A _ m lt HT.out (by omega) _ _ hst).mono ?_; rintro e w1 ⟨A1, c1, rfl, hown1, hb1⟩)
          | (go_at_call 24; refine (equal_ok _ _ _ _ _ _ (sealed lt) l _ _ _ (Sl.of_own hown1) (h.lt.below hb1) (by rw [sealed_length, HT.out]) HN.out (by omega) (by omega) false HR.out).mono ?_; rintro e w2 ⟨rfl, hb2⟩))
        go_ret2
        exact ⟨none, 0, 0, by rw [HO.out]; rfl, by rw [HO.out]; rfl, by rw [HO.out]; exact World.ownsRow_nil _ _ _ _, hb1.trans (hb2.mono hb1.size)⟩

set_option maxRecDepth 100000 in
theorem refOpen_any (A : Option Addr) (c N : Nat) (l : List UInt8) (hN : l.length = N) (hc : N ≤ c) (hn : c ≤ 9223372036854775807) (w : World) (B : Nat) (h : Sl u8 w B A l) :
    Calls Try.prog 16 #[.slice A N c] w (Says w l) := by
  by_cases h1 : N > 65536
  · have ho : Hid (opened l = ([], 5)) := Lib.hid (if_pos (by omega))
    go_enter Try.func16, Try.ntmps16
    go_wp2
    go_ret2
    exact ⟨none, 0, 0, by rw [ho.out]; rfl, by rw [ho.out]; rfl, by rw [ho.out]; exact World.ownsRow_nil _ _ _ _, Below.refl _ _⟩
  · by_cases h2 : N < 4
    · have ho : Hid (opened l = ([], 9)) := Lib.hid (by unfold opened; rw [if_neg (by omega), if_pos (by omega)])
      go_enter Try.func16, Try.ntmps16
      go_wp2
      go_ret2
      exact ⟨none, 0, 0, by rw [ho.out]; rfl, by rw [ho.out]; rfl, by rw [ho.out]; exact World.ownsRow_nil _ _ _ _, Below.refl _ _⟩
    · obtain ⟨m, rfl⟩ : ∃ m, N = m + 4 := ⟨N - 4, by omega⟩
      have ht : (l.take m).length = m := by rw [List.length_take]; omega
      have hm : l.length - 4 = m := by omega
      obtain ⟨lt, hlt⟩ : ∃ lt, lt = l.take m := ⟨_, rfl⟩
      have hst : Sl u8 w w.heap.size A lt := by rw [hlt]; exact h.lt.take m
      rw [← hlt] at ht
      have HT := Lib.hid ht
      have HN := Lib.hid hN
      have e4 : ((m : Int) + 4 - 4) = m := by omega
      have e6 : ¬ ((m : Int) + 4 > 65536) := by omega
      have e7 : ¬ ((m : Int) < 0) := by omega
      obtain ⟨i0, hi, hz0, hz1, hz2⟩ := info_parts info5
      by_cases hr : (sealed lt == l) = true
      · have HO : Hid (opened l = (lt, 0)) := Lib.hid (by
          unfold opened; rw [if_neg (by omega), if_neg (by omega), hm, ← hlt, if_pos hr])
        have HR := Lib.hid hr
        clear hr hlt hN ht hm h1 h2
        go_enter Try.func16, Try.ntmps16
        go_wp2_with (first
          | (go_at_call 19; refine (refSeal_ok A _ m lt HT.out (by omega) _ _ hst).mono ?_; rintro e w1 ⟨A1, c1, rfl, hown1, hb1⟩)
          | (go_at_call 17; refine (same_ok _ _ _ _ _ _ (sealed lt) l _ _ _ (Sl.of_own hown1) (h.lt.below hb1) (by rw [sealed_length, HT.out]) HN.out (by omega) (by omega) true HR.out).mono ?_; rintro e w2 ⟨rfl, hb2⟩)
          | (at_builtin; refine wpList_append_sl _ u8_one' rfl _ _ 26 rfl w.heap.size 5 i0 (.int .u8 0) 1 Try.underlying26 hi hz0 hz1 hz2 rfl _ 0 [] rfl (World.ownsRow_nil _ _ _ _) _ A _ lt m rfl (hst.below (hb1.trans (hb2.mono hb1.size))) HT.out (by unfold maxLen; omega) (by omega) (Nat.le_trans hb1.size hb2.size) ?_; intro v1' w3 hown3 hgrow3; rw [Nat.zero_add, List.nil_append] at hown3; obtain ⟨A3, c3, rfl, _, _⟩ := own_form hown3))
        go_ret2
        have hz12 : w.heap.size ≤ w2.heap.size := Nat.le_trans hb1.size hb2.size
        exact ⟨A3, m, c3, by rw [HO.out]; rfl, by rw [HO.out]; exact HT.out, by rw [HO.out]; exact hown3, (hb1.trans (hb2.mono hb1.size)).grown hgrow3 hz12 (fun k hk => by cases hk)⟩
      · have hr' := Bool.eq_false_iff.2 hr
        have HO : Hid (opened l = ([], 10)) := Lib.hid (by
          unfold opened; rw [if_neg (by omega), if_neg (by omega), hm, ← hlt, if_neg hr])
        have HR := Lib.hid hr'
        clear hr hr' hlt hN ht hm h1 h2
        go_enter Try.func16, Try.ntmps16
        go_wp2_with (first
          | (go_at_call 19; refine (refSeal_ok A _ m lt HT.out (by omega) _ _ hst).mono ?_; rintro e w1 ⟨A1, c1, rfl, hown1, hb1⟩)
          | (go_at_call 17; refine (same_ok _ _ _ _ _ _ (sealed lt) l _ _ _ (Sl.of_own hown1) (h.lt.below hb1) (by rw [sealed_length, HT.out]) HN.out (by omega) (by omega) false HR.out).mono ?_; rintro e w2 ⟨rfl, hb2⟩))
        go_ret2
        exact ⟨none, 0, 0, by rw [HO.out]; rfl, by rw [HO.out]; rfl, by rw [HO.out]; exact World.ownsRow_nil _ _ _ _, hb1.trans (hb2.mono hb1.size)⟩

end Go.Proofs.Ytnmmajkmdgfllaa.C
