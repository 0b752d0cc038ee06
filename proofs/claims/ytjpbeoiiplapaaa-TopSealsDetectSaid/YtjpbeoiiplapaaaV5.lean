import Derived.Test.YtjpbeoiiplapaaaV4
namespace Go.Proofs.Ytjpbeoiiplapaaa.C
set_option linter.unusedVariables false
open Go Go.RowKit Go.Shelf Go.Proofs.Ytjpbeoiiplapaaa Go.Proofs.Ytjpbeoiiplapaaa.W Go.Proofs.Ytjpbeoiiplapaaa.M Go.Proofs.Ytjpbeoiiplapaaa.B

theorem u8_append (a b : List UInt8) : (a ++ b).map u8 = a.map u8 ++ b.map u8 := List.map_append ..

/-- The four bytes behind a sealed string, as the code makes them. -/
theorem four (s : R) : ∃ (s1 s2 s3 : R) (b0 b1 b2 b3 : UInt8), le s = [b0, b1, b2, b3] ∧ (s.toNat : Int) / 256 = (s1.toNat : Int) ∧ (s.toNat : Int) / 65536 = (s2.toNat : Int) ∧ (s.toNat : Int) / 16777216 = (s3.toNat : Int) ∧
    IntKind.u8.wrap (s.toNat : Int) = (b0.toNat : Int) ∧ IntKind.u8.wrap (s1.toNat : Int) = (b1.toNat : Int) ∧ IntKind.u8.wrap (s2.toNat : Int) = (b2.toNat : Int) ∧ IntKind.u8.wrap (s3.toNat : Int) = (b3.toNat : Int) :=
  ⟨s >>> 8, s >>> 16, s >>> 24, _, _, _, _, rfl, shr8 s, by rw [BitVec.toNat_ushiftRight, Nat.shiftRight_eq_div_pow]; omega, by rw [BitVec.toNat_ushiftRight, Nat.shiftRight_eq_div_pow]; omega, byte_of _, byte_of _, byte_of _, byte_of _⟩

theorem seal_any (A : Option Addr) (c : Nat) (l : List UInt8) (hn : l.length ≤ 140737488351232) (w : World) (B : Nat) (h : Sl u8 w B A l) :
    Calls Try.prog 4 #[.slice A l.length c] w fun e w' => ∃ A' c', e = .returned (.slice A' (l.length + 4) c') ∧
      w'.ownsRow w.heap.size 5 1 (.slice A' (l.length + 4) c') (l.length + 4) ((sealed l).map u8) ∧ Below w.heap.size w w' := by
  obtain ⟨s1, s2, s3, b0, b1, b2, b3, hle, e1, e2, e3, v0, v1, v2, v3⟩ := four (crc l)
  have HLE : Hid (sealed l = l ++ [b0, b1, b2, b3]) := Lib.hid (by rw [sealed, hle])
  have H1 := Lib.hid (sum_any A c l (by omega) w B h)
  obtain ⟨s, hs⟩ : ∃ s, s = crc l := ⟨_, rfl⟩
  rw [← hs] at H1 e1 e2 e3 v0
  clear hs hle
  obtain ⟨i0, hi, hz0, hz1, hz2⟩ := info_parts info5
  go_enter Try.func4, Try.ntmps4
  go_wp2_with (first
    | (go_at_call 8; refine H1.out.mono ?_; rintro e w1 ⟨rfl, hb1⟩)
    | (go_at_call 9; refine (clone_any A c l _ _ (h.lt.below hb1) (by omega)).mono ?_; rintro e w2 ⟨A2, c2, rfl, hown2, hb2⟩)
    | (at_builtin; refine wpList_append_sl _ u8_one' rfl _ _ 22 rfl w1.heap.size 5 i0 (.int .u8 0) 1 Try.underlying22 hi hz0 hz1 hz2 rfl _ l.length _ rfl (hown2.alloc _) _ _ _ [b0, b1, b2, b3] 4 rfl (Sl.of_new rfl rfl) rfl (by unfold maxLen; omega) (by omega) (by have := hb2.size; simp; omega) ?_; intro v' w3 hown3 hgrow))
  go_ret
  have hz1 : w.heap.size ≤ w1.heap.size := hb1.size
  have hbb : Below w.heap.size w w3 := ((hb1.trans (hb2.mono hz1)).alloc (Nat.le_trans hz1 hb2.size) _).grown hgrow (by have := hb2.size; simp; omega) (fun k hk => by have := (hown2.lt k hk).1; omega)
  rw [← u8_append, ← HLE.out] at hown3
  obtain ⟨A', c', rfl, _, _⟩ := own_form hown3
  exact ⟨A', c', rfl, own_base hown3 hz1, hbb⟩

theorem seal_ok (A : Option Addr) (c N : Nat) (l : List UInt8) (hN : l.length = N) (hn : N ≤ 140737488351232) (w : World) (B : Nat) (h : Sl u8 w B A l) :
    Calls Try.prog 4 #[.slice A N c] w fun e w' => ∃ A' c', e = .returned (.slice A' (N + 4) c') ∧
      w'.ownsRow w.heap.size 5 1 (.slice A' (N + 4) c') (N + 4) ((sealed l).map u8) ∧ Below w.heap.size w w' := by
  subst hN; exact seal_any A c l hn w B h
theorem equal_ok (A A' : Option Addr) (c c' N N' : Nat) (l l' : List UInt8) (w : World) (B B' : Nat) (h : Sl u8 w B A l) (h' : Sl u8 w B' A' l') (hN : l.length = N) (hN' : l'.length = N') (hn : N ≤ 140737488355328) (hn' : N' ≤ 140737488355328) (r : Bool) (hr : (l == l') = r) :
    Calls Try.prog 10 #[.slice A N c, .slice A' N' c'] w fun e w' => e = .returned (.bool r) ∧ Below w.heap.size w w' := by
  subst hN; subst hN'; subst hr; exact equal_any A A' c c' l l' w B B' h h' hn hn'
theorem clone_ok (A : Option Addr) (c N : Nat) (l : List UInt8) (w : World) (B : Nat) (h : Sl u8 w B A l) (hN : l.length = N) (hn : N ≤ 140737488355328) :
    Calls Try.prog 9 #[.slice A N c] w fun e w' => ∃ A' c', e = .returned (.slice A' N c') ∧
      w'.ownsRow w.heap.size 5 1 (.slice A' N c') N (l.map u8) ∧ Below w.heap.size w w' := by
  subst hN; exact clone_any A c l w B h hn
theorem sealed_length (l : List UInt8) : (sealed l).length = l.length + 4 := by simp [sealed, le]

/-- What Open answers: an error's number, and the bytes. -/
def opened (l : List UInt8) : List UInt8 × Int :=
  if l.length > 65536 then ([], 5) else if l.length < 4 then ([], 9) else if sealed (l.take (l.length - 4)) == l then (l.take (l.length - 4), 0) else ([], 10)

/-- How Open and the reference's Open answer. -/
def Says (w : World) (l : List UInt8) (e : Ending) (w' : World) : Prop := ∃ A' N c', e = .returned (.tuple #[.slice A' N c', .int .i64 (opened l).2]) ∧ (opened l).1.length = N ∧
      w'.ownsRow w.heap.size 5 1 (.slice A' N c') N ((opened l).1.map u8) ∧ Below w.heap.size w w'

set_option maxRecDepth 100000 in
theorem open_any (A : Option Addr) (c N : Nat) (l : List UInt8) (hN : l.length = N) (hc : N ≤ c) (hn : c ≤ 9223372036854775807) (w : World) (B : Nat) (h : Sl u8 w B A l) :
    Calls Try.prog 5 #[.slice A N c] w (Says w l) := by
  by_cases h1 : N > 65536
  · have ho : Hid (opened l = ([], 5)) := Lib.hid (if_pos (by omega))
    go_enter Try.func5, Try.ntmps5
    go_wp2
    go_ret2
    exact ⟨none, 0, 0, by rw [ho.out]; rfl, by rw [ho.out]; rfl, by rw [ho.out]; exact World.ownsRow_nil _ _ _ _, Below.refl _ _⟩
  · by_cases h2 : N < 4
    · have ho : Hid (opened l = ([], 9)) := Lib.hid (by unfold opened; rw [if_neg (by omega), if_pos (by omega)])
      go_enter Try.func5, Try.ntmps5
      go_wp2
      go_ret2
      exact ⟨none, 0, 0, by rw [ho.out]; rfl, by rw [ho.out]; rfl, by rw [ho.out]; exact World.ownsRow_nil _ _ _ _, Below.refl _ _⟩
    · obtain ⟨m, rfl⟩ : ∃ m, N = m + 4 := ⟨N - 4, by omega⟩
      have ht : (l.take m).length = m := by rw [List.length_take]; omega
      have hm : l.length - 4 = m := by omega
      obtain ⟨lt, hlt⟩ : ∃ lt, lt = l.take m := ⟨_, rfl⟩
      have hst : Sl u8 w w.heap.size A lt := by rw [hlt]; exact h.lt.take m
      rw [← hlt] at ht
      have HT := Lib.hid ht
      have HN := Lib.hid hN
      have e4 : ((m : Int) + 4 - 4) = m := by omega
      have e6 : ¬ ((m : Int) + 4 > 65536) := by omega
      have e7 : ¬ ((m : Int) < 0) := by omega
      obtain ⟨i0, hi, hz0, hz1, hz2⟩ := info_parts info5
      by_cases hr : (sealed lt == l) = true
      · have HO : Hid (opened l = (lt, 0)) := Lib.hid (by
          unfold opened; rw [if_neg (by omega), if_neg (by omega), hm, ← hlt, if_pos hr])
        have HR := Lib.hid hr
        clear hr hlt hN ht hm h1 h2
        go_enter Try.func5, Try.ntmps5
        go_wp2_with (first
          | (go_at_call 4; refine (seal_ok A _ m lt HT.out (by omega) _ _ hst).mono ?_; rintro e w1 ⟨A1, c1, rfl, hown1, hb1⟩)
          | (go_at_call 10; refine (equal_ok _ _ _ _ _ _ (sealed lt) l _ _ _ (Sl.of_own hown1) (h.lt.below hb1) (by rw [sealed_length, HT.out]) HN.out (by omega) (by omega) true HR.out).mono ?_; rintro e w2 ⟨rfl, hb2⟩)
          | (go_at_call 9; refine (clone_ok _ _ m lt _ _ (hst.below (hb1.trans (hb2.mono hb1.size))) HT.out (by omega)).mono ?_; rintro e w3 ⟨A3, c3, rfl, hown3, hb3⟩))
        go_ret2
        have hz12 : w.heap.size ≤ w2.heap.size := Nat.le_trans hb1.size hb2.size
        exact ⟨A3, m, c3, by rw [HO.out]; rfl, by rw [HO.out]; exact HT.out, by rw [HO.out]; exact own_base hown3 hz12, (hb1.trans (hb2.mono hb1.size)).trans (hb3.mono hz12)⟩
      · have hr' := Bool.eq_false_iff.2 hr
        have HO : Hid (opened l = ([], 10)) := Lib.hid (by
          unfold opened; rw [if_neg (by omega), if_neg (by omega), hm, ← hlt, if_neg hr])
        have HR := Lib.hid hr'
        clear hr hr' hlt hN ht hm h1 h2
        go_enter Try.func5, Try.ntmps5
        go_wp2_with (first
          | (go_at_call 4; refine (seal_ok A _ m lt HT.out (by omega) _ _ hst).mono ?_; rintro e w1 ⟨A1, c1, rfl, hown1, hb1⟩)
          | (go_at_call 10; refine (equal_ok _ _ _ _ _ _ (sealed lt) l _ _ _ (Sl.of_own hown1) (h.lt.below hb1) (by rw [sealed_length, HT.out]) HN.out (by omega) (by omega) false HR.out).mono ?_; rintro e w2 ⟨rfl, hb2⟩))
        go_ret2
        exact ⟨none, 0, 0, by rw [HO.out]; rfl, by rw [HO.out]; rfl, by rw [HO.out]; exact World.ownsRow_nil _ _ _ _, hb1.trans (hb2.mono hb1.size)⟩

end Go.Proofs.Ytjpbeoiiplapaaa.C
