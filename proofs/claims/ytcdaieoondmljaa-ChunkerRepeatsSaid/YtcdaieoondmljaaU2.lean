/- chunker.Shared. -/
import Derived.Test.YtcdaieoondmljaaU1
namespace Go.Proofs.Ytcdaieoondmljaa.H
set_option linter.unusedVariables false
open Go Go.RowKit Go.Proofs.Ytcdaieoondmljaa Go.Proofs.Ytcdaieoondmljaa.W Go.Proofs.Ytcdaieoondmljaa.M

set_option maxRecDepth 100000 in
set_option maxHeartbeats 4000000 in
theorem Shared_ok (le us mo wi : Int) (hchk : chkC le us mo wi = 0) (A : Option Addr) (c N : Nat) (a : Bs) (ha : a.length = N) (hc : N ≤ c) (hN : N ≤ 65536) (A' : Option Addr) (c' M : Nat) (b : Bs) (hb : b.length = M) (hc' : M ≤ c') (hM : M ≤ 65536)
    (l m : List Ex) (n k : Nat) (hl : l.length = n) (hm : m.length = k) (hn6 : n ≤ 65537) (hk6 : k ≤ 65537) (hIl : In N l) (hIm : In M m) (S : Nat) (hS : shr a b l m = S)
    (w : World) (B B' : Nat) (h : Sl u8 w B A a) (h' : Sl u8 w B' A' b)
    (E1 : ∀ W, Sl u8 W W.heap.size A a → Splits le us mo wi 12 A N c l n 0 W) (E2 : ∀ W, Sl u8 W W.heap.size A' b → Splits le us mo wi 12 A' M c' m k 0 W) :
    Calls Try.prog 21 #[.agg #[.int .i64 le, .int .i64 us, .int .i64 mo, .int .i64 wi], .slice A N c, .slice A' M c'] w fun e w' => e = .returned (.tuple #[.int .i64 (S : Int), .int .i64 0]) ∧ Below w.heap.size w w' := by
  have hA := h.lt
  have hA' := h'.lt
  have hB0 : Below w.heap.size w (w.alloc (.cells #[.int .i64 le, .int .i64 us, .int .i64 mo, .int .i64 wi] 23)) := (Below.refl _ _).alloc (Nat.le_refl _) _
  have hk0 : Blk (w.alloc (.cells #[.int .i64 le, .int .i64 us, .int .i64 mo, .int .i64 wi] 23)) w.heap.size 23 #[.int .i64 le, .int .i64 us, .int .i64 mo, .int .i64 wi] := Blk.new _ _ _
  have C1 : Hid (∀ (W : World) (g : Nat), g = W.heap.size → Calls Try.prog 29 #[.agg #[.int .i64 le, .int .i64 us, .int .i64 mo, .int .i64 wi], .slice (some ⟨g, 0, none⟩) 2 2] (W.alloc (.cells #[.slice A N c, .slice A' M c'] 24)) fun e w' => e = .returned (.int .i64 0) ∧ Below (W.alloc (.cells #[.slice A N c, .slice A' M c'] 24)).heap.size (W.alloc (.cells #[.slice A N c, .slice A' M c'] 24)) w') := Lib.hid fun W g hg' => by
    have := check_ok le us mo wi g 2 [(A, c, a), (A', c', b)] rfl (by decide) (by intro p hp; simp at hp; rcases hp with rfl | rfl <;> (first | (show a.length ≤ _; omega) | (show b.length ≤ _; omega))) (W.alloc (.cells #[.slice A N c, .slice A' M c'] 24)) _ (by subst hg'; rw [← ha, ← hb]; exact Sl.of_new rfl rfl)
    rw [hchk] at this; exact this
  have D1 : Hid (∀ W, Below w.heap.size w W → Splits le us mo wi 12 A N c l n 0 W) := Lib.hid fun W hW => E1 W (hA.later hW)
  have D2 : Hid (∀ W, Below w.heap.size w W → Splits le us mo wi 12 A' M c' m k 0 W) := Lib.hid fun W hW => E2 W (hA'.later hW)
  have T1 : Hid (∀ W (x1 x2 : Nat), Below w.heap.size w W → 1 ≤ x2 ∧ x1 + x2 ≤ N → Calls Try.prog 33 #[.slice A N c, .agg #[.int .i64 (x1 : Int), .int .i64 (x2 : Int)]] W fun e w' => e = .returned (str (pc a (x1, x2))) ∧ Below W.heap.size W w') := Lib.hid fun W x1 x2 hW hx => text_ok A c N a ha hc hN x1 x2 hx.1 hx.2 W _ (hA.later hW)
  have T2 : Hid (∀ W (x1 x2 : Nat), Below w.heap.size w W → 1 ≤ x2 ∧ x1 + x2 ≤ M → Calls Try.prog 33 #[.slice A' M c', .agg #[.int .i64 (x1 : Int), .int .i64 (x2 : Int)]] W fun e w' => e = .returned (str (pc b (x1, x2))) ∧ Below W.heap.size W w') := Lib.hid fun W x1 x2 hW hx => text_ok A' c' M b hb hc' hM x1 x2 hx.1 hx.2 W _ (hA'.later hW)
  have HIl := Lib.hid hIl
  have HIm := Lib.hid hIm
  have HL := Lib.hid hl
  have HM := Lib.hid hm
  have HS := Lib.hid hS
  have HP : Hid (∀ (x : Ex), x.1 + x.2 ≤ N → (pc a x).length ≤ maxLen) := Lib.hid fun x hx => by rw [pc_length (by omega)]; unfold maxLen; omega
  have HP' : Hid (∀ (x : Ex), x.1 + x.2 ≤ M → (pc b x).length ≤ maxLen) := Lib.hid fun x hx => by rw [pc_length (by omega)]; unfold maxLen; omega
  have hmm := @run_makeMap Try.prog
  clear E1 E2 hIl hIm hl hm hS ha hb hA hA' h h' hchk
  go_enter Try.func21, Try.ntmps21
  go_wp2_with (first
    | (go_at_call 29; refine (C1.out _ _ (by simp)).mono ?_; rintro e w1 ⟨rfl, hb1⟩; have hB1 := bal hB0 hB0.size hb1; have hb1' := ((Below.refl _ _).alloc (Nat.le_refl _) (.cells #[.slice A N c, .slice A' M c'] 24)).trans (hb1.mono (by simp)); have hk1 := hk0.later hb1'; have d0 := hk1.cell 0; have d1 := hk1.cell 1; have d2 := hk1.cell 2; have d3 := hk1.cell 3)
    | (go_at_call 12; refine (D1.out _ hB1).mono ?_; clear D1; rintro e w2 ⟨A2, c2, rfl, t2, hc2, hb2⟩; have hB2 := bsa hB1 hB1.size hb2; have hk2 := hk1.later hb2; have f0 := hk2.cell 0; have f1 := hk2.cell 1; have f2 := hk2.cell 2; have f3 := hk2.cell 3)
    | (go_at_call 12; refine (D2.out _ hB2).mono ?_; clear D2; rintro e w3 ⟨A3, c3, rfl, t3, hc3, hb3⟩; have hB3 := bsa hB2 hB2.size hb3; have t23 := t2.later hb3))
  obtain ⟨g, hg⟩ : ∃ g, w3.heap.size = g := ⟨_, rfl⟩
  have o0 : (w3.alloc (.map #[] 0)).ownsMap Try.prog 9 (plainElem (H := Unit) Try.prog 4) g 0 (Mk []) := by rw [← hg]; exact World.ownsMap_made _ _ _ _
  have hB4 := hB3.alloc hB3.size (.map #[] 0)
  have hwg : w.heap.size ≤ g := by rw [← hg]; exact hB3.size
  have s2 : SlE (w3.alloc (.map #[] 0)) g A2 l := by rw [← hg]; exact SlE.alloc t23 (Nat.le_refl _) _
  have s3 : SlE (w3.alloc (.map #[] 0)) g A3 m := by rw [← hg]; exact SlE.alloc t3 (Nat.le_refl _) _
  clear hB0 hk0 C1 hb1 hb1' hB1 hk1 d0 d1 d2 d3 t2 hb2 hB2 hk2 f0 f1 f2 f3 t3 hb3 hB3 t23 hmm
  rw [hg]
  go_loopw [48] (fun iv wm => ∃ j : Nat, j ≤ n ∧ iv = .int .i64 (j : Int) ∧ wm.ownsMap Try.prog 9 (plainElem (H := Unit) Try.prog 4) g j (Mk ((l.take j).map (pc a))) ∧ SlE wm g A2 l ∧ SlE wm g A3 m ∧ Below w.heap.size w wm) (fun iv _ => n - (intOf iv).toNat)
  case atStart => exact ⟨0, Nat.zero_le _, rfl, o0, s2, s3, hB4⟩
  case round =>
    obtain ⟨j, hj, rfl, o, s2, s3, hB⟩ := hrel
    by_cases hlt : j < n
    · obtain ⟨b0, q0, x, rfl, _, hx, hc1, hc2⟩ := s2.at_ (i := j) (by rw [HL.out]; exact hlt)
      have hin := HIl.out x (List.mem_of_getElem? hx)
      obtain ⟨x1, x2⟩ := x
      replace hc1 : wr.cell? ⟨b0, q0 + j * 2, none⟩ = some (.int .i64 (x1 : Int)) := hc1
      replace hc2 : wr.cell? ⟨b0, q0 + j * 2 + 1, none⟩ = some (.int .i64 (x2 : Int)) := hc2
      have htk : Hid (Mk ((l.take (j + 1)).map (pc a)) = (Mk ((l.take j).map (pc a))).put (.string (pc a (x1, x2))) (.lit (.bool true))) := Lib.hid (by rw [take_succ hx, List.map_append]; exact Mk_snoc _ _)
      have hkey := key_str (HP.out (x1, x2) hin.2)
      have T := T1.out (wr.alloc (.cells #[.int .i64 (x1 : Int), .int .i64 (x2 : Int)] 36)) x1 x2 (hB.alloc hB.size _) hin
      have o1 := o.alloc (.cells #[.int .i64 (x1 : Int), .int .i64 (x2 : Int)] 36)
      have hgz : g < wr.heap.size := o.lt
      have s21 := SlE.alloc s2 (by omega) (.cells #[.int .i64 (x1 : Int), .int .i64 (x2 : Int)] 36)
      have s31 := SlE.alloc s3 (by omega) (.cells #[.int .i64 (x1 : Int), .int .i64 (x2 : Int)] 36)
      have hB1 := hB.alloc hB.size (.cells #[.int .i64 (x1 : Int), .int .i64 (x2 : Int)] 36)
      obtain ⟨D, hD⟩ : ∃ D, Mk ((l.take j).map (pc a)) = D := ⟨_, rfl⟩
      rw [hD] at o1 htk
      have hjm : j < maxLen := by unfold maxLen; omega
      clear hx hD s2 s3 o
      go_wp2_with (first
        | (go_at_call 33; refine T.mono ?_; rintro e w5 ⟨rfl, hb5⟩; have o5 := own_map_later o1 hb5; have s25 := Sl.below s21 (hb5.mono (by simp; omega)); have s35 := Sl.below s31 (hb5.mono (by simp; omega)); have hB5 := bsa hB1 hB1.size hb5)
        | (at_mapUpdate; refine wpList_mapUpdate_own _ rfl _ _ _ 66 rfl 9 4 lawS (by kernel_rfl) _ g j D rfl o5 hjm _ _ (.string (pc a (x1, x2))) rfl rfl hkey (.lit (.bool true)) [] (plainElem_bool underB true) ?_; intro w6 o6 g6; have s26 := Sl.grown s25 g6 (by have := hb5.size; simp at this; omega) (fun g' e => by injection e with e; omega); have s36 := Sl.grown s35 g6 (by have := hb5.size; simp at this; omega) (fun g' e => by injection e with e; omega); have hB6 := hB5.grown g6 hB5.size (fun g' e => by injection e with e; omega)))
      go_roundw
      case rel => exact ⟨j + 1, by omega, by go_num, by rw [htk.out]; exact o6, s26, s36, hB6⟩
      case measure => simp [intOf]; omega
    · obtain rfl : j = n := by omega
      have htn : Hid (l.take j = l) := Lib.hid (by rw [← HL.out, List.take_length])
      rw [htn.out] at o
      have o0 := o
      have hBo := hB
      clear hB4 hB s2 o
      go_wp2_with fail
      go_loopw [16, 60] (fun sv iv wm => ∃ (i s : Nat), i ≤ k ∧ iv = .int .i64 (i : Int) ∧ sv = .int .i64 (s : Int) ∧ Hid (shr a b l (m.take i) = s) ∧ wm.ownsMap Try.prog 9 (plainElem (H := Unit) Try.prog 4) g j (Mk (l.map (pc a))) ∧ SlE wm g A3 m ∧ Below w.heap.size w wm) (fun _ iv _ => k - (intOf iv).toNat)
      case atStart => exact ⟨0, 0, Nat.zero_le _, rfl, rfl, Lib.hid rfl, o0, s3, hBo⟩
      case round =>
        obtain ⟨i, s, hi, rfl, rfl, hs, o, s3, hB⟩ := hrel
        by_cases hlt : i < k
        · obtain ⟨b0, q0, x, rfl, _, hx, hc1, hc2⟩ := s3.at_ (i := i) (by rw [HM.out]; exact hlt)
          have hin := HIm.out x (List.mem_of_getElem? hx)
          have hs6 : s ≤ 65537 * 65536 := by
            have h1 := shr_le a b l 65536 (m.take i) (fun e he => by have := HIm.out e (List.mem_of_mem_take he); omega)
            rw [hs.out] at h1
            have h2 : (m.take i).length ≤ 65537 := by rw [List.length_take]; omega
            exact Nat.le_trans h1 (Nat.mul_le_mul_right _ h2)
          obtain ⟨x1, x2⟩ := x
          replace hin : 1 ≤ x2 ∧ x1 + x2 ≤ M := hin
          replace hc1 : wr.cell? ⟨b0, q0 + i * 2, none⟩ = some (.int .i64 (x1 : Int)) := hc1
          replace hc2 : wr.cell? ⟨b0, q0 + i * 2 + 1, none⟩ = some (.int .i64 (x2 : Int)) := hc2
          have hstep : Hid (shr a b l (m.take (i + 1)) = s + if pc b (x1, x2) ∈ l.map (pc a) then x2 else 0) := Lib.hid (by rw [take_succ hx, shr_snoc, hs.out])
          have hlen := HP'.out (x1, x2) hin.2
          have hsum : IntKind.i64.wrap ((s : Int) + (x2 : Int)) = ((s + x2 : Nat) : Int) := by rw [IntKind.wrap_i64]; omega
          have T := T2.out (wr.alloc (.cells #[.int .i64 (x1 : Int), .int .i64 (x2 : Int)] 36)) x1 x2 (hB.alloc hB.size _) hin
          have o1 := o.alloc (.cells #[.int .i64 (x1 : Int), .int .i64 (x2 : Int)] 36)
          have hgz : g < wr.heap.size := o.lt
          have s31 := SlE.alloc s3 (by omega) (.cells #[.int .i64 (x1 : Int), .int .i64 (x2 : Int)] 36)
          have hB1 := hB.alloc hB.size (.cells #[.int .i64 (x1 : Int), .int .i64 (x2 : Int)] 36)
          have hx1 : Blk (wr.alloc (.cells #[.int .i64 (x1 : Int), .int .i64 (x2 : Int)] 36)) wr.heap.size 36 #[.int .i64 (x1 : Int), .int .i64 (x2 : Int)] := Blk.new _ _ _
          obtain ⟨p, hp⟩ : ∃ p : Bs, pc b (x1, x2) = p := ⟨_, rfl⟩
          rw [hp] at T hstep hlen
          clear hx hp o s3
          by_cases hpl : p ∈ l.map (pc a)
          · rw [if_pos hpl] at hstep
            have hdec : decide (p ∈ l.map (pc a)) = true := decide_eq_true hpl
            go_wp2_with (go_at_call 33; refine T.mono ?_; rintro e w5 ⟨rfl, hb5⟩; have o5 := own_map_later o1 hb5; have s35 := Sl.below s31 (hb5.mono (by simp; omega)); have hB5 := bsa hB1 hB1.size hb5; have hlk := own_lookup o5 hlen; rw [hdec] at hlk; have y1 := (hx1.later hb5).cell 1)
            go_roundw
            case rel => exact ⟨i + 1, s + x2, by omega, by go_num, by go_num, hstep, o5, s35, hB5⟩
            case measure => simp [intOf]; omega
          · rw [if_neg hpl] at hstep
            have hdec : decide (p ∈ l.map (pc a)) = false := decide_eq_false hpl
            go_wp2_with (go_at_call 33; refine T.mono ?_; rintro e w5 ⟨rfl, hb5⟩; have o5 := own_map_later o1 hb5; have s35 := Sl.below s31 (hb5.mono (by simp; omega)); have hB5 := bsa hB1 hB1.size hb5; have hlk := own_lookup o5 hlen; rw [hdec] at hlk)
            go_roundw
            case rel => exact ⟨i + 1, s, by omega, by go_num, rfl, hstep, o5, s35, hB5⟩
            case measure => simp [intOf]; omega
        · obtain rfl : i = k := by omega
          have hsS : Hid (s = S) := Lib.hid (by rw [← hs.out, ← HS.out, ← HM.out, List.take_length])
          go_wp2
          go_ret2
          have e1 := hsS.out; subst e1; exact ⟨rfl, hB⟩
end Go.Proofs.Ytcdaieoondmljaa.H
