import Derived.Test.YtgaifkjdaldmnaaF9
import Derived.Test.YtgaifkjdaldmnaaZeros
namespace Go.Proofs.Ytgaifkjdaldmnaa.F
set_option linter.unusedVariables false
open Go Go.RowKit Go.Proofs.Ytgaifkjdaldmnaa Go.Proofs.Ytgaifkjdaldmnaa.W Go.Proofs.Ytgaifkjdaldmnaa.M Go.Proofs.Ytgaifkjdaldmnaa.B

theorem underlying3 : Try.prog.underlying 3 = some (.int .i64) := by kernel_rfl
/-- The code of a run between two bytes that are no zeros. -/
theorem code_between {p q : UInt8} (hp : p ≠ 0) (hq : q ≠ 0) (h4p : ¬ 254 ≤ p) (h4q : ¬ 254 ≤ q) (k : Nat) : code (p :: (List.replicate k 0 ++ [q])) = (p + 1) :: (dig k ++ [q + 1]) := by
  have h1 : code [q] = [q + 1] := by rw [code_other hq, code_nil, List.append_nil]; unfold enc; rw [if_neg h4q]
  have h2 : code (List.replicate k 0 ++ [q]) = dig k ++ [q + 1] := by
    rcases Nat.eq_zero_or_pos k with rfl | hk
    · rw [dig_zero]; exact h1
    · rw [code_run k hk [q] (by show (if q = 0 then lead [] + 1 else 0) = 0; rw [if_neg hq]), h1]
  rw [code_other hp, h2]
  unfold enc; rw [if_neg h4p]; rfl

set_option maxRecDepth 100000 in
set_option maxHeartbeats 4000000 in
theorem shortens_walk (x y : UInt8) (nn : Nat) (w : World) (hnn : nn ≤ 65535) :
    Calls Try.prog 4 #[.int .u8 (x.toNat : Int), .int .u8 (y.toNat : Int), .int .u16 (nn : Int)] w fun e w' => e = .returned (.bool true) ∧ Below w.heap.size w w' := by
  obtain ⟨i0, hi, hz0, hz1, hz2⟩ := info_parts info5
  obtain ⟨k, hk⟩ : ∃ k, k = nn % 2000 := ⟨_, rfl⟩
  have hk2 : k < 2000 := by omega
  have HK : Hid (Value.int .i64 ((nn : Int) % 2000) = Value.int .i64 (k : Int)) := Lib.hid (congrArg _ (by omega))
  have hx := x.toNat_lt
  have hy := y.toNat_lt
  go_enter Try.func4, Try.ntmps4
  obtain ⟨p, hp⟩ : ∃ p : UInt8, p = UInt8.ofNat (x.toNat / 2 + 1) := ⟨_, rfl⟩
  obtain ⟨q, hq⟩ : ∃ q : UInt8, q = UInt8.ofNat (y.toNat / 2 + 1) := ⟨_, rfl⟩
  have hp1 : p.toNat = x.toNat / 2 + 1 := by rw [hp, UInt8.toNat_ofNat']; omega
  have hq1 : q.toNat = y.toNat / 2 + 1 := by rw [hq, UInt8.toNat_ofNat']; omega
  have h254 : (254 : UInt8).toNat = 254 := rfl
  have hX := code_between (p := p) (q := q) (by rintro rfl; simp at hp1) (by rintro rfl; simp at hq1) (fun e => by have := UInt8.le_iff_toNat_le.1 e; omega) (fun e => by have := UInt8.le_iff_toNat_le.1 e; omega) k
  have hp2 : (p + 1).toNat = x.toNat / 2 + 2 := by rw [UInt8.toNat_add]; have h5 : (1 : UInt8).toNat = 1 := rfl; omega
  have hq2 : (q + 1).toNat = y.toNat / 2 + 2 := by rw [UInt8.toNat_add]; have h5 : (1 : UInt8).toNat = 1 := rfl; omega
  obtain ⟨dl, hdl⟩ : ∃ dl, (dig k).length = dl := ⟨_, rfl⟩
  have hdl2 : dl ≤ 2000 := by have := dig_length k; omega
  obtain ⟨X, hXX⟩ : ∃ X, X = (p + 1) :: (dig k ++ [q + 1]) := ⟨_, rfl⟩
  have hXl : X.length = dl + 2 := by rw [hXX]; simp [hdl]
  rw [← hXX] at hX
  have D1 : Hid (∀ W A c, Sl u8 W W.heap.size A (p :: (List.replicate k 0 ++ [q])) → Gives 12 A (1 + k + 1) c W X (dl + 2) 0) := Lib.hid fun W A c hs => runs_g (by simp; omega) (by omega) hX hXl hs
  have X0 : Hid (X[0]? = some (p + 1)) := Lib.hid (by rw [hXX]; rfl)
  have X1 : Hid (X[dl + 1]? = some (q + 1)) := Lib.hid (by rw [hXX, List.getElem?_cons_succ, List.getElem?_append_right (by omega), hdl, Nat.sub_self]; rfl)
  have XD : Hid (∀ j, j < dl → ∃ d, X[1 + j]? = some d ∧ (d = 0 ∨ d = 1)) := Lib.hid fun j hj => by
    have hj' : j < (dig k).length := by omega
    refine ⟨(dig k)[j], ?_, dig_le_one k _ (List.getElem_mem hj')⟩
    rw [hXX, Nat.add_comm, List.getElem?_cons_succ, List.getElem?_append_left hj', List.getElem?_eq_getElem hj']
  have HP : Hid ((x.toNat : Int) / 2 + 1 = (p.toNat : Int)) := Lib.hid (by omega)
  have HQ : Hid ((y.toNat : Int) / 2 + 1 = (q.toNat : Int)) := Lib.hid (by omega)
  have HP2 : Hid (((p + 1).toNat : Int) = (x.toNat : Int) / 2 + 2) := Lib.hid (by omega)
  have HQ2 : Hid (((q + 1).toNat : Int) = (y.toNat : Int) / 2 + 2) := Lib.hid (by omega)
  have HDL : Hid ((dig (k + 1 - 1)).length = dl) := Lib.hid (by rw [Nat.add_sub_cancel]; exact hdl)
  have HN : Hid (Value.int .i64 ((nn : Int) % 2000 + 1) = Value.int .i64 ((k + 1 : Nat) : Int)) := Lib.hid (congrArg _ (by omega))
  have hxx := lt256 x
  have hyy := lt256 y
  have o0 : (w.alloc (.cells #[.int .u8 ((x.toNat : Int) / 2 + 1)] 5)).ownsRow w.heap.size 5 1 (.slice (some ⟨w.heap.size, 0, none⟩) 1 1) 1 [.int .u8 ((x.toNat : Int) / 2 + 1)] := World.ownsRow_lit w #[.int .u8 ((x.toNat : Int) / 2 + 1)] 1 (Nat.le_refl _) (by decide) rfl
  have hB0 : Below w.heap.size w (w.alloc (.cells #[.int .u8 ((x.toNat : Int) / 2 + 1)] 5)) := (Below.refl _ w).alloc (Nat.le_refl _) _
  have HB : Hid ([Value.int .u8 ((x.toNat : Int) / 2 + 1)] ++ List.replicate k (.int .u8 0) ++ [q].map u8 = (p :: (List.replicate k 0 ++ [q])).map u8) := Lib.hid (by rw [HP.out]; simp [u8])
  clear hk hp hq hp1 hq1 hp2 hq2 hX hXX hXl hdl h254 hx hy
  go_wp2_with (first
    | (at_builtin; refine wpList_append_zeros _ rfl _ _ 22 3 rfl w.heap.size 5 i0 (.int .u8 0) 1 .i64 .i64 Try.underlying22 underlying3 hi hz0 hz1 hz2 rfl rfl (.slice (some ⟨w.heap.size, 0, none⟩) 1 1) 1 _ rfl o0 k HK.out (by unfold maxLen; omega) (by omega) (by simp) ?_; intro v1 w1 o1 g1 _; have hB1 := hB0.grown g1 (by simp) (fun j hj => (o0.lt j hj).1); obtain ⟨A1, c1, rfl, _, _⟩ := own_form o1)
    | (at_builtin; refine wpList_append_at _ u8_one' rfl _ _ 22 rfl w.heap.size 5 i0 (.int .u8 0) 1 Try.underlying22 hi hz0 hz1 hz2 rfl (.slice A1 (1 + k) c1) (1 + k) _ rfl (o1.alloc _) _ _ 1 [q] 1 rfl (Sl.of_new rfl (by rw [List.map_cons, List.map_nil, u8_def, HQ.out])) rfl (by unfold maxLen; omega) (by omega) (by have := hB1.size; simp; omega) ?_; intro v2 w2 o2 g2 _; have hB2 := (hB1.alloc hB1.size _).grown g2 (by have := hB1.size; simp; omega) (fun j hj => (o1.lt j hj).1); obtain ⟨A2, c2, rfl, _, _⟩ := own_form o2; have t2 : Sl u8 w2 w2.heap.size A2 (p :: (List.replicate k 0 ++ [q])) := Sl.of_own (by rw [← HB.out]; exact o2))
    | (go_at_call 12; refine (D1.out _ _ _ t2).mono ?_; rintro e w3 ⟨A3, c3, rfl, t3, hc3, _, hb3⟩; have hB := bsa hB2 hB2.size hb3; have hc3' : 2 ≤ c3 := (by omega)))
  go_loopw [11, 12] (fun dv mv W => ∃ m d : Nat, 1 ≤ m ∧ m ≤ 2000 ∧ mv = .int .i64 (m : Int) ∧ dv = .int .i64 (d : Int) ∧ Hid (d + (dig (m - 1)).length = dl) ∧ W = w3) (fun _ mv _ => (intOf mv).toNat)
  case atStart => exact ⟨k + 1, 0, by omega, by omega, HN.out, rfl, Lib.hid (by rw [Nat.zero_add]; exact HDL.out), rfl⟩
  case round =>
    obtain ⟨m, d, hm1, hm2, rfl, rfl, hd, rfl⟩ := hrel
    have hd2 : d ≤ 2000 := by have := hd.out; omega
    by_cases hlt : 1 < m
    · have hlt' : (1 : Int) < m := by omega
      have hds := Lib.hid (dig_step hlt)
      go_wp2
      go_roundw
      case rel => exact ⟨m / 2, d + 1, by omega, by omega, by go_num, by go_num, Lib.hid (by have := hd.out; rw [hds.out, List.length_cons] at this; omega), trivial⟩
      case measure => simp [intOf]; omega
    · obtain rfl : m = 1 := by omega
      obtain rfl : d = dl := by have := hd.out; rw [show dig (1 - 1) = [] from dig_zero] at this; simpa using this
      obtain ⟨b3, o3, rfl, hb3', hcs⟩ := t3.open_ (by rw [List.length_pos_iff]; intro e; have := X0.out; rw [e] at this; cases this)
      have q0 := hcs 0 _ X0.out
      rw [u8_def, HP2.out, Nat.add_zero] at q0
      have q1 := hcs (d + 1) _ X1.out
      rw [u8_def, HQ2.out] at q1
      have HCS := Lib.hid hcs
      clear hcs hd
      go_wp2
      go_loop [14, 79] (fun _ jv => ∃ j : Nat, j ≤ d ∧ jv = .int .i64 (j : Int)) (fun _ jv => d - (intOf jv).toNat)
      case atStart => exact ⟨0, Nat.zero_le _, rfl⟩
      case round =>
        obtain ⟨j, hj, rfl⟩ := hrel
        by_cases hjd : j < d
        · obtain ⟨z, hz, hz01⟩ := XD.out j hjd
          have hcz := HCS.out _ _ hz
          rw [u8_def, ← Nat.add_assoc] at hcz
          clear hz
          rcases hz01 with rfl | rfl
          · replace hcz : wr.cell? ⟨b3, o3 + 1 + j, none⟩ = some (.int .u8 0) := hcz
            go_wp2
            go_round
            case rel => exact ⟨j + 1, by omega, by go_num⟩
            case measure => simp [intOf]; omega
          · replace hcz : wr.cell? ⟨b3, o3 + 1 + j, none⟩ = some (.int .u8 1) := hcz
            go_wp2
            go_round
            case rel => exact ⟨j + 1, by omega, by go_num⟩
            case measure => simp [intOf]; omega
        · obtain rfl : j = d := by omega
          go_wp2_with (go_at_call 11; refine (awake_any _).mono ?_; rintro e w9 ⟨rfl, hb9⟩)
          go_ret
          exact ⟨rfl, bsa hB hB.size hb9⟩
end Go.Proofs.Ytgaifkjdaldmnaa.F
