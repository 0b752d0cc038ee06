import Derived.Test.YtnmmajkmdgfllaaC7
import Derived.Deep.RegionWith
import Derived.Deep.RegionHeld3
import Derived.Sort.AtCall
namespace Go.Proofs.Ytnmmajkmdgfllaa.C
set_option linter.unusedVariables false
open Go Go.RowKit Go.Shelf Go.Proofs.Ytnmmajkmdgfllaa Go.Proofs.Ytnmmajkmdgfllaa.W Go.Proofs.Ytnmmajkmdgfllaa.M Go.Proofs.Ytnmmajkmdgfllaa.B

theorem crc_changes {b : List UInt8} {i : Nat} {d0 d1 d2 d3 : UInt8} (hi : i + 4 ≤ b.length) (hd : ¬ (d0 = 0 ∧ d1 = 0 ∧ d2 = 0 ∧ d3 = 0)) : crc (chg b i [d0, d1, d2, d3] 4) ≠ crc b := by
  intro e
  apply hd
  rw [chg_delta hi] at e
  unfold crc upd at e
  have e2 := congrArg (~~~ ·) e
  simp only [BitVec.not_not] at e2
  exact detects _ b i hi e2

theorem four_of (ds : List UInt8) (h : ds.length = 4) : ∃ d0 d1 d2 d3, ds = [d0, d1, d2, d3] := by
  rcases ds with _ | ⟨d0, _ | ⟨d1, _ | ⟨d2, _ | ⟨d3, _ | ⟨d4, r⟩⟩⟩⟩⟩
  all_goals simp at h
  exact ⟨d0, d1, d2, d3, rfl⟩

/-- What holds throughout: nothing below the box has turned, and the box stands. -/
def Held (w : World) (D : Array Value) (W : World) : Prop := Below (w.heap.size + 1) (w.alloc (.cells D 31)) W
theorem Held.below {w W : World} {D : Array Value} (h : Held w D W) : Below w.heap.size w W := ((Below.refl _ w).alloc (Nat.le_refl _) _).trans (Below.mono h (Nat.le_succ _))
theorem Held.step {w W W' : World} {D : Array Value} (h : Held w D W) (hb : Below W.heap.size W W') : Held w D W' := Below.trans h (hb.mono (by have := Below.size h; simp at this; exact this))
theorem Held.drew {w W : World} {D : Array Value} (h : Held w D W) : Held w D W.drew := Below.drew h
theorem Held.start (w : World) (D : Array Value) : Held w D (w.alloc (.cells D 31)) := Below.refl _ _
theorem Held.blk {w W : World} {D : Array Value} (h : Held w D W) : Blk W w.heap.size 31 D := (Blk.new w _ D).below h (Nat.lt_succ_self _)

set_option maxRecDepth 100000 in
set_option maxHeartbeats 1000000 in
theorem detects_walk (A : Option Addr) (c : Nat) (b : List UInt8) (a : Nat) (ds : List UInt8) (w : World) (h : Sl u8 w w.heap.size A b) (hc : b.length ≤ c) (hm : c ≤ maxLen) (ha : a ≤ 65535) (hd : ds.length = 4) :
    Calls Try.prog 5 #[.slice A b.length c, .int .u16 (a : Int), .agg (ds.map u8).toArray] w fun e w' => e = .returned (.bool true) ∧ Below w.heap.size w w' := by
  obtain ⟨d0, d1, d2, d3, rfl⟩ := four_of ds hd
  have hm' : b.length ≤ 9223372036854775807 := by unfold maxLen at hm; omega
  clear hm hd
  show Calls _ _ #[_, _, .agg #[.int .u8 (d0.toNat : Int), .int .u8 (d1.toNat : Int), .int .u8 (d2.toNat : Int), .int .u8 (d3.toNat : Int)]] _ _
  by_cases h4 : b.length < 4
  · go_enter Try.func5, Try.ntmps5
    go_wp2_with (go_at_call 9; refine (awake_any _).mono ?_; rintro e w1 ⟨rfl, hb1⟩)
    go_ret
    exact ⟨rfl, bsa (Below.refl _ w) hb1⟩
  · by_cases h5 : b.length > 2000
    · go_enter Try.func5, Try.ntmps5
      go_wp2_with (go_at_call 9; refine (awake_any _).mono ?_; rintro e w1 ⟨rfl, hb1⟩)
      go_ret
      exact ⟨rfl, bsa (Below.refl _ w) hb1⟩
    · obtain ⟨m, hN⟩ : ∃ m, b.length = m + 4 := ⟨b.length - 4, by omega⟩
      have HN := Lib.hid hN
      have h2 : m + 4 ≤ 2000 := by omega
      rw [hN]
      clear hN h4 h5 hm' hc
      have g4 : ¬ ((m : Int) + 4 < 4) := by omega
      have g5 : ¬ (2000 < (m : Int) + 4) := by omega
      obtain ⟨D, hD⟩ : ∃ D : Array Value, D = #[.int .u8 (d0.toNat : Int), .int .u8 (d1.toNat : Int), .int .u8 (d2.toNat : Int), .int .u8 (d3.toNat : Int)] := ⟨_, rfl⟩
      by_cases hz : d0 = 0 ∧ d1 = 0 ∧ d2 = 0 ∧ d3 = 0
      · obtain ⟨rfl, rfl, rfl, rfl⟩ := hz
        have hq := fun w => eq4 0 0 0 0 w
        go_enter Try.func5, Try.ntmps5
        go_wp2_with (go_at_call 9; refine (awake_any _).mono ?_; rintro e w1 ⟨rfl, hb1⟩)
        go_ret
        exact ⟨rfl, bsa (Below.refl _ w) hb1⟩
      · have hq : ∀ w, (Op.equalIn 10000 31 (.agg #[.int .u8 (d0.toNat : Int), .int .u8 (d1.toNat : Int), .int .u8 (d2.toNat : Int), .int .u8 (d3.toNat : Int)]) (.agg #[.int .u8 0, .int .u8 0, .int .u8 0, .int .u8 0])).run Try.prog w = .ok false w := fun w => by
          rw [eq4]
          congr 1
          rw [Bool.eq_false_iff]
          intro e
          simp only [Bool.and_eq_true, beq_iff_eq] at e
          obtain ⟨⟨⟨e0, e1⟩, e2⟩, e3⟩ := e
          exact hz ⟨UInt8.toNat_inj.1 (by simpa using e0), UInt8.toNat_inj.1 (by simpa using e1), UInt8.toNat_inj.1 (by simpa using e2), UInt8.toNat_inj.1 (by simpa using e3)⟩
        have hi := Nat.mod_lt a (show 0 < m + 1 by omega)
        have hne := crc_changes (b := b) (i := a % (m + 1)) (by rw [HN.out]; omega) hz
        obtain ⟨vb, hvb⟩ : ∃ v : Int, ((crc b).toNat : Int) = v := ⟨_, rfl⟩
        obtain ⟨vc, hvc⟩ : ∃ v : Int, ((crc (chg b (a % (m + 1)) [d0, d1, d2, d3] 4)).toNat : Int) = v := ⟨_, rfl⟩
        have hvn : ¬ vb = vc := fun e => hne (BitVec.eq_of_toNat_eq (by omega))
        have D1 := Lib.hid fun (W : World) (hS : Held w D W) => sum_ok A c (m + 4) b HN.out (by omega) vb hvb W _ (h.below hS.below)
        have D3 := Lib.hid fun (W : World) (hS : Held w D W) => changed_any A c m b a d0 d1 d2 d3 HN.out (by omega) ha W _ (h.below hS.below)
        have D2 := Lib.hid fun (W : World) (A' : Option Addr) (c' : Nat) (hs : Sl u8 W W.heap.size A' (chg b (a % (m + 1)) [d0, d1, d2, d3] 4)) => sum_ok A' c' (m + 4) _ (by rw [chg_length, HN.out]) (by omega) vc hvc W _ hs
        have HST : Hid (∀ W, Held w D W → Blk W w.heap.size 31 #[.int .u8 (d0.toNat : Int), .int .u8 (d1.toNat : Int), .int .u8 (d2.toNat : Int), .int .u8 (d3.toNat : Int)]) := Lib.hid (fun W hW => hD ▸ hW.blk)
        have HS0 : Hid (Held w D (w.alloc (.cells #[.int .u8 (d0.toNat : Int), .int .u8 (d1.toNat : Int), .int .u8 (d2.toNat : Int), .int .u8 (d3.toNat : Int)] 31))) := Lib.hid (hD ▸ Held.start w D)
        clear hvb hvc hne hi hz hD
        go_enter Try.func5, Try.ntmps5
        go_wp2_with fail
        have hH := HS0.out.drew
        have SH : Hid (∀ W, Held w D W → (Held w D W ∧ W.cell? ⟨w.heap.size, 0, none⟩ = some (.int .u8 (d0.toNat : Int)) ∧ W.cell? ⟨w.heap.size, 1, none⟩ = some (.int .u8 (d1.toNat : Int)) ∧ W.cell? ⟨w.heap.size, 2, none⟩ = some (.int .u8 (d2.toNat : Int)) ∧ W.cell? ⟨w.heap.size, 3, none⟩ = some (.int .u8 (d3.toNat : Int)))) := Lib.hid (fun W hW => ⟨hW, (HST.out W hW).cell 0, (HST.out W hW).cell 1, (HST.out W hW).cell 2, (HST.out W hW).cell 3⟩)
        go_region_held3 (fun W => Held w D W ∧ W.cell? ⟨w.heap.size, 0, none⟩ = some (.int .u8 (d0.toNat : Int)) ∧ W.cell? ⟨w.heap.size, 1, none⟩ = some (.int .u8 (d1.toNat : Int)) ∧ W.cell? ⟨w.heap.size, 2, none⟩ = some (.int .u8 (d2.toNat : Int)) ∧ W.cell? ⟨w.heap.size, 3, none⟩ = some (.int .u8 (d3.toNat : Int)))
          (exact SH.out _ hH)
          (first
          | (go_at_call 9; refine (awake_any _).mono ?_; rintro e w1 ⟨rfl, hb1⟩; have hH := hH.step hb1)
          | (go_at_call_has 12 c; refine (D1.out _ hH).mono ?_; rintro e w2 ⟨rfl, hb2⟩; have hH := hH.step hb2; try (have s3 := s3.later hb2))
          | (go_at_call 14; refine (D3.out _ hH).mono ?_; rintro e w3 ⟨A3, c3, rfl, s3, _, _, hb3⟩; have hH := hH.step hb3)
          | (go_at_call 12; refine (D2.out _ _ _ s3).mono ?_; rintro e w4 ⟨rfl, hb4⟩; have hH := hH.step hb4))
        all_goals go_wp2
        all_goals go_ret
        all_goals exact ⟨by simp [hvn], hH.below⟩
end Go.Proofs.Ytnmmajkmdgfllaa.C
