/- recency.number. -/
import Derived.Test.YtgaifkjdaldmnaaF9
import Derived.Test.YtgaifkjdaldmnaaM34X
namespace Go.Proofs.Ytgaifkjdaldmnaa.F
set_option linter.unusedVariables false
open Go Go.RowKit Go.Proofs.Ytgaifkjdaldmnaa Go.Proofs.Ytgaifkjdaldmnaa.W Go.Proofs.Ytgaifkjdaldmnaa.M Go.Proofs.Ytgaifkjdaldmnaa.B

/-- The number so far, cut off. -/
def clip (n : Nat) : Nat := min n 65537
theorem clip_next {l : Bs} {j : Nat} {d : UInt8} (hd : l[j]? = some d) : clip (val (l.take (j + 1))) = min (clip (val (l.take j)) + (d.toNat + 1) * 2 ^ j) 65537 := by
  have hj := (List.getElem?_eq_some_iff.1 hd).1
  rw [take_succ hd, val_snoc]
  have : (l.take j).length = j := by simp; omega
  rw [this]
  unfold clip
  omega
theorem clip_big {l : Bs} {j : Nat} (h : 20 < j) (hl : j < l.length) : clip (val (l.take (j + 1))) = 65537 := by
  have h1 := val_ge (l.take (j + 1))
  have h2 : (l.take (j + 1)).length = j + 1 := by simp; omega
  rw [h2] at h1
  have h3 : 2 ^ 17 ≤ 2 ^ (j + 1) := Nat.pow_le_pow_right (by omega) (by omega)
  unfold clip
  omega

theorem wrap64_in (x : Int) (h1 : 0 ≤ x) (h2 : x < 4611686018427387904) : wrap64 x = x := by
  unfold wrap64; omega

set_option maxRecDepth 100000 in
set_option maxHeartbeats 1000000 in
theorem number_any (A : Option Addr) (c n : Nat) (l : Bs) (hl : l.length = n) (hn : n ≤ 65536) (w : World) (B : Nat) (h : Sl u8 w B A l) :
    Calls Try.prog 34 #[.slice A n c] w fun e w' => e = .returned (.tuple #[.int .i64 (clip (dval l) : Int), .int .i64 (dlen l : Int)]) ∧ w = w' := by
  have HL := Lib.hid hl
  obtain ⟨D, hD⟩ : ∃ D, dlen l = D := ⟨_, rfl⟩
  have hDn : D ≤ n := by have := dlen_le l; omega
  have HD := Lib.hid hD
  have HV : Hid (dval l = val (l.take D)) := Lib.hid (by unfold dval; rw [hD])
  rw [hD]
  clear hl hD
  go_enter Try.func34, Try.ntmps34
  go_wp2
  go_loop [4, 5] (fun nv iv => ∃ j v : Nat, j ≤ D ∧ iv = .int .i64 (j : Int) ∧ nv = .int .i64 (v : Int) ∧ v ≤ 65537 ∧ Hid (v = clip (val (l.take j)))) (fun _ iv => n - (intOf iv).toNat)
  case atStart => exact ⟨0, 0, Nat.zero_le _, rfl, rfl, by omega, Lib.hid rfl⟩
  case round =>
    obtain ⟨j, v, hj, rfl, rfl, hv, hV⟩ := hrel
    by_cases hlt : j < D
    · have hjn : j < n := by omega
      obtain ⟨d, hd, hd1⟩ := dlen_digit (l := l) (j := j) (by rw [HD.out]; exact hlt)
      obtain ⟨bl, o, hA, _, hcs⟩ := h.open_ (by rw [HL.out]; omega)
      have hcd := hcs j d hd
      rw [u8_def] at hcd
      subst hA
      by_cases h20 : 20 < j
      · have hb := Lib.hid (clip_big h20 (by rw [HL.out]; exact hjn))
        have h20' : (20 : Int) < j := by omega
        have hd1' : (d.toNat : Int) ≤ 1 := by omega
        clear hd hcs hd1
        go_wp2
        go_round
        case rel => exact ⟨j + 1, 65537, by omega, by go_num, rfl, by omega, Lib.hid hb.out.symm⟩
        case measure => simp [intOf]; omega
      · have hb := Lib.hid (clip_next hd)
        have h20' : ¬ ((20 : Int) < j) := by omega
        have hp : 2 ^ j ≤ 2 ^ 20 := Nat.pow_le_pow_right (by omega) (by omega)
        have hd1' : (d.toNat : Int) ≤ 1 := by omega
        clear hd hcs
        go_wp2
        go_round
        case rel =>
          obtain ⟨X, hX⟩ : ∃ X : Nat, X = (d.toNat + 1) * 2 ^ j := ⟨_, rfl⟩
          have hXb : X ≤ 2097152 := by
            rw [hX]
            have : (d.toNat + 1) * 2 ^ j ≤ 2 * 2 ^ 20 := Nat.mul_le_mul (by omega) hp
            omega
          have hXc : ((d.toNat : Int) + 1) * 2 ^ j = (X : Int) := by rw [hX]; simp
          refine ⟨j + 1, min (v + X) 65537, by omega, by go_num, ?_, by omega, Lib.hid (by rw [hb.out, ← hV.out, ← hX])⟩
          rw [hXc, wrap64_in (X : Int) (by omega) (by omega), wrap64_in _ (by omega) (by omega)]
          by_cases hc : 65537 < v + X
          · rw [if_pos (by omega)]; congr 1; omega
          · rw [if_neg (by omega)]; congr 1; omega
        case measure => simp [intOf]; omega
    · obtain rfl : j = D := by omega
      have hres : Hid (clip (dval l) = v) := Lib.hid (by rw [HV.out, hV.out])
      by_cases hend : j < n
      · obtain ⟨bl, o, hA, _, hcs⟩ := h.open_ (by rw [HL.out]; omega)
        have hjl : j < l.length := by rw [HL.out]; exact hend
        have hd : l[j]? = some l[j] := List.getElem?_eq_getElem hjl
        obtain ⟨d, hdd⟩ : ∃ d, d = l[j] := ⟨_, rfl⟩
        rw [← hdd] at hd
        have hs := dlen_stop (l := l) (y := d) (by rw [HD.out]; exact hd)
        have hcd := hcs j d hd
        rw [u8_def] at hcd
        subst hA
        have hs' : ¬ ((d.toNat : Int) ≤ 1) := by omega
        clear hd hcs hs hdd
        go_wp2
        go_ret2
        rw [hres.out]
        exact ⟨rfl, rfl⟩
      · have hend' : j = n := by omega
        have hjn : ¬ ((j : Int) < (n : Int)) := by omega
        subst hend'
        go_wp2
        go_ret2
        rw [hres.out]
        exact ⟨rfl, rfl⟩
end Go.Proofs.Ytgaifkjdaldmnaa.F
