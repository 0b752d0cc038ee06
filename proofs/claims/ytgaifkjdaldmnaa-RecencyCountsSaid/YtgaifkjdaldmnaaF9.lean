/- awake of chapter 34; the contracts in the laws' form. -/
import Derived.Test.YtgaifkjdaldmnaaF8
import Derived.Test.YtgaifkjdaldmnaaBG
namespace Go.Proofs.Ytgaifkjdaldmnaa.F
set_option linter.unusedVariables false
open Go Go.RowKit Go.Proofs.Ytgaifkjdaldmnaa Go.Proofs.Ytgaifkjdaldmnaa.W Go.Proofs.Ytgaifkjdaldmnaa.M Go.Proofs.Ytgaifkjdaldmnaa.B

theorem forward_g {A : Option Addr} {c n : Nat} {b t : Bs} (hl : b.length = n) (hn : n ≤ 65536) (ht : fwd fresh b = t) {w : World} {B : Nat} (h : Sl u8 w B A b) : Gives 16 A n c w t n 0 := by
  subst ht; exact Gives.of (Forward_ok A c n b hl hn w B h)
theorem inverse_g {A : Option Addr} {c n : Nat} {b t : Bs} (hl : b.length = n) (hn : n ≤ 65536) (ht : inv fresh b = t) {w : World} {B : Nat} (h : Sl u8 w B A b) : Gives 18 A n c w t n 0 := by
  subst ht; exact Gives.of (Inverse_ok A c n b hl hn w B h)
theorem rforward_g {A : Option Addr} {c n : Nat} {b t : Bs} (hl : b.length = n) (hn : n ≤ 65536) (ht : fwd fresh b = t) {w : World} {B : Nat} (h : Sl u8 w B A b) : Gives 17 A n c w t n 0 := by
  subst ht; exact Gives.of (rForward_ok A c n b hl hn w B h)
theorem rinverse_g {A : Option Addr} {c n : Nat} {b t : Bs} (hl : b.length = n) (hn : n ≤ 65536) (ht : inv fresh b = t) {w : World} {B : Nat} (h : Sl u8 w B A b) : Gives 19 A n c w t n 0 := by
  subst ht; exact Gives.of (rInverse_ok A c n b hl hn w B h)
theorem rfront_g {A : Option Addr} {c n : Nat} {b t : Bs} (hl : b.length = n) (hn : n ≤ 65536) (ht : fin fresh b = t) {w : World} {B : Nat} (h : Sl u8 w B A b) : Gives 20 A n c w t 256 0 := by
  subst ht; exact Gives.of (rFront_ok A c n b hl hn w B h)
theorem front_g {A : Option Addr} {c n : Nat} {b t : Bs} (hl : b.length = n) (hn : n ≤ 65536) (ht : fin fresh b = t) {w : World} {B : Nat} (h : Sl u8 w B A b) : Gives 15 A n c w t 256 0 := by
  subst ht
  refine (Front_ok A c n b hl hn w B h).mono fun e w' ⟨A', he, hs, hb⟩ => ⟨A', 256, he, hs, Nat.le_refl _, by decide, hb⟩
theorem runs_g {A : Option Addr} {c n m : Nat} {b t : Bs} (hl : b.length = n) (hn : n ≤ 32768) (ht : code b = t) (hm : t.length = m) {w : World} {B : Nat} (h : Sl u8 w B A b) : Gives 12 A n c w t m 0 := by
  subst ht hm; exact Gives.of (Runs_ok A c n b hl hn w B h)

theorem ex_fwd : fwd fresh [2, 2, 0, 2] = [2, 0, 1, 1] := by decide +kernel
theorem ex_front : (fin fresh [2]).take 4 = [2, 0, 1, 3] := by decide +kernel
theorem ex_code : code [0, 0, 0, 5, 0, 254] = [0, 0, 6, 0, 255, 0] := by
  rw [code_zero]
  rw [show lead ([0, 0, 5, 0, 254] : Bs) = 2 by decide +kernel]
  show dig 3 ++ code [5, 0, 254] = _
  rw [code_other (by decide), code_zero, show lead ([254] : Bs) = 0 by decide +kernel]
  show dig 3 ++ (enc 5 ++ (dig 1 ++ code [254])) = _
  rw [code_other (by decide), code_nil, dig_odd (by decide), dig_odd (by decide)]
  show 0 :: 0 :: dig 0 ++ (enc 5 ++ (0 :: dig 0 ++ (enc 254 ++ []))) = _
  rw [dig_zero]
  decide +kernel

set_option maxRecDepth 100000 in
set_option maxHeartbeats 1000000 in
theorem awake_any (w : World) : Calls Try.prog 11 #[] w fun e w' => e = .returned (.bool true) ∧ Below w.heap.size w w' := by
  have D1 : Hid (∀ W : World, Gives 16 (some ⟨W.heap.size, 0, none⟩) 4 4 (W.alloc (.cells #[.int .u8 2, .int .u8 2, .int .u8 0, .int .u8 2] 5)) [2, 0, 1, 1] 4 0) := Lib.hid fun W => forward_g (b := [2, 2, 0, 2]) rfl (by decide) ex_fwd (Sl.of_new rfl rfl)
  have D2 : Hid (∀ W : World, Gives 12 (some ⟨W.heap.size, 0, none⟩) 6 6 (W.alloc (.cells #[.int .u8 0, .int .u8 0, .int .u8 0, .int .u8 5, .int .u8 0, .int .u8 254] 5)) [0, 0, 6, 0, 255, 0] 6 0) := Lib.hid fun W => runs_g (b := [0, 0, 0, 5, 0, 254]) rfl (by decide) ex_code rfl (Sl.of_new rfl rfl)
  obtain ⟨F, hF⟩ : ∃ F, fin fresh [2] = F := ⟨_, rfl⟩
  have HF : Hid (F.take 4 = [2, 0, 1, 3]) := Lib.hid (by rw [← hF]; exact ex_front)
  have D3 : Hid (∀ W : World, Gives 15 (some ⟨W.heap.size, 0, none⟩) 1 1 (W.alloc (.cells #[.int .u8 2] 5)) F 256 0) := Lib.hid fun W => front_g (b := [2]) rfl (by decide) hF (Sl.of_new rfl rfl)
  have E1 : Hid (∀ (W : World) A c, Sl u8 W W.heap.size A [2, 0, 1, 1] → Calls Try.prog 14 #[.slice A 4 c, .slice (some ⟨W.heap.size, 0, none⟩) 4 4] (W.alloc (.cells #[.int .u8 2, .int .u8 0, .int .u8 1, .int .u8 1] 5)) fun e w' => e = .returned (.bool true) ∧ W.alloc (.cells #[.int .u8 2, .int .u8 0, .int .u8 1, .int .u8 1] 5) = w') :=
    Lib.hid fun W A c h => equal_same (l := [2, 0, 1, 1]) rfl (h.alloc (Nat.le_refl _) _) (Sl.of_new rfl rfl)
  have E2 : Hid (∀ (W : World) (O : Obj) A c, Sl u8 W W.heap.size A [0, 0, 6, 0, 255, 0] → Calls Try.prog 14 #[.slice A 6 c, .slice (some ⟨W.heap.size + 1, 0, none⟩) 6 6] ((W.alloc O).alloc (.cells #[.int .u8 0, .int .u8 0, .int .u8 6, .int .u8 0, .int .u8 255, .int .u8 0] 5)) fun e w' => e = .returned (.bool true) ∧ (W.alloc O).alloc (.cells #[.int .u8 0, .int .u8 0, .int .u8 6, .int .u8 0, .int .u8 255, .int .u8 0] 5) = w') :=
    Lib.hid fun W O A c h => equal_same (l := [0, 0, 6, 0, 255, 0]) rfl ((h.alloc (Nat.le_refl _) _).alloc (by simp) _) (Sl.of_new (by simp) rfl)
  have E3 : Hid (∀ (W : World) (O P : Obj) A c, Sl u8 W W.heap.size A F → Calls Try.prog 14 #[.slice A 4 c, .slice (some ⟨W.heap.size + 1 + 1, 0, none⟩) 4 4] (((W.alloc O).alloc P).alloc (.cells #[.int .u8 2, .int .u8 0, .int .u8 1, .int .u8 3] 5)) fun e w' => e = .returned (.bool true) ∧ ((W.alloc O).alloc P).alloc (.cells #[.int .u8 2, .int .u8 0, .int .u8 1, .int .u8 3] 5) = w') :=
    Lib.hid fun W O P A c h => equal_same (l := [2, 0, 1, 3]) rfl (((HF.out ▸ h.take 4 : Sl u8 W W.heap.size A [2, 0, 1, 3]).alloc (Nat.le_refl _) _).alloc (by simp) _ |>.alloc (by simp; omega) _) (Sl.of_new (by simp) rfl)
  clear hF
  go_enter Try.func11, Try.ntmps11
  go_wp2_with (first
    | (go_at_call 16; refine (D1.out _).mono ?_; clear D1; rintro e w1 ⟨A1, c1, rfl, t1, _, _, hb1⟩; have hb := ((Below.refl _ w).alloc (Nat.le_refl _) _).trans (hb1.mono (by simp)))
    | (go_at_call 12; refine (D2.out _).mono ?_; clear D2; rintro e w2 ⟨A2, c2, rfl, t2, _, _, hb2⟩; have t1 := (t1.alloc (Nat.le_refl _) _).lt.later hb2; have hb := bsa (hb.alloc hb.size _) (by have := hb.size; simp; omega) hb2)
    | (go_at_call 15; refine (D3.out _).mono ?_; clear D3; rintro e w3 ⟨A3, c3, rfl, t3, hc3, _, hb3⟩; have t1 := (t1.alloc (Nat.le_refl _) _).lt.later hb3; have t2 := (t2.alloc (Nat.le_refl _) _).lt.later hb3; have hb := bsa (hb.alloc hb.size _) (by have := hb.size; simp; omega) hb3; have hc4 : 4 ≤ c3 := (by omega))
    | (go_at_call 14; refine (E1.out _ _ _ t1).mono ?_; clear E1; rintro e w4 ⟨rfl, rfl⟩)
    | (go_at_call 14; refine (E2.out _ _ _ _ t2).mono ?_; clear E2; rintro e w5 ⟨rfl, rfl⟩)
    | (go_at_call 14; refine (E3.out _ _ _ _ _ t3).mono ?_; clear E3; rintro e w6 ⟨rfl, rfl⟩))
  go_ret
  exact ⟨rfl, ((hb.alloc hb.size _).alloc (by have := hb.size; simp; omega) _).alloc (by have := hb.size; simp; omega) _⟩
end Go.Proofs.Ytgaifkjdaldmnaa.F
