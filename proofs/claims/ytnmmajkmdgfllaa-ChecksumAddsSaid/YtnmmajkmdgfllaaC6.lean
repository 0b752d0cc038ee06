import Derived.Test.YtnmmajkmdgfllaaC5
import Derived.Lib.SlBytesConst
namespace Go.Proofs.Ytnmmajkmdgfllaa.C
set_option linter.unusedVariables false
open Go Go.RowKit Go.Shelf Go.Proofs.Ytnmmajkmdgfllaa Go.Proofs.Ytnmmajkmdgfllaa.W Go.Proofs.Ytnmmajkmdgfllaa.M Go.Proofs.Ytnmmajkmdgfllaa.B

theorem sum_ok (A : Option Addr) (c N : Nat) (xs : List UInt8) (hN : xs.length = N) (hn : N ≤ 140737488351232) (v : Int) (hv : ((crc xs).toNat : Int) = v) (w : World) (B : Nat) (h : Sl u8 w B A xs) :
    Calls Try.prog 12 #[.slice A N c] w fun e w' => e = .returned (.int .u32 v) ∧ Below w.heap.size w w' := by
  subst hN; subst hv; exact sum_any A c xs hn w B h
theorem refSum_ok (A : Option Addr) (c N : Nat) (xs : List UInt8) (hN : xs.length = N) (hn : N ≤ 140737488351232) (v : Int) (hv : ((crc xs).toNat : Int) = v) (w : World) (B : Nat) (h : Sl u8 w B A xs) :
    Calls Try.prog 26 #[.slice A N c] w fun e w' => e = .returned (.int .u32 v) ∧ w = w' := by
  subst hN; subst hv; exact refSum_any A c xs hn w B h
theorem seal_sl (A : Option Addr) (c N N' : Nat) (l : List UInt8) (hN : l.length = N) (hN' : N + 4 = N') (hn : N ≤ 140737488351232) (w : World) (B : Nat) (h : Sl u8 w B A l) :
    Calls Try.prog 18 #[.slice A N c] w fun e w' => ∃ A' c', e = .returned (.slice A' N' c') ∧ Sl u8 w' w'.heap.size A' (sealed l) ∧ N' ≤ c' ∧ c' ≤ maxLen ∧ Below w.heap.size w w' := by
  subst hN'
  refine (seal_ok A c N l hN hn w B h).mono ?_
  rintro e w' ⟨A', c', rfl, hown, hb⟩
  obtain ⟨A2, c2, hv, hnc, hcm⟩ := own_form hown
  obtain ⟨rfl, rfl⟩ : A' = A2 ∧ c' = c2 := by injection hv with h1 h2 h3; exact ⟨h1, h3⟩
  exact ⟨A', c', rfl, Sl.of_own hown, hnc, hcm, hb⟩
theorem refSeal_sl (A : Option Addr) (c N N' : Nat) (l : List UInt8) (hN : l.length = N) (hN' : N + 4 = N') (hn : N ≤ 140737488351232) (w : World) (B : Nat) (h : Sl u8 w B A l) :
    Calls Try.prog 19 #[.slice A N c] w fun e w' => ∃ A' c', e = .returned (.slice A' N' c') ∧ Sl u8 w' w'.heap.size A' (sealed l) ∧ N' ≤ c' ∧ c' ≤ maxLen ∧ Below w.heap.size w w' := by
  subst hN'
  refine (refSeal_ok A c N l hN hn w B h).mono ?_
  rintro e w' ⟨A', c', rfl, hown, hb⟩
  obtain ⟨A2, c2, hv, hnc, hcm⟩ := own_form hown
  obtain ⟨rfl, rfl⟩ : A' = A2 ∧ c' = c2 := by injection hv with h1 h2 h3; exact ⟨h1, h3⟩
  exact ⟨A', c', rfl, Sl.of_own hown, hnc, hcm, hb⟩
theorem combine_ok (a b : Int) (n : Int) (a' b' : R) (ha : (a'.toNat : Int) = a) (hb : (b'.toNat : Int) = b) (v : Int) (hv : ((combZ a' b' n).toNat : Int) = v) (w : World) :
    Calls Try.prog 10 #[.int .u32 a, .int .u32 b, .int .i64 n] w fun e w' => e = .returned (.int .u32 v) ∧ Below w.heap.size w w' := by
  subst ha; subst hb; subst hv; exact combine_any a' b' n w

theorem Sl.of_marked {w : World} {g : Nat} {t : TypeId} {fr : Nat × Nat} {l : List UInt8} (h : w.heap[g]? = some (.cells (l.map u8).toArray t fr)) : Sl u8 w w.heap.size (some ⟨g, 0, none⟩) l := fun _ =>
  ⟨g, 0, rfl, (Array.getElem?_eq_some_iff.1 h).1, fun j x hx => by rw [Nat.zero_add, cell_of_row w g j _ t fr h]; simp [hx]⟩

theorem bs {w W W' : World} (h : Below w.heap.size w W) (hb : Below W.heap.size W W') : Below w.heap.size w W' := h.trans (hb.mono h.size)
theorem bsa {w W W' : World} {o : Obj} (h : Below w.heap.size w W) (hb : Below (W.alloc o).heap.size (W.alloc o) W') : Below w.heap.size w W' :=
  (h.alloc h.size o).trans (hb.mono (by have := h.size; simp; omega))

theorem crc_digits : ((crc [49, 50, 51, 52, 53, 54, 55, 56, 57]).toNat : Int) = 3421780262 := by decide +kernel
theorem crc_none : ((crc []).toNat : Int) = 0 := by decide +kernel
theorem crc_a : ((crc [97]).toNat : Int) = 3904355907 := by decide +kernel
theorem crc_0 : ((crc [0]).toNat : Int) = 3523407757 := by decide +kernel
theorem comb_a : ((combZ 3904355907#32 0#32 0).toNat : Int) = 3904355907 := by decide +kernel
theorem seal_a : (sealed [97] == [97, 67, 190, 183, 232]) = true := by decide +kernel
theorem seal_0 : (sealed [] == [0, 0, 0, 0]) = true := by decide +kernel

set_option maxRecDepth 100000 in
set_option maxHeartbeats 1000000 in
theorem awake_any (w : World) : Calls Try.prog 9 #[] w fun e w' => e = .returned (.bool true) ∧ Below w.heap.size w w' := by
  have C1 := Lib.hid fun (W : World) (B : Nat) (A : Option Addr) (hA : Sl u8 W B A [49, 50, 51, 52, 53, 54, 55, 56, 57]) => sum_ok A 9 9 _ rfl (by omega) 3421780262 crc_digits W _ hA
  have C2 := Lib.hid fun (W : World) => sum_ok none 0 0 [] rfl (by omega) 0 crc_none W 0 Sl.nil
  have C3 := Lib.hid fun (W : World) (B : Nat) (A : Option Addr) (hA : Sl u8 W B A [97]) => sum_ok A 1 1 _ rfl (by omega) 3904355907 crc_a W _ hA
  have C4 := Lib.hid fun (W : World) (g : Nat) (hg : Blk W g 5 (([0] : List UInt8).map u8).toArray) => sum_ok (some ⟨g, 0, none⟩) 1 1 _ rfl (by omega) 3523407757 crc_0 W _ (Sl.of_blk hg)
  have C5 := Lib.hid fun (W : World) => combine_ok 3904355907 0 0 3904355907#32 0#32 rfl rfl 3904355907 comb_a W
  have C6 := Lib.hid fun (W : World) (B : Nat) (A : Option Addr) (hA : Sl u8 W B A [97]) => seal_sl A 1 1 5 _ rfl rfl (by omega) W _ hA
  have C7 := Lib.hid fun (W : World) (g c B : Nat) (A : Option Addr) (hA : Sl u8 W B A (sealed [97])) (hg : Blk W g 5 (([97, 67, 190, 183, 232] : List UInt8).map u8).toArray) => same_ok A (some ⟨g, 0, none⟩) c 5 5 5 _ _ W _ _ hA (Sl.of_blk hg) rfl rfl (by omega) (by omega) true seal_a
  have C8 := Lib.hid fun (W : World) => seal_sl none 0 0 4 [] rfl rfl (by omega) W 0 Sl.nil
  have C9 := Lib.hid fun (W : World) (g c B : Nat) (A : Option Addr) (hA : Sl u8 W B A (sealed [])) (hg : Blk W g 5 (([0, 0, 0, 0] : List UInt8).map u8).toArray) => same_ok A (some ⟨g, 0, none⟩) c 4 4 4 _ _ W _ _ hA (Sl.of_blk hg) rfl rfl (by omega) (by omega) true seal_0
  have kc := fun (w : World) (C : Array Value) (n c : Nat) => Lib.run_convert_bytes_const (P := Try.prog) w 26 5 C n c Try.underlying26 Try.underlying5
  go_enter Try.func9, Try.ntmps9
  go_wp2_with (first
    | (go_at_call 12; refine (C1.out _ _ _ (Sl.of_marked (heap_alloc_new _ _))).mono ?_; clear C1; rintro e w1 ⟨rfl, hb1⟩)
    | (go_at_call 12; refine (C2.out _).mono ?_; clear C2; rintro e w2 ⟨rfl, hb2⟩)
    | (go_at_call 12; refine (C3.out _ _ _ (Sl.of_marked (heap_alloc_new _ _))).mono ?_; clear C3; rintro e w3 ⟨rfl, hb3⟩)
    | (go_at_call 12; refine (C4.out _ _ (Blk.new _ _ _)).mono ?_; clear C4; rintro e w4 ⟨rfl, hb4⟩)
    | (go_at_call 10; refine (C5.out _).mono ?_; clear C5; rintro e w5 ⟨rfl, hb5⟩)
    | (go_at_call 18; refine (C6.out _ _ _ (Sl.of_marked (heap_alloc_new _ _))).mono ?_; clear C6; rintro e w6 ⟨A6, c6, rfl, s6, _, _, hb6⟩)
    | (go_at_call 17; refine (C7.out _ _ _ _ _ (s6.alloc (Nat.le_refl _) _) (Blk.new _ _ _)).mono ?_; clear C7; rintro e w7 ⟨rfl, hb7⟩)
    | (go_at_call 18; refine (C8.out _).mono ?_; clear C8; rintro e w8 ⟨A8, c8, rfl, s8, _, _, hb8⟩)
    | (go_at_call 17; refine (C9.out _ _ _ _ _ (s8.alloc (Nat.le_refl _) _) (Blk.new _ _ _)).mono ?_; clear C9; rintro e w9 ⟨rfl, hb9⟩))
  go_ret
  exact ⟨rfl, bsa (bs (bsa (bsa (bs (bsa (bsa (bs (bsa (Below.refl _ w) hb1) hb2) hb3) hb4) hb5) hb6) hb7) hb8) hb9⟩
end Go.Proofs.Ytnmmajkmdgfllaa.C
