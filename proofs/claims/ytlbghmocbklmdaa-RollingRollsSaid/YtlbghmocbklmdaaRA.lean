/- awake of chapter 05. -/
import Derived.Test.YtlbghmocbklmdaaR8
import Derived.Test.YtlbghmocbklmdaaRC
namespace Go.Proofs.Ytlbghmocbklmdaa.H
set_option linter.unusedVariables false
open Go Go.RowKit Go.Proofs.Ytlbghmocbklmdaa Go.Proofs.Ytlbghmocbklmdaa.W Go.Proofs.Ytlbghmocbklmdaa.M

theorem Sl.put3 {w : World} {g B : Nat} {k : Int} {S : Value} {hv : Int} {A : Option Addr} {l : Bs} (h : Sl u8 w B A l) (hS : ∀ x, S ≠ u8 x) (hB : Blk w g 26 #[.int .i64 k, S, .int .u32 hv]) (x y z : Value) : Sl u8 (((w.setCell ⟨g, 0, none⟩ x).setCell ⟨g, 1, none⟩ y).setCell ⟨g, 2, none⟩ z) B A l := fun hl => by
  obtain ⟨b, o, e, hb, hc⟩ := h hl
  refine ⟨b, o, e, hb, fun j u hu => ?_⟩
  have hcu := hc j u hu
  have hne : b ≠ g := by
    rintro rfl
    rw [hB.cell] at hcu
    rcases hn : o + j with _ | _ | _ | q
    · rw [hn] at hcu; simp [u8] at hcu
    · rw [hn] at hcu; simp at hcu; exact hS _ hcu
    · rw [hn] at hcu; simp [u8] at hcu
    · rw [hn] at hcu; simp at hcu
  rw [World.cell?_setCell_far _ _ _ _ (Ne.symm hne), World.cell?_setCell_far _ _ _ _ (Ne.symm hne), World.cell?_setCell_far _ _ _ _ (Ne.symm hne)]
  exact hcu

theorem Roll_any (K : Nat) (A : Option Addr) (n c : Nat) (b l : Bs) (hv : R) (x : UInt8) (he : chk (K : Int) b hv = 0) (hl : b.length = n) (hr : rollL K b x = l) (m : Nat) (hm : l.length = m) (w : World) (B : Nat) (h : Sl u8 w B A b) (hc : n ≤ c) :
    Calls Try.prog 18 #[.agg #[.int .i64 (K : Int), .slice A n c, .int .u32 (hv.toNat : Int)], .int .u8 (x.toNat : Int)] w fun e w' => ∃ A' c', e = .returned (.tuple #[.agg #[.int .i64 (K : Int), .slice A' m c', .int .u32 ((hsh l).toNat : Int)], .int .i64 0]) ∧ Sl u8 w' w'.heap.size A' l ∧ m ≤ c' ∧ c' ≤ maxLen ∧ Below w.heap.size w w' := by
  obtain ⟨g1, g2, g3, g4⟩ := chk_good he
  subst hm hr hl
  by_cases hk : b.length < K
  · have e1 : rollL K b x = b ++ [x] := by unfold rollL; rw [if_neg (by omega)]
    rw [e1, List.length_append]
    exact Roll_not K A b.length c b hv x he rfl hk _ rfl w B h hc
  · obtain ⟨z, r, rfl⟩ : ∃ z r, b = z :: r := by
      rcases b with _ | ⟨z, r⟩
      · simp at hk; omega
      · exact ⟨z, r, rfl⟩
    have e0 : (z :: r).length = K := by omega
    have e1 : rollL K (z :: r) x = r ++ [x] := by unfold rollL; rw [if_pos (by omega)]; rfl
    rw [e1, e0, List.length_append]
    rw [e0] at hc
    exact Roll_full K A r.length c z r hv x he rfl (by simpa using e0) _ rfl w B h hc

/-- One world further, behind a new block. -/
theorem bal {B : Nat} {w w1 w2 : World} {O : Obj} (h : Below B w w1) (hz : B ≤ w1.heap.size) (h2 : Below (w1.alloc O).heap.size (w1.alloc O) w2) : Below B w w2 := (h.alloc hz O).trans (h2.mono (by simp; omega))
theorem bsa {B : Nat} {w w1 w2 : World} (h : Below B w w1) (hb : B ≤ w1.heap.size) (h2 : Below w1.heap.size w1 w2) : Below B w w2 := h.trans (h2.mono hb)
theorem bz {B : Nat} {w w1 : World} (h : Below B w w1) (hz : B ≤ w.heap.size) : B ≤ w1.heap.size := Nat.le_trans hz h.size
/-- The states of the chapter's example. -/
def zs : Nat → Bs
  | 0 => []
  | 1 => [0]
  | _ => [0, 0]
def nz (q : Nat) : Nat := (zs q).length
def hz (q : Nat) : Int := ((hsh (zs q)).toNat : Int)
theorem awake_roll (q : Nat) (hq : q < 3) (W : World) (A : Option Addr) (c : Nat) (h : Sl u8 W W.heap.size A (zs q)) (hc : nz q ≤ c) :
    Calls Try.prog 18 #[.agg #[.int .i64 2, .slice A (nz q) c, .int .u32 (hz q)], .int .u8 0] W fun e w' => ∃ A' c', e = .returned (.tuple #[.agg #[.int .i64 2, .slice A' (nz (q + 1)) c', .int .u32 (hz (q + 1))], .int .i64 0]) ∧ Sl u8 w' w'.heap.size A' (zs (q + 1)) ∧ nz (q + 1) ≤ c' ∧ Below W.heap.size W w' := by
  have key : ∀ (b l : Bs) (hb : zs q = b) (hl : zs (q + 1) = l) (hr : rollL 2 b 0 = l), b.length ≤ 2 → Calls Try.prog 18 #[.agg #[.int .i64 2, .slice A (nz q) c, .int .u32 (hz q)], .int .u8 0] W fun e w' => ∃ A' c', e = .returned (.tuple #[.agg #[.int .i64 2, .slice A' (nz (q + 1)) c', .int .u32 (hz (q + 1))], .int .i64 0]) ∧ Sl u8 w' w'.heap.size A' (zs (q + 1)) ∧ nz (q + 1) ≤ c' ∧ Below W.heap.size W w' := by
    intro b l hb hl hr h2
    unfold nz hz at *
    rw [hb] at h hc ⊢
    rw [hl]
    refine (Roll_any 2 A b.length c b l (hsh b) 0 (by unfold chk; rw [if_neg (by decide), if_neg (by omega), if_neg (by simp)]) rfl hr _ rfl W _ h hc).mono ?_
    rintro e w' ⟨A', c', he, h1, h2, _, h3⟩
    exact ⟨A', c', he, h1, h2, h3⟩
  obtain rfl | rfl | rfl : q = 0 ∨ q = 1 ∨ q = 2 := by omega
  · exact key [] [0] rfl rfl rfl (by decide)
  · exact key [0] [0, 0] rfl rfl rfl (by decide)
  · exact key [0, 0] [0, 0] rfl rfl rfl (by decide)

theorem ex_val : val 0 = 766669161#32 := by decide +kernel
theorem ex_hash : hsh [0, 0] = 1993774011#32 := by decide +kernel
theorem ex_places : places [9, 9, 9, 9, 9] 3 0#32 = [3, 4, 5] := by decide +kernel
/-- Places in the form that the laws' walks take. -/
theorem places_g {A : Option Addr} {c N k : Nat} {b : Bs} {m : R} {l : List Nat} {n : Nat} (hlb : b.length = N) (hlen : N ≤ 65536) (hk1 : 1 ≤ k) (hk2 : k ≤ 64) (hl : places b k m = l) (hn : l.length = n) {w : World} {B : Nat} (h : Sl u8 w B A b) :
    Calls Try.prog 22 #[.slice A N c, .int .i64 (k : Int), .int .u32 (m.toNat : Int)] w fun e w' => ∃ A' c', e = .returned (.tuple #[.slice A' n c', .int .i64 0]) ∧ Sl i64 w' w'.heap.size A' l ∧ n ≤ c' ∧ c' ≤ maxLen ∧ Below w.heap.size w w' := by
  subst hn hl
  refine (Places_ok A c N k b hlb hlen hk1 hk2 m w B h).mono ?_
  rintro e w' ⟨v, he, ho, _, hb⟩
  obtain ⟨A', c', rfl, _, _⟩ := own_form ho
  obtain ⟨h1, h2⟩ := own_cap ho
  exact ⟨A', c', he, Sl.of_own ho, h1, h2, hb⟩
theorem rplaces_g {A : Option Addr} {c N k : Nat} {b : Bs} {m : R} {l : List Nat} {n : Nat} (hlb : b.length = N) (hc : N ≤ c) (hlen : N ≤ 65536) (hk1 : 1 ≤ k) (hk2 : k ≤ 64) (hl : places b k m = l) (hn : l.length = n) {w : World} {B : Nat} (h : Sl u8 w B A b) :
    Calls Try.prog 23 #[.slice A N c, .int .i64 (k : Int), .int .u32 (m.toNat : Int)] w fun e w' => ∃ A' c', e = .returned (.tuple #[.slice A' n c', .int .i64 0]) ∧ Sl i64 w' w'.heap.size A' l ∧ n ≤ c' ∧ c' ≤ maxLen ∧ Below w.heap.size w w' := by
  subst hn hl
  refine (rPlaces_ok A c N k b hlb hc hlen hk1 hk2 m w B h).mono ?_
  rintro e w' ⟨v, he, ho, _, hb⟩
  obtain ⟨A', c', rfl, _, _⟩ := own_form ho
  obtain ⟨h1, h2⟩ := own_cap ho
  exact ⟨A', c', he, Sl.of_own ho, h1, h2, hb⟩
theorem equalI_same {A A' : Option Addr} {c c' n : Nat} {l : List Nat} (hl : l.length = n) (hn : n ≤ 65536) {w : World} {B B' : Nat} (h : Sl i64 w B A l) (h' : Sl i64 w B' A' l) :
    Calls Try.prog 24 #[.slice A n c, .slice A' n c'] w fun e w' => e = .returned (.bool true) ∧ Below w.heap.size w w' := by
  subst hl
  refine (equalI_any A A' c c' l l w B B' h h' (by omega) (by omega)).mono ?_
  rintro e w' ⟨rfl, hb⟩
  exact ⟨by simp, hb⟩
theorem equalB_same {A A' : Option Addr} {c c' n : Nat} {l : Bs} (hl : l.length = n) (hn : n ≤ 65536) {w : World} {B B' : Nat} (h : Sl u8 w B A l) (h' : Sl u8 w B' A' l) :
    Calls Try.prog 27 #[.slice A n c, .slice A' n c'] w fun e w' => e = .returned (.bool true) ∧ Below w.heap.size w w' := by
  subst hl
  refine (equalB_any A A' c c' l l w B B' h h' (by omega) (by omega)).mono ?_
  rintro e w' ⟨rfl, hb⟩
  exact ⟨by simp, hb⟩

set_option maxRecDepth 100000 in
set_option maxHeartbeats 4000000 in
theorem awake_any (w : World) : Calls Try.prog 10 #[] w fun e w' => e = .returned (.bool true) ∧ Below w.heap.size w w' := by
  have C1 : Hid (∀ W, Calls Try.prog 13 #[.int .u8 0] W fun e w' => e = .returned (.int .u32 766669161) ∧ w' = W) := Lib.hid fun W => by
    have := Value_ok 0 W
    rw [ex_val] at this
    exact this
  have C2 : Hid (∀ W : World, Calls Try.prog 22 #[.slice (some ⟨W.heap.size, 0, none⟩) 5 5, .int .i64 3, .int .u32 0] (W.alloc (.cells #[.int .u8 9, .int .u8 9, .int .u8 9, .int .u8 9, .int .u8 9] 5)) fun e w' => ∃ A' c', e = .returned (.tuple #[.slice A' 3 c', .int .i64 0]) ∧ Sl i64 w' w'.heap.size A' [3, 4, 5] ∧ 3 ≤ c' ∧ c' ≤ maxLen ∧ Below (W.alloc (.cells #[.int .u8 9, .int .u8 9, .int .u8 9, .int .u8 9, .int .u8 9] 5)).heap.size (W.alloc (.cells #[.int .u8 9, .int .u8 9, .int .u8 9, .int .u8 9, .int .u8 9] 5)) w') := Lib.hid fun W => places_g (b := [9, 9, 9, 9, 9]) (k := 3) (m := 0#32) rfl (by decide) (by decide) (by decide) ex_places rfl (Sl.of_new rfl rfl)
  have C3 : Hid (∀ W, Calls Try.prog 11 #[.int .i64 2] W fun e w' => e = .returned (.tuple #[.agg #[.int .i64 2, .slice none 0 0, .int .u32 0], .int .i64 0]) ∧ Below W.heap.size W w') := Lib.hid fun W => New_ok 2 (by decide) (by decide) W
  go_enter Try.func10, Try.ntmps10
  go_wp2_with (first
    | (go_at_call 13; refine (C1.out _).mono ?_; rintro e w1 ⟨rfl, rfl⟩)
    | (go_at_call 22; refine (C2.out _).mono ?_; rintro e w2 ⟨A2, c2, rfl, t2, h2, h2', hb2⟩)
    | (go_at_call 11; refine (C3.out _).mono ?_; rintro e w3 ⟨rfl, hb3⟩))
  obtain ⟨B1, hB1⟩ : ∃ B1, B1 = w3.heap.size := ⟨_, rfl⟩
  have hbw : Below w1.heap.size w1 w3 := (((Below.refl _ w1).alloc (Nat.le_refl _) _).trans (hb2.mono (by simp))).trans (hb3.mono (by have := hb2.size; simp at this; omega))
  have t3 : Sl i64 w3 B1 A2 [3, 4, 5] := by rw [hB1]; exact t2.later hb3
  have hk : Blk (w3.alloc (.cells #[.int .i64 2, .slice none 0 0, .int .u32 0] 26)) B1 26 #[.int .i64 2, .slice none 0 0, .int .u32 0] := Blk.new' hB1 _ _
  have hbl : Below B1 w3 (w3.alloc (.cells #[.int .i64 2, .slice none 0 0, .int .u32 0] 26)) := by rw [hB1]; exact (Below.refl _ _).alloc (Nat.le_refl _) _
  have HB1 := Lib.hid hB1
  rw [← hB1]
  have hw0 : w1.heap.size ≤ B1 := by rw [hB1]; exact hbw.size
  clear hB1 t2 hb2 hb3 h2' C1 C2 C3
  go_loopw [5, 21] (fun ev iv wm => ∃ (q : Nat) (A' : Option Addr) (c' : Nat), q ≤ 3 ∧ iv = .int .i64 (q : Int) ∧ ev = .int .i64 0 ∧ Blk wm B1 26 #[.int .i64 2, .slice A' (nz q) c', .int .u32 (hz q)] ∧ Sl u8 wm wm.heap.size A' (zs q) ∧ nz q ≤ c' ∧ Below B1 w3 wm) (fun _ iv _ => 3 - (intOf iv).toNat)
  case atStart => exact ⟨0, none, 0, by omega, rfl, rfl, hk, Sl.nil, Nat.le_refl _, hbl⟩
  case round =>
    obtain ⟨q, A', c', hq, rfl, rfl, hkm, hS, hc, hB⟩ := hrel
    obtain ⟨j0, j1, j2, f0, f1, f2⟩ := three hkm
    by_cases hlt : q < 3
    · have C : Hid (∀ W, Below wr.heap.size wr W → Calls Try.prog 18 #[.agg #[.int .i64 2, .slice A' (nz q) c', .int .u32 (hz q)], .int .u8 0] W fun e w' => ∃ A' c', e = .returned (.tuple #[.agg #[.int .i64 2, .slice A' (nz (q + 1)) c', .int .u32 (hz (q + 1))], .int .i64 0]) ∧ Sl u8 w' w'.heap.size A' (zs (q + 1)) ∧ nz (q + 1) ≤ c' ∧ Below W.heap.size W w') := Lib.hid fun W hW => awake_roll q hlt W A' c' (hS.later hW) hc
      have hq3 : (q : Int) < 3 := by omega
      go_wp2_with (go_at_call 18; refine (C.out _ (Below.refl _ _)).mono ?_; rintro e w5 ⟨A5, c5, rfl, t5, h5, hb5⟩; have hk5 := (hkm.later hb5).alloc (.cells #[.int .i64 2, .slice A5 (nz (q + 1)) c5, .int .u32 (hz (q + 1))] 26); obtain ⟨k0, k1, k2, e0, e1, e2⟩ := three hk5; have hbn : ¬ B1 = w5.heap.size := Nat.ne_of_lt (hkm.later hb5).lt)
      have hzB : B1 ≤ wr.heap.size := by have := hB.size; have := HB1.out; omega
      have hB5 : Below B1 w3 w5 := hB.trans (hb5.mono hzB)
      go_roundw
      case rel => exact ⟨q + 1, A5, c5, by omega, by go_num, rfl, put3 hk5 _ _ _, (Sl.put3 (t5.alloc (Nat.le_refl _) _) (by intro x e; unfold u8 at e; cases e) hk5 _ _ _).lt, h5, put3_below (hB5.alloc (by have := hB5.size; have := HB1.out; omega) _) (Nat.le_refl _) _ _ _⟩
      case measure => simp [intOf]; omega
    · obtain rfl : q = 3 := by omega
      have e2 : hz 3 = 1993774011 := by
        show ((hsh [0, 0]).toNat : Int) = _
        rw [ex_hash]; rfl
      have e3 : nz 3 = 2 := rfl
      rw [e3, e2] at hkm
      rw [e3] at j1
      rw [e2] at j2
      have C4 : Hid (∀ W : World, Calls Try.prog 15 #[.slice (some ⟨W.heap.size, 0, none⟩) 2 2] (W.alloc (.cells #[.int .u8 0, .int .u8 0] 5)) fun e w' => e = .returned (.int .u32 1993774011) ∧ Below (W.alloc (.cells #[.int .u8 0, .int .u8 0] 5)).heap.size (W.alloc (.cells #[.int .u8 0, .int .u8 0] 5)) w') := Lib.hid fun W => by
        have := Hash_ok (some ⟨W.heap.size, 0, none⟩) 2 2 [0, 0] rfl (by decide) _ _ (Sl.of_new (w := W) (t := 5) rfl rfl)
        rw [ex_hash] at this
        exact this
      have C5 : Hid (∀ (W : World) A c, Sl i64 W W.heap.size A [3, 4, 5] → Calls Try.prog 24 #[.slice A 3 c, .slice (some ⟨W.heap.size, 0, none⟩) 3 3] (W.alloc (.cells #[.int .i64 3, .int .i64 4, .int .i64 5] 3)) fun e w' => e = .returned (.bool true) ∧ Below (W.alloc (.cells #[.int .i64 3, .int .i64 4, .int .i64 5] 3)).heap.size (W.alloc (.cells #[.int .i64 3, .int .i64 4, .int .i64 5] 3)) w') := Lib.hid fun W A c h => equalI_same (l := [3, 4, 5]) (n := 3) rfl (by omega) (h.alloc (Nat.le_refl _) _) (Sl.of_new (enc := i64) (l := [3, 4, 5]) rfl rfl)
      have x1 : bits .xor .u32 (2654435769 : Int) 81006 = 2654356951 := by decide +kernel
      have x2 : bits .xor .u32 (766713073 : Int) 93592 = 766669161 := by decide +kernel
      have x3 : bits .or .u32 (1533338322 : Int) 0 = 1533338322 := by decide +kernel
      have x4 : bits .xor .u32 (766669161 : Int) 1533338322 = 1993774011 := by decide +kernel
      have tS := (t3.below hB).more (by have := hB.size; have := HB1.out; omega : B1 ≤ wr.heap.size)
      have hb0 : Below w1.heap.size w1 wr := hbw.trans (hB.mono hw0)
      have hzr : w1.heap.size ≤ wr.heap.size := hb0.size
      clear e2 e3 hS hc hk hbl hB t3
      go_wp2_with (first
        | (go_at_call 15; refine (C4.out _).mono ?_; rintro e w6 ⟨rfl, hb6⟩; have tS6 := (tS.alloc (Nat.le_refl _) _).lt.later hb6; have hk6 := (hkm.alloc _).later hb6; obtain ⟨p0, p1, p2, _, _, _⟩ := three hk6)
        | (go_at_call 24; refine (C5.out _ _ _ tS6).mono ?_; rintro e w7 ⟨rfl, hb7⟩))
      go_ret
      have hb6' := bal hb0 hzr hb6
      exact ⟨rfl, bal hb6' (bz hb6' (Nat.le_refl _)) hb7⟩
end Go.Proofs.Ytlbghmocbklmdaa.H
