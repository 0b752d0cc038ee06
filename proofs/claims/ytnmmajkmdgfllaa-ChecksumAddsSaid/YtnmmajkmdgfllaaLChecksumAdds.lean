import Derived.Test.YtnmmajkmdgfllaaC7
import Derived.Deep.RegionWith
import Derived.Deep.RegionHeld3
import Derived.Sort.AtCall
namespace Go.Proofs.Ytnmmajkmdgfllaa.C
set_option linter.unusedVariables false
open Go Go.RowKit Go.Shelf Go.Proofs.Ytnmmajkmdgfllaa Go.Proofs.Ytnmmajkmdgfllaa.W Go.Proofs.Ytnmmajkmdgfllaa.M Go.Proofs.Ytnmmajkmdgfllaa.B

def mn (a b : Int) : Int := if b < a then b else a
theorem run_min4 {P : Program} (w : World) (ts : Array TypeId) (t : TypeId) (a b c d : Int) : (Builtin.min_ ts t #[.int .i64 a, .int .i64 b, .int .i64 c, .int .i64 d]).run P w = .ok (.int .i64 (mn (mn (mn a b) c) d)) w := by
  simp only [mn]
  by_cases h1 : b < a <;> simp only [h1, if_true, if_false] <;> split <;> split <;> simp_all [Builtin.min_, Builtin.min2] <;> omega
theorem mn_nat (a b c d : Nat) : ∃ n : Nat, mn (mn (mn (a : Int) b) c) d = (n : Int) ∧ n ≤ a ∧ n ≤ b ∧ n ≤ c ∧ n ≤ d := by
  have key : ∀ p q : Nat, ∃ r : Nat, mn (p : Int) q = (r : Int) ∧ r ≤ p ∧ r ≤ q := fun p q => by
    unfold mn
    by_cases h : (q : Int) < p
    · exact ⟨q, if_pos h, by omega, by omega⟩
    · exact ⟨p, if_neg h, by omega, by omega⟩
  obtain ⟨r, e1, h1, h2⟩ := key a b
  obtain ⟨s, e2, h3, h4⟩ := key r c
  obtain ⟨t, e3, h5, h6⟩ := key s d
  exact ⟨t, by rw [e1, e2, e3], by omega, by omega, by omega, by omega⟩

set_option maxRecDepth 100000 in
set_option maxHeartbeats 1000000 in
theorem adds_walk (A1 : Option Addr) (c1 : Nat) (x : List UInt8) (A2 : Option Addr) (c2 : Nat) (y : List UInt8) (A3 : Option Addr) (c3 : Nat) (z : List UInt8) (w : World)
    (hx : Sl u8 w w.heap.size A1 x) (hc1 : x.length ≤ c1) (hm1 : c1 ≤ maxLen) (hy : Sl u8 w w.heap.size A2 y) (hc2 : y.length ≤ c2) (hm2 : c2 ≤ maxLen) (hz : Sl u8 w w.heap.size A3 z) (hc3 : z.length ≤ c3) (hm3 : c3 ≤ maxLen) :
    Calls Try.prog 6 #[.slice A1 x.length c1, .slice A2 y.length c2, .slice A3 z.length c3] w fun e w' => e = .returned (.bool true) ∧ Below w.heap.size w w' := by
  unfold maxLen at hm1 hm2 hm3
  obtain ⟨n, hn, h1, h2, h3, h4⟩ := mn_nat x.length y.length z.length 2000
  have hmin : ∀ w, (Builtin.min_ #[3, 3, 3, 3] 3 #[.int .i64 (x.length : Int), .int .i64 (y.length : Int), .int .i64 (z.length : Int), .int .i64 2000]).run Try.prog w = .ok (.int .i64 (n : Int)) w := fun w => by rw [run_min4, ← hn]; rfl
  clear hn
  obtain ⟨i0, hi, hz0, hz1, hz2⟩ := info_parts info5
  obtain ⟨s, hs⟩ : ∃ s, s = bxor (bxor (x.take n) (y.take n)) (z.take n) := ⟨_, rfl⟩
  have hsl : s.length = n := by rw [hs]; simp [bxor]; omega
  have HS := Lib.hid hs
  have HSL := Lib.hid hsl
  go_enter Try.func6, Try.ntmps6
  go_wp2_with fail
  clear hmin
  go_loopw [8, 9] (fun v i W => ∃ k : Nat, k ≤ n ∧ i = .int .i64 k ∧ W.ownsRow w.heap.size 5 1 v k ((s.take k).map u8) ∧ Below w.heap.size w W) (fun _ i _ => n - (intOf i).toNat)
  case atStart => exact ⟨0, Nat.zero_le _, rfl, World.ownsRow_nil _ _ _ _, Below.refl _ _⟩
  case round =>
    obtain ⟨k, hk, rfl, hown, hb⟩ := hrel
    have hsz := hb.size
    by_cases hlt : k < n
    · obtain ⟨b1, o1, p, rfl, hbl1, hp, hcp⟩ := (hx.below hb).byte (j := k) (by omega)
      obtain ⟨b2, o2, q, rfl, hbl2, hq, hcq⟩ := (hy.below hb).byte (j := k) (by omega)
      obtain ⟨b3, o3, r, rfl, hbl3, hr, hcr⟩ := (hz.below hb).byte (j := k) (by omega)
      obtain ⟨u, hu⟩ : ∃ u, u = p ^^^ q := ⟨_, rfl⟩
      obtain ⟨v1, hv1⟩ : ∃ v, v = u ^^^ r := ⟨_, rfl⟩
      have e1 := xor_u8 p q
      have e2 := xor_u8 u r
      rw [← hu] at e1
      rw [← hv1] at e2
      have hsk : s[k]? = some v1 := by
        rw [hs, hv1, hu]
        simp only [bxor, List.getElem?_zipWith, List.getElem?_take, if_pos hlt, hp, hq, hr]
      have HT := Lib.hid (take_succ hsk)
      have j1 : (k : Int) < (x.length : Int) := by omega
      have j2 : (k : Int) < (y.length : Int) := by omega
      have j3 : (k : Int) < (z.length : Int) := by omega
      clear hp hq hr hu hv1 hsk hs hsl
      go_wp2_with fail
      go_region_held3 (fun w' => w'.cell? ⟨b1, o1 + k, none⟩ = some (.int .u8 (p.toNat : Int)) ∧ w'.cell? ⟨b2, o2 + k, none⟩ = some (.int .u8 (q.toNat : Int)) ∧ w'.cell? ⟨b3, o3 + k, none⟩ = some (.int .u8 (r.toNat : Int)))
        (first
        | go_keep
        | exact ⟨(hgrow.cell_far _ (by simp; omega) (fun e => by have := (hown.lt _ e.symm).1; simp at this; omega)).trans ((World.cell?_alloc_lt wr _ _ (by simp; omega)).trans hcp), (hgrow.cell_far _ (by simp; omega) (fun e => by have := (hown.lt _ e.symm).1; simp at this; omega)).trans ((World.cell?_alloc_lt wr _ _ (by simp; omega)).trans hcq), (hgrow.cell_far _ (by simp; omega) (fun e => by have := (hown.lt _ e.symm).1; simp at this; omega)).trans ((World.cell?_alloc_lt wr _ _ (by simp; omega)).trans hcr)⟩)
        (first
        | (refine step_append_lies _ (by rfl) _ _ _ (by rfl) w.heap.size 5 i0 (.int .u8 0) 1 1 Try.underlying26 hi hz0 hz1 hz2 rfl (by decide) _ k _ (by rfl) (hown.alloc _).drew ⟨wr.heap.size, 0, none⟩ 1 1 [.int .u8 (v1.toNat : Int)] (by rfl) (by rfl) (cell_one_new _ _ _) (by simp [Value.oneCell']) (by decide) (by unfold maxLen; omega) (by omega) (by simp; omega) (wr.heap.size + 1) (by simp) ?_; intro gg cap w1 hown1 hgrow hat hlt1))
      clear e1 e2 j1 j2 j3
      have hb1 : Below w.heap.size w w1 := ((hb.alloc hsz _).drew).grown hgrow (by simp; omega) (fun j e => (hown.lt j e).1)
      go_wp2
      go_roundw
      case rel => exact ⟨k + 1, by omega, by go_num, by rw [HT.out, List.map_append]; exact hown1, hb1⟩
      case measure => simp [intOf]; omega
    · obtain rfl : k = n := by omega
      rw [List.take_of_length_le (Nat.le_of_eq HSL.out)] at hown
      clear hs hsl
      obtain ⟨Aa, ca, rfl, _, _⟩ := own_form hown
      have sa := Sl.of_own hown
      have lx : (x.take k).length = k := by simp; omega
      have ly : (y.take k).length = k := by simp; omega
      have lz : (z.take k).length = k := by simp; omega
      have hadd : crc s = crc (x.take k) ^^^ crc (y.take k) ^^^ crc (z.take k) := by rw [HS.out]; exact crc_adds _ _ _ (lx.trans ly.symm) (ly.trans lz.symm)
      obtain ⟨rx, hrx⟩ : ∃ r, r = crc (x.take k) := ⟨_, rfl⟩
      obtain ⟨ry, hry⟩ : ∃ r, r = crc (y.take k) := ⟨_, rfl⟩
      obtain ⟨rz, hrz⟩ : ∃ r, r = crc (z.take k) := ⟨_, rfl⟩
      obtain ⟨ra, hra⟩ : ∃ r, r = crc s := ⟨_, rfl⟩
      rw [← hrx, ← hry, ← hrz, ← hra] at hadd
      have f1 := bits_xor rx ry
      obtain ⟨t, ht⟩ : ∃ t, t = rx ^^^ ry := ⟨_, rfl⟩
      rw [← ht] at f1 hadd
      have f2 := bits_xor t rz
      rw [← hadd] at f2
      have D0 := Lib.hid fun (W : World) (hS : Below wr.heap.size wr W) => sum_ok Aa ca k s HSL.out (by omega) (ra.toNat : Int) (by rw [hra]) W _ (sa.below hS)
      have D1 := Lib.hid fun (W : World) (hS : Below w.heap.size w W) => sum_ok A1 c1 k (x.take k) lx (by omega) (rx.toNat : Int) (by rw [hrx]) W _ ((hx.below hS).take k)
      have D2 := Lib.hid fun (W : World) (hS : Below w.heap.size w W) => sum_ok A2 c2 k (y.take k) ly (by omega) (ry.toNat : Int) (by rw [hry]) W _ ((hy.below hS).take k)
      have D3 := Lib.hid fun (W : World) (hS : Below w.heap.size w W) => sum_ok A3 c3 k (z.take k) lz (by omega) (rz.toNat : Int) (by rw [hrz]) W _ ((hz.below hS).take k)
      have g1 : k ≤ c1 := by omega
      have g2 : k ≤ c2 := by omega
      have g3 : k ≤ c3 := by omega
      clear hadd hrx hry hrz hra ht lx ly lz hown
      go_wp2_with fail
      have hK : Below wr.heap.size wr wr.drew := (Below.refl _ _).drew
      have hH : Below w.heap.size w wr.drew := hb.drew
      go_region_held3 (fun W => Below w.heap.size w W)
        (exact hH)
        (first
        | (go_at_call 9; refine (awake_any _).mono ?_; rintro e w1 ⟨rfl, hb1⟩; have hH := bs hH hb1; have hK := bs hK hb1)
        | (go_at_call_has 12 c1; refine (D1.out _ hH).mono ?_; rintro e w2 ⟨rfl, hb2⟩; have hH := bs hH hb2; have hK := bs hK hb2)
        | (go_at_call_has 12 c2; refine (D2.out _ hH).mono ?_; rintro e w3 ⟨rfl, hb3⟩; have hH := bs hH hb3; have hK := bs hK hb3)
        | (go_at_call_has 12 c3; refine (D3.out _ hH).mono ?_; rintro e w4 ⟨rfl, hb4⟩; have hH := bs hH hb4; have hK := bs hK hb4)
        | (go_at_call 12; refine (D0.out _ hK).mono ?_; rintro e w5 ⟨rfl, hb5⟩; have hH := bs hH hb5; have hK := bs hK hb5))
      all_goals go_wp2
      all_goals go_ret
      all_goals exact ⟨by simp, hH⟩
end Go.Proofs.Ytnmmajkmdgfllaa.C
