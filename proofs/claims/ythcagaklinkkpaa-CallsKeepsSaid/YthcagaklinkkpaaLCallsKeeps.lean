import Derived.Test.YthcagaklinkkpaaLCallsMeets
import Derived.Test.YthcagaklinkkpaaM40K
namespace Go.Proofs.Ythcagaklinkkpaa.E
set_option linter.unusedVariables false
open Go Go.RowKit Go.Shelf Go.Proofs.Ythcagaklinkkpaa Go.Proofs.Ythcagaklinkkpaa.W Go.Proofs.Ythcagaklinkkpaa.M Go.Proofs.Ythcagaklinkkpaa.B

def bv (b : Bool) : Value := .bool b
theorem infoB : (Try.prog.info? 4).map (fun i => (i.zero, i.size, i.bytes)) = some (some (.bool false), 1, 1) := by kernel_rfl
/-- What the last site may be. -/
def LastOk (S : List Nat) (j : Nat) (L : Int) : Prop := -5 ≤ L ∧ L ≤ 400 ∧ ∀ q, S[j]? = some q → L + 5 ≤ (q : Int)
theorem last0 (S : List Nat) : LastOk S 0 (-5) := ⟨by omega, by omega, fun q _ => by omega⟩
theorem lastS {b : Bs} {S : List Nat} (hS : scan b 0 = S) {j q : Nat} (hq : S[j]? = some q) (h4 : q ≤ 400) : LastOk S (j + 1) (q : Int) := ⟨by omega, by omega, fun p hp => by
  have := scan_apart b 0
  rw [hS, List.pairwise_iff_getElem] at this
  obtain ⟨h1, h2⟩ := List.getElem?_eq_some_iff.1 hq
  obtain ⟨h3, h4⟩ := List.getElem?_eq_some_iff.1 hp
  have := this j (j + 1) h1 h3 (by omega)
  omega⟩

theorem two_bytes {w : World} {B : Nat} {A : Option Addr} {l : Bs} (h : Sl u8 w B A l) {q n : Nat} (hl : l.length = n) (hq : q + 5 ≤ n) : ∃ b o, A = some ⟨b, o, none⟩ ∧
    w.cell? ⟨b, o + q, none⟩ = some (.int .u8 ((at_ l q).toNat : Int)) ∧ w.cell? ⟨b, o + (q + 4), none⟩ = some (.int .u8 ((at_ l (q + 4)).toNat : Int)) := by
  obtain ⟨b, o, rfl, _, hc⟩ := h.open_ (by omega)
  have key : ∀ j, j < n → w.cell? ⟨b, o + j, none⟩ = some (.int .u8 ((at_ l j).toNat : Int)) := fun j hj => by
    have hj' : j < l.length := by omega
    rw [hc j _ (List.getElem?_eq_getElem hj')]
    simp [u8, at_, hj']
  exact ⟨b, o, rfl, key q (by omega), key (q + 4) (by omega)⟩
/-- A byte of a string at a place below its length. -/
theorem one_byte {w : World} {B : Nat} {A : Option Addr} {l : Bs} (h : Sl u8 w B A l) {q n : Nat} (hl : l.length = n) (hq : q < n) : ∃ b o, ∃ x : UInt8, A = some ⟨b, o, none⟩ ∧ l[q]? = some x ∧ w.cell? ⟨b, o + q, none⟩ = some (.int .u8 (x.toNat : Int)) := by
  obtain ⟨b, o, x, e, _, hx, hc⟩ := h.byte (j := q) (by omega)
  exact ⟨b, o, x, e, hx, hc⟩
theorem own_bool {w : World} {base n c g : Nat} {ty : TypeId} {m : List Bool} (h : w.ownsRow base ty 1 (.slice (some ⟨g, 0, none⟩) n c) n (m.map bv)) {j : Nat} (hj : j < n) :
    ∃ x : Bool, m[j]? = some x ∧ w.cell? ⟨g, j, none⟩ = some (.bool x) := by
  have hl : m.length = n := by have := h.1; simpa using this
  refine ⟨m[j], List.getElem?_eq_getElem (by omega), ?_⟩
  rw [h.cellAt j (by omega), List.getElem?_map, List.getElem?_eq_getElem (by omega)]; rfl
theorem may_next {S : List Nat} {n j q : Nat} (hx : S[j]? = some q) : mayOf n (S.take (j + 1)) = M.mark (mayOf n (S.take j)) q := by
  unfold mayOf; rw [take_succ hx, List.foldl_append]; rfl
theorem may_store {w : World} {base n g j q : Nat} {ty : TypeId} {S : List Nat} (hx : mayOf n (S.take (j + 1)) = M.mark (mayOf n (S.take j)) q) (om : w.ownsRow base ty 1 (.slice (some ⟨g, 0, none⟩) n n) n ((mayOf n (S.take j)).map bv)) :
    (((w.setCell ⟨g, q + 1, none⟩ (.bool true)).setCell ⟨g, q + 2, none⟩ (.bool true)).setCell ⟨g, q + 3, none⟩ (.bool true)).ownsRow base ty 1 (.slice (some ⟨g, 0, none⟩) n n) n ((mayOf n (S.take (j + 1))).map bv) := by
  rw [hx, M.mark, List.map_set, List.map_set, List.map_set]
  exact (((om.stored (q + 1) (bv true)).1.stored (q + 2) (bv true)).1.stored (q + 3) (bv true)).1

set_option maxRecDepth 100000 in
set_option maxHeartbeats 4000000 in
theorem keeps_walk (A : Option Addr) (c : Nat) (b : Bs) (w : World) (h : Sl u8 w w.heap.size A b) (hc : b.length ≤ c) (hm : c ≤ maxLen) :
    Calls Try.prog 7 #[.slice A b.length c] w fun e w' => e = .returned (.bool true) ∧ Below w.heap.size w w' := by
  obtain ⟨i0, hi, hz0, hz1, hz2⟩ := info_parts infoB
  have hm' : b.length ≤ 9223372036854775807 := by unfold maxLen at hm; omega
  obtain ⟨n, hn⟩ : ∃ n, b.length = n := ⟨_, rfl⟩
  have HN := Lib.hid hn
  rw [hn] at hm' ⊢
  by_cases h4 : n > 400
  · have h4' : (400 : Int) < n := by omega
    clear hn h4 hc hm h
    go_enter Try.func7, Try.ntmps7
    go_wp2_with (go_at_call 11; refine (awake_any _).mono ?_; rintro e w4 ⟨rfl, hb4⟩)
    go_ret
    exact ⟨rfl, hb4⟩
  · have h4' : decide ((400 : Int) < n) = false := by rw [decide_eq_false_iff_not]; omega
    have H4 := Lib.hid (show n ≤ 400 by omega)
    have hn4 : n ≤ 65536 := by omega
    obtain ⟨X, hX⟩ : ∃ X, trans 1 b = X := ⟨_, rfl⟩
    obtain ⟨Y, hY⟩ : ∃ Y, trans (-1) b = Y := ⟨_, rfl⟩
    obtain ⟨S, hS⟩ : ∃ S, scan b 0 = S := ⟨_, rfl⟩
    obtain ⟨s, hs⟩ : ∃ s, S.length = s := ⟨_, rfl⟩
    have hXl : X.length = n := by rw [← hX, trans_length, hn]
    have hYl : Y.length = n := by rw [← hY, trans_length, hn]
    have hXs : scan X 0 = S := by rw [← hX, scan_trans, hS]
    have hYs : scan Y 0 = S := by rw [← hY, scan_trans, hS]
    have hsn : s ≤ 65536 := by have := scan_le b; rw [hS, hs, hn] at this; omega
    have D1 := Lib.hid (sites_g (c := c) hn hn4 hS hs h)
    have D2 : Hid (∀ W, Below w.heap.size w W → Gives 12 A n c W X n 0) := Lib.hid fun W hW => forward_g hn hn4 hX (h.below hW)
    have D3 : Hid (∀ W, Below w.heap.size w W → Gives 18 A n c W Y n 0) := Lib.hid fun W hW => inverse_g hn hn4 hY (h.below hW)
    have D4 : Hid (∀ W A c, Sl u8 W W.heap.size A X → GivesI 15 A n c W S s 0) := Lib.hid fun W A c hq => sites_g hXl hn4 hXs hs hq
    have D5 : Hid (∀ W A c, Sl u8 W W.heap.size A Y → GivesI 15 A n c W S s 0) := Lib.hid fun W A c hq => sites_g hYl hn4 hYs hs hq
    have HS := Lib.hid hs
    have HSb : Hid (scan b 0 = S) := Lib.hid hS
    have HXY : Hid (X.length = n ∧ Y.length = n ∧ trans 1 b = X ∧ trans (-1) b = Y) := Lib.hid ⟨hXl, hYl, hX, hY⟩
    clear hX hY hS hs hXl hYl hXs hYs hn h4 hc hm hm'
    go_enter Try.func7, Try.ntmps7
    go_wp2_with (first
      | (go_at_call 15; refine D1.out.mono ?_; clear D1; rintro e w1 ⟨A1, c1, rfl, t1, _, _, hb⟩)
      | (go_at_call 12; refine (D2.out _ hb).mono ?_; clear D2; rintro e w2 ⟨A2, c2, rfl, t2, _, _, hb2⟩; have t1 := t1.later hb2; have hb := bsa hb hb.size hb2; clear hb2)
      | (go_at_call 18; refine (D3.out _ hb).mono ?_; clear D3; rintro e w3 ⟨A3, c3, rfl, t3, _, _, hb3⟩; have t1 := t1.later hb3; have t2 := t2.later hb3; have hb := bsa hb hb.size hb3; clear hb3)
      | (go_at_call 15; refine (D4.out _ _ _ t2).mono ?_; clear D4; rintro e w4 ⟨A4, c4, rfl, t4, _, _, hb4⟩; have t1 := t1.later hb4; have t2 := t2.later hb4; have t3 := t3.later hb4; have hb := bsa hb hb.size hb4; clear hb4)
      | (go_at_call 15; refine (D5.out _ _ _ t3).mono ?_; clear D5; rintro e w5 ⟨A5, c5, rfl, t5, _, _, hb5⟩; have t1 := t1.later hb5; have t2 := t2.later hb5; have t3 := t3.later hb5; have t4 := t4.later hb5; have hb := bsa hb hb.size hb5; clear hb5)
      | (go_at_call 17; refine (equalI_same HS.out (by omega) t1 t4).mono ?_; clear t4; rintro e w6 ⟨rfl, hb6⟩; have t1 := t1.later hb6; have t2 := t2.later hb6; have t3 := t3.later hb6; have t5 := t5.later hb6; have hb := bsa hb hb.size hb6; clear hb6)
      | (go_at_call 17; refine (equalI_same HS.out (by omega) t1 t5).mono ?_; clear t5; rintro e w7 ⟨rfl, hb7⟩; have t1 := t1.later hb7; have t2 := t2.later hb7; have t3 := t3.later hb7; have hb := bsa hb hb.size hb7; clear hb7)
      | (at_make; refine wpList_make_full _ rfl _ _ 37 rfl w7.heap.size 4 i0 (.bool false) 1 Try.underlying37 hi hz0 hz1 .i64 .i64 _ _ n rfl rfl rfl rfl (by rw [hz2]; omega) (by unfold maxLen; omega) (Nat.le_refl _) ?_; intro w8 o8 g8; rw [show (madeCells (Value.bool false).cells (n * 1)).toList = (mayOf n (S.take 0)).map bv from (toList_madeCells_one _ _).trans (by simp [mayOf, bv])] at o8; have hbm : Below w7.heap.size w7 w8 := (Below.refl _ _).grown g8 (Nat.le_refl _) (fun k hk => by cases hk)))
    go_loopw [14, 16, 88] (fun lv _ jv W => ∃ (j : Nat) (L : Int), j ≤ s ∧ jv = .int .i64 j ∧ lv = .int .i64 L ∧ Hid (LastOk S j L) ∧ W.ownsRow w7.heap.size 4 1 (.slice (some ⟨w7.heap.size, 0, none⟩) n n) n ((mayOf n (S.take j)).map bv) ∧ Below w7.heap.size w7 W)
      (fun _ _ jv _ => s - (intOf jv).toNat)
    case atStart => exact ⟨0, -5, Nat.zero_le _, rfl, rfl, Lib.hid (last0 S), o8, hbm⟩
    case round =>
      obtain ⟨j, L, hj, rfl, rfl, HL, om, hB⟩ := hrel
      by_cases hlt : j < s
      · obtain ⟨bs, os, q, rfl, _, hx, hcq⟩ := (t1.below hB).at_ (j := j) (by rw [HS.out]; exact hlt)
        replace hcq : wr.cell? ⟨bs, os + j, none⟩ = some (.int .i64 (q : Int)) := hcq
        obtain ⟨hb1, hb2, hq5⟩ := scan_byte (b := b) (x := q) (by rw [HSb.out]; exact List.mem_of_getElem? hx)
        rw [HN.out] at hq5
        have hnext := Lib.hid (may_next (n := n) hx)
        have hlast := Lib.hid (lastS HSb.out hx (by have := H4.out; omega))
        obtain ⟨hL1, hL2, hL3⟩ := HL.out
        have hL5 := hL3 q hx
        obtain ⟨ba, oa, rfl, g0, g4⟩ := two_bytes (h.below (hb.trans (hB.mono hb.size))) HN.out hq5
        obtain ⟨m1, _, d1⟩ := own_bool om (j := q + 1) (by omega)
        obtain ⟨m2, _, d2⟩ := own_bool om (j := q + 2) (by omega)
        obtain ⟨m3, _, d3⟩ := own_bool om (j := q + 3) (by omega)
        have f1 := om.frozenAt (q + 1)
        have f2 := om.frozenAt (q + 2)
        have f3 := om.frozenAt (q + 3)
        have hq4 : q + 4 < n := by omega
        clear hx hL3
        rcases hb1 with e0 | e0 <;> rcases hb2 with e4 | e4 <;> rw [e0] at g0 <;> rw [e4] at g4
        all_goals
          clear e0 e4
          first | replace g0 : wr.cell? ⟨ba, oa + q, none⟩ = some (.int .u8 232) := g0 | replace g0 : wr.cell? ⟨ba, oa + q, none⟩ = some (.int .u8 233) := g0
          first | replace g4 : wr.cell? ⟨ba, oa + (q + 4), none⟩ = some (.int .u8 0) := g4 | replace g4 : wr.cell? ⟨ba, oa + (q + 4), none⟩ = some (.int .u8 255) := g4
          go_wp2
          go_roundw
          case rel => exact ⟨j + 1, q, by omega, by go_num, rfl, hlast, may_store hnext.out om, ((hB.setCell (p := ⟨w7.heap.size, q + 1, none⟩) (Nat.le_refl _) _).setCell (p := ⟨w7.heap.size, q + 2, none⟩) (Nat.le_refl _) _).setCell (p := ⟨w7.heap.size, q + 3, none⟩) (Nat.le_refl _) _⟩
          case measure => simp [intOf]; omega
      · obtain ⟨wo, rfl⟩ : ∃ wo : World, wo = wr := ⟨_, rfl⟩
        obtain rfl : j = s := by omega
        have htk : S.take j = S := List.take_of_length_le (by rw [HS.out]; exact Nat.le_refl _)
        rw [htk] at om
        have HK : Hid (∀ p, (mayOf n S)[p]? = some false → X[p]? = b[p]? ∧ Y[p]? = b[p]?) := Lib.hid fun p hp => by
          obtain ⟨_, _, hX, hY⟩ := HXY.out
          rw [← HSb.out] at hp
          exact ⟨by rw [← hX]; exact trans_other hp, by rw [← hY]; exact trans_other hp⟩
        obtain ⟨MM, hMM⟩ : ∃ MM, MM = mayOf n S := ⟨_, rfl⟩
        rw [← hMM] at om HK
        have hB0 := hb.trans (hB.mono hb.size)
        have hX := t2.below hB
        have hY := t3.below hB
        have hb0 := h.below hB0
        clear hMM htk hlt HL
        go_wp2
        go_loopw [17, 149] (fun _ pv W => ∃ p : Nat, p ≤ n ∧ pv = .int .i64 p ∧ (∀ a : Addr, W.cell? a = wo.cell? a) ∧ Below w.heap.size w W) (fun _ pv _ => n - (intOf pv).toNat)
        case atStart => exact ⟨0, Nat.zero_le _, rfl, fun _ => rfl, hB0⟩
        case round =>
          obtain ⟨p, hp, rfl, hW, hB2⟩ := hrel
          have HW := Lib.hid hW
          by_cases hlt : p < n
          · obtain ⟨ba, oa, x, rfl, ex, cx⟩ := one_byte hb0 HN.out hlt
            obtain ⟨b2, o2, y, rfl, ey, cy⟩ := one_byte hX HXY.out.1 hlt
            obtain ⟨b3, o3, z, rfl, ez, cz⟩ := one_byte hY HXY.out.2.1 hlt
            obtain ⟨m, em, cm⟩ := own_bool om hlt
            rw [← hW] at cx cy cz cm
            have hdr : Hid (∀ k, (∀ a : Addr, (wr.drewN k).cell? a = wo.cell? a)) := Lib.hid fun k a => HW.out a
            cases m with
            | true =>
              clear ex ey ez em hW
              go_wp2_with fail
              go_quiet (fail)
              go_wp2
              go_roundw
              case rel => exact ⟨p + 1, by omega, by go_num, hdr.out _, below_drewN hB2 _⟩
              case measure => simp [intOf]; omega
            | false =>
              obtain ⟨e1, e2⟩ := HK.out p em
              obtain rfl : y = x := by rw [ex, ey] at e1; injection e1
              obtain rfl : z = y := by rw [ex, ez] at e2; injection e2
              clear ex ey ez em hW e1 e2
              go_wp2_with fail
              go_quiet (fail)
              go_wp2
              go_roundw
              case rel => exact ⟨p + 1, by omega, by go_num, hdr.out _, below_drewN hB2 _⟩
              case measure => simp [intOf]; omega
          · obtain rfl : p = n := by omega
            clear hW
            go_wp2_with (go_at_call 11; refine (awake_any _).mono ?_; rintro e w9 ⟨rfl, hb9⟩)
            go_ret
            exact ⟨rfl, bsa hB2 hB2.size hb9⟩
end Go.Proofs.Ythcagaklinkkpaa.E
