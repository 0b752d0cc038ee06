import Derived.Test.YtgaifkjdaldmnaaF9
import Derived.Deep.QuietTactic
import Derived.BigQuiet
namespace Go.Proofs.Ytgaifkjdaldmnaa.F
set_option linter.unusedVariables false
open Go Go.RowKit Go.Proofs.Ytgaifkjdaldmnaa Go.Proofs.Ytgaifkjdaldmnaa.W Go.Proofs.Ytgaifkjdaldmnaa.M Go.Proofs.Ytgaifkjdaldmnaa.B

def bv (b : Bool) : Value := .bool b
/-- Which bytes have been seen. -/
def seenOf (l : Bs) : List Bool := (List.range 256).map fun i => decide (UInt8.ofNat i ∈ l)
theorem seenOf_at (l : Bs) (x : UInt8) : (seenOf l)[x.toNat]? = some (decide (x ∈ l)) := by
  have := x.toNat_lt
  simp [seenOf, this]
theorem seenOf_len (l : Bs) : (seenOf l).length = 256 := by simp [seenOf]
theorem seenOf_snoc (l : Bs) (x : UInt8) : (seenOf l).set x.toNat true = seenOf (l ++ [x]) := by
  apply List.ext_getElem?
  intro i
  rw [List.getElem?_set, seenOf_len]
  have hx := x.toNat_lt
  by_cases h : x.toNat = i
  · subst h
    rw [if_pos rfl, if_pos hx]
    rw [seenOf_at]; simp
  · rw [if_neg h]
    by_cases hi : i < 256
    · have e : UInt8.ofNat i ≠ x := fun e => h (by rw [← e, UInt8.toNat_ofNat']; omega)
      simp [seenOf, hi, e]
    · simp [seenOf, hi]
theorem zero_seen : ∃ Z : Array Value, (∀ w, (zeroValue 33).run Try.prog w = .ok (.agg Z) w) ∧ Z = Array.replicate 256 (.bool false) :=
  ⟨_, fun w => by kernel_rfl, rfl⟩
theorem seen_nil : (seenOf []).map bv = List.replicate 256 (.bool false) := by
  have : seenOf [] = List.replicate 256 false := by decide +kernel
  rw [this, List.map_replicate]; rfl
def Seen (w : World) (g : Nat) (l : Bs) : Prop := Blk w g 33 ((seenOf l).map bv).toArray
theorem Seen.cell {w : World} {g : Nat} {l : Bs} (h : Seen w g l) (x : UInt8) : w.cell? ⟨g, x.toNat, none⟩ = some (.bool (decide (x ∈ l))) := by
  rw [Blk.cell h x.toNat]
  have := seenOf_at l x
  simp [bv, this]
theorem Seen.next {w : World} {g : Nat} {l : Bs} (h : Seen w g l) (x : UInt8) : Seen (w.setCell ⟨g, x.toNat, none⟩ (.bool true)) g (l ++ [x]) := by
  have := Blk.store h x.toNat (.bool true)
  unfold Seen
  rw [← seenOf_snoc, List.map_set]
  simpa [bv] using this

set_option maxRecDepth 100000 in
set_option maxHeartbeats 4000000 in
theorem lists_walk (A : Option Addr) (c : Nat) (b : Bs) (nx : UInt8) (w : World) (h : Sl u8 w w.heap.size A b) (hc : b.length ≤ c) (hm : c ≤ maxLen) :
    Calls Try.prog 5 #[.slice A b.length c, .int .u8 (nx.toNat : Int)] w fun e w' => e = .returned (.bool true) ∧ Below w.heap.size w w' := by
  obtain ⟨i0, hi, hz0, hz1, hz2⟩ := info_parts info5
  obtain ⟨Z, hz, hZ⟩ := zero_seen
  have HZ := Lib.hid hZ
  clear hZ
  have hm' : b.length ≤ 9223372036854775807 := by unfold maxLen at hm; omega
  obtain ⟨n, hn⟩ : ∃ n, b.length = n := ⟨_, rfl⟩
  have HN := Lib.hid hn
  rw [hn] at hm' ⊢
  by_cases h4 : n > 200
  · have h4' : (200 : Int) < n := by omega
    clear hn h4 hc hm h
    go_enter Try.func5, Try.ntmps5
    go_wp2_with (go_at_call 11; refine (awake_any _).mono ?_; rintro e w4 ⟨rfl, hb4⟩)
    go_ret
    exact ⟨rfl, hb4⟩
  · have h4' : decide ((200 : Int) < n) = false := by rw [decide_eq_false_iff_not]; omega
    have hn4 : n ≤ 65000 := by omega
    obtain ⟨F, hF⟩ : ∃ F, fin fresh b = F := ⟨_, rfl⟩
    have hFull : Full F := by rw [← hF]; exact fresh_full.fin b
    obtain ⟨X, hX⟩ : ∃ X, fwd fresh (b ++ [nx]) = X := ⟨_, rfl⟩
    have HX : Hid (X[n]? = some (place F nx)) := Lib.hid (by rw [← hX, fwd_snoc, hF, List.getElem?_append_right (by rw [fwd_length]; omega), fwd_length, hn, Nat.sub_self]; rfl)
    have HP : Hid (F.getD (place F nx).toNat 0 = nx) := Lib.hid (hFull.at_place nx)
    have HH : Hid (0 < n → ∃ y, b[n - 1]? = some y ∧ F[0]? = some y) := Lib.hid fun h0 => by
      obtain ⟨b', y, hb⟩ : ∃ b' y, b = b' ++ [y] := ⟨b.dropLast, b.getLast (by intro e; rw [e] at hn; simp at hn; omega), (List.dropLast_concat_getLast _).symm⟩
      refine ⟨y, ?_, ?_⟩
      · rw [hb] at hn ⊢
        rw [List.length_append, List.length_cons, List.length_nil] at hn
        rw [List.getElem?_append_right (by omega), show n - 1 - b'.length = 0 by omega]; rfl
      · rw [← hF, hb, fin_snoc]; rfl
    have HFl := Lib.hid hFull.len
    have HND : Hid (∀ j y, F[j]? = some y → decide (y ∈ F.take j) = false) := Lib.hid fun j y hy => by
      rw [decide_eq_false_iff_not]
      intro hmem
      obtain ⟨i, hiy⟩ := List.mem_iff_getElem?.1 hmem
      have hi' := (List.getElem?_eq_some_iff.1 hiy).1
      have hij : i < j := by simp at hi'; omega
      rw [List.getElem?_take, if_pos hij] at hiy
      have hp := List.pairwise_iff_getElem.1 (List.nodup_iff_pairwise_ne.1 hFull.nodup)
      obtain ⟨h1, h2⟩ := List.getElem?_eq_some_iff.1 hiy
      obtain ⟨h3, h4⟩ := List.getElem?_eq_some_iff.1 hy
      exact hp i j h1 h3 hij (by rw [h2, h4])
    have D1 := Lib.hid (front_g (c := c) hn (by omega) hF h)
    have D2 : Hid (∀ W A c, Sl u8 W W.heap.size A (b ++ [nx]) → Gives 16 A (n + 1) c W X (n + 1) 0) := Lib.hid fun W A c hs => forward_g (by rw [List.length_append, hn]; rfl) (by omega) hX hs
    have hSl := h
    clear hF hX hn h4 hc hm hm' h hFull
    have HO : Hid (∀ W : World, (W.alloc (.cells #[] 5)).ownsRow W.heap.size 5 1 (.slice (some ⟨W.heap.size, 0, none⟩) 0 0) 0 []) := Lib.hid fun W => World.ownsRow_made W #[] 0 (Nat.le_refl _) (by decide) rfl
    have hnn : ((n + 1 : Nat) : Int) = (n : Int) + 1 := by omega
    go_enter Try.func5, Try.ntmps5
    go_wp2_with (first
      | (go_at_call 15; refine D1.out.mono ?_; clear D1; rintro e w1 ⟨A1, c1, rfl, t1, hc1, _, hb⟩; have o1 := HO.out w1)
      | (at_builtin; refine wpList_append_sl _ u8_one' rfl _ _ 22 rfl w1.heap.size 5 i0 (.int .u8 0) 1 Try.underlying22 hi hz0 hz1 hz2 rfl (.slice (some ⟨w1.heap.size, 0, none⟩) 0 0) 0 [] rfl o1 _ A c b n rfl (hSl.below (hb.alloc hb.size _)) HN.out (by unfold maxLen; omega) (by omega) (by simp) ?_; intro v2 w2 o2 g2; have hb2 := ((Below.refl w1.heap.size w1).alloc (Nat.le_refl _) (.cells #[] 5)).grown g2 (by simp) (fun q hq => (o1.lt q hq).1); simp only [Nat.zero_add, List.nil_append] at o2; obtain ⟨A2, c2, rfl, _, _⟩ := own_form o2; clear o1 g2 HO)
      | (at_builtin; refine wpList_append_at _ u8_one' rfl _ _ 22 rfl w1.heap.size 5 i0 (.int .u8 0) 1 Try.underlying22 hi hz0 hz1 hz2 rfl (.slice A2 n c2) n _ rfl (o2.alloc _) _ _ 1 [nx] 1 rfl (Sl.of_new rfl rfl) rfl (by unfold maxLen; omega) (by omega) (by have := hb2.size; simp; omega) ?_; intro v3 w3 o3 g3 _; have hb3 := (hb2.alloc hb2.size _).grown g3 (by have := hb2.size; simp; omega) (fun j hj => (o2.lt j hj).1); rw [← List.map_append] at o3; obtain ⟨A3, c3, rfl, _, _⟩ := own_form o3; have t3 := Sl.of_own o3; clear o2 o3 g3 hb2)
      | (go_at_call 16; refine (D2.out _ _ _ t3).mono ?_; clear D2; rintro e w4 ⟨A4, c4, rfl, t4, hc4, _, hb4⟩; clear t3; have hb5 := bsa hb3 hb3.size hb4; have f4 := t1.below hb5; have hb := bsa hb hb.size hb5; have z4 := hb5.size; clear hb3 hb4 hb5 t1))
    clear hi hz0 hz1 hz2
    obtain ⟨b1, q1, rfl, hb1, hcs1⟩ := f4.open_ (by rw [HFl.out]; omega)
    obtain ⟨b4, q4, rfl, hb4, hcs4⟩ := t4.open_ (by have := (List.getElem?_eq_some_iff.1 HX.out).1; omega)
    have hb1' : b1 < w4.heap.size := Nat.lt_of_lt_of_le hb1 z4
    have HF1 : Hid (∀ W, Below w4.heap.size w4 W → ∀ j y, F[j]? = some y → W.cell? ⟨b1, q1 + j, none⟩ = some (.int .u8 (y.toNat : Int))) := Lib.hid fun W hW j y hy => by rw [hW.cell (p := ⟨b1, q1 + j, none⟩) hb1', hcs1 j y hy]; rfl
    have HX1 : Hid (∀ W, Below w4.heap.size w4 W → W.cell? ⟨b4, q4 + n, none⟩ = some (.int .u8 ((place F nx).toNat : Int))) := Lib.hid fun W hW => by rw [hW.cell (p := ⟨b4, q4 + n, none⟩) hb4, hcs4 n _ HX.out]; rfl
    have HPl : Hid (F[(place F nx).toNat]? = some nx) := Lib.hid (by
      have h1 := HP.out
      have h2 : (place F nx).toNat < F.length := by rw [HFl.out]; exact (place F nx).toNat_lt
      rw [List.getElem?_eq_getElem h2]
      rw [List.getD_eq_getElem?_getD, List.getElem?_eq_getElem h2] at h1
      exact congrArg some h1)
    have hA := (hSl.below hb)
    clear hcs1 hcs4 f4 t4 hSl HX HP hb1 hb1' hb4 z4
    by_cases h0 : 0 < n
    case' pos =>
      have h0' : decide ((0 : Int) < (n : Int)) = true := by rw [decide_eq_true_iff]; omega
      obtain ⟨y, hy1, hy2⟩ := HH.out h0
      obtain ⟨b0, q0, rfl, _, hcs0⟩ := hA.open_ (by rw [HN.out]; omega)
      have k1 := HF1.out w4 (Below.refl _ _) 0 y hy2
      have k0 := hcs0 (n - 1) _ hy1
      rw [u8_def] at k0
      rw [Nat.add_zero] at k1
      have hn1 : ((n : Int) - 1).toNat = n - 1 := by omega
      have hyl := lt256 y
      clear hcs0 hy1 hy2
      go_quiet (fail)
      clear k0 k1 hn1 hyl
      go_wp2_with fail
    case' neg =>
      have h0' : decide ((0 : Int) < (n : Int)) = false := by rw [decide_eq_false_iff_not]; omega
      go_quiet (fail)
      go_wp2_with fail
    all_goals
      obtain ⟨w5, hw5⟩ : ∃ w5, (w4.drewN nq).alloc (.cells Z 33) = w5 := ⟨_, rfl⟩
      have S5 : Seen w5 w4.heap.size [] := by
        rw [← hw5]
        unfold Seen
        rw [seen_nil, show ((List.replicate 256 (Value.bool false)).toArray : Array Value) = Z by rw [HZ.out]; rfl]
        exact Blk.new' rfl _ _
      have B5 : Below w4.heap.size w4 w5 := by rw [← hw5]; exact (below_drewN (Below.refl _ _) _).alloc (Nat.le_refl _) _
      rw [hw5]
      clear hw5 HH hA h0 h0' HN h4'
      go_loopw [11, 69] (fun _ jv wm => ∃ j : Nat, j ≤ 256 ∧ jv = .int .i64 (j : Int) ∧ Seen wm w4.heap.size (F.take j) ∧ Below w4.heap.size w4 wm) (fun _ jv _ => 256 - (intOf jv).toNat)
      case atStart => exact ⟨0, Nat.zero_le _, rfl, S5, B5⟩
      case round =>
        obtain ⟨j, hj, rfl, hS, hB⟩ := hrel
        by_cases hjd : j < 256
        · obtain ⟨x, hx⟩ : ∃ x, F[j]? = some x := ⟨F[j]'(by rw [HFl.out]; exact hjd), List.getElem?_eq_getElem _⟩
          have hcx := HF1.out wr hB j x hx
          have hxl := lt256 x
          have hcs := hS.cell x
          rw [HND.out j x hx] at hcs
          have hfro := Blk.frozen hS x.toNat
          have hS' := Lib.hid (hS.next x)
          have htk : Hid (F.take j ++ [x] = F.take (j + 1)) := Lib.hid (by rw [List.take_add_one, hx]; rfl)
          have hB' := hB.setCell (p := ⟨w4.heap.size, x.toNat, none⟩) (Nat.le_refl _) (.bool true)
          clear hx hS
          go_wp2
          go_roundw
          case rel => exact ⟨j + 1, by omega, by go_num, by rw [← htk.out]; exact hS'.out, hB'⟩
          case measure => simp [intOf]; omega
        · obtain rfl : j = 256 := by omega
          have k4 := HX1.out wr hB
          have k1 := HF1.out wr hB _ _ HPl.out
          have hpl := lt256 (place F nx)
          have hnl := lt256 nx
          go_wp2_with (go_at_call 11; refine (awake_any _).mono ?_; rintro e w9 ⟨rfl, hb9⟩)
          go_ret
          exact ⟨rfl, bsa (bsa hb hb.size hB) (Nat.le_trans hb.size hB.size) hb9⟩
end Go.Proofs.Ytgaifkjdaldmnaa.F
