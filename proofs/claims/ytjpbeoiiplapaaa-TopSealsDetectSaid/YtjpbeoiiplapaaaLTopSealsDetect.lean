import Derived.Test.YtjpbeoiiplapaaaWA
import Derived.Deep.RegionHeld3
import Derived.StillTailTactics
namespace Go.Proofs.Ytjpbeoiiplapaaa.C
set_option linter.unusedVariables false
set_option linter.unusedSimpArgs false
open Go Go.RowKit Go.Shelf Go.Proofs.Ytjpbeoiiplapaaa Go.Proofs.Ytjpbeoiiplapaaa.W Go.Proofs.Ytjpbeoiiplapaaa.M Go.Proofs.Ytjpbeoiiplapaaa.B

theorem two_of (vs : List UInt8) (h : vs.length = 2) : ∃ v0 v1, vs = [v0, v1] := by
  rcases vs with _ | ⟨v0, _ | ⟨v1, _ | ⟨v2, r⟩⟩⟩
  all_goals simp at h
  exact ⟨v0, v1, rfl⟩
theorem three_of (vs : List UInt8) (h : vs.length = 3) : ∃ v0 v1 v2, vs = [v0, v1, v2] := by
  rcases vs with _ | ⟨v0, _ | ⟨v1, _ | ⟨v2, _ | ⟨v3, r⟩⟩⟩⟩
  all_goals simp at h
  exact ⟨v0, v1, v2, rfl⟩

/-- The block behind an owned row of bytes. -/
theorem own_row {w : World} {base n c : Nat} {A : Option Addr} {l : Bs} (h : w.ownsRow base 5 1 (.slice A n c) n (l.map u8)) (hn : 0 < n) : ∃ (g : Nat) (cur : Array Value), A = some ⟨g, 0, none⟩ ∧ Blk w g 5 cur ∧ (∀ (j : Nat) (x : UInt8), l[j]? = some x → cur[j]? = some (u8 x)) ∧ n ≤ c ∧ c ≤ maxLen := by
  rcases h.2 with ⟨_, h0⟩ | ⟨g, cap, cur, hv, _, hg, hnc, hcm, _, ht⟩
  · omega
  · injection hv with hA _ hcc
    subst hcc
    refine ⟨g, cur, hA, hg, fun j x hx => ?_, hnc, hcm⟩
    have h2 : (l.map u8)[j]? = some (u8 x) := by rw [List.getElem?_map, hx]; rfl
    rw [← ht, List.getElem?_take] at h2
    split at h2
    · rw [← Array.getElem?_toList]; exact h2
    · cases h2
theorem set_cells {cur : Array Value} {l : Bs} {p j : Nat} {z x : UInt8} (h : ∀ (j : Nat) (x : UInt8), l[j]? = some x → cur[j]? = some (u8 x)) (hj : (l.set p z)[j]? = some x) : (cur.setIfInBounds p (.int .u8 (z.toNat : Int)))[j]? = some (u8 x) := by
  rw [List.getElem?_set] at hj
  rw [Array.getElem?_setIfInBounds]
  by_cases hpj : p = j
  · subst hpj
    rw [if_pos rfl] at hj
    split at hj
    · rename_i hp
      have h1 := h p l[p] (List.getElem?_eq_getElem hp)
      rw [if_pos rfl, if_pos (Array.getElem?_eq_some_iff.1 h1).1]
      injection hj with hj
      rw [hj]; rfl
    · cases hj
  · rw [if_neg hpj] at hj
    rw [if_neg hpj]
    exact h j x hj
set_option maxRecDepth 100000 in
set_option maxHeartbeats 4000000 in
theorem top_walk (A : Option Addr) (c : Nat) (b : List UInt8) (vs ds : List UInt8) (w : World) (h : Sl u8 w w.heap.size A b) (hc : b.length ≤ c) (hm : c ≤ maxLen) (hv : vs.length = 2) (hd : ds.length = 3) :
    Calls Try.prog 3 #[.slice A b.length c, .agg (vs.map u8).toArray, .agg (ds.map u8).toArray] w fun e w' => e = .returned (.bool true) ∧ Below w.heap.size w w' := by
  obtain ⟨v0, v1, rfl⟩ := two_of vs hv
  obtain ⟨d0, d1, d2, rfl⟩ := three_of ds hd
  have hmx : b.length ≤ 9223372036854775807 := by unfold maxLen at hm; omega
  obtain ⟨N, hn⟩ : ∃ n, b.length = n := ⟨_, rfl⟩
  rw [hn] at hc hmx ⊢
  clear hm hv hd
  show Calls _ _ #[_, .agg #[.int .u8 (v0.toNat : Int), .int .u8 (v1.toNat : Int)], .agg #[.int .u8 (d0.toNat : Int), .int .u8 (d1.toNat : Int), .int .u8 (d2.toNat : Int)]] _ _
  have hB0 : Below w.heap.size w ((w.alloc (.cells #[.int .u8 (v0.toNat : Int), .int .u8 (v1.toNat : Int)] 23)).alloc (.cells #[.int .u8 (d0.toNat : Int), .int .u8 (d1.toNat : Int), .int .u8 (d2.toNat : Int)] 24)) := ((Below.refl _ _).alloc (Nat.le_refl _) _).alloc (by simp) _
  have hv0 : Blk ((w.alloc (.cells #[.int .u8 (v0.toNat : Int), .int .u8 (v1.toNat : Int)] 23)).alloc (.cells #[.int .u8 (d0.toNat : Int), .int .u8 (d1.toNat : Int), .int .u8 (d2.toNat : Int)] 24)) w.heap.size 23 #[.int .u8 (v0.toNat : Int), .int .u8 (v1.toNat : Int)] := (Blk.new _ _ _).alloc _
  have hd0 : Blk ((w.alloc (.cells #[.int .u8 (v0.toNat : Int), .int .u8 (v1.toNat : Int)] 23)).alloc (.cells #[.int .u8 (d0.toNat : Int), .int .u8 (d1.toNat : Int), .int .u8 (d2.toNat : Int)] 24)) (w.heap.size + 1) 24 #[.int .u8 (d0.toNat : Int), .int .u8 (d1.toNat : Int), .int .u8 (d2.toNat : Int)] := Blk.new' (by simp) _ _
  have e2 := hd0.cell 2
  by_cases h5 : N > 200
  · have h5' : decide ((200 : Int) < (N : Int)) = true := by simp; omega
    clear hn h5
    go_enter Try.func3, Try.ntmps3
    go_wp2_with fail
    go_ret
    exact ⟨rfl, hB0⟩
  · have h5' : decide ((200 : Int) < (N : Int)) = false := by simp; omega
    by_cases hz : d2 = 0
    · subst hz
      clear hn h5
      go_enter Try.func3, Try.ntmps3
      go_wp2_with fail
      go_ret
      exact ⟨rfl, hB0⟩
    · have hz' : ((d2.toNat : Int) == 0) = false := by
        rw [beq_eq_false_iff_ne]
        intro e
        exact hz (UInt8.toNat_inj.1 (by rw [UInt8.toNat_zero]; omega))
      have hN2 : N ≤ 200 := by omega
      have C1 := Lib.hid (seal_ok A c N b hn (by omega) _ _ (h.later hB0))
      have HN := Lib.hid hn
      have hN4 : ((N : Int) + 4 != (N : Int) + 4) = false := by simp
      clear hn h5
      go_enter Try.func3, Try.ntmps3
      go_wp2_with (go_at_call 4; refine C1.out.mono ?_; clear C1; rintro e w2 ⟨A2, c2, rfl, o2, hb2⟩)
      have hv2 := hv0.later hb2
      have hd2 := hd0.later hb2
      have hB2 := bsa' hB0 hb2
      obtain ⟨g2, cur2, rfl, hg2, hcur2, hnc2, hcm2⟩ := own_row o2 (by omega)
      have hgd : g2 ≠ w.heap.size + 1 := by
        have := (o2.lt g2 rfl).1; simp at this; omega
      have k0 := hd2.cell 0
      have k1 := hd2.cell 1
      have k2 := hd2.cell 2
      obtain ⟨p, hp⟩ : ∃ p, (d0.toNat + 256 * d1.toNat) % (N + 4) = p := ⟨_, rfl⟩
      have hpl : p < N + 4 := by rw [← hp]; exact Nat.mod_lt _ (by omega)
      have hpi : ((d0.toNat : Int) + 256 * (d1.toNat : Int)) % ((N : Int) + 4) = (p : Int) := by rw [← hp, show (d0.toNat : Int) + 256 * (d1.toNat : Int) = ((d0.toNat + 256 * d1.toNat : Nat) : Int) by omega, show (N : Int) + 4 = ((N + 4 : Nat) : Int) by omega]; rfl
      have hpt : Int.tmod ((d0.toNat : Int) + 256 * (d1.toNat : Int)) ((N : Int) + 4) = (p : Int) := by rw [Int.tmod_eq_emod_of_nonneg (by omega)]; exact hpi
      obtain ⟨y, hy⟩ : ∃ y, (sealed b)[p]? = some y := ⟨_, List.getElem?_eq_getElem (by rw [sealed_length, HN.out]; exact hpl)⟩
      have ky : w2.cell? ⟨g2, p, none⟩ = some (.int .u8 (y.toNat : Int)) := by rw [hg2.cell]; exact hcur2 p y hy
      have hx := xor_u8 y d2
      obtain ⟨z, hzz⟩ : ∃ z, y ^^^ d2 = z := ⟨_, rfl⟩
      rw [hzz] at hx
      have fy := hg2.frozen p
      have hg3 : Blk (w2.drew.setCell ⟨g2, p, none⟩ (.int .u8 (z.toNat : Int))) g2 5 (cur2.setIfInBounds p (.int .u8 (z.toNat : Int))) := hg2.drew.store p _
      have hT3 : TS (w2.drew.setCell ⟨g2, p, none⟩ (.int .u8 (z.toNat : Int))) (some ⟨g2, 0, none⟩) ((sealed b).set p z) := TS.of_blk hg3 fun j x hj => by rw [Nat.zero_add]; exact set_cells hcur2 hj
      have hB3 : Below w.heap.size w (w2.drew.setCell ⟨g2, p, none⟩ (.int .u8 (z.toNat : Int))) := hB2.drew.setCell (p := ⟨g2, p, none⟩) (by have := (o2.lt g2 rfl).1; simp at this; show w.heap.size ≤ g2; omega) _
      have hv3 : Blk (w2.drew.setCell ⟨g2, p, none⟩ (.int .u8 (z.toNat : Int))) w.heap.size 23 #[.int .u8 (v0.toNat : Int), .int .u8 (v1.toNat : Int)] := hv2.drew.far (by have := (o2.lt g2 rfl).1; simp at this; show w.heap.size ≠ g2; omega) _
      have hd3 : Blk (w2.drew.setCell ⟨g2, p, none⟩ (.int .u8 (z.toNat : Int))) (w.heap.size + 1) 24 #[.int .u8 (d0.toNat : Int), .int .u8 (d1.toNat : Int), .int .u8 (d2.toNat : Int)] := hd2.drew.far (fun e => hgd e.symm) _
      have OP := Lib.hid (open_one b (by rw [HN.out]; omega) hy hz ((sealed b).set p z) (by rw [hzz]) (some ⟨g2, 0, none⟩) (N + 4) c2 (by rw [List.length_set, sealed_length, HN.out]) hnc2 hcm2 (w2.drew.setCell ⟨g2, p, none⟩ (.int .u8 (z.toNat : Int))) _ hT3.sl)
      have hb0 := d0.toNat_lt
      have hb1 := d1.toNat_lt
      have z0 : IntKind.i64.wrap (d0.toNat : Int) = (d0.toNat : Int) := by rw [IntKind.wrap_i64]; omega
      have z1 : IntKind.i64.wrap (d1.toNat : Int) = (d1.toNat : Int) := by rw [IntKind.wrap_i64]; omega
      have z2 : IntKind.i64.wrap (256 * (d1.toNat : Int)) = 256 * (d1.toNat : Int) := by rw [IntKind.wrap_i64]; omega
      have z3 : IntKind.i64.wrap ((d0.toNat : Int) + 256 * (d1.toNat : Int)) = (d0.toNat : Int) + 256 * (d1.toNat : Int) := by rw [IntKind.wrap_i64]; omega
      have z4 : ¬ ((N : Int) + 4 = 0) := by omega
      have z5 : (p : Int) < (N : Int) + 4 := by omega
      have z6 : IntKind.i64.wrap (p : Int) = (p : Int) := by rw [IntKind.wrap_i64]; omega
      clear hp
      go_still_tail 17, (by kernel_rfl)
      change wpList _ _ _ _ _ w2.drew
      have ky' : w2.drew.cell? ⟨g2, p, none⟩ = some (.int .u8 (y.toNat : Int)) := ky
      have fy' : w2.drew.frozen? ⟨g2, p, none⟩ = false := fy
      obtain ⟨w3, hw3⟩ : ∃ w3, w2.drew.setCell ⟨g2, p, none⟩ (.int .u8 (z.toNat : Int)) = w3 := ⟨_, rfl⟩
      rw [hw3] at hg3 hT3 hB3 hv3 hd3 OP
      clear hT3 hg3 ky fy hy k0 k1 k2 o2 hg2 hcur2 hv0 hd0 hv2 hd2 hB2 hb2 hB0 e2
      obtain ⟨q0, hq0⟩ : ∃ q0, v0.toNat % 4 = q0 := ⟨_, rfl⟩
      obtain ⟨r, hr⟩ : ∃ r, v1.toNat % 3 = r := ⟨_, rfl⟩
      have y0 : (v0.toNat : Int) % 4 = (q0 : Int) := by omega
      have y1 : (v1.toNat : Int) % 3 = (r : Int) := by omega
      have y0' : Int.tmod (v0.toNat : Int) 4 = (q0 : Int) := by rw [Int.tmod_eq_emod_of_nonneg (by omega)]; exact y0
      have y1' : Int.tmod (v1.toNat : Int) 3 = (r : Int) := by rw [Int.tmod_eq_emod_of_nonneg (by omega)]; exact y1
      have y2 : IntKind.u8.wrap (q0 : Int) = (q0 : Int) := by simp [IntKind.wrap, IntKind.signed, IntKind.bits]; omega
      have y3 : IntKind.u8.wrap (r : Int) = (r : Int) := by simp [IntKind.wrap, IntKind.signed, IntKind.bits]; omega
      have y4 : IntKind.i64.wrap (q0 : Int) = (q0 : Int) := by rw [IntKind.wrap_i64]; omega
      have y5 : IntKind.i64.wrap (r : Int) = (r : Int) := by rw [IntKind.wrap_i64]; omega
      obtain ⟨dd, hdd⟩ : ∃ dd, 1 + q0 = dd := ⟨_, rfl⟩
      have y6 : 1 + (q0 : Int) = (dd : Int) := by omega
      have y7 : IntKind.i64.wrap (dd : Int) = (dd : Int) := by rw [IntKind.wrap_i64]; omega
      obtain ⟨m, hm⟩ : ∃ m, dd + r = m := ⟨_, rfl⟩
      have SP : Hid (∀ W, Below w.heap.size w W → Calls Try.prog 6 #[.slice A N c, .int .i64 (dd : Int), .int .i64 (r : Int)] W fun e w' => ∃ (A' : Option Addr) (c' : Nat) (ps : List Part), e = .returned (.tuple #[.slice A' m c', .int .i64 0]) ∧ ps.length = m ∧ Sl pv w' w'.heap.size A' ps ∧ Vols w' ps ∧ Below W.heap.size W w') := Lib.hid fun W hW => by
        have := split_ok A N c dd r b HN.out (by omega) (by omega) (by omega) (by omega) W (h.later hW)
        rw [hm] at this
        exact this
      have hm0 : ((m : Int) == 0) = false := by rw [beq_eq_false_iff_ne]; omega
      have hmz : ¬ (m : Int) = 0 := by omega
      obtain ⟨q, hq⟩ : ∃ q, d1.toNat % m = q := ⟨_, rfl⟩
      have hqm : q < m := by rw [← hq]; exact Nat.mod_lt _ (by omega)
      have x0 : (d1.toNat : Int) % (m : Int) = (q : Int) := by rw [← hq]; rfl
      have x1 : Int.tmod (d1.toNat : Int) (m : Int) = (q : Int) := by rw [Int.tmod_eq_emod_of_nonneg (by omega)]; exact x0
      have x2 : IntKind.i64.wrap (q : Int) = (q : Int) := by rw [IntKind.wrap_i64]; omega
      have x3 : (q : Int) < (m : Int) := by omega
      clear hq hdd hm hq0 hr hx hzz
      obtain ⟨i0, hi, hz0, hz1, hz2⟩ := info_parts info5
      go_wp2_with (first
        | (go_at_call 5; refine OP.out.mono ?_; clear OP; rintro e w4 ⟨A4, c4, rfl, hb4⟩; have hv4 := hv3.later hb4; have hd4 := hd3.later hb4; have hB4 := bsa' hB3 hb4; have a0 := hv4.cell 0; have a1 := hv4.cell 1; clear hv3 hd3 hb4)
        | (go_at_call 6; refine (SP.out _ hB4).mono ?_; clear SP; rintro e w5 ⟨A5, c5, ps, rfl, hps, s5, vv5, hb5⟩; have hd5 := hd4.later hb5; have hB5 := bsa' hB4 hb5; have k1 := (hd5.alloc (.cells #[] 5)).cell 1; obtain ⟨bq, oq, pq, rfl, hbq, hpq, hcq⟩ := s5.at_ (j := q) (by rw [hps]; exact hqm); obtain ⟨tq, ⟨xq, hxq, hxl⟩, hcapq, hmaxq⟩ := vv5 pq (List.mem_of_getElem? hpq); obtain ⟨Aq, cq, lq⟩ := pq; replace hcq : w5.cell? ⟨bq, oq + q, none⟩ = some (.slice Aq lq.length cq) := hcq; replace hxq : lq = sealed xq := hxq; replace tq : TS w5 Aq lq := tq; obtain ⟨L, hL⟩ : ∃ L, lq.length = L := ⟨_, rfl⟩; rw [hL] at hcq; have hLb : L ≤ 2000 ∧ 4 ≤ L := (by rw [← hL, hxq, sealed_length]; omega); obtain ⟨hLb1, hLb2⟩ := hLb; have HXQ := Lib.hid hxq; have HL := Lib.hid hL; have hlL0 : ((L : Int) == 0) = false := (by rw [beq_eq_false_iff_ne]; omega); clear hL vv5 hpq hxq)
        | (at_builtin; refine wpList_append_sl _ u8_one' rfl _ _ 22 rfl w5.heap.size 5 i0 (.int .u8 0) 1 Try.underlying22 hi hz0 hz1 hz2 rfl (.slice (some ⟨w5.heap.size, 0, none⟩) 0 0) 0 [] rfl (World.ownsRow_made _ #[] 0 (Nat.le_refl _) (by decide) rfl) _ Aq cq lq L rfl ((tq.alloc _).sl) HL.out (by unfold maxLen; omega) (by omega) (by simp) ?_; intro v6 w6 o6 g6; rw [Nat.zero_add, List.nil_append] at o6; have hd6 := (hd5.alloc (.cells #[] 5)).grown g6 (by simp [Value.ownBlock]; have := hd5.lt; omega); have hB6 := (hB5.alloc hB5.size (.cells #[] 5)).grown g6 (by have := hB5.size; simp; omega) (fun j hj => by have := hB5.size; simp [Value.ownBlock] at hj; omega); obtain ⟨A6, c6, rfl, hnc6, hcm6⟩ := own_form o6; obtain ⟨b6, cur6, rfl, hg6, hcur6, _, _⟩ := own_row o6 (by omega)))
      have k0 := hd6.cell 0
      have k2 := hd6.cell 2
      have hb6 : w5.heap.size ≤ b6 := (o6.lt b6 rfl).1
      have hgd6 : b6 ≠ w.heap.size + 1 := by have := hd5.lt; omega
      obtain ⟨t, ht⟩ : ∃ t, d0.toNat % L = t := ⟨_, rfl⟩
      have htL : t < L := by rw [← ht]; exact Nat.mod_lt _ (by omega)
      have u0 : (d0.toNat : Int) % (L : Int) = (t : Int) := by rw [← ht]; rfl
      have u1 : Int.tmod (d0.toNat : Int) (L : Int) = (t : Int) := by rw [Int.tmod_eq_emod_of_nonneg (by omega)]; exact u0
      have u2 : IntKind.i64.wrap (t : Int) = (t : Int) := by rw [IntKind.wrap_i64]; omega
      have u3 : (t : Int) < (L : Int) := by omega
      have u4 : ¬ (L : Int) = 0 := by omega
      have u5 : ¬ L = 0 := by omega
      obtain ⟨y', hy'⟩ : ∃ y, lq[t]? = some y := ⟨_, List.getElem?_eq_getElem (by rw [HL.out]; exact htL)⟩
      have k7 : w6.cell? ⟨b6, t, none⟩ = some (.int .u8 (y'.toNat : Int)) := by rw [hg6.cell]; exact hcur6 t y' hy'
      have f7 := hg6.frozen t
      have hx' := xor_u8 y' d2
      obtain ⟨z', hzz'⟩ : ∃ z, y' ^^^ d2 = z := ⟨_, rfl⟩
      rw [hzz'] at hx'
      have hg7 : Blk (w6.drew.setCell ⟨b6, t, none⟩ (.int .u8 (z'.toNat : Int))) b6 5 (cur6.setIfInBounds t (.int .u8 (z'.toNat : Int))) := hg6.drew.store t _
      have hT7 : TS (w6.drew.setCell ⟨b6, t, none⟩ (.int .u8 (z'.toNat : Int))) (some ⟨b6, 0, none⟩) (lq.set t z') := TS.of_blk hg7 fun j x hj => by rw [Nat.zero_add]; exact set_cells hcur6 hj
      have hB7 : Below w.heap.size w (w6.drew.setCell ⟨b6, t, none⟩ (.int .u8 (z'.toNat : Int))) := hB6.drew.setCell (p := ⟨b6, t, none⟩) (by have := hB5.size; show w.heap.size ≤ b6; omega) _
      have OP7 : Hid (∀ W, Below (w6.drew.setCell ⟨b6, t, none⟩ (.int .u8 (z'.toNat : Int))).heap.size (w6.drew.setCell ⟨b6, t, none⟩ (.int .u8 (z'.toNat : Int))) W → Calls Try.prog 5 #[.slice (some ⟨b6, 0, none⟩) L c6] W fun e w' => ∃ A2 c2, e = .returned (.tuple #[.slice A2 0 c2, .int .i64 10]) ∧ Below W.heap.size W w') := Lib.hid fun W hW => by
        have h1 := HXQ.out
        have h2 : lq.set t z' = (sealed xq).set t (y' ^^^ d2) := by rw [h1, hzz']
        exact open_one xq (by omega) (by rw [← h1]; exact hy') hz (lq.set t z') h2.symm (some ⟨b6, 0, none⟩) L c6 (by rw [List.length_set, HL.out]) hnc6 hcm6 W _ (hT7.later hW).sl
      clear y0 y1 y0' y1' y2 y3 y4 y5 y6 y7 x0 x1 x2 x3 z1 z2 z3 z4 z5 z6 hpi hpt ky' fy' hw3 hB3
      go_wp2_with fail
      go_still_tail 12, (by kernel_rfl)
      change wpList _ _ _ _ _ w6.drew
      have k7' : w6.drew.cell? ⟨b6, t, none⟩ = some (.int .u8 (y'.toNat : Int)) := k7
      have f7' : w6.drew.frozen? ⟨b6, t, none⟩ = false := f7
      obtain ⟨w7, hw7⟩ : ∃ w7, w6.drew.setCell ⟨b6, t, none⟩ (.int .u8 (z'.toNat : Int)) = w7 := ⟨_, rfl⟩
      rw [hw7] at hg7 hT7 hB7 OP7
      have C7 := Lib.hid (header_bad (some ⟨b6, 0, none⟩) L c6 w7 OP7.out)
      clear hT7 hg7 k7 f7 hy' k0 k2 o6 hg6 hcur6 hd6 hd5 hB6 hB5 hb5 s5 tq hcq OP7 g6
      go_wp2_with (go_at_call 7; refine C7.out.mono ?_; rintro e w8 ⟨rfl, hb8⟩; have hB8 := bsa' hB7 hb8)
      go_ret
      exact ⟨rfl, hB8.alloc hB8.size _⟩
end Go.Proofs.Ytjpbeoiiplapaaa.C
