import Derived.Test.YthcagaklinkkpaaLCallsParts
import Derived.Test.YthcagaklinkkpaaZeros
import Derived.Deep.QuietTactic
import Derived.BigQuiet
namespace Go.Proofs.Ythcagaklinkkpaa.E
set_option linter.unusedVariables false
open Go Go.RowKit Go.Shelf Go.Proofs.Ythcagaklinkkpaa Go.Proofs.Ythcagaklinkkpaa.W Go.Proofs.Ythcagaklinkkpaa.M Go.Proofs.Ythcagaklinkkpaa.B

theorem b3_val (n : Int) : ((b3 n).toNat : Int) = n / 16777216 % 256 := by
  have : (b3 n).toNat = (n / 16777216 % 256).toNat := by unfold b3; rw [UInt8.toNat_ofNat']; omega
  omega
theorem cs_call (nb z t : Nat) : (#[.int .u8 232, .int .u8 (((t : Int) - ((nb : Int) + (z : Int) + 5)) % 256), .int .u8 (((t : Int) - ((nb : Int) + (z : Int) + 5)) / 256 % 256), .int .u8 (((t : Int) - ((nb : Int) + (z : Int) + 5)) / 65536 % 256), .int .u8 (((t : Int) - ((nb : Int) + (z : Int) + 5)) / 16777216 % 256)] : Array Value) = ((callOf (nb + z) t).map u8).toArray := by
  have e : (t : Int) - (((nb + z : Nat) : Int) + 5) = (t : Int) - ((nb : Int) + (z : Int) + 5) := by omega
  simp only [callOf, u8, List.map_cons, List.map_nil, b0_val, b1_val, b2_val, b3_val, e]; rfl
theorem meets_b {t : Int} {M' BS : Bs × List Nat} {g : UInt8} {nb z : Nat} (e : M' = step2 t BS g) (h1 : BS.1.length = nb) (h2 : g.toNat % 30 = z) {w : World} {base n : Nat} {ty : TypeId} {v : Value}
    (o3 : w.ownsRow base ty 1 v n ((BS.1.map u8 ++ List.replicate z (.int .u8 0)) ++ (callOf (nb + z) t).map u8)) : w.ownsRow base ty 1 v n (M'.1.map u8) := by
  subst e h1 h2
  show w.ownsRow _ _ _ _ _ ((BS.1 ++ List.replicate (g.toNat % 30) 0 ++ callOf (BS.1.length + g.toNat % 30) t).map u8)
  rw [List.map_append, List.map_append, List.map_replicate]
  exact o3
theorem meets_s {t : Int} {M' BS : Bs × List Nat} {g : UInt8} {nb z : Nat} (e : M' = step2 t BS g) (h1 : BS.1.length = nb) (h2 : g.toNat % 30 = z) {w : World} {base n : Nat} {ty : TypeId} {v : Value}
    (o3 : w.ownsRow base ty 1 v n (BS.2.map iv ++ [nb + z].map iv)) : w.ownsRow base ty 1 v n (M'.2.map iv) := by
  subst e h1 h2
  show w.ownsRow _ _ _ _ _ ((BS.2 ++ [BS.1.length + g.toNat % 30]).map iv)
  rw [List.map_append]
  exact o3
theorem three_bytes {w : World} {B : Nat} {A : Option Addr} {l : Bs} (h : Sl u8 w B A l) {q n : Nat} (hl : l.length = n) (hq : q + 5 ≤ n) : ∃ b o, ∃ x1 x2 x3 : UInt8, A = some ⟨b, o, none⟩ ∧ (at_ l (q + 1) = x1 ∧ at_ l (q + 2) = x2 ∧ at_ l (q + 3) = x3) ∧
    w.cell? ⟨b, o + (q + 1), none⟩ = some (.int .u8 (x1.toNat : Int)) ∧ w.cell? ⟨b, o + (q + 2), none⟩ = some (.int .u8 (x2.toNat : Int)) ∧ w.cell? ⟨b, o + (q + 3), none⟩ = some (.int .u8 (x3.toNat : Int)) := by
  obtain ⟨b, o, rfl, _, hc⟩ := h.open_ (by omega)
  have key : ∀ j, j < n → at_ l j = l.getD j 0 ∧ w.cell? ⟨b, o + j, none⟩ = some (.int .u8 ((l.getD j 0).toNat : Int)) := fun j hj => by
    have hj' : j < l.length := by omega
    refine ⟨rfl, ?_⟩
    rw [hc j _ (List.getElem?_eq_getElem hj')]
    simp [u8, List.getD, hj']
  exact ⟨b, o, _, _, _, rfl, ⟨(key (q + 1) (by omega)).1, (key (q + 2) (by omega)).1, (key (q + 3) (by omega)).1⟩, (key (q + 1) (by omega)).2, (key (q + 2) (by omega)).2, (key (q + 3) (by omega)).2⟩
theorem underlying3 : Try.prog.underlying 3 = some (.int .i64) := by kernel_rfl

set_option maxRecDepth 100000 in
set_option maxHeartbeats 4000000 in
theorem meets_walk (A : Option Addr) (c : Nat) (gs : List UInt8) (t : Nat) (w : World) (h : Sl u8 w w.heap.size A gs) (hc : gs.length ≤ c) (hm : c ≤ maxLen) (ht : t ≤ 65535) :
    Calls Try.prog 8 #[.slice A gs.length c, .int .u16 (t : Int)] w fun e w' => e = .returned (.bool true) ∧ Below w.heap.size w w' := by
  obtain ⟨i0, hi, hz0, hz1, hz2⟩ := info_parts info5
  obtain ⟨j0, hj, hj0, hj1, hj2⟩ := info_parts info3
  have hm1 : gs.length ≤ 9223372036854775807 := by unfold maxLen at hm; omega
  obtain ⟨n, hn⟩ : ∃ n, n = gs.length := ⟨_, rfl⟩
  have HN := Lib.hid hn.symm
  rw [← hn] at hm1 ⊢
  by_cases h1 : n > 20
  · have h1' : (20 : Int) < n := by omega
    clear h1 hn hc hm h
    go_enter Try.func8, Try.ntmps8
    go_wp2_with (go_at_call 11; refine (awake_any _).mono ?_; rintro e w4 ⟨rfl, hb4⟩)
    go_ret
    exact ⟨rfl, hb4⟩
  · have h1' : decide ((20 : Int) < n) = false := by rw [decide_eq_false_iff_not]; omega
    have hn2 : n ≤ 65536 := by omega
    have HNB := Lib.hid (show n ≤ 20 by omega)
    clear h1 hn hc hm hm1
    go_enter Try.func8, Try.ntmps8
    go_wp2
    go_loopw [5, 6, 8, 9, 22] (fun bv sv _ _ kv W => ∃ (k : Nat) (Ab : Option Addr) (nb cb : Nat) (As : Option Addr) (cs : Nat), k ≤ n ∧ kv = .int .i64 k ∧ bv = .slice Ab nb cb ∧ sv = .slice As k cs ∧
      W.ownsRow w.heap.size 5 1 (.slice Ab nb cb) nb ((meets t (gs.take k)).1.map u8) ∧ W.ownsRow w.heap.size 3 1 (.slice As k cs) k ((meets t (gs.take k)).2.map iv) ∧ Apart (.slice Ab nb cb) (.slice As k cs) ∧ nb ≤ 34 * k ∧ Below w.heap.size w W)
      (fun _ _ _ _ kv _ => n - (intOf kv).toNat)
    case atStart => exact ⟨0, none, 0, 0, none, 0, Nat.zero_le _, rfl, rfl, rfl, World.ownsRow_nil _ _ _ _, World.ownsRow_nil _ _ _ _, fun k hk => by simp [Value.ownBlock] at hk, by omega, Below.refl _ _⟩
    case round =>
      obtain ⟨k, Ab, nb, cb, As, cs, hk, rfl, rfl, rfl, ob, os, hap, hnb, hB⟩ := hrel
      by_cases hlt : k < n
      · obtain ⟨bl, o, g, rfl, _, hx, hcx⟩ := (h.below hB).byte (j := k) (by rw [HN.out]; exact hlt)
        have hnext : Hid (meets t (gs.take (k + 1)) = step2 t (meets t (gs.take k)) g) := Lib.hid (by rw [take_succ hx]; unfold meets; rw [List.foldl_append]; rfl)
        obtain ⟨BS, hBS⟩ : ∃ BS, BS = meets t (gs.take k) := ⟨_, rfl⟩
        rw [← hBS] at ob os hnext
        have HNb : Hid (BS.1.length = nb) := Lib.hid (by have := ob.1; simpa using this)
        obtain ⟨z, hz⟩ : ∃ z, z = g.toNat % 30 := ⟨_, rfl⟩
        have HZ : Hid (g.toNat % 30 = z) := Lib.hid hz.symm
        have HZI : Hid (Value.int .i64 ((g.toNat : Int) % 30) = Value.int .i64 (z : Int)) := Lib.hid (congrArg _ (by omega))
        have hz30 : z < 30 := by omega
        have hg := lt256 g
        have HK : Hid (nb ≤ 34 * k ∧ k ≤ 20) := Lib.hid ⟨hnb, by have := HNB.out; omega⟩
        have hnb' : nb ≤ 65536 := by have := HNB.out; omega
        have HCS := Lib.hid (cs_call nb z t)
        clear hx hBS hz hnb
        go_wp2_with (first
          | (at_builtin; refine wpList_append_zeros _ rfl _ _ 22 3 rfl w.heap.size 5 i0 (.int .u8 0) 1 .i64 .i64 Try.underlying22 underlying3 hi hz0 hz1 hz2 rfl rfl (.slice Ab nb cb) nb _ rfl ob z HZI.out (by unfold maxLen; omega) (by omega) hB.size ?_; intro v1 w1 o1 g1 a1; have hB1 := grown_b hB hB.size ob (Nat.le_refl _) g1; have os1 := hap.kept os g1; have hap1 := hap.step os (Nat.le_refl _) a1; obtain ⟨A1, c1, rfl, _, _⟩ := own_form o1; clear ob os hap g1 a1)
          | (at_builtin; refine wpList_append_at _ iv_one rfl _ _ 31 rfl w.heap.size 3 j0 (.int .i64 0) 8 Try.underlying31 hj hj0 hj1 hj2 rfl (.slice As k cs) k _ rfl (os1.alloc _) _ _ 1 [nb + z] 1 rfl (Sl.of_new rfl rfl) rfl (by unfold maxLen; omega) (by omega) (by have := hB1.size; simp; omega) ?_; intro v2 w2 o2 g2 a2; have hB2 := grown_b (hB1.alloc hB1.size _) (by have := hB1.size; simp; omega) (os1.alloc _) (Nat.le_refl _) g2; have ob2 := hap1.symm.kept (o1.alloc _) g2; have hap2 := (hap1.symm.step (o1.alloc _) (Nat.le_refl _) a2).symm; obtain ⟨A2, c2, rfl, _, _⟩ := own_form o2; clear o1 os1 hap1 g2 a2)
          | (at_builtin; refine wpList_append_at _ u8_one' rfl _ _ 22 rfl w.heap.size 5 i0 (.int .u8 0) 1 Try.underlying22 hi hz0 hz1 hz2 rfl (.slice A1 (nb + z) c1) (nb + z) _ rfl (ob2.alloc _) _ _ 5 (callOf (nb + z) t) 5 rfl (Sl.of_new rfl HCS.out) rfl (by unfold maxLen; omega) (by omega) (by have := hB2.size; simp; omega) ?_; intro v3 w3 o3 g3 a3; have hB3 := grown_b (hB2.alloc hB2.size _) (by have := hB2.size; simp; omega) (ob2.alloc _) (Nat.le_refl _) g3; have os3 := hap2.kept (o2.alloc _) g3; have hap3 := hap2.step (o2.alloc _) (Nat.le_refl _) a3; obtain ⟨A3, c3, rfl, _, _⟩ := own_form o3; clear o2 ob2 hap2 g3 a3))
        go_roundw
        case rel =>
          exact ⟨k + 1, A3, nb + z + 5, c3, A2, c2, by omega, by go_num, rfl, rfl, meets_b hnext.out HNb.out HZ.out o3, meets_s hnext.out HNb.out HZ.out os3, hap3, by have := HK.out; omega, hB3⟩
        case measure => simp [intOf]; omega
      · obtain ⟨wo, rfl⟩ : ∃ wo : World, wo = wr := ⟨_, rfl⟩
        obtain rfl : k = n := by omega
        have htk : gs.take k = gs := List.take_of_length_le (by rw [HN.out]; exact Nat.le_refl _)
        rw [htk] at ob os
        obtain ⟨⟨T, hD⟩, _, hSl⟩ := meets_done t (by omega) (by omega) gs (by rw [HN.out]; exact HNB.out)
        obtain ⟨M, hM⟩ : ∃ M, M = meets t gs := ⟨_, rfl⟩
        rw [← hM] at ob os hD hSl
        rw [HN.out] at hSl
        have HNb : M.1.length = nb := by have := ob.1; simpa using this
        have hnb' : nb ≤ 65536 := by have := HNB.out; omega
        have tb := Sl.of_own ob
        have ts := Sl.of_own os
        have HSl := Lib.hid hSl
        have HTl : Hid (T.length = nb) := Lib.hid (by rw [hD.lenE, HNb])
        have D1 := Lib.hid (forward_g (c := cb) HNb hnb' hD.whole.1 tb)
        have D2 : Hid (∀ W, Below wo.heap.size wo W → GivesI 15 Ab nb cb W M.2 k 0) := Lib.hid fun W hW => sites_g HNb hnb' hD.whole.2 hSl (tb.below hW)
        have HE := Lib.hid hD.numE
        rw [HNb] at HE
        clear htk hM hD hSl HNb tb ob os hap hnb hk hlt
        go_wp2_with (first
          | (go_at_call 12; refine D1.out.mono ?_; clear D1; rintro e w1 ⟨A1, c1, rfl, t1, _, _, hb1⟩; have ts := ts.later hb1)
          | (go_at_call 15; refine (D2.out _ hb1).mono ?_; clear D2; rintro e w2 ⟨A2, c2, rfl, t2, _, _, hb2⟩; have ts := ts.later hb2; have t1 := t1.later hb2; have hb := bsa hb1 hb1.size hb2; clear hb1 hb2)
          | (go_at_call 17; refine (equalI_same HSl.out (by omega) t2 ts).mono ?_; clear t2; rintro e w3 ⟨rfl, hb3⟩; have ts := ts.later hb3; have t1 := t1.later hb3; have hb := bsa hb hb.size hb3; clear hb3))
        have hB := bsa hB hB.size hb
        clear hb
        go_loopw [86] (fun jv W => ∃ j : Nat, j ≤ k ∧ jv = .int .i64 j ∧ Below w3.heap.size w3 W) (fun jv _ => k - (intOf jv).toNat)
        case atStart => exact ⟨0, Nat.zero_le _, rfl, Below.refl _ _⟩
        case round =>
          obtain ⟨j, hj', rfl, hb⟩ := hrel
          by_cases hlt : j < k
          · obtain ⟨bs, os, q, rfl, _, hx, hcq⟩ := (ts.below hb).at_ (j := j) (by rw [HSl.out]; exact hlt)
            replace hcq : wr.cell? ⟨bs, os + j, none⟩ = some (.int .i64 (q : Int)) := hcq
            obtain ⟨hq5, hnum⟩ := HE.out q (List.mem_of_getElem? hx)
            obtain ⟨ba, oa, x1, x2, x3, rfl, ⟨ha1, ha2, ha3⟩, g1, g2, g3⟩ := three_bytes (t1.below hb) HTl.out hq5
            rw [ha1, ha2, ha3] at hnum
            have z1 := lt256 x1
            have z2 := lt256 x2
            have z3 := lt256 x3
            have hsum : (((x1.toNat : Int) + (x2.toNat : Int) * 256 + (x3.toNat : Int) * 65536) != (t : Int)) = false := by
              rw [bne_eq_false_iff_eq]; unfold num at hnum; omega
            clear hx ha1 ha2 ha3 hnum
            go_wp2_with fail
            go_quiet (fail)
            go_wp2
            go_roundw
            case rel => exact ⟨j + 1, by omega, by go_num, below_drewN hb _⟩
            case measure => simp [intOf]; omega
          · obtain rfl : j = k := by omega
            go_wp2_with (go_at_call 11; refine (awake_any _).mono ?_; rintro e w4 ⟨rfl, hb4⟩)
            go_ret
            exact ⟨rfl, bsa (bsa hB hB.size hb) (Nat.le_trans hB.size hb.size) hb4⟩
end Go.Proofs.Ythcagaklinkkpaa.E
