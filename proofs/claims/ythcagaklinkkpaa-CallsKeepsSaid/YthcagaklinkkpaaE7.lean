/- The reference's change, Forward and Inverse. -/
import Derived.Test.YthcagaklinkkpaaE6
import Derived.Deep.QuietTactic
import Derived.BigQuiet
namespace Go.Proofs.Ythcagaklinkkpaa.E
set_option linter.unusedVariables false
open Go Go.RowKit Go.Shelf Go.Proofs.Ythcagaklinkkpaa Go.Proofs.Ythcagaklinkkpaa.W Go.Proofs.Ythcagaklinkkpaa.M Go.Proofs.Ythcagaklinkkpaa.B

set_option maxRecDepth 100000 in
set_option maxHeartbeats 2000000 in
theorem change_fwd (A : Option Addr) (c : Nat) (b : Bs) (hn : b.length ≤ 65536) (w : World) (B : Nat) (h : Sl u8 w B A b) :
    Calls Try.prog 23 #[.slice A b.length c, .int .i64 1] w fun e w' => ∃ A' c', e = .returned (.tuple #[.slice A' b.length c', .int .i64 0]) ∧
      w'.ownsRow w.heap.size 5 1 (.slice A' b.length c') b.length ((trans 1 b).map u8) ∧ Below w.heap.size w w' := by
  obtain ⟨i0, hi, hz0, hz1, hz2⟩ := info_parts info5
  have hSl := h.lt
  have C := Lib.hid (refSites_ok A c b hn w B h)
  have HF := Lib.hid (scan_fits b 0)
  obtain ⟨N, hN⟩ : ∃ N, N = b.length := ⟨_, rfl⟩
  have HN := Lib.hid hN
  have hle := scan_le b
  obtain ⟨S, hS⟩ : ∃ S, S = scan b 0 := ⟨_, rfl⟩
  have HT : Hid ((S).foldl (updF 1 b) b = trans 1 b) := Lib.hid (by rw [hS]; exact transF_eq 1 b)
  rw [← hS] at C hle HF
  rw [← hN] at hn hle C ⊢
  clear hN hS
  go_enter Try.func23, Try.ntmps23
  go_wp2_with (first
    | (go_at_call 16; refine C.out.mono ?_; rintro e w1 ⟨A1, c1, rfl, hs1, hb1⟩)
    | (at_builtin; refine wpList_append_sl _ u8_one' rfl _ _ 22 rfl w1.heap.size 5 i0 (.int .u8 0) 1 Try.underlying22 hi hz0 hz1 hz2 rfl _ 0 [] rfl (World.ownsRow_nil _ _ _ _) _ A c b N rfl (hSl.below hb1) HN.out.symm (by unfold maxLen; omega) (by omega) (Nat.le_refl _) ?_; intro v' w2 hown2 hg2; simp only [Nat.zero_add, List.nil_append] at hown2; obtain ⟨A2, c2, rfl, hNc, hcm⟩ := own_form hown2))
  replace hg2 : w1.grownBy w2 none := hg2
  have hB1 : Below w1.heap.size w1 w2 := (Below.refl _ _).grown hg2 (Nat.le_refl _) (fun k hk => by cases hk)
  have hSl1 : Sl iv w1 w1.heap.size A1 S := Sl.of_own hs1
  have hz1' := hb1.size
  clear hg2 C hs1
  go_loopw [9, 10, 11] (fun kv _ _ wr => ∃ k : Nat, k ≤ S.length ∧ kv = .int .i64 k ∧ wr.ownsRow w1.heap.size 5 1 (.slice A2 N c2) N (((S.take k).foldl (updF 1 b) b).map u8) ∧ Below w1.heap.size w1 wr)
    (fun kv _ _ _ => S.length - (intOf kv).toNat)
  case atStart => exact ⟨0, Nat.zero_le _, rfl, hown2, hB1⟩
  case round =>
    obtain ⟨k, hk, rfl, hrow, hB⟩ := hrel
    by_cases hlt : k < S.length
    · obtain ⟨bs, os, i, rfl, _, hx, hci⟩ := (hSl1.below hB).at_ hlt
      replace hci : wr.cell? ⟨bs, os + k, none⟩ = some (.int .i64 (i : Int)) := hci
      have hi5 : i + 5 ≤ N := by rw [HN.out]; exact HF.out i (List.mem_of_getElem? hx)
      have hnext : Hid ((S.take (k + 1)).foldl (updF 1 b) b = updF 1 b ((S.take k).foldl (updF 1 b) b) i) := Lib.hid (by rw [take_succ hx, List.foldl_append]; rfl)
      clear hx
      obtain ⟨o, ho⟩ : ∃ o, o = (S.take k).foldl (updF 1 b) b := ⟨_, rfl⟩
      rw [← ho] at hrow hnext
      clear ho
      have hSb : Sl u8 wr w.heap.size A b := hSl.below (hb1.trans (hB.mono (by omega)))
      obtain ⟨ba, oa, rfl, _, hcb⟩ := hSb.open_ (by have := HN.out; omega)
      have hlb : ∀ j, j < N → ∃ x : UInt8, at_ b j = x ∧ wr.cell? ⟨ba, oa + j, none⟩ = some (.int .u8 (x.toNat : Int)) := fun j hj => by
        have hj' : j < b.length := by rw [← HN.out]; exact hj
        exact ⟨b[j], by unfold at_; rw [List.getElem?_eq_getElem hj']; rfl, hcb j _ (List.getElem?_eq_getElem hj')⟩
      obtain ⟨x1, ha1, g1⟩ := hlb (i + 1) (by omega)
      obtain ⟨x2, ha2, g2⟩ := hlb (i + 2) (by omega)
      obtain ⟨x3, ha3, g3⟩ := hlb (i + 3) (by omega)
      have HA : Hid (at_ b (i + 1) = x1 ∧ at_ b (i + 2) = x2 ∧ at_ b (i + 3) = x3) := Lib.hid ⟨ha1, ha2, ha3⟩
      obtain ⟨g, cap, hv, hgb, hglt⟩ := hrow.form (by omega)
      obtain ⟨hA, hcp⟩ : A2 = some ⟨g, 0, none⟩ ∧ c2 = cap := by injection hv with h1 h2 h3; exact ⟨h1, h3⟩
      subst hA hcp
      obtain ⟨y1, _, _, d1⟩ := own_byte hrow (j := i + 1) (by omega)
      obtain ⟨y2, _, _, d2⟩ := own_byte hrow (j := i + 2) (by omega)
      obtain ⟨y3, _, _, d3⟩ := own_byte hrow (j := i + 3) (by omega)
      have f1 := hrow.frozenAt (i + 1)
      have f2 := hrow.frozenAt (i + 2)
      have f3 := hrow.frozenAt (i + 3)
      have z1 := lt256 x1
      have z2 := lt256 x2
      have z3 := lt256 x3
      clear ha1 ha2 ha3 hcb hlb hv hcm
      go_wp2_with fail
      go_quiet (fail)
      obtain ⟨t3, ht3⟩ : ∃ t3 : Int, t3 = (x1.toNat : Int) + 256 * (x2.toNat : Int) + 65536 * (x3.toNat : Int) := ⟨_, rfl⟩
      have ht0 : 0 ≤ t3 := by omega
      have ht4 : t3 ≤ 16777215 := by omega
      have HV : Hid (target 1 b i = t3 + ((i : Int) + 5)) := Lib.hid (by unfold target; rw [HA.out.1, HA.out.2.1, HA.out.2.2]; unfold num; omega)
      rw [← ht3]
      clear ht3 g1 g2 g3 z1 z2 z3
      obtain ⟨m, hm⟩ : ∃ m : Int, m = (t3 + ((i : Int) + 5)) % 16777216 := ⟨_, rfl⟩
      have e1 : (t3 + ((i : Int) + 5)) % 16777216 = m := hm.symm
      have e2 : (t3 + ((i : Int) + 5) + 16777216) % 16777216 = m := by omega
      have hm0 : 0 ≤ m := by omega
      have hm1 : m < 16777216 := by omega
      have HM : Hid (b0 m = b0 (t3 + ((i : Int) + 5)) ∧ b1 m = b1 (t3 + ((i : Int) + 5)) ∧ b2 m = b2 (t3 + ((i : Int) + 5))) := Lib.hid (b_congr (by omega))
      have r0 : IntKind.u8.wrap (m % 256) = ((b0 m).toNat : Int) := by rw [b0_val]; simp [IntKind.wrap, IntKind.signed, IntKind.bits]
      have r1 : IntKind.u8.wrap (m / 256 % 256) = ((b1 m).toNat : Int) := by rw [b1_val]; simp [IntKind.wrap, IntKind.signed, IntKind.bits]
      have r2 : IntKind.u8.wrap (m / 65536) = ((b2 m).toNat : Int) := by rw [b2_val]; simp [IntKind.wrap, IntKind.signed, IntKind.bits]
      clear hm
      go_wp2
      go_roundw
      case rel =>
        have hr' : (wr.drewN nq).ownsRow w1.heap.size 5 1 (.slice (some ⟨g, 0, none⟩) N c2) N (o.map u8) := hrow
        refine ⟨k + 1, by omega, by go_num, ?_, (((below_drewN hB nq).setCell (p := ⟨g, i + 1, none⟩) hgb _).setCell (p := ⟨g, i + 2, none⟩) hgb _).setCell (p := ⟨g, i + 3, none⟩) hgb _⟩
        rw [hnext.out, show updF 1 b o i = ((o.set (i + 1) (b0 m)).set (i + 2) (b1 m)).set (i + 3) (b2 m) by rw [updF, HV.out, HM.out.1, HM.out.2.1, HM.out.2.2], List.map_set, List.map_set, List.map_set]
        exact (((hr'.stored (i + 1) (u8 (b0 m))).1.stored (i + 2) (u8 (b1 m))).1.stored (i + 3) (u8 (b2 m))).1
      case measure => simp [intOf]; omega
    · obtain rfl : k = S.length := by omega
      have hall := hrow
      rw [List.take_length, HT.out] at hall
      go_wp2
      go_ret2
      exact ⟨A2, c2, rfl, own_base hall (by omega), hb1.trans (hB.mono (by omega))⟩
end Go.Proofs.Ythcagaklinkkpaa.E
