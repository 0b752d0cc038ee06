import Derived.Test.YtnmmajkmdgfllaaC6
import Derived.StillTailTactics
import Derived.Deep.QuietTactic
import Derived.BigQuiet
import Derived.Laws.StructEq
import Derived.Laws.Cover2
namespace Go.Proofs.Ytnmmajkmdgfllaa.C
set_option linter.unusedVariables false
open Go Go.RowKit Go.Shelf Go.Proofs.Ytnmmajkmdgfllaa Go.Proofs.Ytnmmajkmdgfllaa.W Go.Proofs.Ytnmmajkmdgfllaa.M Go.Proofs.Ytnmmajkmdgfllaa.B

/-! ### the plain side of a change -/
def chg (b : List UInt8) (i : Nat) (ds : List UInt8) (k : Nat) : List UInt8 := b.mapIdx fun j x => if i ≤ j ∧ j < i + k then x ^^^ ds.getD (j - i) 0 else x
theorem chg_length (b : List UInt8) (i : Nat) (ds : List UInt8) (k : Nat) : (chg b i ds k).length = b.length := by simp [chg]
theorem chg_get (b : List UInt8) (i : Nat) (ds : List UInt8) (k j : Nat) : (chg b i ds k)[j]? = (b[j]?).map fun x => if i ≤ j ∧ j < i + k then x ^^^ ds.getD (j - i) 0 else x := by
  simp only [chg, List.getElem?_mapIdx]
theorem chg_zero (b : List UInt8) (i : Nat) (ds : List UInt8) : chg b i ds 0 = b := by
  apply List.ext_getElem?
  intro j
  rw [chg_get]
  cases b[j]? with
  | none => rfl
  | some x => simp; omega
theorem chg_at {b : List UInt8} {i k : Nat} {ds : List UInt8} {x : UInt8} (h : b[i + k]? = some x) : (chg b i ds k)[i + k]? = some x := by
  rw [chg_get, h]; simp
theorem chg_set {b : List UInt8} {i k : Nat} {ds : List UInt8} {x d : UInt8} (h : b[i + k]? = some x) (hd : ds[k]? = some d) : (chg b i ds k).set (i + k) (x ^^^ d) = chg b i ds (k + 1) := by
  apply List.ext_getElem?
  intro j
  rw [List.getElem?_set, chg_get, chg_get, chg_length]
  have hlt := lt_of_some h
  by_cases hj : i + k = j
  · subst hj
    rw [if_pos rfl, if_pos hlt, h]
    have e : i + k - i = k := by omega
    simp only [Option.map_some]
    rw [if_pos (by omega), e, List.getD, hd]; rfl
  · rw [if_neg hj]
    congr 1
    funext y
    by_cases h1 : i ≤ j ∧ j < i + k
    · rw [if_pos h1, if_pos (by omega)]
    · rw [if_neg h1, if_neg (by omega)]
theorem chg_delta {b : List UInt8} {i : Nat} {d0 d1 d2 d3 : UInt8} (hi : i + 4 ≤ b.length) : chg b i [d0, d1, d2, d3] 4 = bxor b (delta4 b.length i [d0, d1, d2, d3]) := by
  apply List.ext_getElem?
  intro j
  rw [chg_get]
  simp only [bxor, delta4, List.getElem?_zipWith]
  cases hb : b[j]? with
  | none => simp
  | some x =>
    have hlt := lt_of_some hb
    simp only [Option.map_some, List.append_assoc]
    by_cases h1 : j < i
    · rw [if_neg (by omega), List.getElem?_append_left (by simp; omega), List.getElem?_replicate, if_pos h1]
      simp
    · rw [List.getElem?_append_right (by simp; omega), List.length_replicate]
      by_cases h2 : j < i + 4
      · rw [if_pos (by omega), List.getElem?_append_left (by simp; omega)]
        obtain ⟨m, rfl⟩ : ∃ m, j = i + m := ⟨j - i, by omega⟩
        have e : i + m - i = m := by omega
        rw [e]
        have : m < 4 := by omega
        rcases m with _ | _ | _ | _ | m
        · rfl
        · rfl
        · rfl
        · rfl
        · omega
      · rw [if_neg (by omega), List.getElem?_append_right (by simp; omega)]
        simp only [List.length_cons, List.length_nil, List.getElem?_replicate]
        rw [if_pos (by omega)]
        simp

/-- '==' of an array of four bytes and the zero one. -/
theorem eq4 (a b c d : Int) (w : World) : (Op.equalIn 10000 31 (.agg #[.int .u8 a, .int .u8 b, .int .u8 c, .int .u8 d]) (.agg #[.int .u8 0, .int .u8 0, .int .u8 0, .int .u8 0])).run Try.prog w = .ok (a == 0 && b == 0 && c == 0 && d == 0) w := by
  have u3 := Try.underlying5
  have a3 : ∀ w, (isAgg 5).run Try.prog w = .ok false w := fun w => by kernel_rfl
  have z3 : ∀ w, (sizeOf 5).run Try.prog w = .ok 1 w := fun w => by kernel_rfl
  rw [show (10000 : Nat) = 9999 + 1 from rfl, Op.equalIn]
  simp only [Sem.run_bind, run_underlying Try.underlying31, Result.andThen_ok]
  simp only [Std.Legacy.Range.forIn_eq_forIn_range', Std.Legacy.Range.size, Nat.sub_zero, Nat.add_sub_cancel, Nat.div_one, List.range'_succ, List.range'_zero, List.forIn_cons, List.forIn_nil]
  go_simp
  by_cases h1 : a = 0 <;> by_cases h2 : b = 0 <;> by_cases h3 : c = 0 <;> by_cases h4 : d = 0 <;> simp [h1, h2, h3, h4]

theorem info4 : (Try.prog.info? 31).map (·.size) = some 4 := by kernel_rfl

set_option maxRecDepth 100000 in
set_option maxHeartbeats 2000000 in
theorem changed_any (A : Option Addr) (c m : Nat) (b : List UInt8) (a : Nat) (d0 d1 d2 d3 : UInt8) (hN : b.length = m + 4) (hn : m + 4 ≤ 140737488351232) (ha : a ≤ 65535) (w : World) (B : Nat) (h : Sl u8 w B A b) :
    Calls Try.prog 14 #[.slice A (m + 4) c, .int .u16 (a : Int), .agg #[.int .u8 (d0.toNat : Int), .int .u8 (d1.toNat : Int), .int .u8 (d2.toNat : Int), .int .u8 (d3.toNat : Int)]] w fun e w' => ∃ A' c', e = .returned (.slice A' (m + 4) c') ∧
      Sl u8 w' w'.heap.size A' (chg b (a % (m + 1)) [d0, d1, d2, d3] 4) ∧ m + 4 ≤ c' ∧ c' ≤ maxLen ∧ Below w.heap.size w w' := by
  obtain ⟨i0, hi, hz0, hz1, hz2⟩ := info_parts info5
  obtain ⟨i, hi'⟩ : ∃ i, i = a % (m + 1) := ⟨_, rfl⟩
  have him : i ≤ m := by rw [hi']; have := Nat.mod_lt a (show 0 < m + 1 by omega); omega
  have e1 : IntKind.i64.wrap (a : Int) = (a : Int) := IntWalk.i64_in _ (by omega)
  have e2 : ((m : Int) + 4 - 3) = (m : Int) + 1 := by omega
  have e3 : (a : Int) % ((m : Int) + 1) = (i : Int) := by rw [hi']; exact (Int.natCast_emod a (m + 1)).symm
  have e4 : (a : Int).tmod ((m : Int) + 1) = (i : Int) := by rw [Int.tmod_eq_emod_of_nonneg (by omega)]; exact e3
  have e5 : ¬ ((m : Int) + 1 = 0) := by omega
  rw [← hi']
  obtain ⟨D, hD⟩ : ∃ D : Array Value, D = #[.int .u8 (d0.toNat : Int), .int .u8 (d1.toNat : Int), .int .u8 (d2.toNat : Int), .int .u8 (d3.toNat : Int)] := ⟨_, rfl⟩
  have hmade : ((w.alloc (.cells D 31)).alloc (.cells #[] 5)).ownsRow (w.heap.size + 1) 5 1 (.slice (some ⟨w.heap.size + 1, 0, none⟩) 0 0) 0 [] := by
    have := World.ownsRow_made (w.alloc (.cells D 31)) (e := 5) #[] 0 (base := w.heap.size + 1) (size := 1) (by simp) (by decide) rfl
    rwa [World.size_alloc] at this
  rw [hD] at hmade
  clear hD
  have HN := Lib.hid hN
  clear hi' hN
  go_enter Try.func14, Try.ntmps14
  go_wp2_with (at_builtin; refine wpList_append_sl _ u8_one' rfl _ _ 26 rfl (w.heap.size + 1) 5 i0 (.int .u8 0) 1 Try.underlying26 hi hz0 hz1 hz2 rfl _ 0 [] rfl hmade _ A c b (m + 4) rfl ((h.lt.alloc (Nat.le_refl _) _).alloc (by simp) _) HN.out (by unfold maxLen; omega) (by omega) (by simp <;> omega) ?_; intro v1 w1 hown1 hgrow1; rw [Nat.zero_add, List.nil_append] at hown1; obtain ⟨g, c1, rfl, hg0, hgl⟩ := World.ownsRow.form hown1 (by omega))
  have hB1 : Below w.heap.size w w1 := (((Below.refl _ w).alloc (Nat.le_refl _) _).alloc (by simp) _).grown hgrow1 (by simp <;> omega) (fun k hk => by cases hk; exact Nat.le_succ _)
  have hK1 : Blk w1 w.heap.size 31 (([d0, d1, d2, d3] : List UInt8).map u8).toArray := Blk.grown ((Blk.new w _ _).alloc _) hgrow1 (fun e => by injection e with e; have e2 : w.heap.size = w.heap.size + 1 := e; omega)
  rw [← chg_zero b i [d0, d1, d2, d3]] at hown1
  have hcm : m + 4 ≤ c1 ∧ c1 ≤ maxLen := by
    obtain ⟨A2, c2, hv, hnc, hcm⟩ := own_form hown1
    obtain rfl : c1 = c2 := by injection hv
    exact ⟨hnc, hcm⟩
  have HCM := Lib.hid hcm
  clear hcm hgl hgrow1 hmade e1 e2 e3 e4 e5
  go_loopw [9] (fun q W => ∃ k : Nat, k ≤ 4 ∧ q = .int .i64 k ∧ W.ownsRow (w.heap.size + 1) 5 1 (.slice (some ⟨g, 0, none⟩) (m + 4) c1) (m + 4) ((chg b i [d0, d1, d2, d3] k).map u8) ∧ Blk W w.heap.size 31 (([d0, d1, d2, d3] : List UInt8).map u8).toArray ∧ Below w.heap.size w W) (fun q _ => 4 - (intOf q).toNat)
  case atStart => exact ⟨0, by omega, rfl, hown1, hK1, hB1⟩
  case round =>
    obtain ⟨k, hk, rfl, hownk, hK, hB⟩ := hrel
    by_cases hlt : k < 4
    · obtain ⟨p, hp⟩ : ∃ p, p = i + k := ⟨_, rfl⟩
      have ep : (i : Int) + (k : Int) = (p : Int) := by omega
      have ew : IntKind.i64.wrap (p : Int) = (p : Int) := by exact IntWalk.i64_in _ (by omega)
      obtain ⟨d, hd⟩ : ∃ d, [d0, d1, d2, d3][k]? = some d := ⟨_, List.getElem?_eq_getElem (by simpa using hlt)⟩
      obtain ⟨x, hx⟩ : ∃ x, b[i + k]? = some x := ⟨_, List.getElem?_eq_getElem (by rw [HN.out]; omega)⟩
      have hcd : wr.cell? ⟨w.heap.size, k, none⟩ = some (.int .u8 (d.toNat : Int)) := by
        rw [hK.cell k]
        simp only [List.getElem?_toArray, List.getElem?_map, hd]; rfl
      have hcx : wr.cell? ⟨g, p, none⟩ = some (.int .u8 (x.toNat : Int)) := by
        rw [hownk.cellAt p (by omega), List.getElem?_map, hp, chg_at hx]; rfl
      have hfx : wr.frozen? ⟨g, p, none⟩ = false := hownk.frozenAt p
      have hx8 := xor_u8 x d
      obtain ⟨r, hr⟩ : ∃ r, r = x ^^^ d := ⟨_, rfl⟩
      rw [← hr] at hx8
      have hst := hownk.stored p (.int .u8 (r.toNat : Int))
      have hset : ((chg b i [d0, d1, d2, d3] k).map u8).set p (.int .u8 (r.toNat : Int)) = (chg b i [d0, d1, d2, d3] (k + 1)).map u8 := by
        rw [← chg_set hx hd, ← hr, ← hp]
        exact (List.map_set ..).symm
      rw [hset] at hst
      have hKs := hK.far (p := ⟨g, p, none⟩) (by show w.heap.size ≠ g; omega) (.int .u8 (r.toNat : Int))
      have j1 : (0 : Int) ≤ (p : Int) := by omega
      have j2 : (p : Int) < (m : Int) + 4 := by omega
      have j3 : (0 : Int) ≤ (k : Int) := by omega
      have HG := Lib.hid hg0
      clear hset hp hr hd hx hown1 hK1 hg0
      go_wp2_with fail
      refine wp_region_still_tail 15 (by kernel_rfl) (by kernel_rfl) ?_
      simp only [List.take_succ_cons, List.take_zero, List.drop_succ_cons, List.drop_zero]
      repeat still_step
      refine wpStill_nil ?_
      clear j1 j2 j3 ep ew
      go_wp2
      go_roundw
      case rel => exact ⟨k + 1, by omega, by go_num, hst.1, hKs, (hB.setCell (p := ⟨g, p, none⟩) (by have := HG.out; show w.heap.size ≤ g; omega) _).drew⟩
      case measure => simp [intOf]; omega
    · obtain rfl : k = 4 := by omega
      go_wp2
      go_ret
      exact ⟨_, c1, rfl, Sl.of_own hownk, HCM.out.1, HCM.out.2, hB⟩
end Go.Proofs.Ytnmmajkmdgfllaa.C
