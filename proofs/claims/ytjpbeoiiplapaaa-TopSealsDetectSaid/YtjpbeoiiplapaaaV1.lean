import Derived.Test.YtjpbeoiiplapaaaChecked
import Derived.Test.YtjpbeoiiplapaaaWords
import Derived.Test.YtjpbeoiiplapaaaM03
import Derived.WalkKit
import Derived.OwnWalk
import Derived.WalkSpells
import Derived.WalkLawsBesides
import Derived.Laws.Rows
import Derived.Laws.CopyRow
import Derived.Great.BuildSlice
namespace Go.Proofs.Ytjpbeoiiplapaaa.C
set_option linter.unusedVariables false
open Go Go.RowKit Go.Proofs.Ytjpbeoiiplapaaa Go.Proofs.Ytjpbeoiiplapaaa.W Go.Proofs.Ytjpbeoiiplapaaa.M

theorem wrap_u32 (n : Int) (h0 : 0 ≤ n) (h1 : n < 4294967296) : IntKind.u32.wrap n = n := by
  simp [IntKind.wrap, IntKind.signed, IntKind.bits]; omega
theorem ofInt_r (r : R) : BitVec.ofInt 32 (r.toNat : Int) = r := by
  rw [BitVec.ofInt_natCast]; simp
theorem bits_xor (a b : R) : bits .xor .u32 (a.toNat : Int) (b.toNat : Int) = ((a ^^^ b).toNat : Int) := by
  show IntKind.u32.wrap ((BitVec.ofInt 32 (a.toNat : Int) ^^^ BitVec.ofInt 32 (b.toNat : Int)).toNat : Int) = _
  rw [ofInt_r, ofInt_r]
  have := (a ^^^ b).isLt
  exact wrap_u32 _ (by omega) (by omega)
theorem bits_and1 (a : R) : (bits .and .u32 (a.toNat : Int) 1 == 1) = a.getLsbD 0 := by
  have h : bits .and .u32 (a.toNat : Int) ((1#32 : R).toNat : Int) = ((a &&& 1#32).toNat : Int) := by
    show IntKind.u32.wrap ((BitVec.ofInt 32 (a.toNat : Int) &&& BitVec.ofInt 32 ((1#32 : R).toNat : Int)).toNat : Int) = _
    rw [ofInt_r, ofInt_r]
    have := (a &&& 1#32).isLt
    exact wrap_u32 _ (by omega) (by omega)
  have e : ((1#32 : R).toNat : Int) = 1 := by decide
  rw [e] at h
  rw [h, BitVec.toNat_and, show (1#32 : R).toNat = 1 from rfl, Nat.and_one_is_mod, BitVec.getLsbD, Nat.testBit_zero]
  rcases Nat.mod_two_eq_zero_or_one a.toNat with h | h <;> rw [h] <;> rfl
theorem shr1 (a : R) : (a.toNat : Int) / (2 : Int) = ((a >>> 1).toNat : Int) := by
  rw [BitVec.toNat_ushiftRight, Nat.shiftRight_eq_div_pow]; omega
theorem shr8 (a : R) : (a.toNat : Int) / (256 : Int) = ((a >>> 8).toNat : Int) := by
  rw [BitVec.toNat_ushiftRight, Nat.shiftRight_eq_div_pow]; omega
theorem poly_val : ((poly : R).toNat : Int) = 3988292384 := by decide

theorem shifted_any (x : R) (w : World) :
    Calls Try.prog 44 #[.int .u32 (x.toNat : Int)] w fun e w' => e = .returned (.int .u32 ((S x).toNat : Int)) ∧ w = w' := by
  go_enter Try.func44, Try.ntmps44
  go_wp2
  go_loop [0, 4] (fun r i => ∃ (k : Nat) (y : R), k ≤ 8 ∧ i = .int .i64 k ∧ r = .int .u32 (y.toNat : Int) ∧ Hid (steps (8 - k) y = S x)) (fun _ i => 8 - (intOf i).toNat)
  case atStart => exact ⟨0, x, Nat.zero_le _, rfl, rfl, Lib.hid rfl⟩
  case round =>
    obtain ⟨k, y, hk, rfl, rfl, hs⟩ := hrel
    by_cases hlt : k < 8
    · have hst : steps (8 - k) y = steps (8 - (k + 1)) (step1 y) := by
        rw [show 8 - k = (8 - (k + 1)) + 1 by omega]; rfl
      have HST := Lib.hid hst
      clear hst
      go_wp2
      · have h1 : (bits .and .u32 (y.toNat : Int) 1 == 1) = true := by assumption
        rw [bits_and1] at h1
        go_round
        case rel =>
          refine ⟨k + 1, step1 y, by omega, by go_num, ?_, Lib.hid (HST.out.symm.trans hs.out)⟩
          rw [shr1, ← poly_val, bits_xor]
          unfold step1; rw [h1]; rfl
        case measure => simp [intOf]; omega
      · have h1 : (bits .and .u32 (y.toNat : Int) 1 == 1) = false := by assumption
        rw [bits_and1] at h1
        go_round
        case rel =>
          refine ⟨k + 1, step1 y, by omega, by go_num, ?_, Lib.hid (HST.out.symm.trans hs.out)⟩
          rw [shr1]
          unfold step1; rw [h1]; simp
        case measure => simp [intOf]; omega
    · obtain rfl : k = 8 := by omega
      go_wp2
      go_ret
      exact ⟨by rw [← hs.out]; rfl, rfl⟩

/-- The zero value of the table's type. -/
theorem zero_table : ∃ Z : Array Value, (∀ w, (zeroValue 69).run Try.prog w = .ok (.agg Z) w) ∧ Z = Array.replicate 256 (.int .u32 0) :=
  ⟨_, fun w => by kernel_rfl, rfl⟩

theorem shifted_nat (k : Nat) (hk : k < 256) (w : World) :
    Calls Try.prog 44 #[.int .u32 (k : Int)] w fun e w' => e = .returned (.int .u32 ((S (BitVec.ofNat 32 k)).toNat : Int)) ∧ w = w' := by
  have := shifted_any (BitVec.ofNat 32 k) w
  rwa [BitVec.toNat_ofNat, Nat.mod_eq_of_lt (by omega)] at this

theorem table_info : (Try.prog.info? 69).map (·.size) = some 256 := by kernel_rfl

/-- The table is filled up to k. -/
def Tab (C : Array Value) (k : Nat) : Prop := C.size = 256 ∧ (∀ i, i < k → C[i]? = some (.int .u32 ((S (BitVec.ofNat 32 i)).toNat : Int))) ∧ C.all (·.oneCell') = true

theorem Tab.next {C : Array Value} {k : Nat} (h : Tab C k) (hk : k < 256) : Tab (C.setIfInBounds k (.int .u32 ((S (BitVec.ofNat 32 k)).toNat : Int))) (k + 1) := by
  obtain ⟨h1, h2, h3⟩ := h
  refine ⟨by simp [h1], fun i hi => ?_, ?_⟩
  · rw [Array.getElem?_setIfInBounds]
    by_cases hik : k = i
    · subst hik; simp [h1, hk]
    · rw [if_neg hik]; exact h2 i (by omega)
  · rw [Array.all_eq_true_iff_forall_mem] at h3 ⊢
    intro v hv
    obtain ⟨j, hj⟩ := Array.mem_iff_getElem?.1 hv
    rw [Array.getElem?_setIfInBounds] at hj
    split at hj
    · split at hj
      · cases hj; rfl
      · cases hj
    · exact h3 v (Array.mem_iff_getElem?.2 ⟨j, hj⟩)

theorem Below.setRow {B : Nat} {a w : World} (h : Below B a w) {g : Nat} (hp : B ≤ g) (cs : Array Value) : Below B a (w.setRow g cs) :=
  ⟨h.os, h.tape, h.output, by simpa [World.setRow] using h.size, fun b hb => by
    rw [← h.block b hb]
    simp only [World.setRow, Array.getElem?_modify]
    rw [if_neg (by omega)]⟩

set_option maxRecDepth 100000 in
theorem table_any (w : World) : Calls Try.prog 36 #[] w fun e w' => ∃ T : Array Value, e = .returned (.agg T) ∧ Tab T 256 ∧ Below w.heap.size w w' := by
  obtain ⟨Z, hz, hZ⟩ := zero_table
  have HZ := Lib.hid hZ
  clear hZ
  go_enter Try.func36, Try.ntmps36
  go_wp2_with fail
  have hb0 : Blk ((w.alloc (.cells Z 69)).alloc (.cells Z 69)) w.heap.size 69 Z := (Blk.new w _ _).alloc _
  have hb1 : Blk ((w.alloc (.cells Z 69)).alloc (.cells Z 69)) (w.heap.size + 1) 69 Z := Blk.new' (by simp) _ _
  have hB : Below w.heap.size w ((w.alloc (.cells Z 69)).alloc (.cells Z 69)) := ((Below.refl _ w).alloc (Nat.le_refl _) _).alloc (by simp) _
  have HT : Hid (Tab Z 0) := Lib.hid ⟨by rw [HZ.out]; simp, fun i hi => by omega, by rw [HZ.out]; rw [Array.all_eq_true_iff_forall_mem]; intro v hv; rw [Array.mem_replicate] at hv; rw [hv.2]; rfl⟩
  obtain ⟨w0, hw0⟩ : ∃ w0, w0 = (w.alloc (.cells Z 69)).alloc (.cells Z 69) := ⟨_, rfl⟩
  rw [← hw0] at hb0 hb1 hB ⊢
  clear hw0
  go_loopw [3] (fun i W => ∃ (k : Nat) (C : Array Value), k ≤ 256 ∧ i = .int .i64 k ∧ Hid (Tab C k) ∧ Blk W w.heap.size 69 Z ∧ Blk W (w.heap.size + 1) 69 C ∧ Below w.heap.size w W) (fun i _ => 256 - (intOf i).toNat)
  case atStart => exact ⟨0, Z, Nat.zero_le _, rfl, HT, hb0, hb1, hB⟩
  case round =>
    obtain ⟨k, C, hk, rfl, hC, hb0, hb1, hB⟩ := hrel
    by_cases hlt : k < 256
    · have hn : IntKind.u32.wrap (k : Int) = k := wrap_u32 _ (by omega) (by omega)
      have hcs := hC.out.1
      obtain ⟨v0, hcell⟩ : ∃ v0, wr.cell? ⟨w.heap.size + 1, k, none⟩ = some v0 := ⟨C[k]'(by omega), by rw [hb1.cell]; simp [hcs, hlt]⟩
      have hfro := hb1.frozen k
      have C1 := shifted_nat k hlt
      have HNx := hC.out.next hlt
      obtain ⟨V, hV⟩ : ∃ V : Int, V = ((S (BitVec.ofNat 32 k)).toNat : Int) := ⟨_, rfl⟩
      rw [← hV] at C1 HNx
      have C2 : Hid (∀ (w : World), Calls Try.prog 44 #[.int .u32 (k : Int)] w fun e w' => e = .returned (.int .u32 V) ∧ w = w') := Lib.hid C1
      have HN := Lib.hid HNx
      clear C1 HNx hV
      have hst := hb1.store k (.int .u32 V)
      have hst0 := hb0.far (p := ⟨w.heap.size + 1, k, none⟩) (by simp) (.int .u32 V)
      have hBs := hB.setCell (p := ⟨w.heap.size + 1, k, none⟩) (Nat.le_add_right _ _) (.int .u32 V)
      clear hcs
      go_wp2_with (go_at_call 44; refine (C2.out _).mono ?_; rintro e w' ⟨rfl, rfl⟩)
      go_roundw
      case rel =>
        exact ⟨k + 1, _, by omega, by go_num, HN, hst0, hst, hBs⟩
      case measure => simp [intOf]; omega
    · obtain rfl : k = 256 := by omega
      have hb2 : Blk (wr.setRow w.heap.size C) w.heap.size 69 C := setRow_heap wr _ _ _ _ (0, 0) hb0
      have hB2 : Below w.heap.size w (wr.setRow w.heap.size C) := Below.setRow hB (Nat.le_refl _) _
      have hsz : Hid ((Try.prog.info? 69).map (·.size) = some C.size) := Lib.hid (by rw [hC.out.1]; exact table_info)
      have hol : Hid (Z.size = C.size) := Lib.hid (by have := hC.out.1; rw [HZ.out]; simp [this])
      go_wp2_with (first | (refine wpList_load_row rfl 69 (.tmp 1) rfl (w.heap.size + 1) rfl 69 C (0, 0) _ hb1 Try.underlying69 rfl hsz.out ?_) | (refine wpList_store_rowTo rfl 69 (.tmp 0) (.tmp 12) rfl rfl w.heap.size C rfl rfl 69 Z hb0 hsz.out hol.out hC.out.2.2 ?_))
      refine bodyPost_ret (results_cell_row rfl _ _ w.heap.size 69 C (0, 0) _ rfl hb2 Try.underlying69 rfl hsz.out) rfl ?_
      exact ⟨C, rfl, hC.out, hB2⟩
end Go.Proofs.Ytjpbeoiiplapaaa.C
