/- The recency list in memory: fresh, front, place. -/
import Derived.Test.YtgaifkjdaldmnaaChecked
import Derived.Test.YtgaifkjdaldmnaaWords
import Derived.Test.YtgaifkjdaldmnaaAppend
import Derived.Test.YtgaifkjdaldmnaaM34B
import Derived.WalkKit
import Derived.OwnWalk
import Derived.WalkSpells
import Derived.WalkLawsBesides
import Derived.BigQuiet
import Derived.OpenShut
import Derived.PlainAid
import Derived.Lib.Hide
import Derived.StillTailTactics
import Derived.Laws.CopyOwn
import Derived.Deep.WholeRow
import Derived.IntWalk
namespace Go.Proofs.Ytgaifkjdaldmnaa.F
set_option linter.unusedVariables false
open Go Go.RowKit Go.Proofs.Ytgaifkjdaldmnaa Go.Proofs.Ytgaifkjdaldmnaa.W Go.Proofs.Ytgaifkjdaldmnaa.M

/-- A recency list in a block. -/
def Lst (w : World) (g : Nat) (l : Bs) : Prop := Blk w g 52 (l.map u8).toArray
theorem zero_list : ∃ Z : Array Value, (∀ w, (zeroValue 52).run Try.prog w = .ok (.agg Z) w) ∧ Z = Array.replicate 256 (.int .u8 0) :=
  ⟨_, fun w => by kernel_rfl, rfl⟩

/-- The list is filled up to k. -/
def upto (k : Nat) : Bs := (List.range 256).map fun i => if i < k then UInt8.ofNat i else 0
theorem upto_0 : upto 0 = List.replicate 256 0 := by decide +kernel
theorem upto_256 : upto 256 = fresh := by decide +kernel
theorem upto_len (k : Nat) : (upto k).length = 256 := by simp [upto]
theorem upto_at (k i : Nat) : (upto k)[i]? = if i < 256 then some (if i < k then UInt8.ofNat i else 0) else none := by
  by_cases h : i < 256
  · simp [upto, h]
  · simp [upto, h]
theorem upto_next {k : Nat} (h : k < 256) : (upto k).set k (UInt8.ofNat k) = upto (k + 1) := by
  apply List.ext_getElem?
  intro i
  rw [List.getElem?_set, upto_len, upto_at, upto_at]
  by_cases hi : k = i
  · subst hi
    simp [h]
  · rw [if_neg hi]
    by_cases h1 : i < k
    · rw [if_pos h1, if_pos (show i < k + 1 by omega)]
    · rw [if_neg h1, if_neg (show ¬ i < k + 1 by omega)]
theorem Lst.cell {w : World} {g : Nat} {l : Bs} (h : Lst w g l) {k : Nat} (hk : k < l.length) : w.cell? ⟨g, k, none⟩ = some (.int .u8 ((l.getD k 0).toNat : Int)) := by
  rw [Blk.cell h k]; simp [hk, u8, List.getD]

set_option maxRecDepth 100000 in
theorem fresh_any (w : World) : Calls Try.prog 27 #[] w fun e w' => e = .returned (.pointer (some ⟨w.heap.size, 0, none⟩)) ∧ Lst w' w.heap.size fresh ∧ Below w.heap.size w w' := by
  obtain ⟨Z, hz, hZ⟩ := zero_list
  have HZ := Lib.hid hZ
  clear hZ
  go_enter Try.func27, Try.ntmps27
  go_wp2_with fail
  have hb0 : Lst (w.alloc (.cells Z 52)) w.heap.size (upto 0) := by
    unfold Lst; rw [upto_0, List.map_replicate, show ((List.replicate 256 (u8 0)).toArray : Array Value) = Z by rw [HZ.out]; rfl]; exact Blk.new w _ _
  have hB : Below w.heap.size w (w.alloc (.cells Z 52)) := (Below.refl _ w).alloc (Nat.le_refl _) _
  obtain ⟨w0, hw0⟩ : ∃ w0, w0 = w.alloc (.cells Z 52) := ⟨_, rfl⟩
  rw [← hw0] at hb0 hB ⊢
  clear hw0
  go_loopw [2, 5] (fun _ i W => ∃ k : Nat, k ≤ 256 ∧ i = .int .i64 k ∧ Lst W w.heap.size (upto k) ∧ Below w.heap.size w W) (fun _ i _ => 256 - (intOf i).toNat)
  case atStart => exact ⟨0, Nat.zero_le _, rfl, hb0, hB⟩
  case round =>
    obtain ⟨k, hk, rfl, hb, hB⟩ := hrel
    by_cases hlt : k < 256
    · have hcell := hb.cell (k := k) (by rw [upto_len]; exact hlt)
      have hfro := Blk.frozen hb k
      have hwr : IntKind.u8.wrap (k : Int) = k := by simp [IntKind.wrap, IntKind.signed, IntKind.bits]; omega
      have HN : Hid (Lst (wr.setCell ⟨w.heap.size, k, none⟩ (.int .u8 (k : Int))) w.heap.size (upto (k + 1))) := Lib.hid (by
        have := Blk.store hb k (.int .u8 (k : Int))
        unfold Lst
        rw [← upto_next hlt, List.map_set]
        have e : W.u8 (UInt8.ofNat k) = .int .u8 (k : Int) := by unfold W.u8; rw [UInt8.toNat_ofNat', Nat.mod_eq_of_lt (by omega)]
        rw [e]
        simpa using this)
      have hBs := hB.setCell (p := ⟨w.heap.size, k, none⟩) (Nat.le_refl _) (.int .u8 (k : Int))
      go_wp2
      go_roundw
      case rel => exact ⟨k + 1, by omega, by go_num, HN.out, hBs⟩
      case measure => simp [intOf]; omega
    · obtain rfl : k = 256 := by omega
      go_wp2
      go_ret
      exact ⟨rfl, by rw [← upto_256]; exact hb, hB⟩

/-- The list behind the copy and the store. -/
theorem front_cells {l : Bs} (hl : l.length = 256) {k : Nat} (hk : k < 256) :
    ((((l.map u8).take 1 ++ ((l.map u8).take k ++ (l.map u8).drop (1 + k))).toArray).setIfInBounds 0 (.int .u8 ((l.getD k 0).toNat : Int))) = ((front l k).map u8).toArray := by
  unfold front
  rw [List.eraseIdx_eq_take_drop_succ]
  rcases l with _ | ⟨a, l⟩
  · simp at hl
  · simp [u8, Nat.add_comm]
theorem info5 : (Try.prog.info? 5).map (fun i => (i.zero, i.size, i.bytes)) = some (some (.int .u8 0), 1, 1) := by kernel_rfl
theorem size5 : (Try.prog.info? 5).map (·.size) = some 1 := by kernel_rfl

theorem arr52 : Try.prog.underlying 52 = some (.array 256 5) := by kernel_rfl
theorem cut1 (g k : Nat) (hk : k < 256) (w : World) : (Instr.sliceAt 52 (.pointer (some ⟨g, 0, none⟩)) (some (.int .i64 1)) (some (.int .i64 ((k : Int) + 1))) none).run Try.prog w = .ok (.slice (some ⟨g, 1, none⟩) k 255) w := by
  have hs : ∀ w, (sizeOf 5).run Try.prog w = .ok 1 w := fun w => by kernel_rfl
  rw [run_sliceAt_array_lh w 52 ⟨g, 0, none⟩ (by kernel_rfl) .i64 .i64 1 ((k : Int) + 1) (by omega) (by omega) (by rw [show Try.prog.arrayLen 52 = 256 by kernel_rfl]; omega)]
  rw [show Try.prog.elem 52 = 5 by kernel_rfl, hs, show Try.prog.arrayLen 52 = 256 by kernel_rfl]
  show Result.ok (slicedAt _ _ _ _ _) _ = _
  unfold slicedAt
  rw [show ((k : Int) + 1).toNat = k + 1 by omega]
  simp [Addr.add]
theorem cut0 (g k : Nat) (hk : k < 256) (w : World) : (Instr.sliceAt 52 (.pointer (some ⟨g, 0, none⟩)) none (some (.int .i64 (k : Int))) none).run Try.prog w = .ok (.slice (some ⟨g, 0, none⟩) k 256) w := by
  have hs : ∀ w, (sizeOf 5).run Try.prog w = .ok 1 w := fun w => by kernel_rfl
  rw [run_sliceAt_array_h w 52 ⟨g, 0, none⟩ (by kernel_rfl) .i64 (k : Int) (by omega) (by rw [show Try.prog.arrayLen 52 = 256 by kernel_rfl]; omega)]
  rw [show Try.prog.elem 52 = 5 by kernel_rfl, hs, show Try.prog.arrayLen 52 = 256 by kernel_rfl]
  show Result.ok (slicedAt _ _ _ _ _) _ = _
  unfold slicedAt
  simp [Addr.add]

set_option maxRecDepth 100000 in
set_option maxHeartbeats 1000000 in
theorem front_any (g k : Nat) (l : Bs) (hl : l.length = 256) (hk : k < 256) (w : World) (h : Lst w g l) :
    Calls Try.prog 28 #[.pointer (some ⟨g, 0, none⟩), .int .i64 (k : Int)] w fun e w' => e = .returned (.int .u8 ((l.getD k 0).toNat : Int)) ∧ Lst w' g (front l k) ∧ w.grownBy w' (some g) := by
  have hcell := h.cell (k := k) (by rw [hl]; exact hk)
  obtain ⟨v, hv⟩ : ∃ v : Int, v = ((l.getD k 0).toNat : Int) := ⟨_, rfl⟩
  have HF := Lib.hid (front_cells hl hk)
  rw [← hv] at hcell HF ⊢
  clear hv
  go_enter Try.func28, Try.ntmps28
  go_wp2_with fail
  have q1 : IntKind.i64.wrap ((k : Int) + 1) = (k : Int) + 1 := IntWalk.i64_in _ (by omega)
  have q2 : (0 : Int) ≤ (k : Int) + 1 := by omega
  have q3 : ((k : Int) + 1).toNat = k + 1 := by omega
  have q4 := cut1 g k hk
  have q5 := cut0 g k hk
  go_still_tail 9, (by kernel_rfl)
  change wpList _ _ _ _ _ w.drew
  refine wpList_copy_own rfl (.tmp 15) (.tmp 19) 22 22 rfl 5 Try.underlying22 size5 g 1 k 255 ⟨g, 0, none⟩ k 256 rfl rfl (l.map W.u8).toArray 52 h ((l.map W.u8).take k) (by simp [hl]; omega) ?_ (by simp [hl]; omega) (fun u hu => u8_one u (List.mem_of_mem_take hu)) ?_
  · intro j u hu
    rw [List.getElem?_take] at hu
    split at hu
    · have := (Blk.cell h j).trans (show (l.map W.u8).toArray[j]? = some u by simpa using hu)
      have ha : (⟨g, 0, none⟩ : Addr).add j = ⟨g, j, none⟩ := by unfold Addr.add; by_cases hj : j = 0 <;> simp [hj]
      rw [ha]; exact this
    · cases hu
  · obtain ⟨C, hC⟩ : ∃ C : Array Value, C = ((l.map W.u8).take 1 ++ ((l.map W.u8).take k ++ (l.map W.u8).drop (1 + k))).toArray := ⟨_, rfl⟩
    have e1 : ((l.map W.u8).take k).length = k := by simp [hl]; omega
    have e2 : ((l.map W.u8).toArray.toList.take 1 ++ ((l.map W.u8).take k ++ (l.map W.u8).toArray.toList.drop (1 + ((l.map W.u8).take k).length))).toArray = C := by rw [hC, e1]
    rw [e2, e1]
    have HC : Hid (C.setIfInBounds 0 (.int .u8 v) = ((front l k).map W.u8).toArray) := Lib.hid (by rw [hC]; exact HF.out)
    have hsz : 0 < C.size := by rw [hC]; simp; omega
    obtain ⟨w3, hw3⟩ : ∃ w3, w3 = w.drew.setRow g C := ⟨_, rfl⟩
    have b3 : Blk w3 g 52 C := by rw [hw3]; exact setRow_heap w.drew g _ _ _ _ h
    have g3 : w.grownBy w3 (some g) := by
      rw [hw3]
      exact ⟨rfl, rfl, rfl, by simp [World.setRow], fun j _ hj => setRow_other w.drew g j _ (fun e => hj (by rw [e]))⟩
    rw [← hw3]
    obtain ⟨v0, hc0⟩ : ∃ v0, w3.cell? ⟨g, 0, none⟩ = some v0 := ⟨C[0], by rw [b3.cell 0]; exact Array.getElem?_eq_getElem hsz⟩
    have hf0 := b3.frozen 0
    have HB : Hid (Blk (w3.setCell ⟨g, 0, none⟩ (.int .u8 v)) g 52 ((front l k).map W.u8).toArray) := Lib.hid (by rw [← HC.out]; exact b3.store 0 _)
    have HG : Hid (w.grownBy (w3.setCell ⟨g, 0, none⟩ (.int .u8 v)) (some g)) := Lib.hid ⟨g3.os, g3.tape, g3.output, by rw [World.size_setCell]; exact g3.size, fun j hj hne => (Below.heap_setCell w3 ⟨g, 0, none⟩ _ j (fun e => hne (by rw [e]))).trans (g3.block j hj hne)⟩
    clear hC hw3 e1 e2 hsz q4 q5 q1 q2 q3
    go_wp2
    go_ret
    exact ⟨rfl, HB.out, HG.out⟩

/-- slices.Index of a byte that is there. -/
theorem index_any (A : Option Addr) (c n : Nat) (l : Bs) (hl : l.length = n) (hn : n ≤ 9223372036854775000) (x : UInt8) (hx : x ∈ l) (w : World) (B : Nat) (h : Sl u8 w B A l) :
    Calls Try.prog 36 #[.slice A n c, .int .u8 (x.toNat : Int)] w fun e w' => e = .returned (.int .i64 (l.idxOf x : Int)) ∧ w = w' := by
  have hi : l.idxOf x < n := by rw [← hl]; exact List.idxOf_lt_length_iff.2 hx
  have HL := Lib.hid hl
  have HI : Hid (∀ k, k < l.idxOf x → ∀ y, l[k]? = some y → y ≠ x) := Lib.hid fun k hk y hy e => by
    subst e
    have hkl : k < l.length := (List.getElem?_eq_some_iff.1 hy).1
    have := List.not_of_lt_findIdx (p := fun z => z == y) (xs := l) (i := k) hk
    rw [List.getElem?_eq_getElem hkl] at hy
    injection hy with hy
    rw [hy] at this
    simp at this
  have HX : Hid (∀ y, l[l.idxOf x]? = some y → y = x) := Lib.hid fun y hy => by
    have hkl : l.idxOf x < l.length := (List.getElem?_eq_some_iff.1 hy).1
    rw [List.getElem?_eq_getElem hkl, List.getElem_idxOf] at hy
    injection hy with hy
    exact hy.symm
  obtain ⟨p, hp⟩ : ∃ p, p = l.idxOf x := ⟨_, rfl⟩
  rw [← hp] at hi HI HX ⊢
  clear hp hx hl
  go_enter Try.func36, Try.ntmps36
  go_wp2
  go_loop [5, 8] (fun _ i => ∃ k : Nat, k ≤ p ∧ i = .int .i64 k) (fun _ i => n - (intOf i).toNat)
  case atStart => exact ⟨0, Nat.zero_le _, rfl⟩
  case round =>
    obtain ⟨k, hk, rfl⟩ := hrel
    have hkn : k < n := by omega
    obtain ⟨b, o, y, rfl, _, hy, hc⟩ := h.byte (j := k) (by rw [HL.out]; exact hkn)
    by_cases hlt : k < p
    · have hne : ((x.toNat : Int) == (y.toNat : Int)) = false := by
        rw [beq_eq_false_iff_ne]; intro e; exact HI.out k hlt y hy (UInt8.toNat_inj.1 (by omega))
      clear hy
      go_wp2
      go_round
      case rel => exact ⟨k + 1, by omega, by go_num⟩
      case measure => simp [intOf]; omega
    · obtain rfl : k = p := by omega
      obtain rfl := HX.out y hy
      clear hy
      go_wp2
      go_ret
      exact ⟨rfl, rfl⟩

theorem place_any (g : Nat) (l : Bs) (hl : Full l) (x : UInt8) (w : World) (h : Lst w g l) :
    Calls Try.prog 29 #[.pointer (some ⟨g, 0, none⟩), .int .u8 (x.toNat : Int)] w fun e w' => e = .returned (.int .i64 (l.idxOf x : Int)) ∧ w = w' := by
  have C := Lib.hid (index_any (some ⟨g, 0, none⟩) 256 256 l hl.len (by omega) x (hl.all x) w _ (Sl.of_blk h))
  go_enter Try.func29, Try.ntmps29
  go_wp2_with (go_at_call 36; refine C.out.mono ?_; rintro e w1 ⟨rfl, rfl⟩)
  go_ret
  exact ⟨rfl, rfl⟩
end Go.Proofs.Ytgaifkjdaldmnaa.F
