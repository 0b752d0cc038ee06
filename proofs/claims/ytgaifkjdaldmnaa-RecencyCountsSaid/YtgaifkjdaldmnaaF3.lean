/- recency.Inverse, Front. -/
import Derived.Test.YtgaifkjdaldmnaaF2
namespace Go.Proofs.Ytgaifkjdaldmnaa.F
set_option linter.unusedVariables false
open Go Go.RowKit Go.Proofs.Ytgaifkjdaldmnaa Go.Proofs.Ytgaifkjdaldmnaa.W Go.Proofs.Ytgaifkjdaldmnaa.M

/-- The list behind some places. -/
def fini (l : Bs) (b : Bs) : Bs := b.foldl (fun m q => front m q.toNat) l
theorem fini_take {b : Bs} {k : Nat} {p : UInt8} (hp : b[k]? = some p) (l : Bs) : fini l (b.take (k + 1)) = front (fini l (b.take k)) p.toNat := by
  unfold fini; rw [take_succ hp, List.foldl_append]; rfl
theorem fini_full {l : Bs} (h : Full l) (b : Bs) : Full (fini l b) := by
  induction b generalizing l with
  | nil => exact h
  | cons p b ih =>
    refine ih ?_
    show Full (front l p.toNat)
    rw [h.front p.toNat_lt]; exact h.mv _
theorem inv_at (b : Bs) : ∀ (l : Bs) (i : Nat) (p : UInt8), b[i]? = some p → (inv l b)[i]? = some ((fini l (b.take i)).getD p.toNat 0) := by
  induction b with
  | nil => intro l i p h; simp at h
  | cons x b ih =>
    intro l i p h
    cases i with
    | zero =>
      obtain rfl : x = p := by simpa using h
      rfl
    | succ i => exact ih (front l x.toNat) i p (by simpa using h)

set_option maxRecDepth 100000 in
set_option maxHeartbeats 1000000 in
theorem Inverse_ok (A : Option Addr) (c n : Nat) (b : Bs) (hl : b.length = n) (hn : n ≤ 65536) (w : World) (B : Nat) (h : Sl u8 w B A b) :
    Calls Try.prog 18 #[.slice A n c] w fun e w' => ∃ A' c', e = .returned (.tuple #[.slice A' n c', .int .i64 0]) ∧
      w'.ownsRow w.heap.size 5 1 (.slice A' n c') n ((inv fresh b).map u8) ∧ Below w.heap.size w w' := by
  obtain ⟨i0, hi, hz0, hz1, hz2⟩ := info_parts info5
  have hSl := h.lt
  have HL := Lib.hid hl
  clear h hl
  go_enter Try.func18, Try.ntmps18
  go_wp2_with (first
    | (go_at_call 27; refine (fresh_any _).mono ?_; rintro e w1 ⟨rfl, hL, hb1⟩)
    | (go_at_call 24; refine (short_ok _ _ _ hn _).mono ?_; rintro e w2 ⟨rfl, rfl⟩))
  have hz : w.heap.size < w1.heap.size := Blk.lt hL
  go_loopw [5, 8, 17] (fun v _ i wm => ∃ (k : Nat) (A' : Option Addr) (c' : Nat), k ≤ n ∧ i = .int .i64 k ∧ v = .slice A' k c' ∧ wm.ownsRow (w.heap.size + 1) 5 1 (.slice A' k c') k (((inv fresh b).take k).map u8) ∧
      Lst wm w.heap.size (fini fresh (b.take k)) ∧ w.heap.size < wm.heap.size ∧ Below w.heap.size w wm) (fun _ _ i _ => n - (intOf i).toNat)
  case atStart => exact ⟨0, none, 0, Nat.zero_le _, rfl, rfl, World.ownsRow_nil _ _ _ _, hL, hz, hb1⟩
  case round =>
    obtain ⟨k, A', c', hk, rfl, rfl, hown, hL, hz, hB⟩ := hrel
    by_cases hlt : k < n
    · obtain ⟨bl, o, x, rfl, _, hx, hcx⟩ := (hSl.below hB).byte (j := k) (by rw [HL.out]; exact hlt)
      have hF : Full (fini fresh (b.take k)) := fini_full fresh_full _
      have HX := Lib.hid (inv_at b fresh k x hx)
      have HT := Lib.hid (fini_take hx fresh)
      have hp := lt256 x
      have C2 := Lib.hid fun W (h : Lst W w.heap.size (fini fresh (b.take k))) => front_any w.heap.size x.toNat _ hF.len x.toNat_lt W h
      obtain ⟨l, hl⟩ : ∃ l, l = fini fresh (b.take k) := ⟨_, rfl⟩
      rw [← hl] at hL HX HT C2
      obtain ⟨y, hy⟩ : ∃ y : UInt8, y = l.getD x.toNat 0 := ⟨_, rfl⟩
      rw [← hy] at C2 HX
      clear hl hx hy hF
      go_wp2_with (first
        | (go_at_call 28; refine (C2.out _ hL).mono ?_; rintro e w3 ⟨rfl, hL3, hg3⟩; have hown3 := hown.kept hg3 (.inr (fun e => by have := (hown.lt w.heap.size e).1; omega)); have hB3 := hB.grown hg3 (Nat.le_of_lt hz) (fun j hj => by cases hj; exact Nat.le_refl _); have hz3 := Nat.lt_of_lt_of_le hz hg3.size)
        | (at_builtin; refine wpList_append_at _ u8_one' rfl _ _ 22 rfl (w.heap.size + 1) 5 i0 (.int .u8 0) 1 Try.underlying22 hi hz0 hz1 hz2 rfl (.slice A' k c') k _ rfl (hown3.alloc _) _ _ 1 [y] 1 rfl (Sl.of_new rfl rfl) rfl (by unfold maxLen; omega) (by omega) (by simp; omega) ?_; intro v4 w4 o4 g4 _; have hL4 := Lst.kept (Blk.alloc hL3 _) g4 (fun e => by have := (hown3.lt w.heap.size e.symm).1; omega); have hB4 := (hB3.alloc (Nat.le_of_lt hz3) _).grown g4 (by simp; omega) (fun j hj => by have := (hown3.lt j hj).1; omega); have hz4 : w.heap.size < w4.heap.size := by have := g4.size; simp at this; omega))
      obtain ⟨A4, c4, rfl, _, _⟩ := own_form o4
      go_roundw
      case rel => exact ⟨k + 1, A4, c4, by omega, by go_num, rfl, by rw [take_succ HX.out, List.map_append]; exact o4, by rw [HT.out]; exact hL4, hz4, hB4⟩
      case measure => simp [intOf]; omega
    · obtain rfl : k = n := by omega
      have hall : Hid ((inv fresh b).take k = inv fresh b) := Lib.hid (List.take_of_length_le (by rw [inv_length, HL.out]; exact Nat.le_refl _))
      go_wp2
      go_ret2
      exact ⟨A', c', rfl, own_base (by rw [← hall.out]; exact hown) (by omega), hB⟩

theorem cutAll (g : Nat) (w : World) : (Instr.sliceAt 52 (.pointer (some ⟨g, 0, none⟩)) none none none).run Try.prog w = .ok (.slice (some ⟨g, 0, none⟩) 256 256) w := by
  have hs : ∀ w, (sizeOf 5).run Try.prog w = .ok 1 w := fun w => by kernel_rfl
  rw [run_sliceAt_array_all w 52 ⟨g, 0, none⟩ (by kernel_rfl)]
  rw [show Try.prog.elem 52 = 5 by kernel_rfl, hs, show Try.prog.arrayLen 52 = 256 by kernel_rfl]
  show Result.ok (slicedAt _ _ _ _ _) _ = _
  unfold slicedAt
  simp [Addr.add]

set_option maxRecDepth 100000 in
set_option maxHeartbeats 1000000 in
theorem Front_ok (A : Option Addr) (c n : Nat) (b : Bs) (hl : b.length = n) (hn : n ≤ 65536) (w : World) (B : Nat) (h : Sl u8 w B A b) :
    Calls Try.prog 15 #[.slice A n c] w fun e w' => ∃ A', e = .returned (.tuple #[.slice A' 256 256, .int .i64 0]) ∧ Sl u8 w' w'.heap.size A' (fin fresh b) ∧ Below w.heap.size w w' := by
  have hSl := h.lt
  have HL := Lib.hid hl
  clear h hl
  go_enter Try.func15, Try.ntmps15
  go_wp2_with (first
    | (go_at_call 27; refine (fresh_any _).mono ?_; rintro e w1 ⟨rfl, hL, hb1⟩)
    | (go_at_call 24; refine (short_ok _ _ _ hn _).mono ?_; rintro e w2 ⟨rfl, rfl⟩))
  have hz : w.heap.size < w1.heap.size := Blk.lt hL
  go_loopw [7, 16] (fun _ i wm => ∃ (k : Nat), k ≤ n ∧ i = .int .i64 k ∧ Lst wm w.heap.size (fin fresh (b.take k)) ∧ w.heap.size < wm.heap.size ∧ Below w.heap.size w wm) (fun _ i _ => n - (intOf i).toNat)
  case atStart => exact ⟨0, Nat.zero_le _, rfl, hL, hz, hb1⟩
  case round =>
    obtain ⟨k, hk, rfl, hL, hz, hB⟩ := hrel
    by_cases hlt : k < n
    · obtain ⟨bl, o, x, rfl, _, hx, hcx⟩ := (hSl.below hB).byte (j := k) (by rw [HL.out]; exact hlt)
      have hF : Full (fin fresh (b.take k)) := fresh_full.fin _
      have HT := Lib.hid (fin_take hx fresh)
      have HM := Lib.hid (front_idx (hF.all x))
      have hp := hF.idx_lt x
      have C1 := Lib.hid fun W (h : Lst W w.heap.size (fin fresh (b.take k))) => place_any w.heap.size _ hF x W h
      have C2 := Lib.hid fun W (h : Lst W w.heap.size (fin fresh (b.take k))) => front_any w.heap.size ((fin fresh (b.take k)).idxOf x) _ hF.len hp W h
      obtain ⟨l, hl⟩ : ∃ l, l = fin fresh (b.take k) := ⟨_, rfl⟩
      rw [← hl] at hL HT HM hp C1 C2
      obtain ⟨p, hpp⟩ : ∃ p, p = l.idxOf x := ⟨_, rfl⟩
      rw [← hpp] at HM hp C1 C2
      obtain ⟨y, hy⟩ : ∃ y : Int, y = ((l.getD p 0).toNat : Int) := ⟨_, rfl⟩
      rw [← hy] at C2
      clear hl hpp hx hy hF
      go_wp2_with (first
        | (go_at_call 29; refine (C1.out _ hL).mono ?_; rintro e w3 ⟨rfl, rfl⟩)
        | (go_at_call 28; refine (C2.out _ hL).mono ?_; rintro e w3 ⟨rfl, hL3, hg3⟩; have hB3 := hB.grown hg3 (Nat.le_of_lt hz) (fun j hj => by cases hj; exact Nat.le_refl _); have hz3 := Nat.lt_of_lt_of_le hz hg3.size))
      go_roundw
      case rel => exact ⟨k + 1, by omega, by go_num, by rw [HT.out, ← HM.out]; exact hL3, hz3, hB3⟩
      case measure => simp [intOf]; omega
    · obtain rfl : k = n := by omega
      have hall : Hid (b.take k = b) := Lib.hid (List.take_of_length_le (by rw [HL.out]; exact Nat.le_refl _))
      rw [hall.out] at hL
      have q := cutAll w.heap.size
      go_wp2
      go_ret2
      exact ⟨some ⟨w.heap.size, 0, none⟩, rfl, Sl.of_blk hL, hB⟩
end Go.Proofs.Ytgaifkjdaldmnaa.F
