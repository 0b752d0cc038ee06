/- recency.Forward, Inverse, Front for strings that are not too long. -/
import Derived.Test.YtgaifkjdaldmnaaF1
namespace Go.Proofs.Ytgaifkjdaldmnaa.F
set_option linter.unusedVariables false
open Go Go.RowKit Go.Proofs.Ytgaifkjdaldmnaa Go.Proofs.Ytgaifkjdaldmnaa.W Go.Proofs.Ytgaifkjdaldmnaa.M

theorem short_ok (A : Option Addr) (c n : Nat) (hn : n ≤ 65536) (w : World) :
    Calls Try.prog 24 #[.slice A n c] w fun e w' => e = .returned (.int .i64 0) ∧ w = w' := by
  go_enter Try.func24, Try.ntmps24
  go_wp2
  go_ret
  exact ⟨rfl, rfl⟩
theorem short_no (A : Option Addr) (c n : Nat) (hn : 65536 < n) (h2 : n ≤ 140737488355328) (w : World) :
    Calls Try.prog 24 #[.slice A n c] w fun e w' => e = .returned (.int .i64 5) ∧ w = w' := by
  have hn' : (65536 : Int) < n := by omega
  clear hn
  go_enter Try.func24, Try.ntmps24
  go_wp2
  go_ret
  exact ⟨rfl, rfl⟩

/-- An owned row in a later world. -/
theorem own_later {W W' : World} {base size n : Nat} {e : TypeId} {v : Value} {xs : List Value} (h : W.ownsRow base e size v n xs) (hb : Below W.heap.size W W') : W'.ownsRow base e size v n xs := by
  obtain ⟨h1, h2⟩ := h
  refine ⟨h1, ?_⟩
  rcases h2 with h2 | ⟨g, cap, cur, hv, hg, hh, r⟩
  · exact .inl h2
  · exact .inr ⟨g, cap, cur, hv, hg, (hb.block g (Array.getElem?_eq_some_iff.1 hh).1).trans hh, r⟩
theorem Lst.kept {w w' : World} {g : Nat} {l : Bs} {row : Option Nat} (h : Lst w g l) (hg : w.grownBy w' row) (hr : some g ≠ row) : Lst w' g l := Blk.grown h hg hr
theorem fin_take {b : Bs} {k : Nat} {x : UInt8} (hx : b[k]? = some x) (l : Bs) : fin l (b.take (k + 1)) = mv (fin l (b.take k)) x := by
  rw [take_succ hx, fin_snoc]

set_option maxRecDepth 100000 in
set_option maxHeartbeats 1000000 in
theorem Forward_ok (A : Option Addr) (c n : Nat) (b : Bs) (hl : b.length = n) (hn : n ≤ 65536) (w : World) (B : Nat) (h : Sl u8 w B A b) :
    Calls Try.prog 16 #[.slice A n c] w fun e w' => ∃ A' c', e = .returned (.tuple #[.slice A' n c', .int .i64 0]) ∧
      w'.ownsRow w.heap.size 5 1 (.slice A' n c') n ((fwd fresh b).map u8) ∧ Below w.heap.size w w' := by
  obtain ⟨i0, hi, hz0, hz1, hz2⟩ := info_parts info5
  have hSl := h.lt
  have HL := Lib.hid hl
  clear h hl
  go_enter Try.func16, Try.ntmps16
  go_wp2_with (first
    | (go_at_call 27; refine (fresh_any _).mono ?_; rintro e w1 ⟨rfl, hL, hb1⟩)
    | (go_at_call 24; refine (short_ok _ _ _ hn _).mono ?_; rintro e w2 ⟨rfl, rfl⟩))
  have hz : w.heap.size < w1.heap.size := Blk.lt hL
  go_loopw [5, 8, 9, 18] (fun v _ _ i wm => ∃ (k : Nat) (A' : Option Addr) (c' : Nat), k ≤ n ∧ i = .int .i64 k ∧ v = .slice A' k c' ∧ wm.ownsRow (w.heap.size + 1) 5 1 (.slice A' k c') k (((fwd fresh b).take k).map u8) ∧
      Lst wm w.heap.size (fin fresh (b.take k)) ∧ w.heap.size < wm.heap.size ∧ Below w.heap.size w wm) (fun _ _ _ i _ => n - (intOf i).toNat)
  case atStart => exact ⟨0, none, 0, Nat.zero_le _, rfl, rfl, World.ownsRow_nil _ _ _ _, hL, hz, hb1⟩
  case round =>
    obtain ⟨k, A', c', hk, rfl, rfl, hown, hL, hz, hB⟩ := hrel
    by_cases hlt : k < n
    · obtain ⟨bl, o, x, rfl, _, hx, hcx⟩ := (hSl.below hB).byte (j := k) (by rw [HL.out]; exact hlt)
      have hF : Full (fin fresh (b.take k)) := fresh_full.fin _
      have HX := Lib.hid (fwd_at b fresh k x hx)
      have HT := Lib.hid (fin_take hx fresh)
      have HM := Lib.hid (front_idx (hF.all x))
      have HV := Lib.hid (hF.place_val x)
      have hp := hF.idx_lt x
      have C1 := Lib.hid fun W (h : Lst W w.heap.size (fin fresh (b.take k))) => place_any w.heap.size _ hF x W h
      have C2 := Lib.hid fun W (h : Lst W w.heap.size (fin fresh (b.take k))) => front_any w.heap.size ((fin fresh (b.take k)).idxOf x) _ hF.len hp W h
      obtain ⟨l, hl⟩ : ∃ l, l = fin fresh (b.take k) := ⟨_, rfl⟩
      rw [← hl] at hL HX HT HM HV hp C1 C2
      obtain ⟨p, hpp⟩ : ∃ p, p = l.idxOf x := ⟨_, rfl⟩
      rw [← hpp] at HM HV hp C1 C2
      have hwr : IntKind.u8.wrap (p : Int) = p := by simp [IntKind.wrap, IntKind.signed, IntKind.bits]; omega
      obtain ⟨y, hy⟩ : ∃ y : Int, y = ((l.getD p 0).toNat : Int) := ⟨_, rfl⟩
      rw [← hy] at C2
      clear hl hpp hx hy hF
      go_wp2_with (first
        | (go_at_call 29; refine (C1.out _ hL).mono ?_; rintro e w3 ⟨rfl, rfl⟩)
        | (go_at_call 28; refine (C2.out _ hL).mono ?_; rintro e w3 ⟨rfl, hL3, hg3⟩; have hown3 := hown.kept hg3 (.inr (fun e => by have := (hown.lt w.heap.size e).1; omega)); have hB3 := hB.grown hg3 (Nat.le_of_lt hz) (fun j hj => by cases hj; exact Nat.le_refl _); have hz3 := Nat.lt_of_lt_of_le hz hg3.size)
        | (at_builtin; refine wpList_append_at _ u8_one' rfl _ _ 22 rfl (w.heap.size + 1) 5 i0 (.int .u8 0) 1 Try.underlying22 hi hz0 hz1 hz2 rfl (.slice A' k c') k _ rfl (hown3.alloc _) _ _ 1 [place l x] 1 rfl (Sl.of_new rfl (by rw [List.map_cons, List.map_nil, W.u8_def, HV.out])) rfl (by unfold maxLen; omega) (by omega) (by simp; omega) ?_; intro v4 w4 o4 g4 _; have hL4 := Lst.kept (Blk.alloc hL3 _) g4 (fun e => by have := (hown3.lt w.heap.size e.symm).1; omega); have hB4 := (hB3.alloc (Nat.le_of_lt hz3) _).grown g4 (by simp; omega) (fun j hj => by have := (hown3.lt j hj).1; omega); have hz4 : w.heap.size < w4.heap.size := by have := g4.size; simp at this; omega))
      obtain ⟨A4, c4, rfl, _, _⟩ := own_form o4
      go_roundw
      case rel => exact ⟨k + 1, A4, c4, by omega, by go_num, rfl, by rw [take_succ HX.out, List.map_append]; exact o4, by rw [HT.out, ← HM.out]; exact hL4, hz4, hB4⟩
      case measure => simp [intOf]; omega
    · obtain rfl : k = n := by omega
      have hall : Hid ((fwd fresh b).take k = fwd fresh b) := Lib.hid (List.take_of_length_le (by rw [fwd_length, HL.out]; exact Nat.le_refl _))
      go_wp2
      go_ret2
      exact ⟨A', c', rfl, own_base (by rw [← hall.out]; exact hown) (by omega), hB⟩
end Go.Proofs.Ytgaifkjdaldmnaa.F
