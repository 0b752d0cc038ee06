/- The reference's Inverse and Front. -/
import Derived.Test.YtgaifkjdaldmnaaF5
namespace Go.Proofs.Ytgaifkjdaldmnaa.F
set_option linter.unusedVariables false
open Go Go.RowKit Go.Proofs.Ytgaifkjdaldmnaa Go.Proofs.Ytgaifkjdaldmnaa.W Go.Proofs.Ytgaifkjdaldmnaa.M

theorem list_at {w : World} {A : Option Addr} {B : Nat} {l : Bs} (h : Sl u8 w B A l) (hl : l.length = 256) {k : Nat} (hk : k < 256) : ∃ b o, A = some ⟨b, o, none⟩ ∧ w.cell? ⟨b, o + k, none⟩ = some (.int .u8 ((l.getD k 0).toNat : Int)) := by
  obtain ⟨b, o, x, e, _, hx, hc⟩ := h.byte (j := k) (by omega)
  exact ⟨b, o, e, by rw [hc]; simp [List.getD, hx]⟩

set_option maxRecDepth 100000 in
set_option maxHeartbeats 1000000 in
theorem rInverse_ok (A : Option Addr) (c n : Nat) (b : Bs) (hl : b.length = n) (hn : n ≤ 65536) (w : World) (B : Nat) (h : Sl u8 w B A b) :
    Calls Try.prog 19 #[.slice A n c] w fun e w' => ∃ A' c', e = .returned (.tuple #[.slice A' n c', .int .i64 0]) ∧
      w'.ownsRow w.heap.size 5 1 (.slice A' n c') n ((inv fresh b).map u8) ∧ Below w.heap.size w w' := by
  obtain ⟨i0, hi, hz0, hz1, hz2⟩ := info_parts info5
  have hSl := h.lt
  have HL := Lib.hid hl
  obtain ⟨f0, hf0⟩ : ∃ f0, f0 = fresh := ⟨_, rfl⟩
  have HF0 : Hid (Full f0) := Lib.hid (by rw [hf0]; exact fresh_full)
  have CL : Hid (Calls Try.prog 30 #[] w fun e w' => ∃ A' c', e = .returned (.slice A' 256 c') ∧ w'.ownsRow w.heap.size 5 1 (.slice A' 256 c') 256 (f0.map u8) ∧ Below w.heap.size w w') := Lib.hid (by rw [hf0]; exact rlist_any w)
  rw [← hf0]
  clear h hl hf0
  go_enter Try.func19, Try.ntmps19
  go_wp2_with (go_at_call 30; refine CL.out.mono ?_; rintro e w1 ⟨AL, cL, rfl, hL, hb1⟩)
  go_loopw [4, 5, 6] (fun lv v i wm => ∃ (k : Nat) (A' : Option Addr) (c' : Nat) (AL : Option Addr) (cL : Nat), k ≤ n ∧ i = .int .i64 k ∧ v = .slice A' k c' ∧ lv = .slice AL 256 cL ∧ wm.ownsRow w.heap.size 5 1 (.slice A' k c') k (((inv f0 b).take k).map u8) ∧
      wm.ownsRow w.heap.size 5 1 (.slice AL 256 cL) 256 ((fini f0 (b.take k)).map u8) ∧ Apart (.slice A' k c') (.slice AL 256 cL) ∧ Below w.heap.size w wm) (fun _ _ i _ => n - (intOf i).toNat)
  case atStart => exact ⟨0, none, 0, AL, cL, Nat.zero_le _, rfl, rfl, rfl, World.ownsRow_nil _ _ _ _, hL, apart_nil _, hb1⟩
  case round =>
    obtain ⟨k, A', c', AL, cL, hk, rfl, rfl, rfl, hown, hL, hap, hB⟩ := hrel
    by_cases hlt : k < n
    · obtain ⟨bl, o, x, rfl, hbl, hx, hcw⟩ := hSl.byte (j := k) (by rw [HL.out]; exact hlt)
      have HCW := Lib.hid hcw
      have hcx := (hB.cell (p := ⟨bl, o + k, none⟩) hbl).trans hcw
      have hF : Full (fini f0 (b.take k)) := fini_full HF0.out _
      have HX := Lib.hid (inv_at b f0 k x hx)
      have HT := Lib.hid (fini_take hx f0)
      have hp := lt256 x
      obtain ⟨_, _, hvL, hcL, hcm⟩ := own_form hL
      have hcL' : 256 ≤ cL := by injection hvL with _ _ h3; omega
      have hcm' : cL ≤ maxLen := by injection hvL with _ _ h3; omega
      have HC := Lib.hid (And.intro hcL' hcm')
      obtain ⟨l, hl⟩ : ∃ l, l = fini f0 (b.take k) := ⟨_, rfl⟩
      rw [← hl] at hL HX HT hF
      have C2 := Lib.hid fun wm (h : Sl W.u8 wm wm.heap.size AL l) => move_any AL cL x.toNat l hF.len HC.out.1 HC.out.2 x.toNat_lt wm _ h
      obtain ⟨gL, oL, hAL, hcl⟩ := list_at (Sl.of_own hL) hF.len x.toNat_lt
      obtain ⟨y, hy⟩ : ∃ y : UInt8, y = l.getD x.toNat 0 := ⟨_, rfl⟩
      rw [← hy] at hcl HX
      subst hAL
      clear hl hx hF hvL hcL hcm hcL' hcm' hcw hy
      go_wp2_with (first
        | (at_builtin; refine wpList_append_at _ u8_one' rfl _ _ 22 rfl w.heap.size 5 i0 (.int .u8 0) 1 Try.underlying22 hi hz0 hz1 hz2 rfl (.slice A' k c') k _ rfl (hown.alloc _) _ _ 1 [y] 1 rfl (Sl.of_new rfl rfl) rfl (by unfold maxLen; omega) (by omega) (by have := hB.size; simp; omega) ?_; intro v4 w4 o4 g4 a4; have hL4 := hap.kept (hL.alloc _) g4; have hap4 := hap.step (hL.alloc _) (Nat.le_refl _) a4; have hB4 := (hB.alloc hB.size _).grown g4 (by have := hB.size; simp; omega) (fun j hj => (hown.lt j hj).1); have hcx4 := (hB4.cell (p := ⟨bl, o + k, none⟩) hbl).trans HCW.out; obtain ⟨A4, c4, rfl, _, _⟩ := own_form o4)
        | (go_at_call 32; refine (C2.out _ (Sl.of_own hL4)).mono ?_; rintro e w5 ⟨A5, c5, rfl, o5, hb5⟩; have hap5 := apart_later o4 o5; have o4 := own_later o4 hb5; have hB5 := hB4.trans (hb5.mono hB4.size)))
      go_roundw
      case rel => exact ⟨k + 1, A4, c4, A5, c5, by omega, by go_num, rfl, rfl, by rw [take_succ HX.out, List.map_append]; exact o4, by rw [HT.out]; exact own_base o5 hB4.size, hap5, hB5⟩
      case measure => simp [intOf]; omega
    · obtain rfl : k = n := by omega
      have hall : Hid ((inv f0 b).take k = inv f0 b) := Lib.hid (List.take_of_length_le (by rw [inv_length, HL.out]; exact Nat.le_refl _))
      go_wp2
      go_ret2
      exact ⟨A', c', rfl, by rw [← hall.out]; exact hown, hB⟩

set_option maxRecDepth 100000 in
set_option maxHeartbeats 1000000 in
theorem rFront_ok (A : Option Addr) (c n : Nat) (b : Bs) (hl : b.length = n) (hn : n ≤ 65536) (w : World) (B : Nat) (h : Sl u8 w B A b) :
    Calls Try.prog 20 #[.slice A n c] w fun e w' => ∃ A' c', e = .returned (.tuple #[.slice A' 256 c', .int .i64 0]) ∧
      w'.ownsRow w.heap.size 5 1 (.slice A' 256 c') 256 ((fin fresh b).map u8) ∧ Below w.heap.size w w' := by
  have hSl := h.lt
  have HL := Lib.hid hl
  obtain ⟨f0, hf0⟩ : ∃ f0, f0 = fresh := ⟨_, rfl⟩
  have HF0 : Hid (Full f0) := Lib.hid (by rw [hf0]; exact fresh_full)
  have CL : Hid (Calls Try.prog 30 #[] w fun e w' => ∃ A' c', e = .returned (.slice A' 256 c') ∧ w'.ownsRow w.heap.size 5 1 (.slice A' 256 c') 256 (f0.map u8) ∧ Below w.heap.size w w') := Lib.hid (by rw [hf0]; exact rlist_any w)
  rw [← hf0]
  clear h hl hf0
  go_enter Try.func20, Try.ntmps20
  go_wp2_with (go_at_call 30; refine CL.out.mono ?_; rintro e w1 ⟨AL, cL, rfl, hL, hb1⟩)
  go_loopw [4, 5] (fun lv i wm => ∃ (k : Nat) (AL : Option Addr) (cL : Nat), k ≤ n ∧ i = .int .i64 k ∧ lv = .slice AL 256 cL ∧ wm.ownsRow w.heap.size 5 1 (.slice AL 256 cL) 256 ((fin f0 (b.take k)).map u8) ∧ Below w.heap.size w wm) (fun _ i _ => n - (intOf i).toNat)
  case atStart => exact ⟨0, AL, cL, Nat.zero_le _, rfl, rfl, hL, hb1⟩
  case round =>
    obtain ⟨k, AL, cL, hk, rfl, rfl, hL, hB⟩ := hrel
    by_cases hlt : k < n
    · obtain ⟨bl, o, x, rfl, _, hx, hcx⟩ := (hSl.below hB).byte (j := k) (by rw [HL.out]; exact hlt)
      have hF : Full (fin f0 (b.take k)) := HF0.out.fin _
      have HT := Lib.hid (fin_take hx f0)
      have HM := Lib.hid (front_idx (hF.all x))
      have hp := hF.idx_lt x
      obtain ⟨_, _, hvL, hcL, hcm⟩ := own_form hL
      have hcL' : 256 ≤ cL := by injection hvL with _ _ h3; omega
      have hcm' : cL ≤ maxLen := by injection hvL with _ _ h3; omega
      have HC := Lib.hid (And.intro hcL' hcm')
      obtain ⟨l, hl⟩ : ∃ l, l = fin f0 (b.take k) := ⟨_, rfl⟩
      rw [← hl] at hL HT HM hp hF
      have C1 := Lib.hid (rplace_any AL cL 256 l hF.len (by omega) x (hF.all x) wr _ (Sl.of_own hL))
      have C2 := Lib.hid (move_any AL cL (l.idxOf x) l hF.len HC.out.1 HC.out.2 hp wr _ (Sl.of_own hL))
      obtain ⟨p, hpp⟩ : ∃ p, p = l.idxOf x := ⟨_, rfl⟩
      rw [← hpp] at HM hp C1 C2
      clear hl hpp hx hF hvL hcL hcm hcL' hcm'
      go_wp2_with (first
        | (go_at_call 31; refine C1.out.mono ?_; rintro e w3 ⟨rfl, rfl⟩)
        | (go_at_call 32; refine C2.out.mono ?_; rintro e w5 ⟨A5, c5, rfl, o5, hb5⟩; have hB5 := hB.trans (hb5.mono hB.size)))
      go_roundw
      case rel => exact ⟨k + 1, A5, c5, by omega, by go_num, rfl, by rw [HT.out, ← HM.out]; exact own_base o5 hB.size, hB5⟩
      case measure => simp [intOf]; omega
    · obtain rfl : k = n := by omega
      have hall : Hid (b.take k = b) := Lib.hid (List.take_of_length_le (by rw [HL.out]; exact Nat.le_refl _))
      rw [hall.out] at hL
      go_wp2
      go_ret2
      exact ⟨AL, cL, rfl, hL, hB⟩
end Go.Proofs.Ytgaifkjdaldmnaa.F
