/- The reference's Forward, Inverse, Front. -/
import Derived.Test.YtgaifkjdaldmnaaF4
namespace Go.Proofs.Ytgaifkjdaldmnaa.F
set_option linter.unusedVariables false
open Go Go.RowKit Go.Proofs.Ytgaifkjdaldmnaa Go.Proofs.Ytgaifkjdaldmnaa.W Go.Proofs.Ytgaifkjdaldmnaa.M

theorem apart_nil (v : Value) : Apart (.slice none 0 0) v := fun k hk => by simp [Value.ownBlock] at hk
/-- A row made later shares no block with one that was there. -/
theorem apart_later {W W' : World} {base n m : Nat} {e : TypeId} {v v' : Value} {xs ys : List Value} (h : W.ownsRow base e 1 v n xs) (h' : W'.ownsRow W.heap.size e 1 v' m ys) : Apart v v' := fun k hk hk' => by
  have h1 := (h.lt k hk).2
  have h2 := (h'.lt k hk').1
  omega

set_option maxRecDepth 100000 in
set_option maxHeartbeats 1000000 in
theorem rForward_ok (A : Option Addr) (c n : Nat) (b : Bs) (hl : b.length = n) (hn : n ≤ 65536) (w : World) (B : Nat) (h : Sl u8 w B A b) :
    Calls Try.prog 17 #[.slice A n c] w fun e w' => ∃ A' c', e = .returned (.tuple #[.slice A' n c', .int .i64 0]) ∧
      w'.ownsRow w.heap.size 5 1 (.slice A' n c') n ((fwd fresh b).map u8) ∧ Below w.heap.size w w' := by
  obtain ⟨i0, hi, hz0, hz1, hz2⟩ := info_parts info5
  have hSl := h.lt
  have HL := Lib.hid hl
  obtain ⟨f0, hf0⟩ : ∃ f0, f0 = fresh := ⟨_, rfl⟩
  have HF0 : Hid (Full f0) := Lib.hid (by rw [hf0]; exact fresh_full)
  have CL : Hid (Calls Try.prog 30 #[] w fun e w' => ∃ A' c', e = .returned (.slice A' 256 c') ∧ w'.ownsRow w.heap.size 5 1 (.slice A' 256 c') 256 (f0.map u8) ∧ Below w.heap.size w w') := Lib.hid (by rw [hf0]; exact rlist_any w)
  rw [← hf0]
  clear h hl hf0
  go_enter Try.func17, Try.ntmps17
  go_wp2_with (go_at_call 30; refine CL.out.mono ?_; rintro e w1 ⟨AL, cL, rfl, hL, hb1⟩)
  go_loopw [4, 5, 6, 7] (fun lv v i _ wm => ∃ (k : Nat) (A' : Option Addr) (c' : Nat) (AL : Option Addr) (cL : Nat), k ≤ n ∧ i = .int .i64 k ∧ v = .slice A' k c' ∧ lv = .slice AL 256 cL ∧ wm.ownsRow w.heap.size 5 1 (.slice A' k c') k (((fwd f0 b).take k).map u8) ∧
      wm.ownsRow w.heap.size 5 1 (.slice AL 256 cL) 256 ((fin f0 (b.take k)).map u8) ∧ Apart (.slice A' k c') (.slice AL 256 cL) ∧ Below w.heap.size w wm) (fun _ _ i _ _ => n - (intOf i).toNat)
  case atStart => exact ⟨0, none, 0, AL, cL, Nat.zero_le _, rfl, rfl, rfl, World.ownsRow_nil _ _ _ _, hL, apart_nil _, hb1⟩
  case round =>
    obtain ⟨k, A', c', AL, cL, hk, rfl, rfl, rfl, hown, hL, hap, hB⟩ := hrel
    by_cases hlt : k < n
    · obtain ⟨bl, o, x, rfl, _, hx, hcx⟩ := (hSl.below hB).byte (j := k) (by rw [HL.out]; exact hlt)
      have hF : Full (fin f0 (b.take k)) := HF0.out.fin _
      have HX := Lib.hid (fwd_at b f0 k x hx)
      have HT := Lib.hid (fin_take hx f0)
      have HM := Lib.hid (front_idx (hF.all x))
      have HV := Lib.hid (hF.place_val x)
      have hp := hF.idx_lt x
      obtain ⟨_, _, hvL, hcL, hcm⟩ := own_form hL
      have hcL' : 256 ≤ cL := by injection hvL with _ _ h3; omega
      have hcm' : cL ≤ maxLen := by injection hvL with _ _ h3; omega
      have HC := Lib.hid (And.intro hcL' hcm')
      obtain ⟨l, hl⟩ : ∃ l, l = fin f0 (b.take k) := ⟨_, rfl⟩
      rw [← hl] at hL HX HT HM HV hp hF
      have C1 := Lib.hid (rplace_any AL cL 256 l hF.len (by omega) x (hF.all x) wr _ (Sl.of_own hL))
      have C2 := Lib.hid fun wm (h : Sl W.u8 wm wm.heap.size AL l) => move_any AL cL (l.idxOf x) l hF.len HC.out.1 HC.out.2 hp wm _ h
      obtain ⟨p, hpp⟩ : ∃ p, p = l.idxOf x := ⟨_, rfl⟩
      rw [← hpp] at HM HV hp C1 C2
      have hwr : IntKind.u8.wrap (p : Int) = p := by simp [IntKind.wrap, IntKind.signed, IntKind.bits]; omega
      clear hl hpp hx hF hvL hcL hcm hcL' hcm'
      go_wp2_with (first
        | (go_at_call 31; refine C1.out.mono ?_; rintro e w3 ⟨rfl, rfl⟩)
        | (at_builtin; refine wpList_append_at _ u8_one' rfl _ _ 22 rfl w.heap.size 5 i0 (.int .u8 0) 1 Try.underlying22 hi hz0 hz1 hz2 rfl (.slice A' k c') k _ rfl (hown.alloc _) _ _ 1 [place l x] 1 rfl (Sl.of_new rfl (by rw [List.map_cons, List.map_nil, W.u8_def, HV.out])) rfl (by unfold maxLen; omega) (by omega) (by have := hB.size; simp; omega) ?_; intro v4 w4 o4 g4 a4; have hL4 := hap.kept (hL.alloc _) g4; have hap4 := hap.step (hL.alloc _) (Nat.le_refl _) a4; have hB4 := (hB.alloc hB.size _).grown g4 (by have := hB.size; simp; omega) (fun j hj => (hown.lt j hj).1); obtain ⟨A4, c4, rfl, _, _⟩ := own_form o4)
        | (go_at_call 32; refine (C2.out _ (Sl.of_own hL4)).mono ?_; rintro e w5 ⟨A5, c5, rfl, o5, hb5⟩; have hap5 := apart_later o4 o5; have o4 := own_later o4 hb5; have hB5 := hB4.trans (hb5.mono hB4.size)))
      go_roundw
      case rel => exact ⟨k + 1, A4, c4, A5, c5, by omega, by go_num, rfl, rfl, by rw [take_succ HX.out, List.map_append]; exact o4, by rw [HT.out, ← HM.out]; exact own_base o5 hB4.size, hap5, hB5⟩
      case measure => simp [intOf]; omega
    · obtain rfl : k = n := by omega
      have hall : Hid ((fwd f0 b).take k = fwd f0 b) := Lib.hid (List.take_of_length_le (by rw [fwd_length, HL.out]; exact Nat.le_refl _))
      go_wp2
      go_ret2
      exact ⟨A', c', rfl, by rw [← hall.out]; exact hown, hB⟩
end Go.Proofs.Ytgaifkjdaldmnaa.F
