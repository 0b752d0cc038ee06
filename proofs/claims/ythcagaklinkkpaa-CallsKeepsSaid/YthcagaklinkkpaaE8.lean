/- The reference's Forward and Inverse; the contracts in the form that the laws' walks take. -/
import Derived.Test.YthcagaklinkkpaaE7I
namespace Go.Proofs.Ythcagaklinkkpaa.E
set_option linter.unusedVariables false
open Go Go.RowKit Go.Shelf Go.Proofs.Ythcagaklinkkpaa Go.Proofs.Ythcagaklinkkpaa.W Go.Proofs.Ythcagaklinkkpaa.M Go.Proofs.Ythcagaklinkkpaa.B

theorem change_long (t : Int) (A : Option Addr) (c : Nat) (b : Bs) (h1 : b.length > 65536) (hn : b.length ≤ 9223372036854775000) (w : World) (B : Nat) (h : Sl u8 w B A b) :
    Calls Try.prog 23 #[.slice A b.length c, .int .i64 t] w fun e w' => e = .returned (.tuple #[.slice none 0 0, .int .i64 5]) ∧ Below w.heap.size w w' := by
  have e1 : siteErr b.length = 5 := if_pos h1
  have C := refSites_any A c b hn w B h
  rw [e1] at C
  have C := Lib.hid C
  clear e1
  go_enter Try.func23, Try.ntmps23
  go_wp2_with (go_at_call 16; refine C.out.mono ?_; rintro e w1 ⟨A1, c1, rfl, hs1, hb1⟩)
  go_ret2
  exact ⟨rfl, hb1⟩

theorem refForward_any (A : Option Addr) (c : Nat) (b : Bs) (hn : b.length ≤ 9223372036854775000) (w : World) (B : Nat) (h : Sl u8 w B A b) :
    Calls Try.prog 13 #[.slice A b.length c] w fun e w' => ∃ A' c', e = .returned (.tuple #[.slice A' (outT 1 b).length c', .int .i64 (siteErr b.length)]) ∧
      w'.ownsRow w.heap.size 5 1 (.slice A' (outT 1 b).length c') (outT 1 b).length ((outT 1 b).map u8) ∧ Below w.heap.size w w' := by
  by_cases h1 : b.length > 65536
  · have e1 : siteErr b.length = 5 := if_pos h1
    have e2 : outT 1 b = [] := if_pos h1
    rw [e1, e2]
    have C := Lib.hid (change_long 1 A c b h1 hn w B h)
    clear e1 e2
    go_enter Try.func13, Try.ntmps13
    go_wp2_with (go_at_call 23; refine C.out.mono ?_; rintro e w1 ⟨rfl, hb⟩)
    go_ret2
    exact ⟨none, 0, rfl, World.ownsRow_nil _ _ _ _, hb⟩
  · have e1 : siteErr b.length = 0 := if_neg h1
    have e2 : outT 1 b = trans 1 b := if_neg h1
    rw [e1, e2, trans_length]
    have C := Lib.hid (change_fwd A c b (by omega) w B h)
    clear e1 e2
    obtain ⟨T, hT⟩ : ∃ T, T = trans 1 b := ⟨_, rfl⟩
    rw [← hT] at C ⊢
    clear hT
    go_enter Try.func13, Try.ntmps13
    go_wp2_with (go_at_call 23; refine C.out.mono ?_; rintro e w1 ⟨A', c', rfl, hown, hb⟩)
    go_ret2
    exact ⟨A', c', rfl, hown, hb⟩

theorem refInverse_any (A : Option Addr) (c : Nat) (b : Bs) (hn : b.length ≤ 9223372036854775000) (w : World) (B : Nat) (h : Sl u8 w B A b) :
    Calls Try.prog 19 #[.slice A b.length c] w fun e w' => ∃ A' c', e = .returned (.tuple #[.slice A' (outT (-1) b).length c', .int .i64 (siteErr b.length)]) ∧
      w'.ownsRow w.heap.size 5 1 (.slice A' (outT (-1) b).length c') (outT (-1) b).length ((outT (-1) b).map u8) ∧ Below w.heap.size w w' := by
  by_cases h1 : b.length > 65536
  · have e1 : siteErr b.length = 5 := if_pos h1
    have e2 : outT (-1) b = [] := if_pos h1
    rw [e1, e2]
    have C := Lib.hid (change_long (-1) A c b h1 hn w B h)
    clear e1 e2
    go_enter Try.func19, Try.ntmps19
    go_wp2_with (go_at_call 23; refine C.out.mono ?_; rintro e w1 ⟨rfl, hb⟩)
    go_ret2
    exact ⟨none, 0, rfl, World.ownsRow_nil _ _ _ _, hb⟩
  · have e1 : siteErr b.length = 0 := if_neg h1
    have e2 : outT (-1) b = trans (-1) b := if_neg h1
    rw [e1, e2, trans_length]
    have C := Lib.hid (change_inv A c b (by omega) w B h)
    clear e1 e2
    obtain ⟨T, hT⟩ : ∃ T, T = trans (-1) b := ⟨_, rfl⟩
    rw [← hT] at C ⊢
    clear hT
    go_enter Try.func19, Try.ntmps19
    go_wp2_with (go_at_call 23; refine C.out.mono ?_; rintro e w1 ⟨A', c', rfl, hown, hb⟩)
    go_ret2
    exact ⟨A', c', rfl, hown, hb⟩

/-! ### the forms that the walks of the laws take -/
/-- A call that hands back a byte string of m bytes, and a number. -/
def Gives (f : Nat) (A : Option Addr) (n c : Nat) (w : World) (t : Bs) (m : Nat) (er : Int) : Prop :=
  Calls Try.prog f #[.slice A n c] w fun e w' => ∃ A' c', e = .returned (.tuple #[.slice A' m c', .int .i64 er]) ∧ Sl u8 w' w'.heap.size A' t ∧ m ≤ c' ∧ c' ≤ maxLen ∧ Below w.heap.size w w'
theorem Gives.of {f : Nat} {A : Option Addr} {n c : Nat} {w : World} {t : Bs} {m : Nat} {er : Int} (hm : t.length = m)
    (h : Calls Try.prog f #[.slice A n c] w fun e w' => ∃ A' c', e = .returned (.tuple #[.slice A' t.length c', .int .i64 er]) ∧ w'.ownsRow w.heap.size 5 1 (.slice A' t.length c') t.length (t.map u8) ∧ Below w.heap.size w w') :
    Gives f A n c w t m er := by
  subst hm
  exact h.mono fun e w' ⟨A', c', he, ho, hb⟩ => ⟨A', c', he, Sl.of_own ho, by obtain ⟨_, _, hv, h1, h2⟩ := own_form ho; injection hv with _ _ h3; subst h3; exact ⟨h1, h2, hb⟩⟩
def GivesI (f : Nat) (A : Option Addr) (n c : Nat) (w : World) (t : List Nat) (m : Nat) (er : Int) : Prop :=
  Calls Try.prog f #[.slice A n c] w fun e w' => ∃ A' c', e = .returned (.tuple #[.slice A' m c', .int .i64 er]) ∧ Sl iv w' w'.heap.size A' t ∧ m ≤ c' ∧ c' ≤ maxLen ∧ Below w.heap.size w w'
theorem GivesI.of {f : Nat} {A : Option Addr} {n c : Nat} {w : World} {t : List Nat} {m : Nat} {er : Int} (hm : t.length = m)
    (h : Calls Try.prog f #[.slice A n c] w fun e w' => ∃ A' c', e = .returned (.tuple #[.slice A' t.length c', .int .i64 er]) ∧ w'.ownsRow w.heap.size 3 1 (.slice A' t.length c') t.length (t.map iv) ∧ Below w.heap.size w w') :
    GivesI f A n c w t m er := by
  subst hm
  exact h.mono fun e w' ⟨A', c', he, ho, hb⟩ => ⟨A', c', he, Sl.of_own ho, by obtain ⟨_, _, hv, h1, h2⟩ := own_form ho; injection hv with _ _ h3; subst h3; exact ⟨h1, h2, hb⟩⟩
theorem forward_g {A : Option Addr} {c n : Nat} {b t : Bs} (hl : b.length = n) (hn : n ≤ 65536) (ht : trans 1 b = t) {w : World} {B : Nat} (h : Sl u8 w B A b) : Gives 12 A n c w t n 0 := by
  subst hl ht
  have := Gives.of (m := b.length) (by rw [show outT 1 b = trans 1 b from if_neg (by omega), trans_length]) (Forward_any A c b (by omega) w B h)
  rwa [show outT 1 b = trans 1 b from if_neg (by omega), show siteErr b.length = 0 from if_neg (by omega)] at this
theorem inverse_g {A : Option Addr} {c n : Nat} {b t : Bs} (hl : b.length = n) (hn : n ≤ 65536) (ht : trans (-1) b = t) {w : World} {B : Nat} (h : Sl u8 w B A b) : Gives 18 A n c w t n 0 := by
  subst hl ht
  have := Gives.of (m := b.length) (by rw [show outT (-1) b = trans (-1) b from if_neg (by omega), trans_length]) (Inverse_any A c b (by omega) w B h)
  rwa [show outT (-1) b = trans (-1) b from if_neg (by omega), show siteErr b.length = 0 from if_neg (by omega)] at this
theorem sites_g {A : Option Addr} {c n m : Nat} {b : Bs} {t : List Nat} (hl : b.length = n) (hn : n ≤ 65536) (ht : scan b 0 = t) (hm : t.length = m) {w : World} {B : Nat} (h : Sl u8 w B A b) : GivesI 15 A n c w t m 0 := by
  subst hl ht
  have := GivesI.of (m := m) (by rw [show siteOut b = scan b 0 from if_neg (by omega)]; exact hm) (Sites_any A c b (by omega) w B h)
  rwa [show siteOut b = scan b 0 from if_neg (by omega), show siteErr b.length = 0 from if_neg (by omega)] at this
/-- bytes.Equal of two slices that read as one list. -/
theorem equal_same {A A' : Option Addr} {c c' n : Nat} {l : List UInt8} (hl : l.length = n) {w : World} {B B' : Nat} (h : Sl u8 w B A l) (h' : Sl u8 w B' A' l) :
    Calls Try.prog 14 #[.slice A n c, .slice A' n c'] w fun e w' => e = .returned (.bool true) ∧ w = w' := by
  subst hl
  refine (equal_any A A' c c' l l w B B' h h').mono ?_
  rintro e w' ⟨rfl, rfl⟩
  exact ⟨by simp, rfl⟩
theorem equalI_same {A A' : Option Addr} {c c' n : Nat} {l : List Nat} (hl : l.length = n) (hn : n ≤ 140737488355328) {w : World} {B B' : Nat} (h : Sl iv w B A l) (h' : Sl iv w B' A' l) :
    Calls Try.prog 17 #[.slice A n c, .slice A' n c'] w fun e w' => e = .returned (.bool true) ∧ Below w.heap.size w w' := by
  subst hl
  refine (equalI_any A A' c c' l l w B B' h h' hn hn).mono ?_
  rintro e w' ⟨rfl, hb⟩
  exact ⟨by simp, hb⟩
end Go.Proofs.Ythcagaklinkkpaa.E
