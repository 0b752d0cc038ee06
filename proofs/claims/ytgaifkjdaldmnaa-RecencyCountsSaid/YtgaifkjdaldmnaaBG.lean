/- Contracts in the form that the laws' walks take; bytes.Equal. -/
import Derived.Test.YtgaifkjdaldmnaaChecked
import Derived.Test.YtgaifkjdaldmnaaWords
import Derived.WalkKit
import Derived.OwnWalk
import Derived.WalkSpells
import Derived.WalkLawsBesides
import Derived.Lib.Hide
namespace Go.Proofs.Ytgaifkjdaldmnaa.B
set_option linter.unusedVariables false
open Go Go.RowKit Go.Proofs.Ytgaifkjdaldmnaa Go.Proofs.Ytgaifkjdaldmnaa.W

theorem equal_any (A A' : Option Addr) (c c' : Nat) (l l' : List UInt8) (w : World) (B B' : Nat) (h : Sl u8 w B A l) (h' : Sl u8 w B' A' l') :
    Calls Try.prog 14 #[.slice A l.length c, .slice A' l'.length c'] w fun e w' => e = .returned (.bool (l == l')) ∧ w = w' := by
  have k1 := h.convert (P := Try.prog) c _ _ _ Try.underlying22 Try.underlying5 Try.underlying9
  have k2 := h'.convert (P := Try.prog) c' _ _ _ Try.underlying22 Try.underlying5 Try.underlying9
  go_enter Try.func14, Try.ntmps14
  go_wp2
  go_ret
  exact ⟨rfl, rfl⟩
/-- bytes.Equal of two slices that read as one list. -/
theorem equal_same {A A' : Option Addr} {c c' n : Nat} {l : List UInt8} (hl : l.length = n) {w : World} {B B' : Nat} (h : Sl u8 w B A l) (h' : Sl u8 w B' A' l) :
    Calls Try.prog 14 #[.slice A n c, .slice A' n c'] w fun e w' => e = .returned (.bool true) ∧ w = w' := by
  subst hl
  refine (equal_any A A' c c' l l w B B' h h').mono ?_
  rintro e w' ⟨rfl, rfl⟩
  exact ⟨by simp, rfl⟩
/-- A call that hands back a byte string of m bytes, and a number. -/
def Gives (f : Nat) (A : Option Addr) (n c : Nat) (w : World) (t : List UInt8) (m : Nat) (er : Int) : Prop :=
  Calls Try.prog f #[.slice A n c] w fun e w' => ∃ A' c', e = .returned (.tuple #[.slice A' m c', .int .i64 er]) ∧ Sl u8 w' w'.heap.size A' t ∧ m ≤ c' ∧ c' ≤ maxLen ∧ Below w.heap.size w w'
theorem Gives.of {f : Nat} {A : Option Addr} {n c : Nat} {w : World} {t : List UInt8} {m : Nat} {er : Int}
    (h : Calls Try.prog f #[.slice A n c] w fun e w' => ∃ A' c', e = .returned (.tuple #[.slice A' m c', .int .i64 er]) ∧ w'.ownsRow w.heap.size 5 1 (.slice A' m c') m (t.map u8) ∧ Below w.heap.size w w') :
    Gives f A n c w t m er :=
  h.mono fun e w' ⟨A', c', he, ho, hb⟩ => ⟨A', c', he, Sl.of_own ho, by obtain ⟨_, _, hv, h1, h2⟩ := own_form ho; injection hv with _ _ h3; subst h3; exact ⟨h1, h2, hb⟩⟩
theorem bsa {B : Nat} {w w1 w2 : World} (h : Below B w w1) (hb : B ≤ w1.heap.size) (h2 : Below w1.heap.size w1 w2) : Below B w w2 := h.trans (h2.mono hb)
end Go.Proofs.Ytgaifkjdaldmnaa.B
