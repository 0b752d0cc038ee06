import Derived.Test.YtjpbeoiiplapaaaV5
import Derived.Lib.SlBytesConst
namespace Go.Proofs.Ytjpbeoiiplapaaa.C
set_option linter.unusedVariables false
open Go Go.RowKit Go.Shelf Go.Proofs.Ytjpbeoiiplapaaa Go.Proofs.Ytjpbeoiiplapaaa.W Go.Proofs.Ytjpbeoiiplapaaa.M Go.Proofs.Ytjpbeoiiplapaaa.B

theorem sum_ok (A : Option Addr) (c N : Nat) (xs : List UInt8) (hN : xs.length = N) (hn : N ≤ 140737488351232) (v : Int) (hv : ((crc xs).toNat : Int) = v) (w : World) (B : Nat) (h : Sl u8 w B A xs) :
    Calls Try.prog 8 #[.slice A N c] w fun e w' => e = .returned (.int .u32 v) ∧ Below w.heap.size w w' := by
  subst hN; subst hv; exact sum_any A c xs hn w B h
theorem seal_sl (A : Option Addr) (c N N' : Nat) (l : List UInt8) (hN : l.length = N) (hN' : N + 4 = N') (hn : N ≤ 140737488351232) (w : World) (B : Nat) (h : Sl u8 w B A l) :
    Calls Try.prog 4 #[.slice A N c] w fun e w' => ∃ A' c', e = .returned (.slice A' N' c') ∧ Sl u8 w' w'.heap.size A' (sealed l) ∧ N' ≤ c' ∧ c' ≤ maxLen ∧ Below w.heap.size w w' := by
  subst hN'
  refine (seal_ok A c N l hN hn w B h).mono ?_
  rintro e w' ⟨A', c', rfl, hown, hb⟩
  obtain ⟨A2, c2, hv, hnc, hcm⟩ := own_form hown
  obtain ⟨rfl, rfl⟩ : A' = A2 ∧ c' = c2 := by injection hv with h1 h2 h3; exact ⟨h1, h3⟩
  exact ⟨A', c', rfl, Sl.of_own hown, hnc, hcm, hb⟩
theorem Sl.of_marked {w : World} {g : Nat} {t : TypeId} {fr : Nat × Nat} {l : List UInt8} (h : w.heap[g]? = some (.cells (l.map u8).toArray t fr)) : Sl u8 w w.heap.size (some ⟨g, 0, none⟩) l := fun _ =>
  ⟨g, 0, rfl, (Array.getElem?_eq_some_iff.1 h).1, fun j x hx => by rw [Nat.zero_add, cell_of_row w g j _ t fr h]; simp [hx]⟩

theorem bs {w W W' : World} (h : Below w.heap.size w W) (hb : Below W.heap.size W W') : Below w.heap.size w W' := h.trans (hb.mono h.size)
theorem bsa {w W W' : World} {o : Obj} (h : Below w.heap.size w W) (hb : Below (W.alloc o).heap.size (W.alloc o) W') : Below w.heap.size w W' :=
  (h.alloc h.size o).trans (hb.mono (by have := h.size; simp; omega))

theorem crc_digits : ((crc [49, 50, 51, 52, 53, 54, 55, 56, 57]).toNat : Int) = 3421780262 := by decide +kernel
theorem crc_none : ((crc []).toNat : Int) = 0 := by decide +kernel
theorem crc_a : ((crc [97]).toNat : Int) = 3904355907 := by decide +kernel
theorem crc_0 : ((crc [0]).toNat : Int) = 3523407757 := by decide +kernel
theorem comb_a : ((combZ 3904355907#32 0#32 0).toNat : Int) = 3904355907 := by decide +kernel
theorem seal_a : (sealed [97] == [97, 67, 190, 183, 232]) = true := by decide +kernel
theorem seal_0 : (sealed [] == [0, 0, 0, 0]) = true := by decide +kernel

end Go.Proofs.Ytjpbeoiiplapaaa.C
