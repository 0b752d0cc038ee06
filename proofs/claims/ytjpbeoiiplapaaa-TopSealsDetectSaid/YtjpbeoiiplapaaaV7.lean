import Derived.Test.YtjpbeoiiplapaaaV6
import Derived.StillTailTactics
import Derived.Deep.QuietTactic
import Derived.BigQuiet
import Derived.Laws.StructEq
import Derived.Laws.Cover2
namespace Go.Proofs.Ytjpbeoiiplapaaa.C
set_option linter.unusedVariables false
open Go Go.RowKit Go.Shelf Go.Proofs.Ytjpbeoiiplapaaa Go.Proofs.Ytjpbeoiiplapaaa.W Go.Proofs.Ytjpbeoiiplapaaa.M Go.Proofs.Ytjpbeoiiplapaaa.B

/-! ### the plain side of a change -/
def chg (b : List UInt8) (i : Nat) (ds : List UInt8) (k : Nat) : List UInt8 := b.mapIdx fun j x => if i ≤ j ∧ j < i + k then x ^^^ ds.getD (j - i) 0 else x
theorem chg_length (b : List UInt8) (i : Nat) (ds : List UInt8) (k : Nat) : (chg b i ds k).length = b.length := by simp [chg]
theorem chg_get (b : List UInt8) (i : Nat) (ds : List UInt8) (k j : Nat) : (chg b i ds k)[j]? = (b[j]?).map fun x => if i ≤ j ∧ j < i + k then x ^^^ ds.getD (j - i) 0 else x := by
  simp only [chg, List.getElem?_mapIdx]
theorem chg_zero (b : List UInt8) (i : Nat) (ds : List UInt8) : chg b i ds 0 = b := by
  apply List.ext_getElem?
  intro j
  rw [chg_get]
  cases b[j]? with
  | none => rfl
  | some x => simp; omega
theorem chg_at {b : List UInt8} {i k : Nat} {ds : List UInt8} {x : UInt8} (h : b[i + k]? = some x) : (chg b i ds k)[i + k]? = some x := by
  rw [chg_get, h]; simp
theorem chg_set {b : List UInt8} {i k : Nat} {ds : List UInt8} {x d : UInt8} (h : b[i + k]? = some x) (hd : ds[k]? = some d) : (chg b i ds k).set (i + k) (x ^^^ d) = chg b i ds (k + 1) := by
  apply List.ext_getElem?
  intro j
  rw [List.getElem?_set, chg_get, chg_get, chg_length]
  have hlt := lt_of_some h
  by_cases hj : i + k = j
  · subst hj
    rw [if_pos rfl, if_pos hlt, h]
    have e : i + k - i = k := by omega
    simp only [Option.map_some]
    rw [if_pos (by omega), e, List.getD, hd]; rfl
  · rw [if_neg hj]
    congr 1
    funext y
    by_cases h1 : i ≤ j ∧ j < i + k
    · rw [if_pos h1, if_pos (by omega)]
    · rw [if_neg h1, if_neg (by omega)]
theorem chg_delta {b : List UInt8} {i : Nat} {d0 d1 d2 d3 : UInt8} (hi : i + 4 ≤ b.length) : chg b i [d0, d1, d2, d3] 4 = bxor b (delta4 b.length i [d0, d1, d2, d3]) := by
  apply List.ext_getElem?
  intro j
  rw [chg_get]
  simp only [bxor, delta4, List.getElem?_zipWith]
  cases hb : b[j]? with
  | none => simp
  | some x =>
    have hlt := lt_of_some hb
    simp only [Option.map_some, List.append_assoc]
    by_cases h1 : j < i
    · rw [if_neg (by omega), List.getElem?_append_left (by simp; omega), List.getElem?_replicate, if_pos h1]
      simp
    · rw [List.getElem?_append_right (by simp; omega), List.length_replicate]
      by_cases h2 : j < i + 4
      · rw [if_pos (by omega), List.getElem?_append_left (by simp; omega)]
        obtain ⟨m, rfl⟩ : ∃ m, j = i + m := ⟨j - i, by omega⟩
        have e : i + m - i = m := by omega
        rw [e]
        have : m < 4 := by omega
        rcases m with _ | _ | _ | _ | m
        · rfl
        · rfl
        · rfl
        · rfl
        · omega
      · rw [if_neg (by omega), List.getElem?_append_right (by simp; omega)]
        simp only [List.length_cons, List.length_nil, List.getElem?_replicate]
        rw [if_pos (by omega)]
        simp

end Go.Proofs.Ytjpbeoiiplapaaa.C
