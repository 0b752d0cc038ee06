/- From arrays and structs by value, as the row's opening gives them, to the words of the walks. -/
import Derived.Test.YtfahfbkkgcekgaaRow
import Derived.Lib.SmallJoins
import Derived.ChangeSlices
import Derived.WideShapes
import Derived.ChangeShapes
namespace Go.Proofs.Ytfahfbkkgcekgaa.W
set_option linter.unusedVariables false
open Go Go.RowKit Go.ChangeShapes Go.WideShapes Go.ChangeAt

section
variable {H : Type} {enc : TypeId × Value → H} {P : Program} {w : World} {base : Nat} {held : Bool}
theorem open_bytes1 {t e : TypeId} {n : Nat} {v : Value} {y : DataW H × List MemPlace} (ht : P.underlying t = some (.slice e)) (he : P.underlying e = some (.int .u8)) (hc : P.cellsOf e = 1)
    (h : DataW.trod enc P w base (fun _ => true) held n t [v] = some y) : ∃ (A : Option Addr) (c : Nat) (l : List UInt8), v = .slice A l.length c ∧ Sl u8 w w.heap.size A l ∧ l.length ≤ c ∧ c ≤ maxLen := by
  rcases open_ints ht he hc h with ⟨hcs, _⟩ | ⟨x, len, cap, zs, hcs, _, hl, hm, hz, _, hcell, hwz⟩
  · obtain ⟨l, h1, h2, h3, h4⟩ := of_row (w := w) (zs := []) (.inl ⟨rfl, rfl, rfl, rfl⟩)
    exact ⟨none, 0, l, by simp at hcs; rw [hcs, h1], h2, by omega, h4⟩
  · obtain ⟨l, h1, h2, h3, h4⟩ := of_row (w := w) (zs := zs) (.inr ⟨_, rfl, hl, hm, by simpa using hz, hcell, hwz⟩)
    exact ⟨some x, cap, l, by simp at hcs; rw [hcs, h1], h2, by omega, h4⟩
theorem open_u321 {t : TypeId} {n : Nat} {v : Value} {y : DataW H × List MemPlace} (ht : P.underlying t = some (.int .u32))
    (h : DataW.trod enc P w base (fun _ => true) held n t [v] = some y) : ∃ x : Nat, v = .int .u32 (x : Int) ∧ x ≤ 4294967295 := by
  obtain ⟨z, hz, _, hwf⟩ := DataW.trod_int ht h
  obtain ⟨x, hx, rfl⟩ := u32_of_wf hwf
  exact ⟨x, by simpa using hz, hx⟩
theorem open_i641 {t : TypeId} {n : Nat} {v : Value} {y : DataW H × List MemPlace} (ht : P.underlying t = some (.int .i64))
    (h : DataW.trod enc P w base (fun _ => true) held n t [v] = some y) : ∃ z : Int, v = .int .i64 z ∧ -9223372036854775808 ≤ z ∧ z ≤ 9223372036854775807 := by
  obtain ⟨z, hz, _, hwf⟩ := DataW.trod_int ht h
  exact ⟨z, by simpa using hz, i64_of_wf hwf⟩
/-- An array by value, of elements of one cell. -/
theorem open_arr {r : Reach} {b0 : Nat} {n : Nat} {t e : TypeId} {v : Value} {d : DataW H} {p : List MemPlace}
    (ht : P.underlying t = some (.array n e)) (hc : P.cellsOf e = 1) (hct : P.cellsOf t = n) (hv : Value.okWide P w r b0 t v) (h : DataW.Trod enc P w base (fun _ => true) held t v d p) :
    ∃ vs : List Value, vs.length = n ∧ v = .agg vs.toArray ∧ ∀ (i : Nat) (u : Value), vs[i]? = some u → ∃ m y, DataW.trod enc P w base (fun _ => true) held m e [u] = some y := by
  obtain ⟨cs, rfl, hsz⟩ : ∃ cs, v = .agg cs ∧ cs.size = P.cellsOf t := by
    simp only [Value.okWide, ht] at hv
    obtain ⟨cs, h1, h2, _⟩ := hv
    exact ⟨cs, h1, h2⟩
  obtain ⟨fuel, hf⟩ := h
  obtain ⟨xs, m, _, _, hlen, hxs, hel⟩ := DataW.trod_array ht hf
  simp only [Value.cells] at hlen hel
  rw [hc] at hel
  refine ⟨cs.toList, by rw [Array.length_toList, hsz, hct], by simp, fun i u hu => ?_⟩
  have hi : i < n := by
    have := (List.getElem?_eq_some_iff.1 hu).1
    rw [Array.length_toList, hsz, hct] at this; exact this
  have h1 := hel i hi
  rw [Nat.mul_one] at h1
  have hx : xs[i]? = some xs[i] := List.getElem?_eq_getElem (by omega)
  rw [hx] at h1
  have h2 : (cs.toList.drop i).take 1 = [u] := by
    obtain ⟨hlt, he⟩ := List.getElem?_eq_some_iff.1 hu
    rw [List.drop_eq_getElem_cons hlt, he]; rfl
  rw [h2] at h1
  exact ⟨m, _, h1⟩
theorem open_u32x2 {r : Reach} {b0 : Nat} {t e : TypeId} {v : Value} {d : DataW H} {p : List MemPlace}
    (ht : P.underlying t = some (.array 2 e)) (he : P.underlying e = some (.int .u32)) (hc : P.cellsOf e = 1) (hct : P.cellsOf t = 2) (hv : Value.okWide P w r b0 t v) (h : DataW.Trod enc P w base (fun _ => true) held t v d p) :
    ∃ x y : Nat, v = .agg #[.int .u32 (x : Int), .int .u32 (y : Int)] ∧ x ≤ 4294967295 ∧ y ≤ 4294967295 := by
  obtain ⟨vs, hl, rfl, hel⟩ := open_arr ht hc hct hv h
  match vs, hl with
  | [a, b], _ =>
    obtain ⟨_, _, h0⟩ := hel 0 a rfl
    obtain ⟨_, _, h1⟩ := hel 1 b rfl
    obtain ⟨x, rfl, hx⟩ := open_u321 he h0
    obtain ⟨y, rfl, hy⟩ := open_u321 he h1
    exact ⟨x, y, rfl, hx, hy⟩
theorem open_bytes2 {r : Reach} {b0 : Nat} {t s e : TypeId} {v : Value} {d : DataW H} {p : List MemPlace}
    (ht : P.underlying t = some (.array 2 s)) (hs : P.underlying s = some (.slice e)) (he : P.underlying e = some (.int .u8)) (hc : P.cellsOf e = 1) (hcs : P.cellsOf s = 1) (hct : P.cellsOf t = 2) (hv : Value.okWide P w r b0 t v) (h : DataW.Trod enc P w base (fun _ => true) held t v d p) :
    ∃ (A : Option Addr) (c : Nat) (l : List UInt8) (A' : Option Addr) (c' : Nat) (l' : List UInt8), v = .agg #[.slice A l.length c, .slice A' l'.length c'] ∧
      (Sl u8 w w.heap.size A l ∧ l.length ≤ c ∧ c ≤ maxLen) ∧ (Sl u8 w w.heap.size A' l' ∧ l'.length ≤ c' ∧ c' ≤ maxLen) := by
  obtain ⟨vs, hl, rfl, hel⟩ := open_arr ht hcs hct hv h
  match vs, hl with
  | [a, b], _ =>
    obtain ⟨_, _, h0⟩ := hel 0 a rfl
    obtain ⟨_, _, h1⟩ := hel 1 b rfl
    obtain ⟨A, c, l, rfl, k⟩ := open_bytes1 hs he hc h0
    obtain ⟨A', c', l', rfl, k'⟩ := open_bytes1 hs he hc h1
    exact ⟨A, c, l, A', c', l', rfl, k, k'⟩
theorem open_bytes3 {r : Reach} {b0 : Nat} {t s e : TypeId} {v : Value} {d : DataW H} {p : List MemPlace}
    (ht : P.underlying t = some (.array 3 s)) (hs : P.underlying s = some (.slice e)) (he : P.underlying e = some (.int .u8)) (hc : P.cellsOf e = 1) (hcs : P.cellsOf s = 1) (hct : P.cellsOf t = 3) (hv : Value.okWide P w r b0 t v) (h : DataW.Trod enc P w base (fun _ => true) held t v d p) :
    ∃ (A : Option Addr) (c : Nat) (l : List UInt8) (A' : Option Addr) (c' : Nat) (l' : List UInt8) (A'' : Option Addr) (c'' : Nat) (l'' : List UInt8), v = .agg #[.slice A l.length c, .slice A' l'.length c', .slice A'' l''.length c''] ∧
      (Sl u8 w w.heap.size A l ∧ l.length ≤ c ∧ c ≤ maxLen) ∧ (Sl u8 w w.heap.size A' l' ∧ l'.length ≤ c' ∧ c' ≤ maxLen) ∧ (Sl u8 w w.heap.size A'' l'' ∧ l''.length ≤ c'' ∧ c'' ≤ maxLen) := by
  obtain ⟨vs, hl, rfl, hel⟩ := open_arr ht hcs hct hv h
  match vs, hl with
  | [a, b, d], _ =>
    obtain ⟨_, _, h0⟩ := hel 0 a rfl
    obtain ⟨_, _, h1⟩ := hel 1 b rfl
    obtain ⟨_, _, h2⟩ := hel 2 d rfl
    obtain ⟨A, c, l, rfl, k⟩ := open_bytes1 hs he hc h0
    obtain ⟨A', c', l', rfl, k'⟩ := open_bytes1 hs he hc h1
    obtain ⟨A'', c'', l'', rfl, k''⟩ := open_bytes1 hs he hc h2
    exact ⟨A, c, l, A', c', l', A'', c'', l'', rfl, k, k', k''⟩
end
end Go.Proofs.Ytfahfbkkgcekgaa.W
