/- From an array of two 16-bit numbers by value, as the row's opening gives it, to the words of the walks. -/
import Derived.Test.YtfahfbkkgcekgaaRowS
namespace Go.Proofs.Ytfahfbkkgcekgaa.W
set_option linter.unusedVariables false
open Go Go.RowKit Go.ChangeShapes Go.WideShapes Go.ChangeAt

section
variable {H : Type} {enc : TypeId × Value → H} {P : Program} {w : World} {base : Nat} {held : Bool}
theorem i16_of_wf {n : Int} (h : (Lit.int .i16 n).wf = true) : -32768 ≤ n ∧ n ≤ 32767 := by
  have hmin : IntKind.i16.min = -32768 := rfl
  have hmax : IntKind.i16.max = 32767 := rfl
  simpa [Lit.wf, hmin, hmax] using h
theorem open_i161 {t : TypeId} {n : Nat} {v : Value} {y : DataW H × List MemPlace} (ht : P.underlying t = some (.int .i16))
    (h : DataW.trod enc P w base (fun _ => true) held n t [v] = some y) : ∃ z : Int, v = .int .i16 z ∧ -32768 ≤ z ∧ z ≤ 32767 := by
  obtain ⟨z, hz, _, hwf⟩ := DataW.trod_int ht h
  exact ⟨z, by simpa using hz, i16_of_wf hwf⟩
theorem open_i16x2 {r : Reach} {b0 : Nat} {t e : TypeId} {v : Value} {d : DataW H} {p : List MemPlace}
    (ht : P.underlying t = some (.array 2 e)) (he : P.underlying e = some (.int .i16)) (hc : P.cellsOf e = 1) (hct : P.cellsOf t = 2) (hv : Value.okWide P w r b0 t v) (h : DataW.Trod enc P w base (fun _ => true) held t v d p) :
    ∃ x y : Int, v = .agg #[.int .i16 x, .int .i16 y] ∧ (-32768 ≤ x ∧ x ≤ 32767) ∧ -32768 ≤ y ∧ y ≤ 32767 := by
  obtain ⟨vs, hl, rfl, hel⟩ := open_arr ht hc hct hv h
  match vs, hl with
  | [a, b], _ =>
    obtain ⟨_, _, h0⟩ := hel 0 a rfl
    obtain ⟨_, _, h1⟩ := hel 1 b rfl
    obtain ⟨x, rfl, hx⟩ := open_i161 he h0
    obtain ⟨y, rfl, hy⟩ := open_i161 he h1
    exact ⟨x, y, rfl, hx, hy⟩
end
end Go.Proofs.Ytfahfbkkgcekgaa.W
