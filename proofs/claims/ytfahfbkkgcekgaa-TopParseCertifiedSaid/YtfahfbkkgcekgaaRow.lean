/- From a slice of bytes as the row's opening gives it to the words of the walks. -/
import Derived.Test.YtfahfbkkgcekgaaWords
import Derived.WalkArith
import Derived.ProofKit
import Derived.OpenShut
namespace Go.Proofs.Ytfahfbkkgcekgaa.W
set_option linter.unusedVariables false
open Go Go.RowKit

theorem of_row {w : World} {a : Option Addr} {len cap : Nat} {zs : List Int}
    (h : (a = none ∧ len = 0 ∧ cap = 0 ∧ zs = []) ∨
      ∃ x, a = some x ∧ len ≤ cap ∧ cap ≤ maxLen ∧ zs.length = cap ∧ (∀ i, i < zs.length → w.cell? (x.add i) = some (.int .u8 (zs.getD i 0))) ∧ ∀ n ∈ zs, (Lit.int .u8 n).wf = true) :
    ∃ l : List UInt8, l.length = len ∧ Sl u8 w w.heap.size a l ∧ len ≤ cap ∧ cap ≤ maxLen := by
  rcases h with ⟨rfl, rfl, rfl, rfl⟩ | ⟨x, rfl, hlc, hcm, hz, hcell, hwf⟩
  · exact ⟨[], rfl, Sl.nil, Nat.le_refl _, by simp [maxLen]⟩
  · refine ⟨(zs.take len).map fun n => UInt8.ofNat n.toNat, by simp; omega, fun hl => ?_, hlc, hcm⟩
    have h0 : 0 < ((zs.take len).map fun n => UInt8.ofNat n.toNat).length := List.length_pos_iff.2 hl
    have hlen : 0 < zs.length := by simp at h0; omega
    have hc0 := hcell 0 hlen
    have ha : x.add 0 = x := by simp [Addr.add]
    rw [ha] at hc0
    obtain ⟨b, o, s⟩ := x
    have hs : s = none := by
      cases s with
      | none => rfl
      | some t =>
        simp only [World.cell?] at hc0
        split at hc0
        · simp at hc0
        · cases hc0
    subst hs
    refine ⟨b, o, rfl, World.block_lt_of_cell? w _ hc0, fun j y hy => ?_⟩
    rw [List.getElem?_map, Option.map_eq_some_iff] at hy
    obtain ⟨n, hn, rfl⟩ := hy
    have hjz : zs[j]? = some n := by
      rw [List.getElem?_take] at hn
      split at hn
      · exact hn
      · cases hn
    have hj := (List.getElem?_eq_some_iff.1 hjz).1
    have hc := hcell j hj
    have hj2 : (⟨b, o, none⟩ : Addr).add j = ⟨b, o + j, none⟩ := by unfold Addr.add; by_cases hj : j = 0 <;> simp [hj]
    rw [hj2] at hc
    rw [hc, List.getD, hjz]
    have hw := hwf n (List.mem_of_getElem? hjz)
    have hb : 0 ≤ n ∧ n ≤ 255 := by
      have hmin : IntKind.u8.min = 0 := rfl
      have hmax : IntKind.u8.max = 255 := rfl
      simpa [Lit.wf, hmin, hmax] using hw
    simp only [u8, Option.getD_some]
    congr 2
    have : (UInt8.ofNat n.toNat).toNat = n.toNat := by
      rw [UInt8.toNat_ofNat']; omega
    omega

theorem u8_of_wf {n : Int} (h : (Lit.int .u8 n).wf = true) : ∃ x : UInt8, n = (x.toNat : Int) := by
  have hb : 0 ≤ n ∧ n ≤ 255 := by
    have hmin : IntKind.u8.min = 0 := rfl
    have hmax : IntKind.u8.max = 255 := rfl
    simpa [Lit.wf, hmin, hmax] using h
  refine ⟨UInt8.ofNat n.toNat, ?_⟩
  have : (UInt8.ofNat n.toNat).toNat = n.toNat := by
    rw [UInt8.toNat_ofNat']; omega
  omega
theorem u16_of_wf {n : Int} (h : (Lit.int .u16 n).wf = true) : ∃ x : Nat, x ≤ 65535 ∧ n = (x : Int) := by
  have hb : 0 ≤ n ∧ n ≤ 65535 := by
    have hmin : IntKind.u16.min = 0 := rfl
    have hmax : IntKind.u16.max = 65535 := rfl
    simpa [Lit.wf, hmin, hmax] using h
  exact ⟨n.toNat, by omega, by omega⟩
theorem u32_of_wf {n : Int} (h : (Lit.int .u32 n).wf = true) : ∃ x : Nat, x ≤ 4294967295 ∧ n = (x : Int) := by
  have hb : 0 ≤ n ∧ n ≤ 4294967295 := by
    have hmin : IntKind.u32.min = 0 := rfl
    have hmax : IntKind.u32.max = 4294967295 := rfl
    simpa [Lit.wf, hmin, hmax] using h
  exact ⟨n.toNat, by omega, by omega⟩

theorem all_bytes : ∀ (L : List Value), (∀ i, i < L.length → ∃ x : UInt8, L[i]? = some (u8 x)) → ∃ l : List UInt8, L = l.map u8
  | [], _ => ⟨[], rfl⟩
  | v :: L, h => by
    obtain ⟨x, hx⟩ := h 0 (by simp)
    obtain ⟨l, hl⟩ := all_bytes L (fun i hi => by have := h (i + 1) (by simp; omega); simpa using this)
    have hv : v = u8 x := by simpa using hx
    exact ⟨x :: l, by rw [hv, hl]; rfl⟩
/-- An array of bytes by value. -/
theorem open_u8arr {H : Type} {enc : TypeId × Value → H} {P : Program} {w : World} {r : Reach} {base b0 : Nat} {spare : Nat → Bool} {held : Bool} {n : Nat} {t e : TypeId} {v : Value} {d : DataW H} {p : List MemPlace}
    (ht : P.underlying t = some (.array n e)) (he : P.underlying e = some (.int .u8)) (hc : P.cellsOf e = 1) (hct : P.cellsOf t = n) (hv : Value.okWide P w r b0 t v) (h : DataW.Trod enc P w base spare held t v d p) :
    ∃ l : List UInt8, l.length = n ∧ v = .agg (l.map u8).toArray := by
  obtain ⟨cs, rfl, hsz⟩ : ∃ cs, v = .agg cs ∧ cs.size = P.cellsOf t := by
    simp only [Value.okWide, ht] at hv
    obtain ⟨cs, h1, h2, _⟩ := hv
    exact ⟨cs, h1, h2⟩
  obtain ⟨fuel, hf⟩ := h
  obtain ⟨xs, m, _, _, hlen, hxs, hel⟩ := DataW.trod_array ht hf
  simp only [Value.cells] at hlen hel
  rw [hc] at hel
  have key : ∀ i, i < n → ∃ x : UInt8, cs.toList[i]? = some (u8 x) := by
    intro i hi
    have h1 := hel i hi
    rw [Nat.mul_one] at h1
    have hx : xs[i]? = some xs[i] := List.getElem?_eq_getElem (by omega)
    rw [hx] at h1
    obtain ⟨z, hz, _, hwf⟩ := DataW.trod_int he h1
    have h2 : (cs.toList.drop i).take 1 = [.int .u8 z] := hz
    have h3 : cs.toList[i]? = some (.int .u8 z) := by
      have := congrArg (fun l : List Value => l[0]?) h2
      simpa [List.getElem?_take, List.getElem?_drop] using this
    obtain ⟨x, rfl⟩ := u8_of_wf hwf
    exact ⟨x, h3⟩
  have hn : cs.toList.length = n := by rw [Array.length_toList, hsz, hct]
  obtain ⟨l, hl⟩ := all_bytes cs.toList (fun i hi => key i (by omega))
  refine ⟨l, by rw [hl, List.length_map] at hn; exact hn, ?_⟩
  rw [← hl]

theorem i64_of_wf {n : Int} (h : (Lit.int .i64 n).wf = true) : -9223372036854775808 ≤ n ∧ n ≤ 9223372036854775807 := by
  have hmin : IntKind.i64.min = -9223372036854775808 := rfl
  have hmax : IntKind.i64.max = 9223372036854775807 := rfl
  simpa [Lit.wf, hmin, hmax] using h
end Go.Proofs.Ytfahfbkkgcekgaa.W
