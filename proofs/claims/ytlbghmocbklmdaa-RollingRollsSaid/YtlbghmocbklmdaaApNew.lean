/- append of one item to a slice that is full: a new row. No program in sight. -/
import Derived.Test.YtlbghmocbklmdaaAppend
import Derived.Deep.AppendSrc
namespace Go.Proofs.Ytlbghmocbklmdaa.W
set_option linter.unusedVariables false
open Go Go.RowKit
section
variable {P : Program} (w : World)
theorem run_append_new {α : Type} {enc : α → Value} (henc : ∀ x, (enc x).oneCell' = true) (t ty e : TypeId) (i : TypeInfo) (z : Value) (bytes : Nat) (ht : P.underlying t = some (.slice e)) (hi : P.info? e = some i) (hz : i.zero = some z)
    (hsize : i.size = 1) (hby : i.bytes = bytes) (hzs : z.cells.size = 1)
    (B : Nat) (A : Option Addr) (n : Nat) (l : List α) (hsl : Sl enc w B A l) (hl : l.length = n)
    (ad : Addr) (x : α) (hx : w.cell? ad = some (enc x)) (y : α) (hy : (l ++ [x])[0]? = some y)
    (h63 : n + 1 ≤ maxLen) (hbytes : (n + 1) * bytes ≤ 140737488355328) :
    ∃ cap C, (Builtin.append_ #[t, t] ty #[.slice A n n, .slice (some ad) 1 1]).run P w = .ok (.slice (some ⟨w.heap.size, 0, none⟩) (n + 1) cap) (w.drew.alloc (.cells C e)) ∧ C[0]? = some (enc y) ∧ n + 1 ≤ cap := by
  have hnews : ∀ j u, [enc x][j]? = some u → w.cell? (ad.add j) = some u := fun j u hu => by
    cases j with
    | zero =>
      have e1 : enc x = u := by simpa using hu
      have e2 : ad.add 0 = ad := by unfold Addr.add; simp
      rw [e2, hx, e1]
    | succ j => simp at hu
  have hone : ∀ u ∈ [enc x], u.oneCell' = true := fun u hu => by
    have e : u = enc x := by simpa using hu
    rw [e]; exact henc x
  have hold : (Builtin.firstCells i.size n (.slice A n n)).run P w.drew = .ok (l.map enc).toArray w.drew := by
    cases A with
    | none =>
      obtain rfl : l = [] := by
        rcases l with _ | ⟨a, r⟩
        · rfl
        · obtain ⟨b, o, e, _⟩ := hsl (by simp); cases e
      exact run_firstCells_none w.drew i.size n n n
    | some a =>
      have holds : ∀ j v, (l.map enc)[j]? = some v → w.cell? (a.add j) = some v := hsl.news
      exact run_firstCells_some (P := P) w.drew i.size n a n n (l.map enc) (by rw [hsize]; simpa using hl) (by simpa using holds)
  have hr := run_append_grow_src (P := P) w t t ty e i z ht hi hz A n n (l.map enc) hold (.slice (some ad) 1 1) 1 [enc x] (Src.ofSlice w ht ad 1 1 [enc x] (by rw [hsize]; rfl) hnews hone) (by omega) (by unfold maxLen at h63; omega) (growslice_fits (by omega) (by rw [hby]; exact hbytes))
  refine ⟨_, _, hr, ?_, grownCap_ge _ _ _ _⟩
  have e1 : l.map enc ++ [enc x] = (l ++ [x]).map enc := by simp
  have h0 : (l.map enc ++ [enc x])[0]? = some (enc y) := by rw [e1, List.getElem?_map, hy]; rfl
  rw [Array.getElem?_append_left (by simp), List.getElem?_toArray, h0]
theorem step_append_new {α : Type} {enc : α → Value} (henc : ∀ x, (enc x).oneCell' = true) {ops : Array Oper} {o : Oper} {a : Act} {K : Act → World → Prop} {Q : Exit → Act → World → Prop} {E : Prop} (hgd : o.guard = none) (s x' : Operand) (t : TypeId)
    (ho : o.op = .call { callee := .builtin .append, args := #[s, x'], argTypes := #[t, t] })
    (e : TypeId) (i : TypeInfo) (z : Value) (bytes : Nat) (ht : P.underlying t = some (.slice e)) (hi : P.info? e = some i) (hz : i.zero = some z)
    (hsize : i.size = 1) (hby : i.bytes = bytes) (hzs : z.cells.size = 1)
    (B : Nat) (A : Option Addr) (n : Nat) (l : List α) (hs : a.eval s = .slice A n n) (hsl : Sl enc w B A l) (hl : l.length = n)
    (ad : Addr) (x : α) (hxe : a.eval x' = .slice (some ad) 1 1) (hx : w.cell? ad = some (enc x)) (y : α) (hy : (l ++ [x])[0]? = some y)
    (h63 : n + 1 ≤ maxLen) (hbytes : (n + 1) * bytes ≤ 140737488355328)
    (h : ∀ cap C, C[0]? = some (enc y) → n + 1 ≤ cap → K (a.put o.dst (.slice (some ⟨w.heap.size, 0, none⟩) (n + 1) cap)) (w.drew.alloc (.cells C e))) :
    if Region.wanted o (yielded ops a.tmps) = true then Oper.wp P o a w K Q else E := by
  have hw : Region.wanted o (yielded ops a.tmps) = true := by simp [Region.wanted, hgd]
  rw [if_pos hw]
  obtain ⟨cap, C, hr, h2, h3⟩ := run_append_new (P := P) w henc t o.type e i z bytes ht hi hz hsize hby hzs B A n l hsl hl ad x hx y hy h63 hbytes
  unfold Oper.wp execOp
  simp only [ho, resolve, invoke, builtin, Sem.run_bind, Sem.run_pure, Result.andThen_ok, List.map_toArray, List.map_cons, List.map_nil, hs, hxe, hr]
  exact h cap C h2 h3
end
end Go.Proofs.Ytlbghmocbklmdaa.W
