/- append on a row of the call's own, and every variable's box stays as it was, one of the row's own type too. No program in sight. -/
import Derived.Test.YtcdaieoondmljaaAppend
import Derived.RangeFuncBox
import Derived.OwnWalkIn
namespace Go.Proofs.Ytcdaieoondmljaa.W
set_option linter.unusedVariables false
open Go Go.RowKit
/-- Each box stays. -/
def KeepBox (t : TypeId) (W W' : World) : Prop := ∀ g u, Boxed W g t u → Boxed W' g t u
theorem KeepBox.refl (t : TypeId) (W : World) : KeepBox t W W := fun _ _ h => h
theorem KeepBox.trans {t : TypeId} {A B C : World} (h : KeepBox t A B) (k : KeepBox t B C) : KeepBox t A C := fun g u e => k g u (h g u e)
theorem KeepBox.alloc (t : TypeId) (W : World) (o : Obj) : KeepBox t W (W.alloc o) := fun g u h => h.alloc o
section
variable {P : Program} (w : World)
theorem run_append_box (base : Nat) (t ty e : TypeId) (i : TypeInfo) (z : Value) (bytes : Nat) (ht : P.underlying t = some (.slice e)) (hi : P.info? e = some i) (hz : i.zero = some z)
    (hsize : i.size = 1) (hby : i.bytes = bytes) (hzs : z.cells.size = 1)
    (v : Value) (n : Nat) (xs : List Value) (hown : w.ownsRow base e 1 v n xs) (hn : n = 0 → v = .slice none 0 0)
    (ad : Addr) (c : Nat) (y : Value) (hnews : ∀ j u, [y][j]? = some u → w.cell? (ad.add j) = some u) (h1 : ∀ u ∈ [y], u.oneCell' = true)
    (h63 : n + 1 ≤ maxLen) (hbytes : (n + 1) * bytes ≤ 140737488355328) {v' : Value} {w' : World}
    (hr : (Builtin.append_ #[t, t] ty #[v, .slice (some ad) 1 c]).run P w = .ok v' w') (hg : w.grownBy w' v.ownBlock) (t' : TypeId) : KeepBox t' w w' := by
  intro b u hb
  subst hby
  rcases hown.2 with ⟨rfl, _⟩ | ⟨g, cap, cur, rfl, hbg, hgb, hnc, hcm, hcs, htake⟩
  · exact hb.kept hg (by simp [Value.ownBlock])
  · have hn0 : 1 ≤ n := by
      rcases Nat.eq_zero_or_pos n with h0 | h0
      · have := hn h0; simp at this
      · exact h0
    by_cases hbg' : b = g
    · subst hbg'
      have hcur : cur.size = 1 := by
        have := (show w.heap[b]? = _ from hb).symm.trans hgb
        simp at this
        rw [← this.1]; rfl
      have hcap : cap = 1 := by rw [hcur] at hcs; omega
      have holds : ∀ j u, xs[j]? = some u → w.cell? ((⟨b, 0, none⟩ : Addr).add j) = some u := hown.cells (g := b) rfl
      have hr' := run_append_grow (P := P) w t ty e i z ht hi hz ⟨b, 0, none⟩ n cap xs (by rw [hsize]; exact hown.1) (by simpa using holds) ad 1 c [y] (by rw [hsize]; rfl) hnews (by omega) (by have := h63; unfold maxLen at this; omega) (growslice_fits (by omega) hbytes)
      rw [hr'] at hr
      injection hr with _ hw
      rw [← hw]
      exact Boxed.alloc (W := w.drew) hb _
    · exact hb.kept hg (by simp [Value.ownBlock]; exact hbg')
end
theorem wpListIn_append_box {F : Fence} {n : Nat} {P : Program} (w : World) {ops : Array Oper} {rest : List Oper} {o : Oper} {a : Act} {Q : Exit → Act → World → Prop}
    (hg : o.guard = none) (s x : Operand) (t : TypeId) (hop : o.op = Op.call { callee := Callee.builtin Builtin.append, args := #[s, x], argTypes := #[t, t] })
    (base : Nat) (e : TypeId) (i : TypeInfo) (z : Value) (bytes : Nat) (h1 : P.underlying t = some (.slice e)) (h2 : P.info? e = some i) (h3 : i.zero = some z) (h4 : i.size = 1) (h5 : i.bytes = bytes) (h6 : z.cells.size = 1)
    (v : Value) (k : Nat) (xs : List Value) (hs : a.eval s = v) (hown : w.ownsRow base e 1 v k xs) (h0 : k = 0 → v = .slice none 0 0) (ad : Addr) (c : Nat) (y : Value) (hx : a.eval x = .slice (some ad) 1 c)
    (hc : w.cell? ad = some y) (h1c : y.oneCell' = true) (b1 : k + 1 ≤ maxLen) (b2 : (k + 1) * bytes ≤ 140737488355328) (b3 : base ≤ w.heap.size)
    (hK : ∀ v' w', w'.ownsRow base e 1 v' (k + 1) (xs ++ [y]) → w.grownBy w' v.ownBlock → (∀ t', KeepBox t' w w') → wpListIn F n P ops Q rest (a.put o.dst v') w') :
    wpListIn F n P ops Q (o :: rest) a w := by
  have hc' : ∀ j u, [y][j]? = some u → w.cell? (ad.add j) = some u := fun j u hu => by
    cases j with
    | zero => have e1 : y = u := by simpa using hu
              have e2 : ad.add 0 = ad := by unfold Addr.add; simp
              rw [← e1, e2]; exact hc
    | succ j => simp at hu
  have h1c' : ∀ u ∈ [y], u.oneCell' = true := fun u hu => by
    have e1 : u = y := by simpa using hu
    rw [e1]; exact h1c
  refine wpListIn_plain hg fun K hK' => ?_
  obtain ⟨v', w', hrun, r1, r2, r3⟩ := run_append_own (P := P) w base t o.type e i z 1 bytes h1 h2 h3 h4 h5 h6 (by decide) v k xs hown ad 1 c [y] rfl hc' h1c' b1 b2 b3
  unfold Oper.wpIn
  refine ⟨?_, ?_⟩
  · simp [Oper.about, hop, resolve, Target.leads, Sem.run_pure]
  · rw [Oper.semAt_plain F _ _ (by rw [hop]; intro c hc'; cases hc')]
    simp [execOp, hop, resolve, invoke, builtin, hs, hx, hrun, Result.andThen]
    exact hK' _ _ (hK v' w' r1 r2 fun t' => run_append_box (P := P) w base t o.type e i z bytes h1 h2 h3 h4 h5 h6 v k xs hown h0 ad c y hc' h1c' b1 b2 hrun r2 t')
end Go.Proofs.Ytcdaieoondmljaa.W
