/- append of k zeros (append of a make) on a row of the call's own. No program in sight. -/
import Derived.Test.YtjpbeoiiplapaaaAppend
import Derived.Lib.AppendZerosOnto
namespace Go.Proofs.Ytjpbeoiiplapaaa.W
set_option linter.unusedVariables false
open Go Go.RowKit
section
variable {P : Program} (w : World)

theorem zeroCells_one (z : Value) (hz : z.cells = #[z]) (k : Nat) : (Builtin.zeroCells z.cells k).toList = List.replicate k z := by
  rw [hz]
  apply List.ext_getElem?
  intro j
  simp only [Builtin.zeroCells]
  by_cases h : j < k
  · simp [h, Nat.mod_one]
  · simp [h]

theorem run_append_zeros_own (base : Nat) (t tn ty e : TypeId) (i : TypeInfo) (z : Value) (bytes : Nat) (kq kn : IntKind) (ht : P.underlying t = some (.slice e)) (htn : P.underlying tn = some (.int kn)) (hi : P.info? e = some i) (hz : i.zero = some z)
    (hsize : i.size = 1) (hby : i.bytes = bytes) (hzs : z.cells = #[z]) (hz1 : z.oneCell' = true)
    (v : Value) (n : Nat) (xs : List Value) (hown : w.ownsRow base e 1 v n xs) (k : Nat)
    (h63 : n + k ≤ maxLen) (hbytes : (n + k) * bytes ≤ 140737488355328) (hbase : base ≤ w.heap.size) :
    ∃ v' w', (Builtin.append_ #[t, tn] ty #[v, .int kq k]).run P w = .ok v' w' ∧ w'.ownsRow base e 1 v' (n + k) (xs ++ List.replicate k z) ∧ w.grownBy w' v.ownBlock ∧
      (v'.ownBlock = v.ownBlock ∨ v'.ownBlock = some w.heap.size) := by
  subst hby
  have hw : IntKind.i64.wrap (k : Int) = k := by rw [IntKind.wrap_i64]; unfold maxLen at h63; omega
  have hneg : ¬ ((k : Int) < 0) := by omega
  have hkb : k * i.bytes ≤ 140737488355328 := Nat.le_trans (Nat.mul_le_mul_right _ (by omega)) hbytes
  have h48i : ¬ (281474976710656 < (k : Int) * (i.bytes : Int)) := by
    rw [← Int.natCast_mul]; omega
  have hlen : (xs ++ List.replicate k z).length = (n + k) * 1 := by rw [List.length_append, hown.1, List.length_replicate]; omega
  have hzl := zeroCells_one z hzs
  have hzn : ∀ m, (Builtin.zeroCells z.cells m).size = m := fun m => by rw [size_zeroCells, hzs]; simp
  have hw0 : IntKind.i64.wrap 0 = 0 := by rw [IntKind.wrap_i64]; rfl
  rcases Nat.eq_zero_or_pos k with rfl | hk
  · refine ⟨v, w, ?_, by simpa using hown, World.grownBy.refl w _, .inl rfl⟩
    rcases hown.2 with ⟨rfl, rfl⟩ | ⟨g, cap, cur, rfl, _, hg, hnc, _⟩
    · simp [Builtin.append_, run_underlying ht, run_underlying htn, sizeOf, typeInfo, zeroValue, hi, hz, asInt, asIntOf, hw0]
    · simp [Builtin.append_, run_underlying ht, run_underlying htn, sizeOf, typeInfo, zeroValue, hi, hz, asInt, asIntOf, hw0, hnc, storeCells]
  · rcases hown.2 with ⟨rfl, rfl⟩ | ⟨g, cap, cur, rfl, hbg, hg, hnc, hcm, hcs, htake⟩
    · obtain rfl : xs = [] := List.eq_nil_of_length_eq_zero (by simpa using hown.1)
      have hr := Lib.run_append_nil_zeros (P := P) w t tn ty e i z kq kn ht htn hi hz k hk (by omega) (by unfold maxLen at h63; omega) (by omega)
      have hge := grownCap_ge w k 0 e
      refine ⟨_, _, hr, ⟨hlen, .inr ⟨w.heap.size, _, _, by rw [Nat.zero_add], hbase, heap_alloc_new w.drew _, by omega, grownCap_le_maxLen w k 0 e (by omega), ?_, ?_⟩⟩, ⟨rfl, rfl, rfl, by simp, fun j hj _ => heap_alloc_old w.drew _ j hj⟩, .inr rfl⟩
      · rw [Array.size_append, hzn, hzn]; omega
      · rw [Array.toList_append, hzl, List.nil_append, Nat.zero_add, Nat.mul_one]
        exact List.take_left' (by simp)
    · by_cases hroom : n + k ≤ cap
      · have hst := run_storeCells_at P g (n * 1) e (List.replicate k z) 0 cur w hg (by rw [List.length_replicate]; omega) (fun u hu => by rw [List.eq_of_mem_replicate hu]; exact hz1)
        simp only [Nat.add_zero, Nat.mul_one] at hst
        have hk0 : ¬ (k = 0) := by omega
        refine ⟨.slice (some ⟨g, 0, none⟩) (n + k) cap, w.setRow g (cur.toList.take n ++ List.replicate k z ++ cur.toList.drop (n + k)).toArray, ?_, ⟨hlen, .inr ⟨g, cap, _, rfl, hbg, setRow_heap w g cur _ e _ hg, hroom, hcm, ?_, ?_⟩⟩, ⟨rfl, rfl, rfl, by simp, fun j _ hj => setRow_other w g j _ (fun e => hj (by simp [Value.ownBlock, e]))⟩, .inl rfl⟩
        · simp [Builtin.append_, run_underlying ht, run_underlying htn, sizeOf, typeInfo, zeroValue, hi, hz, asInt, asIntOf, hw, hneg, h48i, hroom, hsize, hk0, Addr.add_lit, hzl, hst]
        · simp only [List.size_toArray, List.length_append, List.length_take, List.length_drop, Array.length_toList, List.length_replicate]
          omega
        · rw [Nat.mul_one] at htake ⊢
          rw [htake]
          exact List.take_left' (by rw [hlen]; omega)
      · have holds : ∀ j u, xs[j]? = some u → w.cell? ((⟨g, 0, none⟩ : Addr).add j) = some u := hown.cells (g := g) rfl
        have hold : (Builtin.firstCells i.size n (.slice (some ⟨g, 0, none⟩) n cap)).run P w.drew = .ok xs.toArray w.drew := run_firstCells_some (P := P) w.drew i.size n ⟨g, 0, none⟩ n cap xs (by rw [hsize]; exact hown.1) (fun j u hu => holds j u hu)
        have hr := Lib.run_append_grow_zeros (P := P) w t tn ty e i z kq kn ht htn hi hz (some ⟨g, 0, none⟩) n cap xs hold k hk (by omega) (by omega) (by unfold maxLen at h63; omega) (by omega) (growslice_fits (by omega) hbytes)
        have hge := grownCap_ge w (n + k) cap e
        refine ⟨_, _, hr, ⟨hlen, .inr ⟨w.heap.size, _, _, rfl, hbase, heap_alloc_new w.drew _, hge, grownCap_le_maxLen w (n + k) cap e h63, ?_, ?_⟩⟩, ⟨rfl, rfl, rfl, by simp, fun j hj _ => heap_alloc_old w.drew _ j hj⟩, .inr rfl⟩
        · have := hown.1
          simp only [Array.size_append, List.size_toArray, hzn, hown.1]; omega
        · have h2 : xs.length = n := by simpa using hown.1
          simp only [Array.toList_append, hzl]
          rw [Nat.mul_one]
          exact List.take_left' (by rw [List.length_append, List.length_replicate, h2])

theorem wp_append_zeros {o : Oper} {a : Act} {K : Act → World → Prop} {Q : Exit → Act → World → Prop} (s x : Operand) (t tn : TypeId)
    (ho : o.op = .call { callee := .builtin .append, args := #[s, x], argTypes := #[t, tn] })
    (base : Nat) (e : TypeId) (i : TypeInfo) (z : Value) (bytes : Nat) (kq kn : IntKind) (ht : P.underlying t = some (.slice e)) (htn : P.underlying tn = some (.int kn)) (hi : P.info? e = some i) (hz : i.zero = some z)
    (hsize : i.size = 1) (hby : i.bytes = bytes) (hzs : z.cells = #[z]) (hz1 : z.oneCell' = true)
    (v : Value) (n : Nat) (xs : List Value) (hs : a.eval s = v) (hown : w.ownsRow base e 1 v n xs) (k : Nat) (hx : a.eval x = .int kq k)
    (h63 : n + k ≤ maxLen) (hbytes : (n + k) * bytes ≤ 140737488355328) (hbase : base ≤ w.heap.size)
    (h : ∀ v' w', w'.ownsRow base e 1 v' (n + k) (xs ++ List.replicate k z) → w.grownBy w' v.ownBlock → (v'.ownBlock = v.ownBlock ∨ v'.ownBlock = some w.heap.size) → K (a.put o.dst v') w') : o.wp P a w K Q := by
  obtain ⟨v', w', hr, h2, h3, h5⟩ := run_append_zeros_own (P := P) w base t tn o.type e i z bytes kq kn ht htn hi hz hsize hby hzs hz1 v n xs hown k h63 hbytes hbase
  unfold Oper.wp execOp
  simp only [ho, resolve, invoke, builtin, Sem.run_bind, Sem.run_pure, Result.andThen_ok, List.map_toArray, List.map_cons, List.map_nil, hs, hx, hr]
  exact h v' w' h2 h3 h5
theorem wpList_append_zeros {ops : Array Oper} {rest : List Oper} {o : Oper} {a : Act} {Q : Exit → Act → World → Prop} (hgd : o.guard = none) (s x : Operand) (t tn : TypeId)
    (ho : o.op = .call { callee := .builtin .append, args := #[s, x], argTypes := #[t, tn] })
    (base : Nat) (e : TypeId) (i : TypeInfo) (z : Value) (bytes : Nat) (kq kn : IntKind) (ht : P.underlying t = some (.slice e)) (htn : P.underlying tn = some (.int kn)) (hi : P.info? e = some i) (hz : i.zero = some z)
    (hsize : i.size = 1) (hby : i.bytes = bytes) (hzs : z.cells = #[z]) (hz1 : z.oneCell' = true)
    (v : Value) (n : Nat) (xs : List Value) (hs : a.eval s = v) (hown : w.ownsRow base e 1 v n xs) (k : Nat) (hx : a.eval x = .int kq k)
    (h63 : n + k ≤ maxLen) (hbytes : (n + k) * bytes ≤ 140737488355328) (hbase : base ≤ w.heap.size)
    (h : ∀ v' w', w'.ownsRow base e 1 v' (n + k) (xs ++ List.replicate k z) → w.grownBy w' v.ownBlock → (v'.ownBlock = v.ownBlock ∨ v'.ownBlock = some w.heap.size) → wpList P ops Q rest (a.put o.dst v') w') : wpList P ops Q (o :: rest) a w :=
  wpList_plain hgd fun _ hK => wp_append_zeros w s x t tn ho base e i z bytes kq kn ht htn hi hz hsize hby hzs hz1 v n xs hs hown k hx h63 hbytes hbase fun v' w' h2 h3 h5 => hK _ _ (h v' w' h2 h3 h5)
end
end Go.Proofs.Ytjpbeoiiplapaaa.W
