/- volume.Split: as many volumes as asked for, each a sealed string. -/
import Derived.Test.YtjpbeoiiplapaaaW8
namespace Go.Proofs.Ytjpbeoiiplapaaa.C
set_option linter.unusedVariables false
set_option linter.unusedSimpArgs false
open Go Go.RowKit Go.Shelf Go.Proofs.Ytjpbeoiiplapaaa Go.Proofs.Ytjpbeoiiplapaaa.W Go.Proofs.Ytjpbeoiiplapaaa.M Go.Proofs.Ytjpbeoiiplapaaa.B

/-- Sealed strings, all there. -/
def Vols (w : World) (ps : List Part) : Prop := ∀ p ∈ ps, TS w p.1 p.2.2 ∧ (∃ x, p.2.2 = sealed x ∧ x.length ≤ 1040) ∧ p.2.2.length ≤ p.2.1 ∧ p.2.1 ≤ maxLen
theorem Vols.nil {w : World} : Vols w [] := fun p hp => by cases hp
theorem Vols.keep {w w' : World} {ps : List Part} (h : Vols w ps) (hk : ∀ (b : Nat) (cs : Array Value) (fr : Nat × Nat), w.heap[b]? = some (Obj.cells cs 5 fr) → w'.heap[b]? = w.heap[b]?) : Vols w' ps := fun p hp => ⟨(h p hp).1.keep hk, (h p hp).2⟩
theorem Vols.later {w w' : World} {ps : List Part} (h : Vols w ps) (hb : Below w.heap.size w w') : Vols w' ps := h.keep fun b cs fr h1 => hb.block b (Array.getElem?_eq_some_iff.1 h1).1
theorem Vols.row {w w' : World} {k base : Nat} {ps : List Part} {v : Value} {xs : List Value} (h : Vols w ps) (ho : w.ownsRow base 22 1 v k xs) (hg : w.grownBy w' v.ownBlock) : Vols w' ps := h.keep fun b cs fr h1 => hg.block b (Array.getElem?_eq_some_iff.1 h1).1 (by
  rcases ho.2 with ⟨rfl, _⟩ | ⟨g, cap, cur, rfl, _, hgb, _⟩
  · simp [Value.ownBlock]
  · intro e
    obtain rfl : b = g := by simpa [Value.ownBlock] using e
    have := h1.symm.trans hgb
    simp at this)
theorem Vols.append {w : World} {ps qs : List Part} (h : Vols w ps) (h' : Vols w qs) : Vols w (ps ++ qs) := fun q hq => (List.mem_append.1 hq).elim (h q) (h' q)
theorem blk_not_row {W : World} {B : Nat} {t e : TypeId} {cs : Array Value} (h : Blk W B t cs) (hte : t ≠ e) {base size k : Nat} {v : Value} {xs : List Value} (hr : W.ownsRow base e size v k xs) : some B ≠ v.ownBlock := by
  rcases hr.2 with ⟨rfl, _⟩ | ⟨g, cap, cur, rfl, _, hgb, _⟩
  · simp [Value.ownBlock]
  · intro e'
    obtain rfl : B = g := by simpa [Value.ownBlock] using e'
    have := (show W.heap[B]? = _ from h).symm.trans hgb
    simp at this
    exact hte this.2
theorem kept_apart {w w' : World} {base n : Nat} {e : TypeId} {v u : Value} {xs : List Value} (h : w.ownsRow base e 1 v n xs) (hg : w.grownBy w' u.ownBlock) (H : ∀ k, v.ownBlock = some k → ∀ j, u.ownBlock = some j → k < j) : w'.ownsRow base e 1 v n xs :=
  h.kept hg (by
    cases hv : v.ownBlock with
    | none => exact .inl rfl
    | some k =>
      refine .inr fun e => ?_
      have := H k hv k e.symm
      omega)
theorem far_bytes {w : World} {g i : Nat} {cs : Array Value} (hg : Blk w g 34 cs) (u : Value) : ∀ (b : Nat) (cs' : Array Value) (fr : Nat × Nat), w.heap[b]? = some (Obj.cells cs' 5 fr) → (w.setCell ⟨g, i, none⟩ u).heap[b]? = w.heap[b]? := fun b cs' fr h1 => Below.heap_setCell w _ u b (by
  rintro rfl
  have := h1.symm.trans (show w.heap[_]? = _ from hg)
  simp at this)

/-- Concat of two lists of parts. -/
theorem concatR2 {A A' : Option Addr} {c c' n n' : Nat} {l l' : List Part} (hl : l.length = n) (hl' : l'.length = n') {k : Nat} (hk : n + n' = k) (hk6 : k ≤ 65536) {W : World} {g : Nat} (hg : g = W.heap.size) (h : Sl pv W W.heap.size A l) (h' : Sl pv W W.heap.size A' l') :
    Calls Try.prog 14 #[.slice (some ⟨g, 0, none⟩) 2 2] (W.alloc (.cells #[.slice A n c, .slice A' n' c'] 29)) fun e w' => ∃ A'' c'', e = .returned (.slice A'' k c'') ∧ w'.ownsRow (W.heap.size + 1) 22 1 (.slice A'' k c'') k ((l ++ l').map pv) ∧ Below W.heap.size W w' := by
  subst hl hl' hk hg
  refine (ConcatR_ok W.heap.size 2 [(A, c, l), (A', c', l')] (l ++ l') _ rfl (by decide) (by simp [joinedR]) (by simp) hk6 _ (by rw [World.size_alloc]; exact Sl.of_new rfl rfl) ?_).mono ?_
  · intro p hp
    rw [List.mem_cons, List.mem_singleton] at hp
    rcases hp with rfl | rfl
    · exact (h.alloc (Nat.le_refl _) _).more (by simp)
    · exact (h'.alloc (Nat.le_refl _) _).more (by simp)
  · rintro e w' ⟨A'', c'', he, ho, hb⟩
    rw [World.size_alloc] at ho
    exact ⟨A'', c'', he, ho, ((Below.refl _ _).alloc (Nat.le_refl _) _).trans (hb.mono (by simp))⟩
set_option maxRecDepth 100000 in
set_option maxHeartbeats 4000000 in
theorem split_ok (A : Option Addr) (N c d r : Nat) (b : Bs) (hb : b.length = N) (hN : N ≤ 300) (hd : 1 ≤ d) (hd6 : d ≤ 8) (hr6 : r ≤ 8) (w : World) (hS : Sl u8 w w.heap.size A b) :
    Calls Try.prog 6 #[.slice A N c, .int .i64 (d : Int), .int .i64 (r : Int)] w fun e w' => ∃ (A' : Option Addr) (c' : Nat) (ps : List Part), e = .returned (.tuple #[.slice A' (d + r) c', .int .i64 0]) ∧ ps.length = d + r ∧ Sl pv w' w'.heap.size A' ps ∧ Vols w' ps ∧ Below w.heap.size w w' := by
  obtain ⟨j0, hj, hy0, hy1, hy2⟩ := info_parts infoR
  have h1 : ¬ (65536 : Int) < (N : Int) := by omega
  have h2 : decide ((d : Int) < 1) = false := decide_eq_false (by omega)
  have h3 : decide ((64 : Int) < (d : Int)) = false := decide_eq_false (by omega)
  have h4 : decide ((r : Int) < 0) = false := decide_eq_false (by omega)
  have h5 : decide (64 - (d : Int) < (r : Int)) = false := decide_eq_false (by omega)
  have hdw : IntKind.i64.wrap (64 - (d : Int)) = 64 - (d : Int) := by rw [IntKind.wrap_i64]; omega
  have C1 := Lib.hid (size_ok N d (by omega) hd (by omega) w)
  obtain ⟨cs, hcs⟩ : ∃ cs, crc b = cs := ⟨_, rfl⟩
  have HB := Lib.hid hb
  have hcs6 : cs.toNat ≤ 4294967295 := by have := cs.isLt; omega
  have C4 : Hid (∀ W, Below w.heap.size w W → Calls Try.prog 8 #[.slice A N c] W fun e w' => e = .returned (.int .u32 (cs.toNat : Int)) ∧ Below W.heap.size W w') := Lib.hid fun W hW => sum_ok A c N b hb (by omega) _ (by rw [hcs]) W _ (hS.later hW)
  obtain ⟨m, hm⟩ : ∃ m, d + r = m := ⟨_, rfl⟩
  have hmd : (d : Int) + (r : Int) = (m : Int) := by omega
  rw [hm]
  clear hb hcs
  go_enter Try.func6, Try.ntmps6
  go_wp2_with (first
    | (go_at_call 12; refine C1.out.mono ?_; rintro e w1 ⟨s, hs1, hs2, hs3, rfl, rfl⟩; clear C1)
    | (go_at_call 11; refine (cut_ok A N c d s (d * s) b HB.out rfl hs3 (Nat.le_trans (Nat.mul_le_mul hd6 (show s ≤ 301 by omega)) (by decide)) hd (by omega) hs1 _ _ hS).mono ?_; rintro e w2 ⟨A2, c2, ps, rfl, hps, s2, a2, hb2⟩; have HPS := Lib.hid hps; clear hps)
    | (go_at_call 13; refine (recovery_ok A2 d c2 s r ps HPS.out hd (by omega) (by omega) hs1 (by omega) _ s2 a2).mono ?_; rintro e w3 ⟨A3, c3, qs, rfl, hqs, s3, a3, hb3⟩; have HQS := Lib.hid hqs; have s23 := s2.later hb3; have a23 := a2.later hb3; have hB3 := bsa' hb2 hb3; clear hqs)
    | (go_at_call 8; refine (C4.out _ hB3).mono ?_; clear C4; rintro e w4 ⟨rfl, hb4⟩; have hB4 := bsa' hB3 hb4; have s34 := s3.later hb4; have a34 := a3.later hb4; have s24 := s23.later hb4; have a24 := a23.later hb4)
    | (go_at_call 14; refine (concatR2 HPS.out HQS.out hm (by omega) (W := w4.alloc (.cells #[.int .u32 (cs.toNat : Int), .int .i64 0, .int .i64 (d : Int), .int .i64 (r : Int), .int .i64 (N : Int)] 34)) (by simp) (s24.later ((Below.refl _ _).alloc (Nat.le_refl _) _)) (s34.later ((Below.refl _ _).alloc (Nat.le_refl _) _))).mono ?_; rintro e w7 ⟨A7, c7, rfl, o7, hb7⟩))
  have hgh0 : Blk (w4.alloc (.cells #[.int .u32 (cs.toNat : Int), .int .i64 0, .int .i64 (d : Int), .int .i64 (r : Int), .int .i64 (N : Int)] 34)) w4.heap.size 34 #[.int .u32 (cs.toNat : Int), .int .i64 0, .int .i64 (d : Int), .int .i64 (r : Int), .int .i64 (N : Int)] := Blk.new _ _ _
  have hgh7 := hgh0.later hb7
  have a7 := ((a24.append a34).alloc (.cells #[.int .u32 (cs.toNat : Int), .int .i64 0, .int .i64 (d : Int), .int .i64 (r : Int), .int .i64 (N : Int)] 34)).later hb7
  have hB7 := bsa' (hB4.alloc hB4.size (.cells #[.int .u32 (cs.toNat : Int), .int .i64 0, .int .i64 (d : Int), .int .i64 (r : Int), .int .i64 (N : Int)] 34)) hb7
  have hz4 := hB4.size
  have hz7 := hb7.size
  rw [World.size_alloc] at o7 hz7
  have H9 : Hid (∀ k, (Value.slice A7 m c7).ownBlock = some k → k < w7.heap.size) := Lib.hid fun k hk => (o7.lt k hk).2
  obtain ⟨ts, hts⟩ : ∃ ts, ps ++ qs = ts := ⟨_, rfl⟩
  have htl : ts.length = m := by rw [← hts, List.length_append, HPS.out, HQS.out, hm]
  rw [hts] at o7 a7
  clear hts hb7 hgh0 s24 a24 s34 a34 hB4 hb4 hb3 hB3 s23 a23 s3 a3 s2 a2 hb2 h2 h3 h4 h5 hdw
  go_loopw [12, 63] (fun ov iv wm => ∃ (i : Nat) (us : List Part) (A' : Option Addr) (c' : Nat) (ix : Int), i ≤ m ∧ iv = .int .i64 (i : Int) ∧ ov = .slice A' i c' ∧ Hid (us.length = i) ∧ wm.ownsRow w7.heap.size 22 1 (.slice A' i c') i (us.map pv) ∧ wm.ownsRow (w4.heap.size + 2) 22 1 (.slice A7 m c7) m (ts.map pv) ∧ Are wm s ts ∧ Vols wm us ∧ Blk wm w4.heap.size 34 #[.int .u32 (cs.toNat : Int), .int .i64 ix, .int .i64 (d : Int), .int .i64 (r : Int), .int .i64 (N : Int)] ∧ Below w1.heap.size w1 wm ∧ w7.heap.size ≤ wm.heap.size) (fun _ iv _ => m - (intOf iv).toNat)
  case atStart => exact ⟨0, [], none, 0, 0, Nat.zero_le _, rfl, rfl, Lib.hid rfl, World.ownsRow_nil _ _ _ _, o7, a7, Vols.nil, hgh7, hB7, Nat.le_refl _⟩
  case round =>
    obtain ⟨i, us, A', c', ix, hi, rfl, rfl, hus, ho, o9, hA, hV, hg, hB, hz⟩ := hrel
    clear o7 a7 hgh7 hB7
    by_cases hlt : i < m
    · obtain ⟨bq, oq, p, e, hbq, hp, hpT, hpl, hpc, hpm, hc⟩ := parts_at (Sl.of_own o9) hA (k := i) (by rw [htl]; exact hlt)
      subst e
      obtain ⟨Ap, cp, lp⟩ := p
      replace hpT : TS wr Ap lp := hpT
      replace hpl : List.length lp = s := hpl
      replace hc : wr.cell? ⟨bq, oq + i, none⟩ = some (.slice Ap s cp) := hc
      have k0 := hg.cell 0
      have k1 := hg.cell 1
      have k2 := hg.cell 2
      have k3 := hg.cell 3
      have k4 := hg.cell 4
      have f1 := hg.frozen 1
      have hfar := far_bytes (i := 1) hg (.int .i64 (i : Int))
      have hg' : Blk (wr.setCell ⟨w4.heap.size, 1, none⟩ (.int .i64 (i : Int))) w4.heap.size 34 #[.int .u32 (cs.toNat : Int), .int .i64 (i : Int), .int .i64 (d : Int), .int .i64 (r : Int), .int .i64 (N : Int)] := hg.store 1 _
      have ho' := ownsRow_setCell_below ho (a := ⟨w4.heap.size, 1, none⟩) (by show w4.heap.size < w7.heap.size; omega) (.int .i64 (i : Int))
      have o9' := ownsRow_setCell_below o9 (a := ⟨w4.heap.size, 1, none⟩) (by show w4.heap.size < w4.heap.size + 2; omega) (.int .i64 (i : Int))
      have hA' := hA.keep hfar
      have hV' := hV.keep hfar
      have hpT' := hpT.keep hfar
      have hB' := hB.setCell (p := ⟨w4.heap.size, 1, none⟩) hz4 (.int .i64 (i : Int))
      have hz' : w7.heap.size ≤ (wr.setCell ⟨w4.heap.size, 1, none⟩ (.int .i64 (i : Int))).heap.size := by simpa using hz
      have C := Lib.hid (put_ok cs.toNat i d r N hcs6 (by omega) (by omega) (by omega) (by omega) Ap s cp lp hpl (by omega) (wr.setCell ⟨w4.heap.size, 1, none⟩ (.int .i64 (i : Int))) hpT'.sl)
      clear hg ho o9 hA hV hpT hB hfar hp hpl hpT' hz
      go_wp2_with (first
        | (go_at_call 15; refine C.out.mono ?_; rintro e w8 ⟨A8, c8, x8, m8, rfl, hm8, hx8, hc8, hcm8, t8, hb8⟩; have HM8 := Lib.hid hm8; have ho8 := own_later ho' hb8; have o98 := own_later o9' hb8; have hA8 := hA'.later hb8; have hV8 := hV'.later hb8; have hg8 := hg'.later hb8; have hB8 := bsa' hB' hb8; have hz8 := Nat.le_trans hz' hb8.size; have hm86 : ¬ (65536 : Int) < (m8 : Int) := (by have := HM8.out; rw [sealed_length] at this; omega); clear hm8)
        | (at_builtin; refine wpList_append_sl _ pv_one rfl _ _ 29 rfl w7.heap.size 22 j0 (.slice none 0 0) 24 Try.underlying29 hj hy0 hy1 hy2 rfl (.slice A' i c') i _ rfl (ho8.alloc _) _ _ _ [(A8, c8, sealed x8)] 1 rfl (Sl.of_new rfl (by show #[Value.slice A8 m8 c8] = #[pv (A8, c8, sealed x8)]; unfold pv; rw [HM8.out])) rfl (by unfold maxLen; omega) (by omega) (by simp; omega) ?_; intro v9 w9 o5 g5))
      have hal : Below w8.heap.size w8 (w8.alloc (.cells #[Value.slice A8 m8 c8] 22)) := (Below.refl _ _).alloc (Nat.le_refl _) _
      have q1 := (hA8.later hal).row (ho8.alloc _) g5
      have q2 := (hV8.later hal).row (ho8.alloc _) g5
      have q3 : Vols w9 [(A8, c8, sealed x8)] := Vols.row (Vols.later (fun p hp => by rw [List.mem_singleton] at hp; subst hp; exact ⟨t8, ⟨x8, rfl, by omega⟩, by rw [HM8.out]; exact hc8, hcm8⟩) hal) (ho8.alloc _) g5
      have q4 := kept_apart (o98.alloc _) g5 (fun k hk j hj => by have h10 := H9.out k hk; have h11 := (ho8.lt j hj).1; omega)
      have q5 := (hg8.alloc _).grown g5 (blk_not_row hg8 (by decide) ho8)
      have q6 : Below w1.heap.size w1 w9 := (hB8.alloc hB8.size _).grown g5 (by have := hB8.size; simp; omega) (fun j hj => by have := (ho8.lt j hj).1; omega)
      have q7 : w7.heap.size ≤ w9.heap.size := by have := g5.size; simp at this; omega
      rw [map_pv] at o5
      obtain ⟨A9, c9, rfl, _, _⟩ := own_form o5
      go_roundw
      case rel => exact ⟨i + 1, _, A9, c9, _, by omega, by go_num, rfl, Lib.hid (by rw [List.length_append, hus.out]; rfl), o5, q4, q1, q2.append q3, q5, q6, q7⟩
      case measure => simp [intOf]; omega
    · obtain rfl : i = m := by omega
      go_wp2
      go_ret2
      exact ⟨A', c', us, rfl, hus.out, Sl.of_own ho, hV, hB⟩
end Go.Proofs.Ytjpbeoiiplapaaa.C
