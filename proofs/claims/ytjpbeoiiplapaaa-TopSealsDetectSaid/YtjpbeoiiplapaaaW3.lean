/- Lists of byte strings in memory; makes; Cauchy. -/
import Derived.Test.YtjpbeoiiplapaaaW2
import Derived.Laws.MakeOwn
import Derived.Laws.OwnMore
namespace Go.Proofs.Ytjpbeoiiplapaaa.C
set_option linter.unusedVariables false
open Go Go.RowKit Go.Shelf Go.Proofs.Ytjpbeoiiplapaaa Go.Proofs.Ytjpbeoiiplapaaa.W Go.Proofs.Ytjpbeoiiplapaaa.M Go.Proofs.Ytjpbeoiiplapaaa.B

/-- A byte string at A, in a block of bytes. -/
def TS (w : World) (A : Option Addr) (l : Bs) : Prop := l ≠ [] → ∃ b o cs fr, A = some ⟨b, o, none⟩ ∧ w.heap[b]? = some (Obj.cells cs 5 fr) ∧ ∀ j x, l[j]? = some x → cs[o + j]? = some (u8 x)
theorem TS.sl {w : World} {A : Option Addr} {l : Bs} (h : TS w A l) : Sl u8 w w.heap.size A l := fun hl => by
  obtain ⟨b, o, cs, fr, e, hb, hc⟩ := h hl
  exact ⟨b, o, e, (Array.getElem?_eq_some_iff.1 hb).1, fun j x hx => by rw [cell_of_row w b (o + j) cs _ fr hb]; exact hc j x hx⟩
theorem TS.keep {w w' : World} {A : Option Addr} {l : Bs} (h : TS w A l) (hk : ∀ (b : Nat) (cs : Array Value) (fr : Nat × Nat), w.heap[b]? = some (Obj.cells cs 5 fr) → w'.heap[b]? = w.heap[b]?) : TS w' A l := fun hl => by
  obtain ⟨b, o, cs, fr, e, hb, hc⟩ := h hl
  exact ⟨b, o, cs, fr, e, (hk b cs fr hb).trans hb, hc⟩
theorem TS.later {w w' : World} {A : Option Addr} {l : Bs} (h : TS w A l) (hb : Below w.heap.size w w') : TS w' A l := h.keep fun b cs fr h1 => hb.block b (Array.getElem?_eq_some_iff.1 h1).1
theorem TS.alloc {w : World} {A : Option Addr} {l : Bs} (h : TS w A l) (o : Obj) : TS (w.alloc o) A l := h.later ((Below.refl _ _).alloc (Nat.le_refl _) o)
theorem TS.of_blk {w : World} {g i : Nat} {cs : Array Value} {l : Bs} (h : Blk w g 5 cs) (hc : ∀ j x, l[j]? = some x → cs[i + j]? = some (u8 x)) : TS w (some ⟨g, i, none⟩) l := fun _ => ⟨g, i, cs, (0, 0), rfl, h, hc⟩
theorem TS.of_own {w : World} {base n : Nat} {A : Option Addr} {c : Nat} {l : Bs} (h : w.ownsRow base 5 1 (.slice A n c) n (l.map u8)) : TS w A l := fun hl => by
  rcases h.2 with ⟨_, h0⟩ | ⟨g, cap, cur, hv, _, hg, _, _, _, ht⟩
  · have h1 := h.1
    rw [h0] at h1
    exact absurd (List.eq_nil_of_length_eq_zero (by simpa using h1)) hl
  · injection hv with hA _ _
    subst hA
    refine ⟨g, 0, cur, (0, 0), rfl, hg, fun j x hx => ?_⟩
    have h2 : (l.map u8)[j]? = some (u8 x) := by rw [List.getElem?_map, hx]; rfl
    rw [← ht, List.getElem?_take] at h2
    split at h2
    · rw [Nat.zero_add, ← Array.getElem?_toList]; exact h2
    · cases h2
/-- Part: where it begins, its capacity, its bytes. -/
abbrev Part := Option Addr × Nat × Bs
def pv (p : Part) : Value := .slice p.1 p.2.2.length p.2.1
theorem pv_one (p : Part) : (pv p).oneCell' = true := rfl
/-- All parts are there, each of n bytes. -/
def Are (w : World) (n : Nat) (ps : List Part) : Prop := ∀ p ∈ ps, TS w p.1 p.2.2 ∧ p.2.2.length = n ∧ n ≤ p.2.1 ∧ p.2.1 ≤ maxLen
theorem Are.nil {w : World} {n : Nat} : Are w n [] := fun p hp => by cases hp
theorem Are.keep {w w' : World} {n : Nat} {ps : List Part} (h : Are w n ps) (hk : ∀ (b : Nat) (cs : Array Value) (fr : Nat × Nat), w.heap[b]? = some (Obj.cells cs 5 fr) → w'.heap[b]? = w.heap[b]?) : Are w' n ps := fun p hp => ⟨(h p hp).1.keep hk, (h p hp).2⟩
theorem Are.later {w w' : World} {n : Nat} {ps : List Part} (h : Are w n ps) (hb : Below w.heap.size w w') : Are w' n ps := h.keep fun b cs fr h1 => hb.block b (Array.getElem?_eq_some_iff.1 h1).1
theorem Are.alloc {w : World} {n : Nat} {ps : List Part} (h : Are w n ps) (o : Obj) : Are (w.alloc o) n ps := h.later ((Below.refl _ _).alloc (Nat.le_refl _) o)
theorem Are.snoc {w : World} {n : Nat} {ps : List Part} {p : Part} (h : Are w n ps) (hp : TS w p.1 p.2.2 ∧ p.2.2.length = n ∧ n ≤ p.2.1 ∧ p.2.1 ≤ maxLen) : Are w n (ps ++ [p]) := fun q hq => by
  rcases List.mem_append.1 hq with hq | hq
  · exact h q hq
  · rw [List.mem_singleton] at hq; subst hq; exact hp
theorem Are.append {w : World} {n : Nat} {ps qs : List Part} (h : Are w n ps) (h' : Are w n qs) : Are w n (ps ++ qs) := fun q hq => (List.mem_append.1 hq).elim (h q) (h' q)
/-- While a row of parts grows. -/
theorem Are.row {w w' : World} {n k base : Nat} {ps : List Part} {v : Value} {xs : List Value} (h : Are w n ps) (ho : w.ownsRow base 22 1 v k xs) (hg : w.grownBy w' v.ownBlock) : Are w' n ps := h.keep fun b cs fr h1 => hg.block b (Array.getElem?_eq_some_iff.1 h1).1 (by
  rcases ho.2 with ⟨rfl, _⟩ | ⟨g, cap, cur, rfl, _, hgb, _⟩
  · simp [Value.ownBlock]
  · intro e
    obtain rfl : b = g := by simpa [Value.ownBlock] using e
    have := h1.symm.trans hgb
    simp at this)
/-- .. where a cell of a row of parts is stored. -/
theorem Are.set {w : World} {n g i : Nat} {ps : List Part} {cs : Array Value} (h : Are w n ps) (hg : Blk w g 22 cs) (u : Value) : Are (w.setCell ⟨g, i, none⟩ u) n ps := h.keep fun b cs' fr h1 => Below.heap_setCell w _ u b (by
  rintro rfl
  have := h1.symm.trans (show w.heap[_]? = _ from hg)
  simp at this)
theorem infoR : (Try.prog.info? 22).map (fun i => (i.zero, i.size, i.bytes)) = some (some (.slice none 0 0), 1, 24) := by kernel_rfl
theorem make_bytes (n : Nat) (hn : n ≤ 65536) (W : World) : (Instr.makeSlice 22 (.int .i64 (n : Int)) (.int .i64 (n : Int))).run Try.prog W = .ok (.slice (some ⟨W.heap.size, 0, none⟩) n n) (W.alloc (.cells ((List.replicate n (0 : UInt8)).map u8).toArray 5)) := by
  obtain ⟨i0, hi, hz0, hz1, hz2⟩ := info_parts info5
  have := run_make (P := Try.prog) W 22 5 i0 (.int .u8 0) Try.underlying22 hi hz0 .i64 .i64 n n (by omega) (by omega) (by rw [hz2]; omega) (by omega)
  rw [hz1, Int.toNat_natCast, Nat.mul_one] at this
  have e : madeCells (Value.int .u8 0).cells n = ((List.replicate n (0 : UInt8)).map u8).toArray := by
    apply Array.ext'
    rw [show (Value.int .u8 0).cells = #[.int .u8 0] from rfl, toList_madeCells_one]
    simp [u8]
  rw [e] at this
  exact this
theorem make_rows (n c : Nat) (hnc : n ≤ c) (hn : c ≤ 65536) (W : World) : (Instr.makeSlice 29 (.int .i64 (n : Int)) (.int .i64 (c : Int))).run Try.prog W = .ok (.slice (some ⟨W.heap.size, 0, none⟩) n c) (W.alloc (.cells (List.replicate c (Value.slice none 0 0)).toArray 22)) := by
  obtain ⟨i0, hi, hz0, hz1, hz2⟩ := info_parts infoR
  have := run_make (P := Try.prog) W 29 22 i0 (.slice none 0 0) Try.underlying29 hi hz0 .i64 .i64 n c (by omega) (by omega) (by rw [hz2]; omega) (by omega)
  rw [hz1, Int.toNat_natCast, Int.toNat_natCast, Nat.mul_one] at this
  have e : madeCells (Value.slice none 0 0).cells c = (List.replicate c (Value.slice none 0 0)).toArray := by
    apply Array.ext'
    rw [show (Value.slice none 0 0).cells = #[.slice none 0 0] from rfl, toList_madeCells_one]
  rw [e] at this
  exact this
theorem own_later {w w' : World} {base : Nat} {e : TypeId} {size n : Nat} {v : Value} {xs : List Value} (h : w.ownsRow base e size v n xs) (hb : Below w.heap.size w w') : w'.ownsRow base e size v n xs :=
  h.kept (row := some w.heap.size) ⟨hb.os, hb.tape, hb.output, hb.size, fun k hk _ => hb.block k hk⟩ (.inr (fun e => by have := h.lt _ e; omega))
/-- An owned row of bytes, of parts. -/
def OwnB (w : World) (base : Nat) (v : Value) (k : Nat) (l : Bs) : Prop := w.ownsRow base 5 1 v k (l.map u8)
theorem OwnB.nil {w : World} {base : Nat} : OwnB w base (.slice none 0 0) 0 [] := World.ownsRow_nil _ _ _ _
theorem OwnB.later {w w' : World} {base k : Nat} {v : Value} {l : Bs} (h : OwnB w base v k l) (hb : Below w.heap.size w w') : OwnB w' base v k l := own_later h hb
theorem OwnB.snoc {w : World} {base k : Nat} {v : Value} {l l' : Bs} (h : w.ownsRow base 5 1 v k (l.map u8 ++ l'.map u8)) : OwnB w base v k (l ++ l') := by unfold OwnB; rw [List.map_append]; exact h
theorem OwnB.ts {w : World} {base k c : Nat} {A : Option Addr} {l : Bs} (h : OwnB w base (.slice A k c) k l) : TS w A l := TS.of_own h
theorem map_pv (ps : List Part) (p : Part) : ps.map pv ++ [p].map pv = (ps ++ [p]).map pv := by simp

set_option maxRecDepth 100000 in
set_option maxHeartbeats 2000000 in
theorem cauchy_ok (r d : Nat) (hr : 1 ≤ r) (hr6 : r ≤ 30) (hd : 1 ≤ d) (hd6 : d ≤ 30) (w : World) :
    Calls Try.prog 32 #[.int .i64 (r : Int), .int .i64 (d : Int)] w fun e w' => ∃ (A : Option Addr) (c : Nat) (ps : List Part), e = .returned (.tuple #[.slice A r c, .int .i64 0]) ∧ ps.length = r ∧ r ≤ c ∧ w'.ownsRow w.heap.size 22 1 (.slice A r c) r (ps.map pv) ∧ Are w' d ps ∧ Below w.heap.size w w' := by
  obtain ⟨i0, hi, hz0, hz1, hz2⟩ := info_parts info5
  obtain ⟨j0, hj, hy0, hy1, hy2⟩ := info_parts infoR
  have C1 := Lib.hid (field_ok w)
  have hmn : ¬ ((min (r : Int) (d : Int)) < 1) := by omega
  have hmx : ¬ (64 < (max (r : Int) (d : Int))) := by omega
  have hdm : decide ((min (r : Int) (d : Int)) < 1) = false := decide_eq_false hmn
  go_enter Try.func32, Try.ntmps32
  go_wp2_with (go_at_call 38; refine C1.out.mono ?_; rintro e w1 ⟨C, rfl, hC, hb, hb1⟩; have hC' := Lib.hid hC; clear hC)
  clear C1 hmn hmx hdm
  go_loopw [7, 23] (fun ov iv wm => ∃ (i : Nat) (ps : List Part) (A : Option Addr) (c : Nat), i ≤ r ∧ iv = .int .i64 (i : Int) ∧ ov = .slice A i c ∧ Hid (ps.length = i) ∧ wm.ownsRow w1.heap.size 22 1 (.slice A i c) i (ps.map pv) ∧ Are wm d ps ∧ Below w1.heap.size w1 wm) (fun _ iv _ => r - (intOf iv).toNat)
  case atStart => exact ⟨0, [], none, 0, Nat.zero_le _, rfl, rfl, Lib.hid rfl, World.ownsRow_nil _ _ _ _, Are.nil, Below.refl _ _⟩
  case round =>
    obtain ⟨i, ps, A, c, hi', rfl, rfl, hps, ho, hA, hB⟩ := hrel
    by_cases hlt : i < r
    · obtain ⟨w2, hw2⟩ : ∃ W, W = wr := ⟨_, rfl⟩
      subst hw2
      go_wp2_with fail
      go_loopw [9, 27] (fun rv kv wm => ∃ (k : Nat) (l : Bs) (A' : Option Addr) (c' : Nat), k ≤ d ∧ kv = .int .i64 (k : Int) ∧ rv = .slice A' k c' ∧ Hid (l.length = k) ∧ OwnB wm w2.heap.size (.slice A' k c') k l ∧ Below w2.heap.size w2 wm) (fun _ kv _ => d - (intOf kv).toNat)
      case atStart => exact ⟨0, [], none, 0, Nat.zero_le _, rfl, rfl, Lib.hid rfl, OwnB.nil, Below.refl _ _⟩
      case round =>
        obtain ⟨k, l, A', c', hk', rfl, rfl, hl, ho', hB'⟩ := hrel
        have hbw := (hb.later hB).later hB'
        by_cases hlt' : k < d
        · obtain ⟨x, hx⟩ := some_bits .xor (i : Int) ((r : Int) + (k : Int))
          have hki : (k : Int) < (d : Int) := by omega
          go_wp2_with (first
            | (go_at_call 40; refine (tinv_ok _ C hC'.out x _ hbw).mono ?_; rintro e w4 ⟨y, rfl, hb4⟩; have ho4 := ho'.later hb4; have hB4 := bs hB' hb4)
            | (at_builtin; refine wpList_append_sl _ u8_one' rfl _ _ 22 rfl w2.heap.size 5 i0 (.int .u8 0) 1 Try.underlying22 hi hz0 hz1 hz2 rfl (.slice A' k c') k _ rfl (World.ownsRow.alloc ho4 _) _ _ _ [y] 1 rfl (Sl.of_new rfl rfl) rfl (by unfold maxLen; omega) (by omega) (by have := hB4.size; simp; omega) ?_; intro v5 w5 o5 g5; have hB5 : Below w2.heap.size w2 w5 := (hB4.alloc hB4.size _).grown g5 (by have := hB4.size; simp; omega) (fun j hj => (World.ownsRow.lt ho4 j hj).1); obtain ⟨A5, c5, rfl, _, _⟩ := own_form o5; have o5' := OwnB.snoc o5))
          go_roundw
          case rel => exact ⟨k + 1, l ++ [y], A5, c5, by omega, by go_num, rfl, Lib.hid (by rw [List.length_append, hl.out]; rfl), o5', hB5⟩
          case measure => simp [intOf]; omega
        · obtain rfl : k = d := by omega
          have o2 := own_later ho hB'
          have hA2 := hA.later hB'
          have hBB := hB.trans (hB'.mono hB.size)
          obtain ⟨_, _, hsl, hkc, hcm⟩ := own_form ho'
          obtain ⟨rfl, rfl⟩ : A' = _ ∧ c' = _ := by injection hsl with h1 _ h3; exact ⟨h1, h3⟩
          have hTS := ho'.ts
          go_wp2_with (at_builtin; refine wpList_append_sl _ pv_one rfl _ _ 29 rfl w1.heap.size 22 j0 (.slice none 0 0) 24 Try.underlying29 hj hy0 hy1 hy2 rfl (.slice A i c) i _ rfl (o2.alloc _) _ _ _ [(A', c', l)] 1 rfl (Sl.of_new rfl (by show #[Value.slice A' k c'] = #[pv (A', c', l)]; unfold pv; rw [hl.out])) rfl (by unfold maxLen; omega) (by omega) (by have := hBB.size; simp; omega) ?_; intro v5 w5 o5 g5)
          have hA5 := (hA2.alloc _).row (o2.alloc _) g5
          have hB5 : Below w1.heap.size w1 w5 := (hBB.alloc hBB.size _).grown g5 (by have := hBB.size; simp; omega) (fun j hj => (o2.lt j hj).1)
          have hT5 : Are w5 k [(A', c', l)] := Are.row (Are.alloc (fun p hp => by rw [List.mem_singleton] at hp; subst hp; exact ⟨hTS, hl.out, hkc, hcm⟩) _) (o2.alloc _) g5
          rw [map_pv] at o5
          obtain ⟨A5, c5, rfl, _, _⟩ := own_form o5
          go_roundw
          case rel => exact ⟨i + 1, ps ++ [(A', c', l)], A5, c5, by omega, by go_num, rfl, Lib.hid (by rw [List.length_append, hps.out]; rfl), o5, hA5.append hT5, hB5⟩
          case measure => simp [intOf]; omega
    · obtain rfl : i = r := by omega
      obtain ⟨_, _, hsl, hkc, hcm⟩ := own_form ho
      obtain ⟨rfl, rfl⟩ : A = _ ∧ c = _ := by injection hsl with h1 _ h3; exact ⟨h1, h3⟩
      go_wp2
      go_ret2
      exact ⟨A, c, ps, rfl, hps.out, hkc, own_base ho hb1.size, hA, bs hb1 hB⟩
end Go.Proofs.Ytjpbeoiiplapaaa.C
