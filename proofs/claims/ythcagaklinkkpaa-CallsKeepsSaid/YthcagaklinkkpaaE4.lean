/- calls.Forward and calls.Inverse: the walk of apply. -/
import Derived.Test.YthcagaklinkkpaaE3
import Derived.Laws.OwnMore
namespace Go.Proofs.Ythcagaklinkkpaa.E
set_option linter.unusedVariables false
open Go Go.RowKit Go.Shelf Go.Proofs.Ythcagaklinkkpaa Go.Proofs.Ythcagaklinkkpaa.W Go.Proofs.Ythcagaklinkkpaa.M Go.Proofs.Ythcagaklinkkpaa.B
attribute [local go_sem] Oper.semAt_some

/-- x + (y << k), where the bits do not meet. -/
theorem or_add (a b k : Nat) (ha : a < 2 ^ k) (hb : a + b * 2 ^ k < 2 ^ 63) : bits .or .i64 (a : Int) ((b * 2 ^ k : Nat) : Int) = ((a + b * 2 ^ k : Nat) : Int) := by
  show IntKind.i64.wrap ((BitVec.ofInt 64 (a : Int) ||| BitVec.ofInt 64 ((b * 2 ^ k : Nat) : Int)).toNat : Int) = _
  rw [BitVec.ofInt_natCast, BitVec.ofInt_natCast, BitVec.toNat_or, BitVec.toNat_ofNat, BitVec.toNat_ofNat]
  have h1 : a % 2 ^ 64 = a := Nat.mod_eq_of_lt (by omega)
  have h2 : b * 2 ^ k % 2 ^ 64 = b * 2 ^ k := Nat.mod_eq_of_lt (by omega)
  have h3 : a ||| b * 2 ^ k = a + b * 2 ^ k := by
    rw [Nat.or_comm, Nat.mul_comm, ← Nat.two_pow_add_eq_or_of_lt ha, Nat.add_comm]
  rw [h1, h2, h3]
  generalize a + b * 2 ^ k = n at *
  simp [IntKind.wrap, IntKind.signed, IntKind.bits]; omega

theorem fwd1_any (n p : Int) (hn : 0 ≤ n) (hn2 : n ≤ 16777215) (hp : 0 ≤ p) (hp2 : p ≤ 70000) (w : World) :
    Calls Try.prog 21 #[.int .i64 n, .int .i64 p] w fun e w' => e = .returned (.int .i64 (n + p)) ∧ w = w' := by
  go_enter Try.func21, Try.ntmps21
  go_wp2
  go_ret
  exact ⟨rfl, rfl⟩
theorem inv1_any (n p : Int) (hn : 0 ≤ n) (hn2 : n ≤ 16777215) (hp : 0 ≤ p) (hp2 : p ≤ 70000) (w : World) :
    Calls Try.prog 27 #[.int .i64 n, .int .i64 p] w fun e w' => e = .returned (.int .i64 (n - p)) ∧ w = w' := by
  go_enter Try.func27, Try.ntmps27
  go_wp2
  go_ret
  exact ⟨rfl, rfl⟩

theorem own_byte {w : World} {base n c g : Nat} {o : Bs} (h : w.ownsRow base 5 1 (.slice (some ⟨g, 0, none⟩) n c) n (o.map u8)) {j : Nat} (hj : j < n) :
    ∃ x : UInt8, o[j]? = some x ∧ at_ o j = x ∧ w.cell? ⟨g, j, none⟩ = some (.int .u8 (x.toNat : Int)) := by
  have hl : o.length = n := by have := h.1; simpa using this
  refine ⟨o[j], List.getElem?_eq_getElem (by omega), by unfold at_; rw [List.getElem?_eq_getElem (by omega)]; rfl, ?_⟩
  rw [h.cellAt j (by omega), List.getElem?_map, List.getElem?_eq_getElem (by omega)]; rfl

/-- What holds between two sites: the new string so far, the box of the direction, the box of the new slice. -/
def ApplyI (s : Int) (b : Bs) (fc B0 B1 N : Nat) (A' : Option Addr) (c' : Nat) (pre : List (Site b)) (W : World) : Prop :=
  W.ownsRow (B0 + 1) 5 1 (.slice A' N c') N (((pre.map Subtype.val).foldl (upd s) b).map u8) ∧ Boxed W B0 46 (.func (.func fc) #[] #[]) ∧ Boxed W B1 22 (.slice A' N c')
theorem applyI_own {s : Int} {b : Bs} {fc B0 B1 N : Nat} {A' : Option Addr} {c' : Nat} : Own (ApplyI s b fc B0 B1 N A' c') := fun pre W W' row hs hg hr =>
  ⟨hs.1.kept hg (by
    rcases hs.1.2 with ⟨he, _⟩ | ⟨g, cap, cur, he, _, hgb, _⟩
    · exact .inl (by rw [he]; rfl)
    · refine .inr fun e' => ?_
      obtain ⟨o, ho, hc⟩ := hr g (by rw [he] at e'; simpa [Value.ownBlock] using e'.symm)
      rw [hgb] at ho; cases ho; cases hc), hs.2.1.kept hg (fun e' => by obtain ⟨o, ho, hc⟩ := hr _ e'.symm; rw [show W.heap[B0]? = _ from hs.2.1] at ho; cases ho; cases hc), hs.2.2.kept hg (fun e' => by obtain ⟨o, ho, hc⟩ := hr _ e'.symm; rw [show W.heap[B1]? = _ from hs.2.2] at ho; cases ho; cases hc)⟩

/-- Behind the three stores. -/
theorem stored3 {s : Int} {b : Bs} {fc B0 B1 N g i : Nat} {c' : Nat} {q : List (Site b)} {o : Bs} {W w w3 : World} {v1 v2 v3 : Value} {Ix : Code → List (Site b) → World → Prop} {a : Act}
    (hrow : W.ownsRow (B0 + 1) 5 1 (.slice (some ⟨g, 0, none⟩) N c') N (o.map u8)) (hbx : Boxed W B0 46 (.func (.func fc) #[] #[])) (hbo : Boxed W B1 22 (.slice (some ⟨g, 0, none⟩) N c'))
    (hB : Below B0 w W) (hg : B0 + 1 ≤ g ∧ g < B1) (hq : (((q.map Subtype.val).foldl (upd s) b).map u8) = (((o.map u8).set (i + 1) v1).set (i + 2) v2).set (i + 3) v3) :
    ownPostG w3.heap.size (Keep2 B0 (B1 + 1)) (fun pre W => ApplyI s b fc B0 B1 N (some ⟨g, 0, none⟩) c' pre W ∧ Below B0 w W) Ix q W Exit.normal a (((W.setCell ⟨g, i + 1, none⟩ v1).setCell ⟨g, i + 1 + 1, none⟩ v2).setCell ⟨g, i + 1 + 2, none⟩ v3) := by
  have r1 := (hrow.stored (i + 1) v1).1
  have r2 := (r1.stored (i + 2) v2).1
  have r3 := (r2.stored (i + 3) v3).1
  have bl : ∀ {w0 : World}, Below B0 w0 W → Below B0 w0 (((W.setCell ⟨g, i + 1, none⟩ v1).setCell ⟨g, i + 1 + 1, none⟩ v2).setCell ⟨g, i + 1 + 2, none⟩ v3) := fun h =>
    ((h.setCell (p := ⟨g, i + 1, none⟩) (by show B0 ≤ g; omega) _).setCell (p := ⟨g, i + 1 + 1, none⟩) (by show B0 ≤ g; omega) _).setCell (p := ⟨g, i + 1 + 2, none⟩) (by show B0 ≤ g; omega) _
  have far : ∀ k, k ≠ g → (((W.setCell ⟨g, i + 1, none⟩ v1).setCell ⟨g, i + 1 + 1, none⟩ v2).setCell ⟨g, i + 1 + 2, none⟩ v3).heap[k]? = W.heap[k]? := fun k hk =>
    (Below.heap_setCell _ ⟨g, i + 1 + 2, none⟩ _ _ hk).trans ((Below.heap_setCell _ ⟨g, i + 1 + 1, none⟩ _ _ hk).trans (Below.heap_setCell _ ⟨g, i + 1, none⟩ _ _ hk))
  refine ⟨(((KeepsOthers.setCell _ _ _).trans (KeepsOthers.setCell _ _ _)).trans (KeepsOthers.setCell _ _ _)).from _, ⟨bl (Below.refl _ _), far _ (by omega)⟩, ⟨?_, (far _ (by omega)).trans hbx, (far _ (by omega)).trans hbo⟩, bl hB⟩
  rw [hq]
  exact r3

set_option maxRecDepth 100000 in
set_option maxHeartbeats 2000000 in
theorem apply_fwd (A : Option Addr) (c : Nat) (b : Bs) (hn : b.length ≤ 65536) (w : World) (B : Nat) (h : Sl u8 w B A b) :
    Calls Try.prog 22 #[.agg #[.func (.func 21) #[] #[]], .slice A b.length c] w fun e w' => ∃ A' c', e = .returned (.tuple #[.slice A' b.length c', .int .i64 0]) ∧
      w'.ownsRow w.heap.size 5 1 (.slice A' b.length c') b.length ((trans 1 b).map u8) ∧ Below w.heap.size w w' := by
  refine (callsIn_wide (n := 4)).1 ?_
  refine callsIn_of_wp_marks Try.func22 rfl trivial ?_ rfl
  simp only [Try.ntmps22, List.size_toArray, List.length_cons, List.length_nil, Nat.reduceAdd, Nat.reduceSub, Array.replicate_succ, Array.replicate_zero, List.push_toArray, List.append_toArray, List.nil_append, List.cons_append]
  have hSl := (h.lt.alloc (Nat.le_refl _) (.cells #[.func (.func 21) #[] #[]] 46))
  obtain ⟨N, hN⟩ : ∃ N, b.length = N := ⟨_, rfl⟩
  have HN := Lib.hid hN
  have C := Lib.hid (clone_any A c b (w.alloc (.cells #[.func (.func 21) #[] #[]] 46)) _ hSl (by omega))
  rw [hN] at C hn ⊢
  clear hN
  gi_wp2_with (first
    | (refine ⟨trivial, ?_⟩; gi_at_call 20; refine (callsIn_wide.2 C.out).mono ?_; rintro e w1 ⟨A', c', rfl, hown, hb1⟩)
    | (refine ⟨trivial, ?_⟩; gi_at_call 25; refine (sites_in Fence.wide _ trivial rfl _ _ _ _).mono ?_; rintro e w2 ⟨rfl, rfl⟩))
  have hz1 : w.heap.size + 1 ≤ w1.heap.size := by have := hb1.size; rwa [World.size_alloc] at this
  have hd : decide ((65536 : Int) < (N : Int)) = false := by rw [decide_eq_false_iff_not]; omega
  have hB1 : Below w.heap.size w w1 := ((Below.refl _ w).alloc (Nat.le_refl _) _).trans (hb1.mono (by rw [World.size_alloc]; omega))
  obtain ⟨w3, hw3⟩ : ∃ w3, w3 = (w1.alloc (.cells #[.slice A' N c'] 22)).alloc (.cells #[.slice A N c] 22) := ⟨_, rfl⟩
  have hz3 : w3.heap.size = w1.heap.size + 2 := by rw [hw3]; simp
  have hB0 : Below w.heap.size w w3 := by rw [hw3]; exact (hB1.alloc (by omega) _).alloc (by simp; omega) _
  have bD : Boxed w3 w.heap.size 46 (.func (.func 21) #[] #[]) := by
    rw [hw3]; exact (((Blk.new w _ _).later hb1).alloc _).alloc _
  have bO : Boxed w3 w1.heap.size 22 (.slice A' N c') := by rw [hw3]; exact (Blk.new w1 _ _).alloc _
  have bS : Blk w3 (w1.heap.size + 1) 22 #[.slice A N c] := by rw [hw3]; exact Blk.new' (by simp) _ _
  have hown3 : w3.ownsRow (w.heap.size + 1) 5 1 (.slice A' N c') N (b.map u8) := by
    rw [World.size_alloc] at hown
    rw [hw3]; exact (hown.alloc _).alloc _
  have hgl : ∀ g, (Value.slice A' N c').ownBlock = some g → w.heap.size + 1 ≤ g ∧ g < w1.heap.size := fun g hg => by
    rw [World.size_alloc] at hown
    exact hown.lt g hg
  have hS3 : Sl u8 w3 w.heap.size A b := h.lt.below hB0
  rw [← hw3]
  clear hw3
  have eg := enters_of (P := Try.prog) Try.func29 (by kernel_rfl) rfl
  refine wpIn_rangeFunc_ownG rfl (by omega) (gf := 29) (lb := #[.pointer (some ⟨w1.heap.size + 1, 0, none⟩)]) rfl trivial eg
    (sites_stops2 _ (by omega) (w1.heap.size + 1) w.heap.size A c b (by rw [HN.out]; exact hn) w3 (by omega) hB0.size (by rw [HN.out]; exact bS.cell0) hS3) (fun h k => h.trans k)
    (fun W l o o' hl ho h1 h2 => ⟨belowK_b hB0.size W l o o' hl ho h1 h2, World.putObj_heap_other (by omega)⟩) (Below.refl _ _) (fun _ => rfl)
    (fun pre W => ApplyI 1 b 21 w.heap.size w1.heap.size N A' c' pre W ∧ Below w.heap.size w W)
    (fun _ _ _ => False)
    (OwnFrom.and (Own.from applyI_own _) (ownFrom_below (Nat.le_refl _) hB0.size))
    (fun _ _ _ _ _ hs _ _ => hs)
    ⟨⟨hown3, bD, bO⟩, hB0⟩
    (fun x => { tmps := #[.agg #[.func (.func 21) #[] #[]], .slice A N c, .pointer (some ⟨w.heap.size, 0, none⟩), undef, .slice none 0 0, .int .i64 0, .pointer (some ⟨w1.heap.size, 0, none⟩), .int .i64 (x.val : Int), undef, undef, undef, undef, undef, .slice A N c, .int .i64 (N : Int), .bool false, .slice A N c, .slice A' N c', .slice A N c, .func (.func 29) #[] #[.pointer (some ⟨w1.heap.size + 1, 0, none⟩)], .int .i64 (x.val : Int), undef, undef, undef, undef, undef, undef, undef, undef, undef, undef, undef, undef, undef, undef, undef, undef, undef, undef, undef, undef, undef, undef, undef, undef, undef, undef, undef, undef, undef, undef, undef, undef, undef, undef, undef, undef, undef, undef, undef, undef, undef, undef], defers := [] }) ?assign ?body ?done ?stop
  case assign =>
    intro l x W K hK
    gi_wp2
    exact hK
  case body =>
    rintro l pre ⟨i, hi⟩ W ⟨⟨hrow, hbx, hbo⟩, hB⟩ _
    have hi' : i + 5 ≤ N := by rw [← HN.out]; exact hi
    obtain ⟨o, ho⟩ : ∃ o, o = (pre.map Subtype.val).foldl (upd 1) b := ⟨_, rfl⟩
    have hnext : Hid (((pre ++ [(⟨i, hi⟩ : Site b)]).map Subtype.val).foldl (upd 1) b = upd 1 o i) := Lib.hid (by rw [List.map_append, List.foldl_append, ← ho]; rfl)
    rw [← ho] at hrow
    clear ho
    obtain ⟨g, cap, hv, hgb, hglt⟩ := hrow.form (by omega)
    obtain ⟨hA, hcp⟩ : A' = some ⟨g, 0, none⟩ ∧ c' = cap := by injection hv with h1 h2 h3; exact ⟨h1, h3⟩
    subst hA hcp
    have hNc' : N ≤ c' := by obtain ⟨_, _, hv2, hNc, _⟩ := own_form hrow; injection hv2 with _ _ h3; omega
    obtain ⟨x1, hx1, ha1, g1⟩ := own_byte hrow (j := i + 1) (by omega)
    obtain ⟨x2, hx2, ha2, g2⟩ := own_byte hrow (j := i + 2) (by omega)
    obtain ⟨x3, hx3, ha3, g3⟩ := own_byte hrow (j := i + 3) (by omega)
    have hcx := hbx.cell
    have hco := hbo.cell
    have z1 := lt256 x1
    have z2 := lt256 x2
    have z3 := lt256 x3
    replace g2 : W.cell? ⟨g, i + 1 + 1, none⟩ = some (.int .u8 (x2.toNat : Int)) := g2
    replace g3 : W.cell? ⟨g, i + 1 + 2, none⟩ = some (.int .u8 (x3.toNat : Int)) := g3
    obtain ⟨t2, ht2⟩ : ∃ t2 : Int, t2 = (x1.toNat : Int) + 256 * (x2.toNat : Int) := ⟨_, rfl⟩
    obtain ⟨t3, ht3⟩ : ∃ t3 : Int, t3 = num x1 x2 x3 := ⟨_, rfl⟩
    have q0 : bits .or .i64 0 (x1.toNat : Int) = (x1.toNat : Int) := by have := or_add 0 x1.toNat 0 (by simp) (by have := x1.toNat_lt; omega); simpa using this
    have q1 : bits .or .i64 (x1.toNat : Int) ((x2.toNat : Int) * 256) = t2 := by
      have := or_add x1.toNat x2.toNat 8 (by have := x1.toNat_lt; omega) (by have := x1.toNat_lt; have := x2.toNat_lt; omega)
      rw [show ((x2.toNat * 2 ^ 8 : Nat) : Int) = (x2.toNat : Int) * 256 by omega] at this
      rw [this, ht2]; omega
    have q2 : bits .or .i64 t2 ((x3.toNat : Int) * 65536) = t3 := by
      have := or_add (x1.toNat + 256 * x2.toNat) x3.toNat 16 (by have := x1.toNat_lt; have := x2.toNat_lt; omega) (by have := x1.toNat_lt; have := x2.toNat_lt; have := x3.toNat_lt; omega)
      rw [show ((x3.toNat * 2 ^ 16 : Nat) : Int) = (x3.toNat : Int) * 65536 by omega, show ((x1.toNat + 256 * x2.toNat : Nat) : Int) = t2 by omega] at this
      rw [this, ht3]; unfold num; omega
    have ht0 : 0 ≤ t3 := by rw [ht3]; unfold num; omega
    have ht4 : t3 ≤ 16777215 := by rw [ht3]; unfold num; omega
    have HV : Hid (target 1 o i = t3 + ((i : Int) + 5)) := Lib.hid (by unfold target; rw [ha1, ha2, ha3, ← ht3]; omega)
    clear hv hx1 hx2 hx3 ha1 ha2 ha3 ht2 ht3
    gi_wp2
    gi_loop [9, 29] (fun n k => (k = .int .i64 0 ∧ n = .int .i64 0) ∨ (k = .int .i64 1 ∧ n = .int .i64 (x1.toNat : Int)) ∨ (k = .int .i64 2 ∧ n = .int .i64 t2) ∨ (k = .int .i64 3 ∧ n = .int .i64 t3)) (fun _ k => 3 - (intOf k).toNat)
    case atStart => exact .inl ⟨rfl, rfl⟩
    case round =>
      rcases hrel with ⟨rfl, rfl⟩ | ⟨rfl, rfl⟩ | ⟨rfl, rfl⟩ | ⟨rfl, rfl⟩
      · gi_wp2
        go_round
        case rel => exact .inr (.inl ⟨rfl, rfl⟩)
        case measure => simp [intOf]
      · gi_wp2
        go_round
        case rel => exact .inr (.inr (.inl ⟨rfl, rfl⟩))
        case measure => simp [intOf]
      · gi_wp2
        go_round
        case rel => exact .inr (.inr (.inr ⟨rfl, rfl⟩))
        case measure => simp [intOf]
      · clear q0 q1 q2
        gi_wp2_with (refine ⟨trivial, ?_⟩; gi_at_call 21; refine (callsIn_wide.2 (fwd1_any t3 ((i : Int) + 5) ht0 ht4 (by omega) (by omega) _)).mono ?_; rintro e w9 ⟨rfl, rfl⟩)
        obtain ⟨v, hv⟩ : ∃ v, v = t3 + ((i : Int) + 5) := ⟨_, rfl⟩
        rw [← hv] at HV ⊢
        clear hv
        have r0 : IntKind.u8.wrap v = ((b0 v).toNat : Int) := by rw [b0_val]; simp [IntKind.wrap, IntKind.signed, IntKind.bits]
        have r1 : IntKind.u8.wrap (v / 256) = ((b1 v).toNat : Int) := by rw [b1_val]; simp [IntKind.wrap, IntKind.signed, IntKind.bits]
        have r2 : IntKind.u8.wrap (v / 65536) = ((b2 v).toNat : Int) := by rw [b2_val]; simp [IntKind.wrap, IntKind.signed, IntKind.bits]
        have hfr := fun j => hrow.frozenAt j
        have f1 := hfr (i + 1)
        have f2 : W.frozen? ⟨g, i + 1 + 1, none⟩ = false := hfr _
        have f3 : W.frozen? ⟨g, i + 1 + 2, none⟩ = false := hfr _
        clear hfr
        gi_loopw [12, 50] (fun _ k W' => (k = .int .i64 0 ∧ W' = W) ∨ (k = .int .i64 1 ∧ W' = W.setCell ⟨g, i + 1, none⟩ (.int .u8 ((b0 v).toNat : Int))) ∨ (k = .int .i64 2 ∧ W' = (W.setCell ⟨g, i + 1, none⟩ (.int .u8 ((b0 v).toNat : Int))).setCell ⟨g, i + 1 + 1, none⟩ (.int .u8 ((b1 v).toNat : Int))) ∨
          (k = .int .i64 3 ∧ W' = ((W.setCell ⟨g, i + 1, none⟩ (.int .u8 ((b0 v).toNat : Int))).setCell ⟨g, i + 1 + 1, none⟩ (.int .u8 ((b1 v).toNat : Int))).setCell ⟨g, i + 1 + 2, none⟩ (.int .u8 ((b2 v).toNat : Int)))) (fun _ k _ => 3 - (intOf k).toNat)
        case atStart => exact .inl ⟨rfl, rfl⟩
        case round =>
          rcases hrel with ⟨rfl, rfl⟩ | ⟨rfl, rfl⟩ | ⟨rfl, rfl⟩ | ⟨rfl, rfl⟩
          · gi_wp2
            go_roundw
            case rel => exact .inr (.inl ⟨rfl, trivial⟩)
            case measure => simp [intOf]
          · gi_wp2
            go_roundw
            case rel => exact .inr (.inr (.inl ⟨rfl, trivial⟩))
            case measure => simp [intOf]
          · gi_wp2
            go_roundw
            case rel => exact .inr (.inr (.inr ⟨rfl, trivial⟩))
            case measure => simp [intOf]
          · gi_wp2
            exact stored3 hrow hbx hbo hB (hgl g rfl) (by rw [hnext.out, upd, HV.out]; simp [List.map_set, u8])
  case done =>
    rintro D ys W hD hys ⟨⟨hrow, _, hbo⟩, hB⟩ hK
    rw [hys] at hrow
    have hco := hbo.cell
    gi_wp2
    refine ⟨by simp, .inl ⟨_, _, rfl, run_takeDeferred hK, ?_⟩⟩
    exact ⟨_, results_tmp2 rfl _ _ _, A', c', rfl, own_base (ownsRow_putObj hrow _ hK rfl) (by omega), hB.trans (belowK_b (w := w) (Nat.le_refl _) W D _ _ (by have := hB0.size; omega) hK rfl rfl)⟩
  case stop =>
    rintro D c pre W _ _ h _
    exact h.elim
end Go.Proofs.Ythcagaklinkkpaa.E
