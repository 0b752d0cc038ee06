/- calls.Inverse: the walk of apply (the text of apply_fwd, turned). -/
import Derived.Test.YthcagaklinkkpaaE4
namespace Go.Proofs.Ythcagaklinkkpaa.E
set_option linter.unusedVariables false
open Go Go.RowKit Go.Shelf Go.Proofs.Ythcagaklinkkpaa Go.Proofs.Ythcagaklinkkpaa.W Go.Proofs.Ythcagaklinkkpaa.M Go.Proofs.Ythcagaklinkkpaa.B
attribute [local go_sem] Oper.semAt_some

set_option maxRecDepth 100000 in
set_option maxHeartbeats 2000000 in
theorem apply_inv (A : Option Addr) (c : Nat) (b : Bs) (hn : b.length ≤ 65536) (w : World) (B : Nat) (h : Sl u8 w B A b) :
    Calls Try.prog 22 #[.agg #[.func (.func 27) #[] #[]], .slice A b.length c] w fun e w' => ∃ A' c', e = .returned (.tuple #[.slice A' b.length c', .int .i64 0]) ∧
      w'.ownsRow w.heap.size 5 1 (.slice A' b.length c') b.length ((trans (-1) b).map u8) ∧ Below w.heap.size w w' := by
  refine (callsIn_wide (n := 4)).1 ?_
  refine callsIn_of_wp_marks Try.func22 rfl trivial ?_ rfl
  simp only [Try.ntmps22, List.size_toArray, List.length_cons, List.length_nil, Nat.reduceAdd, Nat.reduceSub, Array.replicate_succ, Array.replicate_zero, List.push_toArray, List.append_toArray, List.nil_append, List.cons_append]
  have hSl := (h.lt.alloc (Nat.le_refl _) (.cells #[.func (.func 27) #[] #[]] 46))
  obtain ⟨N, hN⟩ : ∃ N, b.length = N := ⟨_, rfl⟩
  have HN := Lib.hid hN
  have C := Lib.hid (clone_any A c b (w.alloc (.cells #[.func (.func 27) #[] #[]] 46)) _ hSl (by omega))
  rw [hN] at C hn ⊢
  clear hN
  gi_wp2_with (first
    | (refine ⟨trivial, ?_⟩; gi_at_call 20; refine (callsIn_wide.2 C.out).mono ?_; rintro e w1 ⟨A', c', rfl, hown, hb1⟩)
    | (refine ⟨trivial, ?_⟩; gi_at_call 25; refine (sites_in Fence.wide _ trivial rfl _ _ _ _).mono ?_; rintro e w2 ⟨rfl, rfl⟩))
  have hz1 : w.heap.size + 1 ≤ w1.heap.size := by have := hb1.size; rwa [World.size_alloc] at this
  have hd : decide ((65536 : Int) < (N : Int)) = false := by rw [decide_eq_false_iff_not]; omega
  have hB1 : Below w.heap.size w w1 := ((Below.refl _ w).alloc (Nat.le_refl _) _).trans (hb1.mono (by rw [World.size_alloc]; omega))
  obtain ⟨w3, hw3⟩ : ∃ w3, w3 = (w1.alloc (.cells #[.slice A' N c'] 22)).alloc (.cells #[.slice A N c] 22) := ⟨_, rfl⟩
  have hz3 : w3.heap.size = w1.heap.size + 2 := by rw [hw3]; simp
  have hB0 : Below w.heap.size w w3 := by rw [hw3]; exact (hB1.alloc (by omega) _).alloc (by simp; omega) _
  have bD : Boxed w3 w.heap.size 46 (.func (.func 27) #[] #[]) := by
    rw [hw3]; exact (((Blk.new w _ _).later hb1).alloc _).alloc _
  have bO : Boxed w3 w1.heap.size 22 (.slice A' N c') := by rw [hw3]; exact (Blk.new w1 _ _).alloc _
  have bS : Blk w3 (w1.heap.size + 1) 22 #[.slice A N c] := by rw [hw3]; exact Blk.new' (by simp) _ _
  have hown3 : w3.ownsRow (w.heap.size + 1) 5 1 (.slice A' N c') N (b.map u8) := by
    rw [World.size_alloc] at hown
    rw [hw3]; exact (hown.alloc _).alloc _
  have hgl : ∀ g, (Value.slice A' N c').ownBlock = some g → w.heap.size + 1 ≤ g ∧ g < w1.heap.size := fun g hg => by
    rw [World.size_alloc] at hown
    exact hown.lt g hg
  have hS3 : Sl u8 w3 w.heap.size A b := h.lt.below hB0
  rw [← hw3]
  clear hw3
  have eg := enters_of (P := Try.prog) Try.func29 (by kernel_rfl) rfl
  refine wpIn_rangeFunc_ownG rfl (by omega) (gf := 29) (lb := #[.pointer (some ⟨w1.heap.size + 1, 0, none⟩)]) rfl trivial eg
    (sites_stops2 _ (by omega) (w1.heap.size + 1) w.heap.size A c b (by rw [HN.out]; exact hn) w3 (by omega) hB0.size (by rw [HN.out]; exact bS.cell0) hS3) (fun h k => h.trans k)
    (fun W l o o' hl ho h1 h2 => ⟨belowK_b hB0.size W l o o' hl ho h1 h2, World.putObj_heap_other (by omega)⟩) (Below.refl _ _) (fun _ => rfl)
    (fun pre W => ApplyI (-1) b 27 w.heap.size w1.heap.size N A' c' pre W ∧ Below w.heap.size w W)
    (fun _ _ _ => False)
    (OwnFrom.and (Own.from applyI_own _) (ownFrom_below (Nat.le_refl _) hB0.size))
    (fun _ _ _ _ _ hs _ _ => hs)
    ⟨⟨hown3, bD, bO⟩, hB0⟩
    (fun x => { tmps := #[.agg #[.func (.func 27) #[] #[]], .slice A N c, .pointer (some ⟨w.heap.size, 0, none⟩), undef, .slice none 0 0, .int .i64 0, .pointer (some ⟨w1.heap.size, 0, none⟩), .int .i64 (x.val : Int), undef, undef, undef, undef, undef, .slice A N c, .int .i64 (N : Int), .bool false, .slice A N c, .slice A' N c', .slice A N c, .func (.func 29) #[] #[.pointer (some ⟨w1.heap.size + 1, 0, none⟩)], .int .i64 (x.val : Int), undef, undef, undef, undef, undef, undef, undef, undef, undef, undef, undef, undef, undef, undef, undef, undef, undef, undef, undef, undef, undef, undef, undef, undef, undef, undef, undef, undef, undef, undef, undef, undef, undef, undef, undef, undef, undef, undef, undef, undef, undef, undef], defers := [] }) ?assign ?body ?done ?stop
  case assign =>
    intro l x W K hK
    gi_wp2
    exact hK
  case body =>
    rintro l pre ⟨i, hi⟩ W ⟨⟨hrow, hbx, hbo⟩, hB⟩ _
    have hi' : i + 5 ≤ N := by rw [← HN.out]; exact hi
    obtain ⟨o, ho⟩ : ∃ o, o = (pre.map Subtype.val).foldl (upd (-1)) b := ⟨_, rfl⟩
    have hnext : Hid (((pre ++ [(⟨i, hi⟩ : Site b)]).map Subtype.val).foldl (upd (-1)) b = upd (-1) o i) := Lib.hid (by rw [List.map_append, List.foldl_append, ← ho]; rfl)
    rw [← ho] at hrow
    clear ho
    obtain ⟨g, cap, hv, hgb, hglt⟩ := hrow.form (by omega)
    obtain ⟨hA, hcp⟩ : A' = some ⟨g, 0, none⟩ ∧ c' = cap := by injection hv with h1 h2 h3; exact ⟨h1, h3⟩
    subst hA hcp
    have hNc' : N ≤ c' := by obtain ⟨_, _, hv2, hNc, _⟩ := own_form hrow; injection hv2 with _ _ h3; omega
    obtain ⟨x1, hx1, ha1, g1⟩ := own_byte hrow (j := i + 1) (by omega)
    obtain ⟨x2, hx2, ha2, g2⟩ := own_byte hrow (j := i + 2) (by omega)
    obtain ⟨x3, hx3, ha3, g3⟩ := own_byte hrow (j := i + 3) (by omega)
    have hcx := hbx.cell
    have hco := hbo.cell
    have z1 := lt256 x1
    have z2 := lt256 x2
    have z3 := lt256 x3
    replace g2 : W.cell? ⟨g, i + 1 + 1, none⟩ = some (.int .u8 (x2.toNat : Int)) := g2
    replace g3 : W.cell? ⟨g, i + 1 + 2, none⟩ = some (.int .u8 (x3.toNat : Int)) := g3
    obtain ⟨t2, ht2⟩ : ∃ t2 : Int, t2 = (x1.toNat : Int) + 256 * (x2.toNat : Int) := ⟨_, rfl⟩
    obtain ⟨t3, ht3⟩ : ∃ t3 : Int, t3 = num x1 x2 x3 := ⟨_, rfl⟩
    have q0 : bits .or .i64 0 (x1.toNat : Int) = (x1.toNat : Int) := by have := or_add 0 x1.toNat 0 (by simp) (by have := x1.toNat_lt; omega); simpa using this
    have q1 : bits .or .i64 (x1.toNat : Int) ((x2.toNat : Int) * 256) = t2 := by
      have := or_add x1.toNat x2.toNat 8 (by have := x1.toNat_lt; omega) (by have := x1.toNat_lt; have := x2.toNat_lt; omega)
      rw [show ((x2.toNat * 2 ^ 8 : Nat) : Int) = (x2.toNat : Int) * 256 by omega] at this
      rw [this, ht2]; omega
    have q2 : bits .or .i64 t2 ((x3.toNat : Int) * 65536) = t3 := by
      have := or_add (x1.toNat + 256 * x2.toNat) x3.toNat 16 (by have := x1.toNat_lt; have := x2.toNat_lt; omega) (by have := x1.toNat_lt; have := x2.toNat_lt; have := x3.toNat_lt; omega)
      rw [show ((x3.toNat * 2 ^ 16 : Nat) : Int) = (x3.toNat : Int) * 65536 by omega, show ((x1.toNat + 256 * x2.toNat : Nat) : Int) = t2 by omega] at this
      rw [this, ht3]; unfold num; omega
    have ht0 : 0 ≤ t3 := by rw [ht3]; unfold num; omega
    have ht4 : t3 ≤ 16777215 := by rw [ht3]; unfold num; omega
    have HV : Hid (target (-1) o i = t3 - ((i : Int) + 5)) := Lib.hid (by unfold target; rw [ha1, ha2, ha3, ← ht3]; omega)
    clear hv hx1 hx2 hx3 ha1 ha2 ha3 ht2 ht3
    gi_wp2
    gi_loop [9, 29] (fun n k => (k = .int .i64 0 ∧ n = .int .i64 0) ∨ (k = .int .i64 1 ∧ n = .int .i64 (x1.toNat : Int)) ∨ (k = .int .i64 2 ∧ n = .int .i64 t2) ∨ (k = .int .i64 3 ∧ n = .int .i64 t3)) (fun _ k => 3 - (intOf k).toNat)
    case atStart => exact .inl ⟨rfl, rfl⟩
    case round =>
      rcases hrel with ⟨rfl, rfl⟩ | ⟨rfl, rfl⟩ | ⟨rfl, rfl⟩ | ⟨rfl, rfl⟩
      · gi_wp2
        go_round
        case rel => exact .inr (.inl ⟨rfl, rfl⟩)
        case measure => simp [intOf]
      · gi_wp2
        go_round
        case rel => exact .inr (.inr (.inl ⟨rfl, rfl⟩))
        case measure => simp [intOf]
      · gi_wp2
        go_round
        case rel => exact .inr (.inr (.inr ⟨rfl, rfl⟩))
        case measure => simp [intOf]
      · clear q0 q1 q2
        gi_wp2_with (refine ⟨trivial, ?_⟩; gi_at_call 27; refine (callsIn_wide.2 (inv1_any t3 ((i : Int) + 5) ht0 ht4 (by omega) (by omega) _)).mono ?_; rintro e w9 ⟨rfl, rfl⟩)
        obtain ⟨v, hv⟩ : ∃ v, v = t3 - ((i : Int) + 5) := ⟨_, rfl⟩
        rw [← hv] at HV ⊢
        clear hv
        have r0 : IntKind.u8.wrap v = ((b0 v).toNat : Int) := by rw [b0_val]; simp [IntKind.wrap, IntKind.signed, IntKind.bits]
        have r1 : IntKind.u8.wrap (v / 256) = ((b1 v).toNat : Int) := by rw [b1_val]; simp [IntKind.wrap, IntKind.signed, IntKind.bits]
        have r2 : IntKind.u8.wrap (v / 65536) = ((b2 v).toNat : Int) := by rw [b2_val]; simp [IntKind.wrap, IntKind.signed, IntKind.bits]
        have hfr := fun j => hrow.frozenAt j
        have f1 := hfr (i + 1)
        have f2 : W.frozen? ⟨g, i + 1 + 1, none⟩ = false := hfr _
        have f3 : W.frozen? ⟨g, i + 1 + 2, none⟩ = false := hfr _
        clear hfr
        gi_loopw [12, 50] (fun _ k W' => (k = .int .i64 0 ∧ W' = W) ∨ (k = .int .i64 1 ∧ W' = W.setCell ⟨g, i + 1, none⟩ (.int .u8 ((b0 v).toNat : Int))) ∨ (k = .int .i64 2 ∧ W' = (W.setCell ⟨g, i + 1, none⟩ (.int .u8 ((b0 v).toNat : Int))).setCell ⟨g, i + 1 + 1, none⟩ (.int .u8 ((b1 v).toNat : Int))) ∨
          (k = .int .i64 3 ∧ W' = ((W.setCell ⟨g, i + 1, none⟩ (.int .u8 ((b0 v).toNat : Int))).setCell ⟨g, i + 1 + 1, none⟩ (.int .u8 ((b1 v).toNat : Int))).setCell ⟨g, i + 1 + 2, none⟩ (.int .u8 ((b2 v).toNat : Int)))) (fun _ k _ => 3 - (intOf k).toNat)
        case atStart => exact .inl ⟨rfl, rfl⟩
        case round =>
          rcases hrel with ⟨rfl, rfl⟩ | ⟨rfl, rfl⟩ | ⟨rfl, rfl⟩ | ⟨rfl, rfl⟩
          · gi_wp2
            go_roundw
            case rel => exact .inr (.inl ⟨rfl, trivial⟩)
            case measure => simp [intOf]
          · gi_wp2
            go_roundw
            case rel => exact .inr (.inr (.inl ⟨rfl, trivial⟩))
            case measure => simp [intOf]
          · gi_wp2
            go_roundw
            case rel => exact .inr (.inr (.inr ⟨rfl, trivial⟩))
            case measure => simp [intOf]
          · gi_wp2
            exact stored3 hrow hbx hbo hB (hgl g rfl) (by rw [hnext.out, upd, HV.out]; simp [List.map_set, u8])
  case done =>
    rintro D ys W hD hys ⟨⟨hrow, _, hbo⟩, hB⟩ hK
    rw [hys] at hrow
    have hco := hbo.cell
    gi_wp2
    refine ⟨by simp, .inl ⟨_, _, rfl, run_takeDeferred hK, ?_⟩⟩
    exact ⟨_, results_tmp2 rfl _ _ _, A', c', rfl, own_base (ownsRow_putObj hrow _ hK rfl) (by omega), hB.trans (belowK_b (w := w) (Nat.le_refl _) W D _ _ (by have := hB0.size; omega) hK rfl rfl)⟩
  case stop =>
    rintro D c pre W _ _ h _
    exact h.elim
end Go.Proofs.Ythcagaklinkkpaa.E
