import Derived.Test.YthcagaklinkkpaaE2
import Derived.Maps.AppendAt
namespace Go.Proofs.Ythcagaklinkkpaa.E
set_option linter.unusedVariables false
open Go Go.RowKit Go.Shelf Go.Proofs.Ythcagaklinkkpaa Go.Proofs.Ythcagaklinkkpaa.W Go.Proofs.Ythcagaklinkkpaa.M Go.Proofs.Ythcagaklinkkpaa.B
attribute [local go_sem] Oper.semAt_some

theorem sites_in (F : Fence) (n : Nat) (h5 : F.fn 25) (hro : F.round = none) (a : Option Addr) (len cap : Nat) (w : World) :
    CallsIn F n Try.prog 25 #[.slice a len cap] w fun e w' => e = .returned (.func (.func 29) #[] #[.pointer (some ⟨w.heap.size, 0, none⟩)]) ∧ w' = w.alloc (.cells #[.slice a len cap] 22) := by
  refine callsIn_of_wp Try.func25 rfl h5 ?_ hro
  simp only [Try.ntmps25, List.size_toArray, List.length_cons, List.length_nil, Nat.reduceAdd, Nat.reduceSub, Array.replicate_succ, Array.replicate_zero, List.push_toArray, List.append_toArray, List.nil_append, List.cons_append]
  gi_wp2
  go_ret
  exact ⟨rfl, rfl⟩
theorem sites_any (a : Option Addr) (len cap : Nat) (w : World) :
    Calls Try.prog 25 #[.slice a len cap] w fun e w' => e = .returned (.func (.func 29) #[] #[.pointer (some ⟨w.heap.size, 0, none⟩)]) ∧ w' = w.alloc (.cells #[.slice a len cap] 22) :=
  callsIn_wide.1 (sites_in Fence.wide 3 trivial rfl a len cap w)

theorem sites_stops (n : Nat) (hn : 1 ≤ n) (Bs' n₀ : Nat) (A : Option Addr) (c : Nat) (b : Bs) (hlen : b.length ≤ 65536) (w : World) (hBs : Bs' < n₀) (hn₀ : n₀ ≤ w.heap.size)
    (hc : w.cell? ⟨Bs', 0, none⟩ = some (.slice A b.length c)) (hS : Sl u8 w n₀ A b) :
    SeqStopsK Fence.wide n Try.prog 29 #[.pointer (some ⟨Bs', 0, none⟩)] (fun x : Nat => #[Value.int .i64 (x : Int)]) (Below n₀) (fun ys => ys = scan b 0) (fun pre => pre <+: scan b 0) (scan b 0).length w := fun l J Jx W hW _ _ hY h0 =>
  sites1_in n hn l Bs' n₀ A c b hlen (Below n₀) (fun _ => Below.refl _ _) (fun h k => h.trans k) (Lib.hid fun _ _ h => h.cell (p := ⟨Bs', 0, none⟩) hBs) (fun _ _ h hs => hs.below h) J Jx (fun pre x W1 h hp => hY pre x W1 h (by have := hp.length_le; simp at this; omega)) W ((hW.cell (p := ⟨Bs', 0, none⟩) (by show Bs' < w.heap.size; omega)).trans hc) (hS.below (hW.mono hn₀)) h0

/-- What the sites' iterator reads: the string, and the cell in which the slice lies. -/
def Keep2 (n₀ Bs' : Nat) (W W' : World) : Prop := Below n₀ W W' ∧ W'.heap[Bs']? = W.heap[Bs']?
theorem Keep2.refl (n₀ Bs' : Nat) (W : World) : Keep2 n₀ Bs' W W := ⟨Below.refl _ _, rfl⟩
theorem Keep2.trans {n₀ Bs' : Nat} {A B C : World} (h : Keep2 n₀ Bs' A B) (k : Keep2 n₀ Bs' B C) : Keep2 n₀ Bs' A C := ⟨h.1.trans k.1, k.2.trans h.2⟩
theorem Keep2.cell {n₀ Bs' : Nat} {A B : World} (h : Keep2 n₀ Bs' A B) (i : Nat) : B.cell? ⟨Bs', i, none⟩ = A.cell? ⟨Bs', i, none⟩ := by
  simp only [World.cell?, h.2]
/-- A place with its five bytes. -/
abbrev Site (b : Bs) := { i : Nat // i + 5 ≤ b.length }
theorem scan_fits (b : Bs) : ∀ i, ∀ x ∈ scan b i, x + 5 ≤ b.length := by
  intro i
  induction h : b.length - i using Nat.strongRecOn generalizing i with
  | ind n ih =>
    intro x hx
    by_cases hlt : i < b.length
    · rw [scan_lt hlt] at hx
      by_cases ho : isOp b i = true
      · have h5 := isOp_fits ho
        rw [if_pos ho, List.mem_append] at hx
        rcases hx with hx | hx
        · by_cases hh : isHi b i = true
          · rw [if_pos hh] at hx
            obtain rfl : x = i := by simpa using hx
            exact h5
          · rw [if_neg hh] at hx; cases hx
        · exact ih (b.length - (i + 5)) (by omega) (i + 5) rfl x hx
      · rw [if_neg ho] at hx
        exact ih (b.length - (i + 1)) (by omega) (i + 1) rfl x hx
    · rw [scan_end (by omega)] at hx; cases hx
theorem sites_stops2 (n : Nat) (hn : 1 ≤ n) (Bs' n₀ : Nat) (A : Option Addr) (c : Nat) (b : Bs) (hlen : b.length ≤ 65536) (w : World) (hBs : Bs' < w.heap.size) (hn₀ : n₀ ≤ w.heap.size)
    (hc : w.cell? ⟨Bs', 0, none⟩ = some (.slice A b.length c)) (hS : Sl u8 w n₀ A b) :
    SeqStopsK Fence.wide n Try.prog 29 #[.pointer (some ⟨Bs', 0, none⟩)] (fun x : Site b => #[Value.int .i64 (x.val : Int)]) (Keep2 n₀ Bs') (fun ys => ys.map Subtype.val = scan b 0) (fun _ => True) (scan b 0).length w := fun l J Jx W hW _ _ hY h0 => by
  have key := sites1_in n hn l Bs' n₀ A c b hlen (Keep2 n₀ Bs') (fun _ => Keep2.refl _ _ _) (fun h k => h.trans k) (Lib.hid fun _ _ h => h.cell 0) (fun _ _ h hs => hs.below h.1)
    (fun p W => ∃ q : List (Site b), q.map Subtype.val = p ∧ J q W) (fun p W => ∃ q : List (Site b), q.map Subtype.val = p ∧ Jx q W) (fun pre x W1 h hp => by
      obtain ⟨q, rfl, hq⟩ := h
      have hx : x + 5 ≤ b.length := scan_fits b 0 x (hp.subset (by simp))
      obtain ⟨fn, tmps, assign, body, hy, hR⟩ := hY q ⟨x, hx⟩ W1 hq (by have := hp.length_le; simp at this; omega)
      refine ⟨fn, tmps, assign, body, hy, hR.mono ?_⟩
      rintro e W' (⟨he, hj, hk⟩ | ⟨he, hj⟩)
      · exact .inl ⟨he, ⟨q ++ [⟨x, hx⟩], by simp, hj⟩, hk⟩
      · exact .inr ⟨he, ⟨q ++ [⟨x, hx⟩], by simp, hj⟩⟩) W ((hW.cell (p := ⟨Bs', 0, none⟩) hBs).trans hc) (hS.below (hW.mono hn₀)) ⟨[], rfl, h0⟩
  refine key.mono ?_
  rintro e W' ⟨he, (⟨ys, rfl, q, hq, hj⟩ | ⟨pre, _, q, _, hj⟩)⟩
  · exact ⟨he, .inl ⟨q, hq, hj⟩⟩
  · exact ⟨he, .inr ⟨q, trivial, hj⟩⟩

set_option maxRecDepth 100000 in
set_option maxHeartbeats 2000000 in
/-- slices.AppendSeq(nil, sites(b)): a slice that owns the sites. -/
theorem appendSeq_any (gf : Nat) (lb : Array Value) (xs : List Nat) (hxs : xs.length ≤ 65536) (Sp : List Nat → Prop) (w : World)
    (eg : ∀ args w, (callFunc gf args).run Try.prog w = .ok (.enter gf args) w)
    (hseq : ∀ W, Below w.heap.size w W → SeqStopsK Fence.wide 2 Try.prog gf lb (fun x : Nat => #[Value.int .i64 (x : Int)]) (Below w.heap.size) (fun ys => ys = xs) Sp xs.length W) :
    Calls Try.prog 28 #[.slice none 0 0, .func (.func gf) #[] lb] w fun e w' => ∃ A' c', e = .returned (.slice A' xs.length c') ∧
      w'.ownsRow w.heap.size 3 1 (.slice A' xs.length c') xs.length (xs.map iv) ∧ Below w.heap.size w w' := by
  obtain ⟨i0, hi, hz0, hz1, hz2⟩ := info_parts info3
  refine (callsIn_wide (n := 3)).1 ?_
  refine callsIn_of_wp_marks Try.func28 rfl trivial ?_ rfl
  simp only [Try.ntmps28, List.size_toArray, List.length_cons, List.length_nil, Nat.reduceAdd, Nat.reduceSub, Array.replicate_succ, Array.replicate_zero, List.push_toArray, List.append_toArray, List.nil_append, List.cons_append]
  gi_wp2
  have bO := Boxed.new w 31 (.slice none 0 0)
  have hB0 : Below w.heap.size w (w.alloc (.cells #[.slice none 0 0] 31)) := (Below.refl _ w).alloc (Nat.le_refl _) _
  refine wpIn_rangeFunc_ownG rfl (by omega) (gf := gf) (lb := lb) rfl trivial eg (hseq _ hB0) belowK_t (belowK_b (by simp)) (Below.refl _ _) (fun _ => rfl)
    (fun pre W => (∃ v, Boxed W w.heap.size 31 v ∧ W.ownsRow w.heap.size 3 1 v pre.length (pre.map iv) ∧ True) ∧ Below w.heap.size w W)
    (fun _ _ _ => False)
    (OwnFrom.and (Own.from (holdsRow_own w.heap.size w.heap.size 31 3 1 (fun pre : List Nat => pre.length) (fun pre => pre.map iv) (fun pre v => True)) _) (ownFrom_below (Nat.le_refl _) (by simp)))
    (fun _ _ _ _ _ hs _ _ => hs)
    ⟨⟨_, bO, World.ownsRow_nil _ _ _ _, trivial⟩, hB0⟩
    (fun x => { tmps := #[.slice none 0 0, .func (.func gf) #[] lb, .pointer (some ⟨w.heap.size, 0, none⟩), undef, .slice none 0 0, .int .i64 (x : Int), .func (.func gf) #[] lb, .int .i64 (x : Int), undef, undef, undef, undef, undef], defers := [] }) ?assign ?body ?done ?stop
  case assign =>
    intro l x W K hK
    gi_wp2
    exact hK
  case body =>
    rintro l pre x W ⟨⟨v, hv, hrow, _⟩, hB⟩ hlt
    have hc := hv.cell
    gi_wp2_with (gi_at_builtin; refine wpListIn_append_own _ rfl _ _ 31 rfl w.heap.size 3 i0 (.int .i64 0) 1 8 Try.underlying31 hi hz0 hz1 hz2 rfl (by decide) _ _ _ rfl (hrow.alloc _) ⟨W.heap.size, 0, none⟩ 1 1 [.int .i64 (x : Int)] rfl rfl (cell_one_new _ _ _) (by simp [Value.oneCell']) (by unfold maxLen; omega) (by omega) (by have := hB.size; simp; omega) ?_; intro v' w1 hown' hgrow _; obtain ⟨g', cap', rfl⟩ := ownsRow_succ hown'; obtain ⟨hv1, hv2, hr2, hk2, hb2⟩ := hv.appended (by decide) hrow hB.size (Nat.le_refl _) hown' hgrow; have hc1 := hv1.cell; have hf1 := hv1.frozen)
    exact ⟨hk2.from _, hb2, ⟨_, hv2, by rw [List.length_append, List.map_append]; exact hr2, trivial⟩, hB.trans hb2⟩
  case done =>
    rintro D ys W hD rfl ⟨⟨v, hv, hrow, _⟩, hB⟩ hK
    have hc := hv.cell
    obtain ⟨A', c', rfl, _, _⟩ := own_form hrow
    gi_wp2
    refine ⟨by simp, .inl ⟨_, _, rfl, run_takeDeferred hK, ?_⟩⟩
    exact ⟨_, results_tmp rfl _ _ _, A', c', rfl, ownsRow_putObj hrow _ hK rfl, hB.trans (belowK_b (w := w) (Nat.le_refl _) W D _ _ (by simp at hD; omega) hK rfl rfl)⟩
  case stop =>
    rintro D c pre W _ _ h _
    exact h.elim

theorem collect_any (gf : Nat) (lb : Array Value) (xs : List Nat) (hxs : xs.length ≤ 65536) (Sp : List Nat → Prop) (w : World)
    (eg : ∀ args w, (callFunc gf args).run Try.prog w = .ok (.enter gf args) w)
    (hseq : ∀ W, Below w.heap.size w W → SeqStopsK Fence.wide 2 Try.prog gf lb (fun x : Nat => #[Value.int .i64 (x : Int)]) (Below w.heap.size) (fun ys => ys = xs) Sp xs.length W) :
    Calls Try.prog 24 #[.func (.func gf) #[] lb] w fun e w' => ∃ A' c', e = .returned (.slice A' xs.length c') ∧
      w'.ownsRow w.heap.size 3 1 (.slice A' xs.length c') xs.length (xs.map iv) ∧ Below w.heap.size w w' := by
  have C := Lib.hid (appendSeq_any gf lb xs hxs Sp w eg hseq)
  clear hseq eg
  go_enter Try.func24, Try.ntmps24
  go_wp2_with (go_at_call 28; refine C.out.mono ?_; rintro e w1 ⟨A', c', rfl, hown, hb⟩)
  go_ret
  exact ⟨A', c', rfl, hown, hb⟩

theorem scan_length (b : Bs) : ∀ i, (scan b i).length + i ≤ max b.length i := by
  intro i
  induction h : b.length - i using Nat.strongRecOn generalizing i with
  | ind n ih =>
    by_cases hlt : i < b.length
    · rw [scan_lt hlt]
      by_cases ho : isOp b i = true
      · have h5 := isOp_fits ho
        rw [if_pos ho]
        have := ih (b.length - (i + 5)) (by omega) (i + 5) rfl
        rw [List.length_append]
        by_cases hh : isHi b i = true
        · rw [if_pos hh]; simp only [List.length_cons, List.length_nil]; omega
        · rw [if_neg hh]; simp only [List.length_nil]; omega
      · rw [if_neg ho]
        have := ih (b.length - (i + 1)) (by omega) (i + 1) rfl
        omega
    · rw [scan_end (by omega)]; simp; omega
theorem scan_le (b : Bs) : (scan b 0).length ≤ b.length := by have := scan_length b 0; omega

/-- calls.Sites and the reference's. -/
def siteErr (N : Nat) : Int := if N > 65536 then 5 else 0
def siteOut (b : Bs) : List Nat := if b.length > 65536 then [] else scan b 0

theorem Sites_any (A : Option Addr) (c : Nat) (b : Bs) (hn : b.length ≤ 9223372036854775000) (w : World) (B : Nat) (h : Sl u8 w B A b) :
    Calls Try.prog 15 #[.slice A b.length c] w fun e w' => ∃ A' c', e = .returned (.tuple #[.slice A' (siteOut b).length c', .int .i64 (siteErr b.length)]) ∧
      w'.ownsRow w.heap.size 3 1 (.slice A' (siteOut b).length c') (siteOut b).length ((siteOut b).map iv) ∧ Below w.heap.size w w' := by
  by_cases h1 : b.length > 65536
  · have e1 : siteErr b.length = 5 := if_pos h1
    have e2 : siteOut b = [] := if_pos h1
    rw [e1, e2]
    clear e1 e2
    go_enter Try.func15, Try.ntmps15
    go_wp2
    go_ret2
    exact ⟨none, 0, rfl, World.ownsRow_nil _ _ _ _, Below.refl _ _⟩
  · have e1 : siteErr b.length = 0 := if_neg h1
    have e2 : siteOut b = scan b 0 := if_neg h1
    rw [e1, e2]
    have hle := scan_le b
    obtain ⟨xs, hxs⟩ : ∃ xs, xs = scan b 0 := ⟨_, rfl⟩
    have C := Lib.hid (collect_any 29 #[.pointer (some ⟨w.heap.size, 0, none⟩)] (scan b 0) (by omega) _ (w.alloc (.cells #[.slice A b.length c] 22)) (enters_of Try.func29 (by kernel_rfl) rfl)
      (fun W hB => sites_stops 2 (by omega) w.heap.size (w.alloc (.cells #[.slice A b.length c] 22)).heap.size A c b (by omega) W (by simp) hB.size (((Blk.new w _ _).later hB).cell0) (((h.lt.alloc (Nat.le_refl _) _).lt).below hB)))
    rw [← hxs] at C ⊢
    clear hxs e1 e2 hle
    go_enter Try.func15, Try.ntmps15
    go_wp2_with (first
      | (go_at_call 25; refine (sites_any _ _ _ _).mono ?_; rintro e w1 ⟨rfl, rfl⟩)
      | (go_at_call 24; refine C.out.mono ?_; rintro e w2 ⟨A', c', rfl, hown, hb⟩))
    go_ret2
    exact ⟨A', c', rfl, own_base hown (by simp), ((Below.refl _ w).alloc (Nat.le_refl _) _).trans (hb.mono (by simp))⟩
end Go.Proofs.Ythcagaklinkkpaa.E
