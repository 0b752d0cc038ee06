/- rolling.Places. -/
import Derived.Test.YtcdaieoondmljaaS9
namespace Go.Proofs.Ytcdaieoondmljaa.H
set_option linter.unusedVariables false
open Go Go.RowKit Go.Shelf Go.Proofs.Ytcdaieoondmljaa Go.Proofs.Ytcdaieoondmljaa.W Go.Proofs.Ytcdaieoondmljaa.M
attribute [local go_sem] Oper.semAt_some

theorem infoI : (Try.prog.info? 3).map (fun i => (i.zero, i.size, i.bytes)) = some (some (.int .i64 0), 1, 8) := by kernel_rfl
/-- A place as the model holds it. -/
def i64 (x : Nat) : Value := .int .i64 (x : Int)
theorem i64_one (x : Nat) : (i64 x).oneCell' = true := rfl

theorem windows_in (F : Fence) (n : Nat) (h5 : F.fn 41) (hro : F.round = none) (a : Option Addr) (len cap : Nat) (k : Int) (w : World) :
    CallsIn F n Try.prog 41 #[.slice a len cap, .int .i64 k] w fun e w' => e = .returned (.func (.func 44) #[] #[.pointer (some ⟨w.heap.size + 1, 0, none⟩), .pointer (some ⟨w.heap.size, 0, none⟩)]) ∧ w' = (w.alloc (.cells #[.slice a len cap] 24)).alloc (.cells #[.int .i64 k] 3) := by
  refine callsIn_of_wp Try.func41 rfl h5 ?_ hro
  simp only [Try.ntmps41, List.size_toArray, List.length_cons, List.length_nil, Nat.reduceAdd, Nat.reduceSub, Array.replicate_succ, Array.replicate_zero, List.push_toArray, List.append_toArray, List.nil_append, List.cons_append]
  gi_wp2
  go_ret
  exact ⟨rfl, rfl⟩

theorem windows_stops (n : Nat) (hn : 1 ≤ n) (Bw Bs' n₀ : Nat) (A : Option Addr) (c N k : Nat) (b : Bs) (hlb : b.length = N) (hlen : N ≤ 65536) (hk1 : 1 ≤ k) (hk2 : k ≤ 64) (w : World) (hn₀ : n₀ ≤ w.heap.size)
    (hw : Boxed w Bw 3 (.int .i64 (k : Int))) (hs : Boxed w Bs' 24 (.slice A N c)) (hS : Sl u8 w n₀ A b) :
    SeqStopsK Fence.wide n Try.prog 44 #[.pointer (some ⟨Bw, 0, none⟩), .pointer (some ⟨Bs', 0, none⟩)] encp (KeepW n₀ Bs') (fun ys => ys = prs b k) (fun _ => True) (prs b k).length w := fun l J Jx W hW hA _ hY h0 => by
  have key := windows1_in n hn l Bw Bs' n₀ A c N k b hlb hlen hk1 hk2 J Jx (fun pre p W1 hJ hp => hY pre p W1 hJ (by have := hp.length_le; simp at this; omega))
    W hA ((show W.heap[Bw]? = _ from (hW.block Bw hw.lt).trans hw)) ((show W.cell? _ = _ from (hW.cell (p := ⟨Bs', 0, none⟩) hs.lt).trans hs.cell)) (hS.below (hW.mono hn₀)) (Nat.le_trans hn₀ hW.size) h0
  refine key.mono ?_
  rintro e W' ⟨he, (⟨ys, rfl, hj⟩ | ⟨pre, _, hj⟩)⟩
  · exact ⟨he, .inl ⟨_, rfl, hj⟩⟩
  · exact ⟨he, .inr ⟨pre, trivial, hj⟩⟩

/-- Between two windows: the places so far, in the box of out. -/
def PlI (B0 B : Nat) (m : R) (q : List Pr) (W : World) : Prop :=
  ∃ v, Boxed W B 51 v ∧ W.ownsRow B0 3 1 v (plc m q).length ((plc m q).map i64) ∧ (plc m q = [] → v = .slice none 0 0)
theorem plI_own (B0 B : Nat) (m : R) : Own (PlI B0 B m) := by
  rintro s X Y row ⟨v, hv, hr, hz⟩ hg hrow
  refine ⟨v, hv.kept hg (fun e' => ?_), hr.kept hg ?_, hz⟩
  · obtain ⟨o, ho, hc⟩ := hrow B e'.symm
    rw [show X.heap[B]? = _ from hv] at ho; cases ho; cases hc
  · rcases hr.2 with ⟨rfl, _⟩ | ⟨g, cap, cur, rfl, _, hgb, _⟩
    · exact .inl rfl
    · refine .inr fun e' => ?_
      obtain ⟨o, ho, hc⟩ := hrow g (by simpa [Value.ownBlock] using e'.symm)
      rw [hgb] at ho; cases ho; cases hc
/-- What a round's append leaves. -/
def PlDone (B0 : Nat) (m : R) (w0 W : World) (S0 : Value) (q : List Pr) (W' : World) : Prop :=
    ((PlI B0 (B0 + 1) m q W' ∧ Boxed W' B0 37 (.int .u32 (m.toNat : Int))) ∧ Boxed W' (B0 + 2) 24 S0) ∧ Below B0 w0 W' ∧
      KeepsOthers W W' ∧ KeepW B0 (B0 + 2) W W'
theorem plI_step {B0 : Nat} {m : R} {w0 W w1 : World} {S0 : Value} {q : List Pr} {p : Pr} {v v' : Value} {tmp : Obj} {n : Nat} (hm : Boxed W B0 37 (.int .u32 (m.toNat : Int))) (hs : Boxed W (B0 + 2) 24 S0) (hb : Below B0 w0 W) (hB : B0 ≤ W.heap.size) (hv : Boxed W (B0 + 1) 51 v)
    {L : List Value} (hL : L = (plc m q).map i64) (hrow : W.ownsRow B0 3 1 v n L) (hp : p.2 &&& m = 0#32)
    (hown' : w1.ownsRow B0 3 1 v' (n + 1) (L ++ [i64 p.1])) (hgrow : (W.alloc tmp).grownBy w1 v.ownBlock) (hk : KeepBox 3 (W.alloc tmp) w1) :
    PlDone B0 m w0 W S0 (q ++ [p]) (w1.setCell ⟨B0 + 1, 0, none⟩ v') := by
  subst hL
  obtain ⟨h1, h2, h3, h4, h5⟩ := hv.appended (by decide) hrow hB (Nat.le_succ _) hown' hgrow
  have s1 : Boxed (w1.setCell ⟨B0 + 1, 0, none⟩ v') (B0 + 2) 24 S0 := ((hs.alloc tmp).kept hgrow (hs.not_row (by decide) hrow)).kept (grownBy_setCell' w1 (B0 + 1) v') (by intro e; injection e with e; omega)
  have s2 : Boxed (w1.setCell ⟨B0 + 1, 0, none⟩ v') B0 37 (.int .u32 (m.toNat : Int)) := ((hm.alloc tmp).kept hgrow (hm.not_row (by decide) hrow)).kept (grownBy_setCell' w1 (B0 + 1) v') (by intro e; injection e with e; omega)
  have e1 : plc m (q ++ [p]) = plc m q ++ [p.1] := by rw [plc_append, plc_hit hp]
  have e2 : (plc m (q ++ [p])).length = n + 1 := by
    have := hrow.1
    rw [e1, List.length_append]; simp at this; simp; omega
  refine ⟨⟨⟨⟨v', h2, by rw [e2, e1, List.map_append]; exact h3, fun e => by rw [e] at e2; simp at e2⟩, s2⟩, s1⟩, hb.trans h5, h4, h5, (show _ = _ from s1).trans (show _ = _ from hs).symm, fun g u hu => ?_⟩
  have hg1 : Boxed w1 g 3 u := hk g u (hu.alloc tmp)
  exact hg1.kept (grownBy_setCell' w1 (B0 + 1) v') (by
    intro e
    injection e with e
    subst e
    have := (show _ = _ from hg1).symm.trans (show _ = _ from h1)
    simp at this)
theorem box_own {B : Nat} {t : TypeId} {v : Value} {β : Type} : Own (fun (_ : β) W => Boxed W B t v) := by
  rintro s X Y row hv hg hrow
  exact hv.kept hg (fun e' => by
    obtain ⟨o, ho, hc⟩ := hrow B e'.symm
    rw [show X.heap[B]? = _ from hv] at ho; cases ho; cases hc)
theorem box_put {W : World} {l g : Nat} {t : TypeId} {u : Value} {o o' : Obj} (hl : W.heap[l]? = some o) (ho : o.isCells = false) (h : Boxed W g t u) : Boxed (W.putObj l o') g t u := by
  refine (World.putObj_heap_other ?_).trans h
  intro e
  subst e
  rw [show W.heap[g]? = _ from h] at hl
  cases hl; cases ho

set_option maxRecDepth 100000 in
set_option maxHeartbeats 4000000 in
theorem Places_ok (A : Option Addr) (c N k : Nat) (b : Bs) (hlb : b.length = N) (hlen : N ≤ 65536) (hk1 : 1 ≤ k) (hk2 : k ≤ 64) (m : R) (w : World) (B : Nat) (h : Sl u8 w B A b) :
    Calls Try.prog 37 #[.slice A N c, .int .i64 (k : Int), .int .u32 (m.toNat : Int)] w fun e w' => ∃ v, e = .returned (.tuple #[v, .int .i64 0]) ∧
      w'.ownsRow w.heap.size 3 1 v (places b k m).length ((places b k m).map i64) ∧ (places b k m = [] → v = .slice none 0 0) ∧ Below w.heap.size w w' := by
  obtain ⟨i0, hi, hz0, hz1, hz2⟩ := info_parts infoI
  have hkk1 : ¬ (k : Int) < 1 := by omega
  have hkk2 : ¬ (64 : Int) < (k : Int) := by omega
  have hkN : decide ((65536 : Int) < (N : Int)) = false := by simp; omega
  refine (callsIn_wide (n := 4)).1 ?_
  refine callsIn_of_wp_marks Try.func37 rfl trivial ?_ rfl
  simp only [Try.ntmps37, List.size_toArray, List.length_cons, List.length_nil, Nat.reduceAdd, Nat.reduceSub, Array.replicate_succ, Array.replicate_zero, List.push_toArray, List.append_toArray, List.nil_append, List.cons_append]
  gi_wp2_with (refine ⟨trivial, ?_⟩; gi_at_call 41; refine (windows_in Fence.wide _ trivial rfl _ _ _ _ _).mono ?_; rintro e w2 ⟨rfl, rfl⟩)
  obtain ⟨B0, hB0⟩ : ∃ B0, B0 = w.heap.size := ⟨_, rfl⟩
  obtain ⟨w3, hw3⟩ : ∃ w3, w3 = (((w.alloc (.cells #[.int .u32 (m.toNat : Int)] 37)).alloc (.cells #[.slice none 0 0] 51)).alloc (.cells #[.slice A N c] 24)).alloc (.cells #[.int .i64 (k : Int)] 3) := ⟨_, rfl⟩
  have hz3 : w3.heap.size = B0 + 4 := by rw [hw3, hB0]; simp
  have hBw : Below B0 w w3 := by rw [hw3, hB0]; exact ((((Below.refl _ w).alloc (Nat.le_refl _) _).alloc (by simp) _).alloc (by simp; omega) _).alloc (by simp; omega) _
  have bM : Boxed w3 B0 37 (.int .u32 (m.toNat : Int)) := by rw [hw3, hB0]; exact (((Blk.new w _ _).alloc _).alloc _).alloc _
  have bO : Boxed w3 (B0 + 1) 51 (.slice none 0 0) := by rw [hw3, hB0]; exact ((Blk.new' (by simp) _ _).alloc _).alloc _
  have bS : Boxed w3 (B0 + 2) 24 (.slice A N c) := by rw [hw3, hB0]; exact (Blk.new' (by simp) _ _).alloc _
  have bK : Boxed w3 (B0 + 3) 3 (.int .i64 (k : Int)) := by rw [hw3, hB0]; exact Blk.new' (by simp) _ _
  have hS3 : Sl u8 w3 B0 A b := by rw [hB0]; exact h.lt.below (by rw [← hB0]; exact hBw)
  have HB0 := Lib.hid hB0
  rw [← hw3, ← hB0]
  simp only [Nat.add_assoc, Nat.reduceAdd]
  clear hw3 hB0 h hkN hkk1 hkk2
  have hpl := prs_length b k
  have eg := enters_of (P := Try.prog) Try.func44 (by kernel_rfl) rfl
  refine wpIn_rangeFunc_ownG rfl (by omega) (gf := 44) (lb := #[.pointer (some ⟨B0 + 3, 0, none⟩), .pointer (some ⟨B0 + 2, 0, none⟩)]) rfl trivial eg
    (windows_stops _ (by omega) (B0 + 3) (B0 + 2) B0 A c N k b hlb hlen hk1 hk2 w3 (by omega) bK bS hS3) (fun h k => h.trans k)
    (fun W l o o' hl ho h1 h2 => ⟨belowK_b (w := w3) (by omega) W l o o' hl ho h1 h2, World.putObj_heap_other (by omega), fun g u hu => box_put ho h1 hu⟩) (Below.refl _ _) (fun _ => rfl)
    (fun pre W => ((PlI B0 (B0 + 1) m pre W ∧ Boxed W B0 37 (.int .u32 (m.toNat : Int))) ∧ Boxed W (B0 + 2) 24 (.slice A N c)) ∧ Below B0 w W)
    (fun _ _ _ => False)
    (OwnFrom.and (OwnFrom.and (OwnFrom.and (Own.from (plI_own B0 (B0 + 1) m) _) (Own.from box_own _)) (Own.from box_own _)) (ownFrom_below (by rw [← HB0.out]; exact Nat.le_refl _) (by omega)))
    (fun _ _ _ _ _ hs _ _ => hs)
    ⟨⟨⟨⟨_, bO, World.ownsRow_nil _ _ _ _, fun _ => rfl⟩, bM⟩, bS⟩, hBw⟩
    (fun x => { tmps := #[.slice A N c, .int .i64 (k : Int), .int .u32 (m.toNat : Int), undef, undef, .pointer (some ⟨B0, 0, none⟩), .slice none 0 0, .int .i64 0, .pointer (some ⟨B0 + 1, 0, none⟩), .int .i64 (x.1 : Int), .int .u32 (x.2.toNat : Int), .int .i64 (k : Int), .bool false, .bool false, .int .i64 (k : Int), .bool false, .bool false, .slice A N c, .int .i64 (N : Int), .bool false, .slice A N c, .int .i64 (k : Int), .func (.func 44) #[] #[.pointer (some ⟨B0 + 3, 0, none⟩), .pointer (some ⟨B0 + 2, 0, none⟩)], .int .i64 (x.1 : Int), .int .u32 (x.2.toNat : Int), undef, undef, undef, undef, undef, undef, undef, undef, undef], defers := [] }) ?assign ?body ?done ?stop
  case assign =>
    intro l x W K hK
    unfold encp
    gi_wp2
    exact hK
  case body =>
    rintro l pre ⟨i, h⟩ W ⟨⟨⟨⟨v, hv, hrow, hnil⟩, hm⟩, hs⟩, hB⟩ hlt
    have hLl := plc_length m pre
    have hL2 : (plc m pre).length ≤ 65536 := by omega
    clear hLl hlt
    have qand := bits_and h m
    have hcm := hm.cell
    by_cases hz : h &&& m = 0#32
    · rw [hz] at qand
      replace qand : bits .and .u32 (h.toNat : Int) (m.toNat : Int) = 0 := qand
      have hn0 : (plc m pre).length = 0 → v = .slice none 0 0 := fun e => hnil (List.length_eq_zero_iff.1 e)
      obtain ⟨n, hn⟩ : ∃ n, n = (plc m pre).length := ⟨_, rfl⟩
      rw [← hn] at hrow hn0 hL2
      have HN := Lib.hid hn0
      obtain ⟨L, hL⟩ : ∃ L, L = (plc m pre).map i64 := ⟨_, rfl⟩
      have HL := Lib.hid hL
      rw [← hL] at hrow
      have hc := hv.cell
      have STEP : Hid (∀ v' w1, w1.ownsRow B0 3 1 v' (n + 1) (L ++ [.int .i64 (i : Int)]) → (W.alloc (.cells #[.int .i64 (i : Int)] 3)).grownBy w1 v.ownBlock → (∀ t', KeepBox t' (W.alloc (.cells #[.int .i64 (i : Int)] 3)) w1) → PlDone B0 m w W (.slice A N c) (pre ++ [(i, h)]) (w1.setCell ⟨B0 + 1, 0, none⟩ v')) :=
        Lib.hid fun v' w1 k1 k2 k3 => plI_step (p := (i, h)) hm hs hB (by have := hB.size; have := HB0.out; omega) hv HL.out hrow hz k1 k2 (k3 _)
      clear hn hL hnil hn0
      gi_wp2_with (gi_at_builtin; (refine wpListIn_append_box _ rfl _ _ 51 rfl B0 3 i0 (.int .i64 0) 8 Try.underlying51 hi hz0 hz1 hz2 rfl v n L rfl (hrow.alloc _) HN.out ⟨W.heap.size, 0, none⟩ 1 (.int .i64 (i : Int)) rfl (Blk.cell0 (Blk.new _ _ _)) rfl (by unfold maxLen; omega) (by omega) (by have := hB.size; have := HB0.out; simp; omega) ?_; intro v' w1 hown' hgrow hkb; obtain ⟨g', cap', rfl⟩ := ownsRow_succ hown'; have R := Lib.hid (STEP.out _ _ hown' hgrow hkb); have hv1 := (hv.alloc _).kept hgrow (hv.not_row (by decide) hrow); have hc1 := hv1.cell; have hf1 := hv1.frozen))
      exact ⟨R.out.2.2.1.from _, R.out.2.2.2, R.out.1, R.out.2.1⟩
    · have hz' : (((h &&& m).toNat : Int) == 0) = false := by
        rw [beq_eq_false_iff_ne]; intro e; exact hz (BitVec.eq_of_toNat_eq (by simpa using (show (h &&& m).toNat = 0 by omega)))
      obtain ⟨z, hzz⟩ : ∃ z, z = h &&& m := ⟨_, rfl⟩
      rw [← hzz] at qand hz'
      have HI : Hid (PlI B0 (B0 + 1) m (pre ++ [(i, h)]) W) := Lib.hid (by
        have e1 : plc m (pre ++ [(i, h)]) = plc m pre := by rw [plc_append, plc_miss hz, List.append_nil]
        exact ⟨v, hv, by rw [e1]; exact hrow, by rw [e1]; exact hnil⟩)
      clear hz hzz hnil
      gi_wp2
      exact ⟨(KeepsOthers.refl _).from _, KeepW.refl _ _ _, ⟨⟨HI.out, hm⟩, hs⟩, hB⟩
  case done =>
    rintro D ys W hD rfl ⟨⟨⟨⟨v, hv, hrow, hnil⟩, hm⟩, hs⟩, hB⟩ hK
    have HN := Lib.hid hnil
    clear hnil
    have hc := hv.cell
    gi_wp2
    have hB0 := HB0.out
    subst hB0
    refine ⟨by simp, .inl ⟨_, _, rfl, run_takeDeferred hK, ?_⟩⟩
    exact ⟨_, results_tmp2 rfl _ _ _, v, rfl, ownsRow_putObj hrow _ hK rfl, HN.out, hB.trans (belowK_b (w := w) (Nat.le_refl _) W D _ _ (by omega) hK rfl rfl)⟩
  case stop =>
    rintro D c pre W _ _ h _
    exact h.elim
theorem win_at {b : Bs} {k i j : Nat} {x : UInt8} (h : (win b k i)[j]? = some x) : b[i - k + j]? = some x := by
  unfold win at h
  rw [List.getElem?_drop, List.getElem?_take] at h
  split at h
  · exact h
  · cases h
theorem win_sl {w : World} {B bl o : Nat} {b : Bs} {k i p : Nat} (hp : i - k = p) (hbl : bl < B) (hcs : ∀ j x, b[j]? = some x → w.cell? ⟨bl, o + j, none⟩ = some (u8 x)) : Sl u8 w B (some ⟨bl, o + p, none⟩) (win b k i) := fun _ =>
  ⟨bl, o + p, rfl, hbl, fun j x hx => by rw [Nat.add_assoc]; exact hcs _ x (hp ▸ win_at hx)⟩

/-- Places in the form that the laws' walks take. -/
theorem places_g {A : Option Addr} {c N k : Nat} {b : Bs} {m : R} {l : List Nat} {n : Nat} (hlb : b.length = N) (hlen : N ≤ 65536) (hk1 : 1 ≤ k) (hk2 : k ≤ 64) (hl : places b k m = l) (hn : l.length = n) {w : World} {B : Nat} (h : Sl u8 w B A b) :
    Calls Try.prog 37 #[.slice A N c, .int .i64 (k : Int), .int .u32 (m.toNat : Int)] w fun e w' => ∃ A' c', e = .returned (.tuple #[.slice A' n c', .int .i64 0]) ∧ Sl i64 w' w'.heap.size A' l ∧ n ≤ c' ∧ c' ≤ maxLen ∧ Below w.heap.size w w' := by
  subst hn hl
  refine (Places_ok A c N k b hlb hlen hk1 hk2 m w B h).mono ?_
  rintro e w' ⟨v, he, ho, _, hb⟩
  obtain ⟨A', c', rfl, _, _⟩ := own_form ho
  obtain ⟨h1, h2⟩ := own_cap ho
  exact ⟨A', c', he, Sl.of_own ho, h1, h2, hb⟩
end Go.Proofs.Ytcdaieoondmljaa.H
