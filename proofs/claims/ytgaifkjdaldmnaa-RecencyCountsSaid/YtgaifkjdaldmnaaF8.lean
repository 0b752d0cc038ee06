/- recency.Runs. -/
import Derived.Test.YtgaifkjdaldmnaaF7
namespace Go.Proofs.Ytgaifkjdaldmnaa.F
set_option linter.unusedVariables false
open Go Go.RowKit Go.Shelf Go.Proofs.Ytgaifkjdaldmnaa Go.Proofs.Ytgaifkjdaldmnaa.W Go.Proofs.Ytgaifkjdaldmnaa.M
attribute [local go_sem] Oper.semAt_some

theorem runs_in (F : Fence) (n : Nat) (h5 : F.fn 25) (hro : F.round = none) (a : Option Addr) (len cap : Nat) (w : World) :
    CallsIn F n Try.prog 25 #[.slice a len cap] w fun e w' => e = .returned (.func (.func 35) #[] #[.pointer (some ⟨w.heap.size, 0, none⟩)]) ∧ w' = w.alloc (.cells #[.slice a len cap] 22) := by
  refine callsIn_of_wp Try.func25 rfl h5 ?_ hro
  simp only [Try.ntmps25, List.size_toArray, List.length_cons, List.length_nil, Nat.reduceAdd, Nat.reduceSub, Array.replicate_succ, Array.replicate_zero, List.push_toArray, List.append_toArray, List.nil_append, List.cons_append]
  gi_wp2
  go_ret
  exact ⟨rfl, rfl⟩

/-- What the runs' iterator reads: the string, and the cell in which the slice lies. -/
def Keep2 (n₀ Bs' : Nat) (W W' : World) : Prop := Below n₀ W W' ∧ W'.heap[Bs']? = W.heap[Bs']?
theorem Keep2.refl (n₀ Bs' : Nat) (W : World) : Keep2 n₀ Bs' W W := ⟨Below.refl _ _, rfl⟩
theorem Keep2.trans {n₀ Bs' : Nat} {A B C : World} (h : Keep2 n₀ Bs' A B) (k : Keep2 n₀ Bs' B C) : Keep2 n₀ Bs' A C := ⟨h.1.trans k.1, k.2.trans h.2⟩
theorem Keep2.cell {n₀ Bs' : Nat} {A B : World} (h : Keep2 n₀ Bs' A B) (i : Nat) : B.cell? ⟨Bs', i, none⟩ = A.cell? ⟨Bs', i, none⟩ := by
  simp only [World.cell?, h.2]
/-- A run with a bound. -/
abbrev Run := { p : UInt8 × Nat // p.2 ≤ 65536 }
theorem runs_stops (n : Nat) (hn : 1 ≤ n) (Bs' n₀ : Nat) (A : Option Addr) (c N : Nat) (b : Bs) (hlb : b.length = N) (hlen : N ≤ 65536) (w : World) (hBs : Bs' < w.heap.size) (hn₀ : n₀ ≤ w.heap.size)
    (hc : w.cell? ⟨Bs', 0, none⟩ = some (.slice A N c)) (hS : Sl u8 w n₀ A b) :
    SeqStopsK Fence.wide n Try.prog 35 #[.pointer (some ⟨Bs', 0, none⟩)] (fun x : Run => encv x.val) (Keep2 n₀ Bs') (fun ys => ys.map Subtype.val = prs b) (fun _ => True) (prs b).length w := fun l J Jx W hW _ _ hY h0 => by
  have key := runs1_in n hn l Bs' n₀ A c N b hlb hlen (Keep2 n₀ Bs') (fun _ => Keep2.refl _ _ _) (fun h k => h.trans k) (Lib.hid fun _ _ h => h.cell 0) (fun _ _ h hs => hs.below h.1)
    (fun p W => ∃ q : List Run, q.map Subtype.val = p ∧ J q W) (fun p W => ∃ q : List Run, q.map Subtype.val = p ∧ Jx q W) (fun pre x W1 h hp => by
      obtain ⟨q, rfl, hq⟩ := h
      have hx : x.2 ≤ 65536 := by have := prs_bound b x (hp.subset (by simp)); omega
      obtain ⟨fn, tmps, assign, body, hy, hR⟩ := hY q ⟨x, hx⟩ W1 hq (by have := hp.length_le; simp at this; omega)
      refine ⟨fn, tmps, assign, body, hy, hR.mono ?_⟩
      rintro e W' (⟨he, hj, hk⟩ | ⟨he, hj⟩)
      · exact .inl ⟨he, ⟨q ++ [⟨x, hx⟩], by simp, hj⟩, hk⟩
      · exact .inr ⟨he, ⟨q ++ [⟨x, hx⟩], by simp, hj⟩⟩) W ((hW.cell (p := ⟨Bs', 0, none⟩) hBs).trans hc) (hS.below (hW.mono hn₀)) ⟨[], rfl, h0⟩
  refine key.mono ?_
  rintro e W' ⟨he, (⟨ys, rfl, q, hq, hj⟩ | ⟨pre, _, q, _, hj⟩)⟩
  · exact ⟨he, .inl ⟨q, hq, hj⟩⟩
  · exact ⟨he, .inr ⟨q, trivial, hj⟩⟩

/-- Between two runs: the code so far, in the box of out; the slice, in the iterator's box. -/
def RunI (B : Nat) (S0 : Value) (w0 : World) (L : Bs) (W : World) : Prop :=
  ((∃ v, Boxed W B 22 v ∧ W.ownsRow B 5 1 v L.length (L.map u8)) ∧ Boxed W (B + 1) 22 S0) ∧ Below B w0 W
theorem runI_step {B : Nat} {S0 : Value} {w0 W w1 : World} {L l : Bs} {v v' : Value} {tmp : Obj} {m : Nat} (hs : Boxed W (B + 1) 22 S0) (hb : Below B w0 W) (hB : B ≤ W.heap.size) (hv : Boxed W B 22 v) (hrow : W.ownsRow B 5 1 v L.length (L.map u8))
    (hm : (L ++ l).length = m) (hown' : w1.ownsRow B 5 1 v' m (L.map u8 ++ l.map u8)) (hgrow : (W.alloc tmp).grownBy w1 v.ownBlock) :
    RunI B S0 w0 (L ++ l) (w1.setCell ⟨B, 0, none⟩ v') ∧ KeepsOthers W (w1.setCell ⟨B, 0, none⟩ v') ∧ Keep2 B (B + 1) W (w1.setCell ⟨B, 0, none⟩ v') := by
  obtain ⟨h1, h2, h3, h4, h5⟩ := hv.appended (by decide) hrow hB (Nat.le_refl _) hown' hgrow
  have s1 : Boxed (w1.setCell ⟨B, 0, none⟩ v') (B + 1) 22 S0 := ((hs.alloc tmp).kept hgrow (hs.not_row (by decide) hrow)).kept (grownBy_setCell' w1 B v') (by intro e; injection e with e; omega)
  exact ⟨⟨⟨⟨v', h2, by rw [hm, List.map_append]; exact h3⟩, s1⟩, hb.trans h5⟩, h4, h5, (show _ = _ from s1).trans (show _ = _ from hs).symm⟩
theorem runI_own {B : Nat} {S0 : Value} {β : Type} (f : β → Bs) : Own (fun (q : β) W => ((∃ v, Boxed W B 22 v ∧ W.ownsRow B 5 1 v (f q).length ((f q).map u8)) ∧ Boxed W (B + 1) 22 S0)) := by
  rintro s X Y row ⟨⟨v, hv, hr⟩, hs⟩ hg hrow
  have ne : ∀ k t u, Boxed X k t u → some k ≠ row := fun k t u h e' => by
    obtain ⟨o, ho, hc⟩ := hrow k e'.symm
    rw [show X.heap[k]? = _ from h] at ho; cases ho; cases hc
  refine ⟨⟨v, hv.kept hg (ne _ _ _ hv), hr.kept hg ?_⟩, hs.kept hg (ne _ _ _ hs)⟩
  rcases hr.2 with ⟨rfl, _⟩ | ⟨g, cap, cur, rfl, _, hgb, _⟩
  · exact .inl rfl
  · refine .inr fun e' => ?_
    obtain ⟨o, ho, hc⟩ := hrow g (by simpa [Value.ownBlock] using e'.symm)
    rw [hgb] at ho; cases ho; cases hc

theorem flat_len (q : List Run) : ((q.map Subtype.val).flatMap encp).length ≤ 65536 * q.length := by
  induction q with
  | nil => simp
  | cons p q ih =>
    have h1 : (encp p.val).length ≤ 65536 := by
      unfold encp
      split
      · exact Nat.le_trans (dig_length _) p.property
      · rw [enc_length]; split <;> omega
    rw [List.map_cons, List.flatMap_cons, List.length_append, List.length_cons]
    omega
theorem run_post {B : Nat} {S0 : Value} {w w3 W W' : World} {L l : Bs} {q : List Run} {Ix : Code → List Run → World → Prop} {a : Act} (hq : (q.map Subtype.val).flatMap encp = L ++ l) (h1 : RunI B S0 w (L ++ l) W') (h2 : KeepsOthers W W') (h3 : Keep2 B (B + 1) W W') :
    ownPostG w3.heap.size (Keep2 B (B + 1)) (fun pre W => ((∃ v, Boxed W B 22 v ∧ W.ownsRow B 5 1 v (((pre.map Subtype.val).flatMap encp)).length (((pre.map Subtype.val).flatMap encp).map u8)) ∧ Boxed W (B + 1) 22 S0) ∧ Below B w W) Ix q W Exit.normal a W' := by
  refine ⟨h2.from _, h3, ?_⟩
  show ((∃ v, Boxed W' B 22 v ∧ W'.ownsRow B 5 1 v (((q.map Subtype.val).flatMap encp)).length (((q.map Subtype.val).flatMap encp).map u8)) ∧ Boxed W' (B + 1) 22 S0) ∧ Below B w W'
  rw [hq]
  exact h1
theorem and_one (m : Nat) (h : m < 9223372036854775808) : bits .and .i64 (m : Int) 1 = ((m % 2 : Nat) : Int) := by
  show IntKind.i64.wrap ((BitVec.ofInt 64 (m : Int) &&& BitVec.ofInt 64 1).toNat : Int) = _
  have e1 : BitVec.ofInt 64 (m : Int) = BitVec.ofNat 64 m := BitVec.ofInt_natCast ..
  have e2 : BitVec.ofInt 64 1 = BitVec.ofNat 64 1 := rfl
  rw [e1, e2, BitVec.toNat_and, BitVec.toNat_ofNat, BitVec.toNat_ofNat, Nat.mod_eq_of_lt (show m < 2 ^ 64 by omega), show 1 % 2 ^ 64 = 1 from rfl, Nat.and_one_is_mod]
  have := Nat.mod_lt m (show 0 < 2 by omega)
  rw [IntKind.wrap_i64]; omega
theorem digit_of (m : Nat) : IntKind.u8.wrap (((m % 2 : Nat) : Int)) = ((UInt8.ofNat (m % 2)).toNat : Int) := by
  obtain h | h : m % 2 = 0 ∨ m % 2 = 1 := by omega
  · rw [h]; rfl
  · rw [h]; rfl

set_option maxRecDepth 100000 in
set_option maxHeartbeats 4000000 in
theorem Runs_ok (A : Option Addr) (c N : Nat) (b : Bs) (hlb : b.length = N) (hn : N ≤ 32768) (w : World) (B : Nat) (h : Sl u8 w B A b) :
    Calls Try.prog 12 #[.slice A N c] w fun e w' => ∃ A' c', e = .returned (.tuple #[.slice A' (code b).length c', .int .i64 0]) ∧
      w'.ownsRow w.heap.size 5 1 (.slice A' (code b).length c') (code b).length ((code b).map u8) ∧ Below w.heap.size w w' := by
  obtain ⟨i0, hi, hz0, hz1, hz2⟩ := info_parts info5
  refine (callsIn_wide (n := 4)).1 ?_
  refine callsIn_of_wp_marks Try.func12 rfl trivial ?_ rfl
  simp only [Try.ntmps12, List.size_toArray, List.length_cons, List.length_nil, Nat.reduceAdd, Nat.reduceSub, Array.replicate_succ, Array.replicate_zero, List.push_toArray, List.append_toArray, List.nil_append, List.cons_append]
  gi_wp2_with (first
    | (refine ⟨trivial, ?_⟩; gi_at_call 24; refine (callsIn_wide.2 (short_ok _ _ _ (by omega) _)).mono ?_; rintro e w1 ⟨rfl, rfl⟩)
    | (refine ⟨trivial, ?_⟩; gi_at_call 25; refine (runs_in Fence.wide _ trivial rfl _ _ _ _).mono ?_; rintro e w2 ⟨rfl, rfl⟩))
  obtain ⟨w3, hw3⟩ : ∃ w3, w3 = (w.alloc (.cells #[.slice none 0 0] 22)).alloc (.cells #[.slice A N c] 22) := ⟨_, rfl⟩
  have hz3 : w3.heap.size = w.heap.size + 2 := by rw [hw3]; simp
  have hB0 : Below w.heap.size w w3 := by rw [hw3]; exact ((Below.refl _ w).alloc (Nat.le_refl _) _).alloc (by simp) _
  have bO : Boxed w3 w.heap.size 22 (.slice none 0 0) := by rw [hw3]; exact (Blk.new w _ _).alloc _
  have bS : Boxed w3 (w.heap.size + 1) 22 (.slice A N c) := by rw [hw3]; exact Blk.new' (by simp) _ _
  have hS3 : Sl u8 w3 w.heap.size A b := h.lt.below hB0
  have hlc : (code b).length ≤ 65536 := by have := code_length b; omega
  rw [← hw3]
  clear hw3
  have eg := enters_of (P := Try.prog) Try.func35 (by kernel_rfl) rfl
  refine wpIn_rangeFunc_ownG rfl (by omega) (gf := 35) (lb := #[.pointer (some ⟨w.heap.size + 1, 0, none⟩)]) rfl trivial eg
    (runs_stops _ (by omega) (w.heap.size + 1) w.heap.size A c N b hlb (by omega) w3 (by omega) hB0.size bS.cell hS3) (fun h k => h.trans k)
    (fun W l o o' hl ho h1 h2 => ⟨belowK_b hB0.size W l o o' hl ho h1 h2, World.putObj_heap_other (by omega)⟩) (Below.refl _ _) (fun _ => rfl)
    (fun pre W => ((∃ v, Boxed W w.heap.size 22 v ∧ W.ownsRow w.heap.size 5 1 v (((pre.map Subtype.val).flatMap encp)).length (((pre.map Subtype.val).flatMap encp).map u8)) ∧ Boxed W (w.heap.size + 1) 22 (.slice A N c)) ∧ Below w.heap.size w W)
    (fun _ _ _ => False)
    (OwnFrom.and (Own.from (runI_own (fun pre : List Run => (pre.map Subtype.val).flatMap encp)) _) (ownFrom_below (Nat.le_refl _) hB0.size))
    (fun _ _ _ _ _ hs _ _ => hs)
    ⟨⟨⟨_, bO, World.ownsRow_nil _ _ _ _⟩, bS⟩, hB0⟩
    (fun x => { tmps := #[.slice A N c, undef, .slice none 0 0, .int .i64 0, .int .i64 0, .pointer (some ⟨w.heap.size, 0, none⟩), .int .u8 (x.val.1.toNat : Int), .int .i64 (x.val.2 : Int), undef, .slice A N c, .int .i64 0, .int .i64 0, .bool false, undef, .slice A N c, .func (.func 35) #[] #[.pointer (some ⟨w.heap.size + 1, 0, none⟩)], .int .u8 (x.val.1.toNat : Int), .int .i64 (x.val.2 : Int), undef, undef, undef, undef, undef, undef, undef, undef, undef, undef, undef, undef, undef, undef, undef, undef, undef, undef, undef, undef, undef, undef, undef, undef, undef, undef, undef, undef, undef, undef, undef, undef, undef, undef], defers := [] }) ?assign ?body ?done ?stop
  case assign =>
    intro l x W K hK
    unfold encv
    gi_wp2
    exact hK
  case body =>
    rintro l pre ⟨⟨x, n⟩, hxn⟩ W ⟨⟨⟨v, hv, hrow⟩, hs⟩, hB⟩ hlt
    have hfl := flat_len pre
    have hLl : ((pre.map Subtype.val).flatMap encp).length ≤ 2147483648 := by have := prs_length b; omega
    clear hfl hlt
    obtain ⟨L, hL⟩ : ∃ L, L = (pre.map Subtype.val).flatMap encp := ⟨_, rfl⟩
    have hnext : Hid (((pre ++ [(⟨(x, n), hxn⟩ : Run)]).map Subtype.val).flatMap encp = L ++ encp (x, n)) := Lib.hid (by rw [List.map_append, List.flatMap_append, ← hL]; simp)
    rw [← hL] at hrow hLl
    clear hL
    have hn' : n ≤ 65536 := hxn
    have hc := hv.cell
    by_cases hx0 : x = 0
    · subst hx0
      have he : Hid (encp (0, n) = dig n) := Lib.hid rfl
      have hdn := dig_length n
      have h0I : Hid (RunI w.heap.size (.slice A N c) w (L ++ []) W) := Lib.hid (by rw [List.append_nil]; exact ⟨⟨⟨v, hv, hrow⟩, hs⟩, hB⟩)
      gi_wp2
      gi_loopw [7] (fun mv wm => ∃ (m : Nat) (acc : Bs), mv = .int .i64 (m : Int) ∧ 1 ≤ m ∧ m ≤ 65537 ∧ Hid (dig n = acc ++ dig (m - 1)) ∧ acc.length ≤ 65536 ∧ Hid (RunI w.heap.size (.slice A N c) w (L ++ acc) wm) ∧ KeepsOthers W wm ∧ Keep2 w.heap.size (w.heap.size + 1) W wm)
        (fun mv _ => (intOf mv).toNat)
      case atStart => exact ⟨n + 1, [], by go_num, by omega, by omega, Lib.hid rfl, by simp, h0I, KeepsOthers.refl _, Keep2.refl _ _ _⟩
      case round =>
        obtain ⟨m, acc, rfl, hm1, hm2, hd, ha, hI, hK, hK2⟩ := hrel
        obtain ⟨⟨⟨v, hv, hrow⟩, hs⟩, hB⟩ := hI.out
        by_cases hlt : 1 < m
        · have hds := Lib.hid (dig_step hlt)
          have hdg := Lib.hid (digit_of m)
          have hac : acc.length + 1 ≤ 65536 := by
            have h1 := congrArg List.length hd.out
            rw [hds.out, List.length_append, List.length_cons] at h1
            omega
          have qand : bits .and .i64 (m : Int) 1 = ((m % 2 : Nat) : Int) := and_one m (by omega)
          have hlt' : (1 : Int) < m := by omega
          have hc := hv.cell
          obtain ⟨LL, hLL⟩ : ∃ LL, LL = L ++ acc := ⟨_, rfl⟩
          have HLL := Lib.hid hLL
          have hLl2 : LL.length ≤ 4294967296 := by rw [hLL, List.length_append]; omega
          rw [← hLL] at hrow
          clear hLL hLl
          have HV : Hid (((UInt8.ofNat (m % 2)).toNat : Int) = (m : Int) % 2) := Lib.hid (by rw [UInt8.toNat_ofNat']; have := Nat.mod_lt m (show 0 < 2 by omega); rw [Nat.mod_eq_of_lt (by omega)]; omega)
          gi_wp2_with (gi_at_builtin; refine wpListIn_append_own _ rfl _ _ 22 rfl w.heap.size 5 i0 (.int .u8 0) 1 1 Try.underlying22 hi hz0 hz1 hz2 rfl (by decide) v LL.length _ rfl (hrow.alloc _) ⟨wr.heap.size, 0, none⟩ 1 1 ([UInt8.ofNat (m % 2)].map u8) rfl rfl (Sl.news (Sl.of_new rfl (by rw [List.map_cons, List.map_nil, u8_def, HV.out]))) u8_one (by unfold maxLen; omega) (by omega) (by have := hB.size; simp; omega) ?_; intro v' w1 hown' hgrow _; obtain ⟨g', cap', rfl⟩ := ownsRow_succ hown'; have R := Lib.hid (runI_step (l := [UInt8.ofNat (m % 2)]) hs hB hB.size hv hrow (by simp) hown' hgrow); have hv1 := (hv.alloc _).kept hgrow (hv.not_row (by decide) hrow); have hc1 := hv1.cell; have hf1 := hv1.frozen)
          go_roundw
          case rel => exact ⟨m / 2, acc ++ [UInt8.ofNat (m % 2)], by go_num, by omega, by omega, Lib.hid (by rw [hd.out, hds.out]; simp), by simp; omega, Lib.hid (by rw [← List.append_assoc, ← HLL.out]; exact R.out.1), hK.trans R.out.2.1, hK2.trans R.out.2.2⟩
          case measure => simp [intOf]; omega
        · obtain rfl : m = 1 := by omega
          have hend : Hid (dig n = acc) := Lib.hid (by rw [hd.out]; show acc ++ dig 0 = acc; rw [dig_zero, List.append_nil])
          gi_wp2
          exact run_post (by rw [hnext.out, he.out, hend.out]) hI.out hK hK2
    · have n1 : ((x.toNat : Int) == 0) = false := by rw [beq_eq_false_iff_ne]; intro e; exact hx0 (UInt8.toNat_inj.1 (by simpa using (show x.toNat = 0 by omega)))
      have h256 := lt256 x
      by_cases h4 : 254 ≤ x
      · have he : Hid (encp (x, n) = [255, x - 254]) := Lib.hid (by unfold encp enc; rw [if_neg hx0, if_pos h4])
        have hge : (254 : Int) ≤ (x.toNat : Int) := by have := UInt8.le_iff_toNat_le.1 h4; simpa using (show (254 : Int) ≤ (x.toNat : Int) by have h5 : (254 : UInt8).toNat = 254 := rfl; omega)
        have hsub : ((x - 254).toNat : Int) = (x.toNat : Int) - 254 := by rw [UInt8.toNat_sub_of_le _ _ h4]; have h5 : (254 : UInt8).toNat = 254 := rfl; omega
        have HS := Lib.hid hsub
        clear hx0 h4 hsub
        gi_wp2_with (gi_at_builtin; refine wpListIn_append_own _ rfl _ _ 22 rfl w.heap.size 5 i0 (.int .u8 0) 1 1 Try.underlying22 hi hz0 hz1 hz2 rfl (by decide) v L.length (L.map u8) rfl (hrow.alloc _) ⟨W.heap.size, 0, none⟩ 2 2 ([255, x - 254].map u8) rfl rfl (Sl.news (Sl.of_new rfl (by rw [List.map_cons, List.map_cons, List.map_nil, u8_def, u8_def, HS.out]; rfl))) u8_one (by unfold maxLen; omega) (by omega) (by have := hB.size; simp; omega) ?_; intro v' w1 hown' hgrow _; obtain ⟨g', cap', rfl⟩ := ownsRow_succ hown'; have R := Lib.hid (runI_step (l := [255, x - 254]) hs hB hB.size hv hrow (by simp) hown' hgrow); have hv1 := (hv.alloc _).kept hgrow (hv.not_row (by decide) hrow); have hc1 := hv1.cell; have hf1 := hv1.frozen)
        exact run_post (by rw [hnext.out, he.out]) R.out.1 R.out.2.1 R.out.2.2
      · have he : Hid (encp (x, n) = [x + 1]) := Lib.hid (by unfold encp enc; rw [if_neg hx0, if_neg h4])
        have hlt4 : (x.toNat : Int) < 254 := by
          have h5 : ¬ (254 ≤ x.toNat) := fun e => h4 (UInt8.le_iff_toNat_le.2 e)
          omega
        have hadd : ((x + 1).toNat : Int) = (x.toNat : Int) + 1 := by rw [UInt8.toNat_add]; have h5 : (1 : UInt8).toNat = 1 := rfl; omega
        have HS := Lib.hid hadd
        clear hx0 h4 hadd
        gi_wp2_with (gi_at_builtin; refine wpListIn_append_own _ rfl _ _ 22 rfl w.heap.size 5 i0 (.int .u8 0) 1 1 Try.underlying22 hi hz0 hz1 hz2 rfl (by decide) v L.length (L.map u8) rfl (hrow.alloc _) ⟨W.heap.size, 0, none⟩ 1 1 ([x + 1].map u8) rfl rfl (Sl.news (Sl.of_new rfl (by rw [List.map_cons, List.map_nil, u8_def, HS.out]))) u8_one (by unfold maxLen; omega) (by omega) (by have := hB.size; simp; omega) ?_; intro v' w1 hown' hgrow _; obtain ⟨g', cap', rfl⟩ := ownsRow_succ hown'; have R := Lib.hid (runI_step (l := [x + 1]) hs hB hB.size hv hrow (by simp) hown' hgrow); have hv1 := (hv.alloc _).kept hgrow (hv.not_row (by decide) hrow); have hc1 := hv1.cell; have hf1 := hv1.frozen)
        exact run_post (by rw [hnext.out, he.out]) R.out.1 R.out.2.1 R.out.2.2
  case done =>
    rintro D ys W hD hys ⟨⟨⟨v, hv, hrow⟩, hs⟩, hB⟩ hK
    rw [hys] at hrow
    replace hrow : W.ownsRow w.heap.size 5 1 v (code b).length ((code b).map u8) := hrow
    have hc := hv.cell
    obtain ⟨A', c', rfl, _, _⟩ := own_form hrow
    clear hys
    gi_wp2
    refine ⟨trivial, (callsIn_wide.2 (short_ok _ _ _ hlc _)).mono ?_⟩
    rintro e w1 ⟨rfl, rfl⟩
    gi_wp2
    refine ⟨by simp, .inl ⟨_, _, rfl, run_takeDeferred hK, ?_⟩⟩
    exact ⟨_, results_tmp2 rfl _ _ _, A', c', rfl, ownsRow_putObj hrow _ hK rfl, hB.trans (belowK_b (w := w) (Nat.le_refl _) W D _ _ (by have := hB0.size; omega) hK rfl rfl)⟩
  case stop =>
    rintro D c pre W _ _ h _
    exact h.elim
end Go.Proofs.Ytgaifkjdaldmnaa.F
