/- Split. -/
import Derived.Test.YtcdaieoondmljaaT6
namespace Go.Proofs.Ytcdaieoondmljaa.H
set_option linter.unusedVariables false
open Go Go.RowKit Go.Shelf Go.Proofs.Ytcdaieoondmljaa Go.Proofs.Ytcdaieoondmljaa.W Go.Proofs.Ytcdaieoondmljaa.M
attribute [local go_sem] Oper.semAt_some

theorem infoE : (Try.prog.info? 36).map (fun i => (i.zero, i.size, i.bytes)) = some (some (.agg #[.int .i64 0, .int .i64 0]), 2, 16) := by kernel_rfl
theorem fragments_in (F : Fence) (n : Nat) (h5 : F.fn 31) (hro : F.round = none) (le us mo wi : Nat) (N : Int) (a : Option Addr) (len cap : Nat) (w : World) :
    CallsIn F n Try.prog 31 #[.agg (chV le us mo wi), .int .i64 N, .slice a len cap] w fun e w' => e = .returned (.func (.func 38) #[] #[.pointer (some ⟨w.heap.size + 1, 0, none⟩), .pointer (some ⟨w.heap.size, 0, none⟩), .pointer (some ⟨w.heap.size + 2, 0, none⟩)]) ∧
      w' = ((w.alloc (.cells (chV le us mo wi) 23)).alloc (.cells #[.int .i64 N] 3)).alloc (.cells #[.slice a len cap] 51) := by
  unfold chV
  refine callsIn_of_wp Try.func31 rfl h5 ?_ hro
  simp only [Try.ntmps31, List.size_toArray, List.length_cons, List.length_nil, Nat.reduceAdd, Nat.reduceSub, Array.replicate_succ, Array.replicate_zero, List.push_toArray, List.append_toArray, List.nil_append, List.cons_append]
  gi_wp2
  go_ret
  exact ⟨rfl, rfl⟩
theorem frags_stops {le us mo wi : Nat} (hg : Fine le us mo wi) (n : Nat) (hn : 1 ≤ n) (g n₀ : Nat) (A : Option Addr) (c N m : Nat) (P : List Nat) (hlP : P.length = m) (hm6 : m ≤ 65537) (hs : P.Pairwise (· < ·)) (hP6 : ∀ x ∈ P, x ≤ 65536) (hlen : N ≤ 65536) (w : World) (hn₀ : n₀ ≤ w.heap.size)
    (hc : Blk w g 23 (chV le us mo wi)) (hi : Blk w (g + 1) 3 #[.int .i64 (N : Int)]) (hp : Blk w (g + 2) 51 #[.slice A m c]) (hS : Sl i64 w n₀ A P) :
    SeqStopsK Fence.wide n Try.prog 38 #[.pointer (some ⟨g + 1, 0, none⟩), .pointer (some ⟨g, 0, none⟩), .pointer (some ⟨g + 2, 0, none⟩)] ence (KeepF n₀ g) (fun ys => ys = frg (nxt P le mo N) N 0) (fun _ => True) (frg (nxt P le mo N) N 0).length w := fun l J Jx W hW hA _ hY h0 => by
  have key := frags1_in hg n hn l g n₀ A c N m P hlP hm6 hs hP6 hlen J Jx (fun pre p W1 hJ hp => hY pre p W1 hJ (by have := hp.length_le; simp at this; omega))
    W hA (hc.later hW) (hi.later hW) (hp.later hW) (hS.below (hW.mono hn₀)) (Nat.le_trans hn₀ hW.size) h0
  refine key.mono ?_
  rintro e W' ⟨he, (⟨ys, rfl, hj⟩ | ⟨pre, _, hj⟩)⟩
  · exact ⟨he, .inl ⟨_, rfl, hj⟩⟩
  · exact ⟨he, .inr ⟨pre, trivial, hj⟩⟩

theorem blk_own {B : Nat} {t : TypeId} {cs : Array Value} {β : Type} : Own (fun (_ : β) W => Blk W B t cs) := by
  rintro s X Y row hv hg hrow
  refine Blk.grown hv hg (fun e' => ?_)
  obtain ⟨o, ho, hc⟩ := hrow B e'.symm
  rw [show X.heap[B]? = _ from hv] at ho; cases ho; cases hc
theorem blk_not_row {W : World} {B : Nat} {t e : TypeId} {cs : Array Value} (h : Blk W B t cs) (hte : t ≠ e) {base size k : Nat} {v : Value} {xs : List Value} (hr : W.ownsRow base e size v k xs) : some B ≠ v.ownBlock := by
  rcases hr.2 with ⟨rfl, _⟩ | ⟨g, cap, cur, rfl, _, hgb, _⟩
  · simp [Value.ownBlock]
  · intro e'
    obtain rfl : B = g := by simpa [Value.ownBlock] using e'
    have := (show W.heap[B]? = _ from h).symm.trans hgb
    simp at this
    exact hte this.2
/-- Between two fragments: those so far, in the box of out. -/
def OutI (B : Nat) (q : List Ex) (W : World) : Prop := ∃ v, Boxed W B 26 v ∧ W.ownsRow B 36 2 v q.length (flatE q)
theorem outI_own (B : Nat) : Own (OutI B) := by
  rintro s X Y row ⟨v, hv, hr⟩ hg hrow
  refine ⟨v, hv.kept hg (fun e' => ?_), hr.kept hg ?_⟩
  · obtain ⟨o, ho, hc⟩ := hrow B e'.symm
    rw [show X.heap[B]? = _ from hv] at ho; cases ho; cases hc
  · rcases hr.2 with ⟨rfl, _⟩ | ⟨g, cap, cur, rfl, _, hgb, _⟩
    · exact .inl rfl
    · refine .inr fun e' => ?_
      obtain ⟨o, ho, hc⟩ := hrow g (by simpa [Value.ownBlock] using e'.symm)
      rw [hgb] at ho; cases ho; cases hc
/-- The three boxes of the iterator. -/
def Boxes (g le us mo wi N : Nat) (S0 : Value) (W : World) : Prop := Blk W g 23 (chV le us mo wi) ∧ Blk W (g + 1) 3 #[.int .i64 (N : Int)] ∧ Blk W (g + 2) 51 #[S0]
def OutDone (B le us mo wi N : Nat) (S0 : Value) (w0 W : World) (q : List Ex) (W' : World) : Prop :=
  ((OutI B q W' ∧ Boxes (B + 1) le us mo wi N S0 W') ∧ Below B w0 W') ∧ KeepsOthers W W' ∧ KeepF B (B + 1) W W'
theorem outI_step {B le us mo wi N : Nat} {S0 : Value} {w0 W w1 : World} {q : List Ex} {p : Ex} {v v' : Value} {tmp : Obj} (hs : Boxes (B + 1) le us mo wi N S0 W) (hb : Below B w0 W) (hB : B ≤ W.heap.size) (hv : Boxed W B 26 v)
    (hrow : W.ownsRow B 36 2 v q.length (flatE q)) (hown' : w1.ownsRow B 36 2 v' (q.length + 1) (flatE q ++ [.int .i64 (p.1 : Int), .int .i64 (p.2 : Int)])) (hgrow : (W.alloc tmp).grownBy w1 v.ownBlock) :
    OutDone B le us mo wi N S0 w0 W (q ++ [p]) (w1.setCell ⟨B, 0, none⟩ v') := by
  obtain ⟨h1, h2, h3, h4, h5⟩ := hv.appended (by decide) hrow hB (Nat.le_refl _) hown' hgrow
  obtain ⟨s1, s2, s3⟩ := hs
  have k : ∀ {g : Nat} {t : TypeId} {cs : Array Value}, Blk W g t cs → t ≠ 36 → g ≠ B → Blk (w1.setCell ⟨B, 0, none⟩ v') g t cs := fun h ht hg =>
    ((h.alloc tmp).grown hgrow (blk_not_row h ht hrow)).far (by simpa using hg) _
  have e1 : flatE (q ++ [p]) = flatE q ++ [.int .i64 (p.1 : Int), .int .i64 (p.2 : Int)] := by rw [flatE_append]; rfl
  have z := h4.size
  have t1 := k s1 (by decide) (by omega)
  have t2 := k s2 (by decide) (by omega)
  have t3 := k s3 (by decide) (by omega)
  exact ⟨⟨⟨⟨v', h2, by rw [e1, List.length_append]; exact h3⟩, t1, t2, t3⟩, hb.trans h5⟩, h4, ⟨h5, z⟩, (show _ = _ from t1).trans (show _ = _ from s1).symm, (show _ = _ from t2).trans (show _ = _ from s2).symm, (show _ = _ from t3).trans (show _ = _ from s3).symm⟩

theorem two_news (W : World) (t : TypeId) (x y : Value) : ∀ j u, [x, y][j]? = some u → (W.alloc (.cells #[x, y] t)).cell? ((⟨W.heap.size, 0, none⟩ : Addr).add j) = some u := fun j u hu => by
  have hb : Blk (W.alloc (.cells #[x, y] t)) W.heap.size t #[x, y] := Blk.new _ _ _
  match j, hu with
  | 0, hu =>
    have e : x = u := by simpa using hu
    rw [← e]; simp [Addr.add]
  | 1, hu =>
    have e : y = u := by simpa using hu
    rw [← e]; simp [Addr.add]
  | j + 2, hu => simp at hu
theorem two_one (x y : Int) : ∀ u ∈ [Value.int .i64 x, Value.int .i64 y], u.oneCell' = true := by
  intro u hu
  rw [List.mem_cons, List.mem_singleton] at hu
  rcases hu with rfl | rfl <;> rfl
def SplitAt (l : List Ex) (n : Nat) (w : World) (e : Ending) (w' : World) : Prop := ∃ A' c', e = .returned (.tuple #[.slice A' n c', .int .i64 0]) ∧ SlE w' w'.heap.size A' l ∧ n ≤ c' ∧ Below w.heap.size w w'
set_option maxRecDepth 100000 in
set_option maxHeartbeats 4000000 in
theorem Split_ok {le us mo wi : Nat} (hg : Fine le us mo wi) (hchk : chkC le us mo wi = 0) (A : Option Addr) (c N : Nat) (b : Bs) (hlb : b.length = N) (hlen : N ≤ 65536) (l : List Ex) (n : Nat) (hl : frg (nxt (places b wi (msk us)) le mo N) N 0 = l) (hn : l.length = n) (w : World) (B : Nat) (h : Sl u8 w B A b) :
    Calls Try.prog 12 #[.agg #[.int .i64 (le : Int), .int .i64 (us : Int), .int .i64 (mo : Int), .int .i64 (wi : Int)], .slice A N c] w (SplitAt l n w) := by
  obtain ⟨i0, hi, hz0, hz1, hz2⟩ := info_parts infoE
  have hS := h.lt
  have HL := Lib.hid hlb
  have HG := Lib.hid hg
  obtain ⟨P, hP⟩ : ∃ P, places b wi (msk us) = P := ⟨_, rfl⟩
  obtain ⟨m, hm⟩ : ∃ m, P.length = m := ⟨_, rfl⟩
  have hPl : P.length ≤ N + 1 := by
    have h1 := plc_length (msk us) (prs b wi)
    have h2 := prs_length b wi
    rw [← hP]; unfold places; omega
  have hm6 : m ≤ 65537 := by omega
  have HS : Hid (P.Pairwise (· < ·)) := Lib.hid (by rw [← hP]; exact places_sorted' b wi _)
  have HX : Hid (∀ x ∈ P, x ≤ 65536) := Lib.hid (by intro x hx; rw [← hP, mem_places] at hx; omega)
  rw [hP] at hl
  have HLL := Lib.hid hl
  have HNN := Lib.hid hn
  have HM := Lib.hid hm
  have hB0 : Below w.heap.size w (w.alloc (.cells #[.int .i64 (le : Int), .int .i64 (us : Int), .int .i64 (mo : Int), .int .i64 (wi : Int)] 23)) := (Below.refl _ _).alloc (Nat.le_refl _) _
  have hk0 : Blk (w.alloc (.cells #[.int .i64 (le : Int), .int .i64 (us : Int), .int .i64 (mo : Int), .int .i64 (wi : Int)] 23)) w.heap.size 23 #[.int .i64 (le : Int), .int .i64 (us : Int), .int .i64 (mo : Int), .int .i64 (wi : Int)] := Blk.new _ _ _
  have C1 : Hid (∀ (W : World) (g : Nat), g = W.heap.size → Below w.heap.size w W → Calls Try.prog 29 #[.agg #[.int .i64 (le : Int), .int .i64 (us : Int), .int .i64 (mo : Int), .int .i64 (wi : Int)], .slice (some ⟨g, 0, none⟩) 1 1] (W.alloc (.cells #[.slice A N c] 24)) fun e w' => e = .returned (.int .i64 0) ∧ Below (W.alloc (.cells #[.slice A N c] 24)).heap.size (W.alloc (.cells #[.slice A N c] 24)) w') := Lib.hid fun W g hg' hW => by
    have := check_ok le us mo wi g 1 [(A, c, b)] rfl (by decide) (by intro p hp; simp at hp; subst hp; show b.length ≤ _; omega) (W.alloc (.cells #[.slice A N c] 24)) _ (by subst hg'; rw [← hlb]; exact Sl.of_new rfl rfl)
    rw [hchk] at this; exact this
  have C2 : Hid (∀ W, Below w.heap.size w W → Calls Try.prog 30 #[.agg #[.int .i64 (le : Int), .int .i64 (us : Int), .int .i64 (mo : Int), .int .i64 (wi : Int)], .slice A N c] W fun e w' => ∃ A' c', e = .returned (.tuple #[.slice A' m c', .int .i64 0]) ∧ Sl i64 w' w'.heap.size A' P ∧ m ≤ c' ∧ c' ≤ maxLen ∧ Below W.heap.size W w') := Lib.hid fun W hW => cuts_ok hg A c N b hlb hlen P m hP hm W _ (hS.later hW)
  clear hchk hl hn hP hm hlb hg h
  refine (callsIn_wide (n := 4)).1 ?_
  refine callsIn_of_wp_marks Try.func12 rfl trivial ?_ rfl
  simp only [Try.ntmps12, List.size_toArray, List.length_cons, List.length_nil, Nat.reduceAdd, Nat.reduceSub, Array.replicate_succ, Array.replicate_zero, List.push_toArray, List.append_toArray, List.nil_append, List.cons_append]
  gi_wp2_with (first
    | (refine ⟨trivial, ?_⟩; gi_at_call 29; refine (callsIn_wide.2 (C1.out _ _ (by simp) hB0)).mono ?_; rintro e w1 ⟨rfl, hb1⟩; have hB1 := bal hB0 hB0.size hb1; have hk1 := (hk0.alloc _).later hb1; have c0 := hk1.cell 0; have c1 := hk1.cell 1; have c2 := hk1.cell 2; have c3 := hk1.cell 3)
    | (refine ⟨trivial, ?_⟩; gi_at_call 30; refine (callsIn_wide.2 (C2.out _ hB1)).mono ?_; rintro e w2 ⟨A2, c2', rfl, t2, h2, _, hb2⟩; have hB2 := bsa hB1 hB1.size hb2; have hk2 := hk1.later hb2; have e0 := (hk2.alloc (.cells #[.slice none 0 0] 26)).cell 0; have e1 := (hk2.alloc (.cells #[.slice none 0 0] 26)).cell 1; have e2 := (hk2.alloc (.cells #[.slice none 0 0] 26)).cell 2; have e3 := (hk2.alloc (.cells #[.slice none 0 0] 26)).cell 3; have hlt2 : w.heap.size < w2.heap.size := hk2.lt)
    | (refine ⟨trivial, ?_⟩; gi_at_call 31; refine (fragments_in Fence.wide _ trivial rfl _ _ _ _ _ _ _ _ _).mono ?_; rintro e w3 ⟨rfl, rfl⟩))
  obtain ⟨B9, hB9⟩ : ∃ B9, B9 = w2.heap.size := ⟨_, rfl⟩
  obtain ⟨w3, hw3⟩ : ∃ w3, w3 = (((w2.alloc (.cells #[.slice none 0 0] 26)).alloc (.cells (chV le us mo wi) 23)).alloc (.cells #[.int .i64 (N : Int)] 3)).alloc (.cells #[.slice A2 m c2'] 51) := ⟨_, rfl⟩
  have hz3 : w3.heap.size = B9 + 4 := by rw [hw3, hB9]; simp
  have hBw : Below B9 w2 w3 := by rw [hw3, hB9]; exact ((((Below.refl _ w2).alloc (Nat.le_refl _) _).alloc (by simp) _).alloc (by simp; omega) _).alloc (by simp; omega) _
  have bO : Boxed w3 B9 26 (.slice none 0 0) := by rw [hw3, hB9]; exact (((Blk.new w2 _ _).alloc _).alloc _).alloc _
  have bX : Boxes (B9 + 1) le us mo wi N (.slice A2 m c2') w3 := by
    rw [hw3, hB9]
    exact ⟨((Blk.new' (by simp) _ _).alloc _).alloc _, (Blk.new' (by simp) _ _).alloc _, Blk.new' (by simp) _ _⟩
  have hS3 : Sl i64 w3 B9 A2 P := by rw [hB9]; exact t2.below (by rw [← hB9]; exact hBw)
  have HB9 := Lib.hid hB9
  have hwB : w.heap.size ≤ B9 := by rw [hB9]; exact hB2.size
  rw [← hw3, ← hB9]
  simp only [Nat.add_assoc, Nat.reduceAdd]
  clear hw3 hB9 t2 h2 c0 c1 c2 c3 e0 e1 e2 e3 hk1 hk2 hb1 hb2 hk0 hB0 C1 C2
  have hll : Hid (∀ k, k ≤ l.length → k ≤ N) := Lib.hid fun k hk => by
    have := frg_length (nxt P le mo N) N (fun a ha => nxt_gt (by have := HG.out.w1; have := HG.out.l1; omega) HG.out.m1 ha) N 0 (by omega)
    rw [HLL.out] at this; omega
  have eg := enters_of (P := Try.prog) Try.func38 (by kernel_rfl) rfl
  refine wpIn_rangeFunc_ownH rfl (by omega) (gf := 38) (lb := #[.pointer (some ⟨B9 + 2, 0, none⟩), .pointer (some ⟨B9 + 1, 0, none⟩), .pointer (some ⟨B9 + 3, 0, none⟩)]) rfl trivial eg
    (frags_stops HG.out _ (by omega) (B9 + 1) B9 A2 c2' N m P HM.out hm6 HS.out HX.out hlen w3 (by omega) bX.1 bX.2.1 bX.2.2 hS3) (fun h k => h.trans k)
    (fun W l o o' hl ho h1 h2 => ⟨⟨belowK_b (w := w3) (by omega) W l o o' hl ho h1 h2, by simp⟩, World.putObj_heap_other (by omega), World.putObj_heap_other (by omega), World.putObj_heap_other (by omega)⟩) (Below.refl _ _) (fun _ => rfl)
    (fun pre W => (OutI B9 pre W ∧ Boxes (B9 + 1) le us mo wi N (.slice A2 m c2') W) ∧ Below B9 w2 W)
    (fun _ _ _ => False)
    (OwnFrom.and (OwnFrom.and (Own.from (outI_own B9) _) (Own.from (fun s X Y row hs hg hr => ⟨blk_own s X Y row hs.1 hg hr, blk_own s X Y row hs.2.1 hg hr, blk_own s X Y row hs.2.2 hg hr⟩) _)) (ownFrom_below (by rw [← HB9.out]; exact Nat.le_refl _) (by omega)))
    (fun _ _ _ _ _ hs _ _ => hs)
    ⟨⟨⟨_, bO, World.ownsRow_nil _ _ _ _⟩, bX⟩, hBw⟩
    (fun x a' W => ∃ g, Blk W g 36 #[.int .i64 (x.1 : Int), .int .i64 (x.2 : Int)] ∧ a' = { tmps := #[.agg #[.int .i64 (le : Int), .int .i64 (us : Int), .int .i64 (mo : Int), .int .i64 (wi : Int)], .slice A N c, .pointer (some ⟨w.heap.size, 0, none⟩), undef, .slice none 0 0, .int .i64 0, .int .i64 0, .slice A2 m c2', .int .i64 0, .pointer (some ⟨B9, 0, none⟩), .pointer (some ⟨g, 0, none⟩), .agg #[.int .i64 (le : Int), .int .i64 (us : Int), .int .i64 (mo : Int), .int .i64 (wi : Int)], .slice A N c, .slice (some ⟨w.heap.size + 1, 0, none⟩) 1 1, .int .i64 0, .int .i64 0, .bool false, undef, .tuple #[.slice A2 m c2', .int .i64 0], .agg #[.int .i64 (le : Int), .int .i64 (us : Int), .int .i64 (mo : Int), .int .i64 (wi : Int)], .slice A N c, .tuple #[.slice A2 m c2', .int .i64 0], .slice A2 m c2', .int .i64 0, .int .i64 0, .bool false, undef, .agg #[.int .i64 (le : Int), .int .i64 (us : Int), .int .i64 (mo : Int), .int .i64 (wi : Int)], .slice A N c, .int .i64 (N : Int), .slice A2 m c2', .func (.func 38) #[] #[.pointer (some ⟨B9 + 2, 0, none⟩), .pointer (some ⟨B9 + 1, 0, none⟩), .pointer (some ⟨B9 + 3, 0, none⟩)], .agg #[.int .i64 (x.1 : Int), .int .i64 (x.2 : Int)], undef, undef, undef, undef, undef], defers := [] })
    (fun x a' s X Y row hs hg hr => by
      obtain ⟨g, hg1, hg2⟩ := hs
      exact ⟨g, blk_own s X Y row hg1 hg (fun r e => (hr r e).2), hg2⟩) ?assign ?body ?done ?stop
  case assign =>
    rintro l' pre ⟨x1, x2⟩ W K ⟨⟨⟨v, hv, hrow⟩, hbx⟩, hB⟩ hK
    have hzW : B9 + 3 < W.heap.size := hbx.2.2.lt
    unfold ence
    gi_wp2
    refine hK _ _ ((KeepsOthers.alloc W _).from _) ⟨⟨(Below.refl _ _).alloc (by omega) _, by simp⟩, Below.heap_alloc _ _ _ (by omega), Below.heap_alloc _ _ _ (by omega), Below.heap_alloc _ _ _ (by omega)⟩ ⟨⟨⟨v, hv.alloc _, hrow.alloc _⟩, hbx.1.alloc _, hbx.2.1.alloc _, hbx.2.2.alloc _⟩, hB.alloc (by omega) _⟩ ⟨W.heap.size, Blk.new _ _ _, rfl⟩
  case body =>
    rintro l' pre ⟨x1, x2⟩ a' W hl' _ ⟨⟨⟨v, hv, hrow⟩, hbx⟩, hB⟩ ⟨g, hgk, rfl⟩ hlt
    have hpl : pre.length ≤ 65536 := by
      rw [HLL.out] at hlt
      have := hll.out pre.length (by omega)
      omega
    have hzW : B9 + 3 < W.heap.size := hbx.2.2.lt
    obtain ⟨k, hk⟩ : ∃ k, k = pre.length := ⟨_, rfl⟩
    obtain ⟨L, hL⟩ : ∃ L, L = flatE pre := ⟨_, rfl⟩
    have STEP : Hid (∀ v' w1, w1.ownsRow B9 36 2 v' (k + 1) (L ++ [.int .i64 (x1 : Int), .int .i64 (x2 : Int)]) → (W.alloc (.cells #[.int .i64 (x1 : Int), .int .i64 (x2 : Int)] 36)).grownBy w1 v.ownBlock → OutDone B9 le us mo wi N (.slice A2 m c2') w2 W (pre ++ [(x1, x2)]) (w1.setCell ⟨B9, 0, none⟩ v')) :=
      Lib.hid fun v' w1 k1 k2 => outI_step (p := (x1, x2)) hbx hB (by omega) hv hrow (by rw [← hk, ← hL]; exact k1) k2
    rw [← hk, ← hL] at hrow
    rw [← hk] at hpl
    have hc := hv.cell
    have g0 : W.cell? ⟨g, 0, none⟩ = some (.int .i64 (x1 : Int)) := hgk.cell 0
    have g1 : W.cell? ⟨g, 1, none⟩ = some (.int .i64 (x2 : Int)) := hgk.cell 1
    clear hk hL hlt
    gi_wp2_with (gi_at_builtin; refine wpListIn_append_own _ rfl _ _ 26 rfl B9 36 i0 (.agg #[.int .i64 0, .int .i64 0]) 2 16 Try.underlying26 hi hz0 hz1 hz2 rfl (by decide) v k L rfl (hrow.alloc _) ⟨W.heap.size, 0, none⟩ 1 1 [.int .i64 (x1 : Int), .int .i64 (x2 : Int)] rfl rfl (two_news _ _ _ _) (two_one _ _) (by unfold maxLen; omega) (by omega) (by simp; omega) ?_; intro v' w1 hown' hgrow _; obtain ⟨g', cap', rfl⟩ := ownsRow_succ hown'; have R := Lib.hid (STEP.out _ _ hown' hgrow); have hv1 := (hv.alloc _).kept hgrow (hv.not_row (by decide) hrow); have hc1 := hv1.cell; have hf1 := hv1.frozen)
    exact ⟨R.out.2.1.from _, R.out.2.2, R.out.1⟩
  case done =>
    rintro D ys W hD rfl ⟨⟨⟨v, hv, hrow⟩, hbx⟩, hB⟩ hK
    rw [HLL.out, HNN.out] at hrow
    have hc := hv.cell
    obtain ⟨A', c', rfl, hcn, _⟩ := own_form hrow
    have hzW : B9 + 3 < W.heap.size := hbx.2.2.lt
    obtain ⟨hcap1, hcap2⟩ := own_cap hrow
    gi_wp2
    refine ⟨by simp, .inl ⟨_, _, rfl, run_takeDeferred hK, ?_⟩⟩
    have ho := ownsRow_putObj hrow (.deferred none) hK rfl
    have hbb : Below w.heap.size w2 W := hB.mono hwB
    exact ⟨_, results_tmp2 rfl _ _ _, A', c', rfl, SlE.of_own (ownsRow_putObj hrow _ hK rfl), hcap1, (hB2.trans hbb).trans (belowK_b (w := w) (Nat.le_refl _) W D _ _ (by omega) hK rfl rfl)⟩
  case stop =>
    rintro D c pre W _ _ h _
    exact h.elim
end Go.Proofs.Ytcdaieoondmljaa.H
