/- parse.Certify: marks. -/
import Derived.Test.YtfahfbkkgcekgaaYP
import Derived.Scope
namespace Go.Proofs.Ytfahfbkkgcekgaa.H
set_option linter.unusedVariables false
set_option linter.unusedSimpArgs false
open Go Go.RowKit Go.Shelf Go.Proofs.Ytfahfbkkgcekgaa Go.Proofs.Ytfahfbkkgcekgaa.W Go.Proofs.Ytfahfbkkgcekgaa.M
attribute [local go_sem] Oper.semAt_some

theorem stepR_scope {P : Program} {b : Frame} {a : Act} {k : List Item} {cs : List Frame} {w : World} {c : Code} : step P (lone (b.atR a (.code (.scope c) :: k)) cs w) = .next (lone (b.atR a (.code c :: .inScope c :: k)) cs w) :=
  step_lone_go (by simp [stepG, stepG.exec, Frame.atR])
theorem stepR_inScope {P : Program} {b : Frame} {a : Act} {k : List Item} {cs : List Frame} {w : World} {c : Code} : step P (lone (b.atR a (.inScope c :: k)) cs w) = .next (lone (b.atR a k) cs w) :=
  step_lone_go (by simp [stepG, stepG.exec, Frame.atR])
/-- A scope whose labels are not jumped to, inside a fence. -/
theorem wpIn_scope_straight {F : Fence} {n : Nat} {P : Program} {Q : Exit → Act → World → Prop} {a : Act} {w : World} {c : Code} (h : c.wpIn F n P (Exit.noGoto Q) a w) : (Code.scope c).wpIn F n P Q a w := by
  intro b k cs hro hb hr
  have h0 : (lone (b.atR a (.code (.scope c) :: k)) cs w).fenced P F := fenced_calm hb hr rfl
  obtain ⟨e, a₁, w₁, hq, harr⟩ := h b (.inScope c :: k) cs hro hb hr
  cases e with
  | normal => exact ⟨.normal, a₁, w₁, hq, .head h0 stepR_scope (StepsIn.trans harr (.one (fenced_calm hb hr rfl) stepR_inScope))⟩
  | exit id =>
    have hx : exitTo id (.inScope c :: k) = exitTo id k := by simp [exitTo]
    exact ⟨.exit id, a₁, w₁, hq, fun k' hk => .head h0 stepR_scope (harr.1 k' (by rw [hx]; exact hk)),
      fun hr' hk => let ⟨k₁, h1, h2⟩ := harr.2 hr' (by rw [hx]; exact hk); ⟨k₁, h1, .head h0 stepR_scope h2⟩⟩
  | goto l => exact hq.elim
  | ret => exact ⟨_, a₁, w₁, hq, .of_steps (.one h0 stepR_scope) harr⟩
  | panic ch => exact ⟨_, a₁, w₁, hq, .of_steps (.one h0 stepR_scope) harr⟩
  | outgrown => exact ⟨_, a₁, w₁, hq, .of_steps (.one h0 stepR_scope) harr⟩
/-- The blocks for the rounds' deferred calls, of ranges over a function in a loop. -/
def Marks (w : World) : List Nat → Prop
  | [] => True
  | D :: ds => w.heap[D]? = some (.deferred (some [])) ∧ (∀ d ∈ ds, d < D) ∧ Marks w ds
def markL (ds : List Nat) : List Deferred := ds.map fun D => { target := .collected D, args := #[] }
theorem Marks.keep {w w' : World} : ∀ {ds : List Nat}, Marks w ds → (∀ d ∈ ds, w'.heap[d]? = w.heap[d]?) → Marks w' ds
  | [], _, _ => trivial
  | D :: ds, h, hk => ⟨(hk D (by simp)).trans h.1, h.2.1, h.2.2.keep (fun d hd => hk d (by simp [hd]))⟩
theorem Marks.lt {w : World} : ∀ {ds : List Nat}, Marks w ds → ∀ d ∈ ds, d < w.heap.size
  | D :: ds, h, d, hd => by
    rcases List.mem_cons.1 hd with rfl | hd
    · exact (Array.getElem?_eq_some_iff.1 h.1).1
    · exact Marks.lt h.2.2 d hd
theorem Marks.below {w w' : World} {ds : List Nat} (h : Marks w ds) (hb : Below w.heap.size w w') : Marks w' ds := h.keep fun d hd => hb.block d (h.lt d hd)
theorem marks_leave {F : Fence} {n : Nat} {P : Program} {fn : Func} {tmps : Array Value} {R : Ending → World → Prop} {B : Nat} : ∀ (ds : List Nat) (W : World), Marks W ds → (∀ d ∈ ds, B ≤ d) →
    (∀ W', Below B W W' → LeavesInM F n P fn tmps R [] .returning W') → LeavesInM F n P fn tmps R (markL ds) .returning W
  | [], W, _, _, h => h W (Below.refl _ _)
  | D :: ds, W, hm, hB, h => by
    have hD := hm.1
    refine ⟨by simp, .inl ⟨D, _, rfl, run_takeDeferred hD, ?_⟩⟩
    have hb : Below B W (W.putObj D (.deferred none)) := (Below.refl B W).grown (grownBy_putObj' W D _) (Nat.le_trans (hB D (by simp)) (Nat.le_of_lt (Array.getElem?_eq_some_iff.1 hD).1)) (fun k e => by cases e; exact hB D (by simp))
    refine marks_leave ds _ (hm.2.2.keep fun d hd => World.putObj_heap_other (by have := hm.2.1 d hd; omega)) (fun d hd => hB d (by simp [hd])) (fun W' hW' => h W' (hb.trans hW'))
/-- The numbers Q certify cost C. -/
def CertOK (b : Bs) (Q : List Int) (C : Nat) : Prop :=
  Q.any bad = false ∧ Q.getD b.length 0 = 0 ∧ (∀ a, a < b.length → ∀ t, okAt b a t → Q.getD a 0 ≤ (price t : Int) + Q.getD (a + tsz t) 0) ∧ Q.getD 0 0 = (C : Int)
/-- The choices so far at place i are no cheaper. -/
def GoodP (b : Bs) (i : Nat) (Q : List Int) (pre : List (CT b i)) : Prop := ∀ x ∈ pre, Q.getD i 0 ≤ (price x.val : Int) + Q.getD (i + tsz x.val) 0
/-- One is. -/
def BadP (b : Bs) (i : Nat) (Q : List Int) : Prop := ∃ t, okAt b i t ∧ ¬ Q.getD i 0 ≤ (price t : Int) + Q.getD (i + tsz t) 0
set_option maxRecDepth 100000 in
set_option maxHeartbeats 4000000 in
theorem Certify_ok (b : Bs) (N : Nat) (hN : b.length = N) (hN6 : N ≤ 60) (A AT : Option Addr) (c n ct : Nat) (l : List Tok) (hl : l.length = n) (hF : Fac b 0 l) (C : Nat) (hC : cost l = C) (AP : Option Addr) (cp : Nat) (Q : List Int) (hQ : Q.length = N + 1) (w : World) (hS : Sl u8 w w.heap.size A b) (hT : SlT w w.heap.size AT l) (hP : Sl zI w w.heap.size AP Q) :
    Calls Try.prog 15 #[.slice A N c, .slice AT n ct, .slice AP (N + 1) cp] w fun e w' => ∃ er : Int, e = .returned (.int .i64 er) ∧ (er = 0 ↔ CertOK b Q C) ∧ Below w.heap.size w w' := by
  have HN := Lib.hid hN
  have HQ := Lib.hid hQ
  obtain ⟨bp, op, hAe, hbp, hcs⟩ := hP.open_ (by omega)
  subst hAe
  have HP : Hid (∀ W, Below w.heap.size w W → ∀ k, k ≤ N → W.cell? ⟨bp, op + k, none⟩ = some (.int .i64 (Q.getD k 0))) := Lib.hid fun W hW k hk => by
    have := hcs k (Q.getD k 0) (by rw [List.getD_eq_getElem?_getD, List.getElem?_eq_getElem (by omega)]; rfl)
    exact (hW.cell (p := ⟨bp, op + k, none⟩) hbp).trans this
  have EXP := Lib.hid (fun W h => Expand_ok b N hN (by omega) AT n ct l hl hF W h)
  have EQ := Lib.hid (fun A1 c1 W h1 h2 => sequal_ok A1 A c1 c N b hN (by omega) W h1 h2)
  have CON := Lib.hid (fun W h => contains_ok (some ⟨bp, op, none⟩) cp (N + 1) Q hQ (by omega) W h)
  have CST := Lib.hid (fun W h => Cost_ok b N hN (by omega) AT n ct l hl hF C hC W h)
  have hB0 : Below w.heap.size w (w.alloc (.cells #[.slice (some ⟨bp, op, none⟩) (N + 1) cp] 38)) := (Below.refl _ _).alloc (Nat.le_refl _) _
  have hk0 : Blk (w.alloc (.cells #[.slice (some ⟨bp, op, none⟩) (N + 1) cp] 38)) w.heap.size 38 #[.slice (some ⟨bp, op, none⟩) (N + 1) cp] := Blk.new _ _ _
  have HS := Lib.hid hS
  have HT := Lib.hid hT
  have HPS := Lib.hid hP
  have v1 : ¬ (65536 : Int) < (N : Int) := by omega
  clear hN hQ hl hF hC hcs hS hT hP
  refine (callsIn_wide (n := 4)).1 ?_
  refine callsIn_of_wp_marks Try.func15 rfl trivial ?_ rfl
  simp only [Try.ntmps15, List.size_toArray, List.length_cons, List.length_nil, Nat.reduceAdd, Nat.reduceSub, Array.replicate_succ, Array.replicate_zero, List.push_toArray, List.append_toArray, List.nil_append, List.cons_append]
  obtain ⟨qN, hqN⟩ : ∃ qN, Q.getD N 0 = qN := ⟨_, rfl⟩
  have HQN := Lib.hid hqN
  clear hqN
  cases hany : Q.any bad with
  | true =>
    rw [hany] at CON
    have HANY := Lib.hid hany
    clear hany
    gi_wp2
    refine wpIn_scope_straight ?_
    gi_wp2_with (first
      | (refine ⟨trivial, ?_⟩; gi_at_call 9; refine (callsIn_wide.2 (EXP.out _ (HT.out.later hB0))).mono ?_; rintro en w1 ⟨A1, c1, rfl, hE1, _, _, hb1⟩; have hB1 := bsa hB0 hb1; have hk1 := hk0.later hb1)
      | (refine ⟨trivial, ?_⟩; gi_at_call 24; refine (callsIn_wide.2 (EQ.out _ _ _ hE1 (HS.out.later hB1))).mono ?_; rintro en w2 ⟨rfl, hb2⟩; have hB2 := bsa hB1 hb2; have hk2 := hk1.later hb2; have d2 := hk2.cell0)
      | (refine ⟨trivial, ?_⟩; gi_at_call 25; refine (callsIn_wide.2 (CON.out _ (HPS.out.later hB2))).mono ?_; rintro en w3 ⟨rfl, hb3⟩; have hB3 := bsa hB2 hb3; have hk3 := hk2.later hb3; have d3 := hk3.cell0))
    exact ⟨_, results_tmp rfl _ _ _, 2, rfl, ⟨fun h => (by cases h), fun h => by have := h.1; rw [HANY.out] at this; cases this⟩, hB3⟩
  | false =>
    rw [hany] at CON
    have HANY := Lib.hid hany
    clear hany
    by_cases h0 : qN = 0
    · subst h0
      gi_wp2
      refine wpIn_scope_straight ?_
      gi_wp2_with (first
        | (refine ⟨trivial, ?_⟩; gi_at_call 9; refine (callsIn_wide.2 (EXP.out _ (HT.out.later hB0))).mono ?_; rintro en w1 ⟨A1, c1, rfl, hE1, _, _, hb1⟩; have hB1 := bsa hB0 hb1; have hk1 := hk0.later hb1)
        | (refine ⟨trivial, ?_⟩; gi_at_call 24; refine (callsIn_wide.2 (EQ.out _ _ _ hE1 (HS.out.later hB1))).mono ?_; rintro en w2 ⟨rfl, hb2⟩; have hB2 := bsa hB1 hb2; have hk2 := hk1.later hb2; have d2 := hk2.cell0)
        | (refine ⟨trivial, ?_⟩; gi_at_call 25; refine (callsIn_wide.2 (CON.out _ (HPS.out.later hB2))).mono ?_; rintro en w3 ⟨rfl, hb3⟩; have hB3 := bsa hB2 hb3; have hk3 := hk2.later hb3; have d3 := hk3.cell0; have d4 := HP.out _ hB3 N (Nat.le_refl _); rw [HQN.out] at d4))
      refine wpIn_label ?_
      gi_wp2
      obtain ⟨G, hG⟩ : ∃ G, G = w.heap.size := ⟨_, rfl⟩
      rw [← hG]
      have hk3' : Blk w3 G 38 #[.slice (some ⟨bp, op, none⟩) (N + 1) cp] := by rw [hG]; exact hk3
      have hGz : G < w3.heap.size := hk3'.lt
      have HG := Lib.hid hG
      have HB3 := Lib.hid hB3
      have HS3 := Lib.hid (HS.out.later hB3)
      have HQ6 : Hid (∀ k, k ≤ N → 0 ≤ Q.getD k 0 ∧ Q.getD k 0 ≤ 589824) := Lib.hid fun k hk => by
        have hx : Q[k]? = some (Q.getD k 0) := by rw [List.getD_eq_getElem?_getD, List.getElem?_eq_getElem (by rw [HQ.out]; omega)]; rfl
        have h2 : bad (Q.getD k 0) = false := by
          cases hbd : bad (Q.getD k 0) with
          | false => rfl
          | true =>
            have h3 := List.any_eq_true.2 ⟨_, List.mem_of_getElem? hx, hbd⟩
            rw [HANY.out] at h3; cases h3
        unfold bad at h2
        rw [Bool.or_eq_false_iff, decide_eq_false_iff_not, decide_eq_false_iff_not] at h2
        omega
      clear hb1 hb2 hb3 hB1 hB2 hB3 hk0 hk1 hk2 hk3 d2 d3 d4 hE1 hB0 EXP EQ CON hG hbp
      refine wpIn_loop (fun a wm => ∃ (i : Nat) (pv : Bool) (u10 u46 u47 u48 u49 u50 u67 u68 u69 u70 u71 u72 : Value) (ms : List Nat), i ≤ N ∧ a = { tmps := List.toArray ((.slice A N c) :: (.slice AT n ct) :: (.slice (some ⟨bp, op, none⟩) (N + 1) cp) :: (undef) :: (undef) :: (.pointer (some ⟨G, 0, none⟩)) :: (.int .i64 0) :: (.slice A1 N c1) :: (.int .i64 0) :: (.bool pv) :: (u10) :: (undef) :: (undef) :: (undef) :: (.slice A N c) :: (.int .i64 (N : Int)) :: (.bool (decide (65536 < (N : Int)))) :: (.tuple #[.slice A1 N c1, .int .i64 0]) :: (.slice AT n ct) :: (.tuple #[.slice A1 N c1, .int .i64 0]) :: (.slice A1 N c1) :: (.int .i64 0) :: (.int .i64 0) :: (.bool false) :: (undef) :: (.slice A1 N c1) :: (.slice A N c) :: (.bool true) :: (.bool false) :: (.slice (some ⟨bp, op, none⟩) (N + 1) cp) :: (.int .i64 ((N : Int) + 1)) :: (.slice A N c) :: (.int .i64 (N : Int)) :: (.int .i64 ((N : Int) + 1)) :: (.bool false) :: (.slice (some ⟨bp, op, none⟩) (N + 1) cp) :: (.bool false) :: (.slice (some ⟨bp, op, none⟩) (N + 1) cp) :: (.slice A N c) :: (.int .i64 (N : Int)) :: (.pointer (some ⟨bp, op + N, none⟩)) :: (.int .i64 0) :: (.bool false) :: (.slice A N c) :: (.int .i64 (N : Int)) :: (.int .i64 (i : Int)) :: (u46) :: (u47) :: (u48) :: (u49) :: (u50) :: (undef) :: (undef) :: (undef) :: (undef) :: (undef) :: (undef) :: (undef) :: (undef) :: (undef) :: (undef) :: (undef) :: (undef) :: (undef) :: (undef) :: (undef) :: (undef) :: (u67) :: (u68) :: (u69) :: (u70) :: (u71) :: (u72) :: (undef) :: (undef) :: (undef) :: (undef) :: (undef) :: (undef) :: (undef) :: (undef) :: (undef) :: (undef) :: (undef) :: (undef) :: (undef) :: (undef) :: (undef) :: (undef) :: (undef) :: []), defers := markL ms } ∧ Hid (pv = decide (0 < N ∧ i = N)) ∧ Hid (∀ a, a < i → ∀ t, okAt b a t → Q.getD a 0 ≤ (price t : Int) + Q.getD (a + tsz t) 0) ∧ Marks wm ms ∧ (∀ d ∈ ms, w3.heap.size ≤ d) ∧ Below w3.heap.size w3 wm)
        (fun a _ => N - (intOf (a.tmps.getD 45 undef)).toNat)
        ⟨0, false, _, _, _, _, _, _, _, _, _, _, _, _, [], Nat.zero_le _, rfl, Lib.hid (by rw [eq_comm, decide_eq_false_iff_not]; omega), Lib.hid (fun a h => by omega), trivial, (by simp), Below.refl _ _⟩ ?_
      rintro a wr ⟨i, pv, u10, u46, u47, u48, u49, u50, u67, u68, u69, u70, u71, u72, ms, hi, rfl, hpv, hcert, hM, hMB, hB⟩
      have hGr : Blk wr G 38 #[.slice (some ⟨bp, op, none⟩) (N + 1) cp] := hk3'.below hB hGz
      by_cases hlt : i < N
      · have hlt' : (i : Int) < (N : Int) := by omega
        obtain rfl : pv = false := by rw [hpv.out, decide_eq_false_iff_not]; omega
        clear hpv
        gi_wp2_with (refine ⟨trivial, ?_⟩; gi_at_call 27; refine (choices_in Fence.wide _ trivial rfl _ _ _ _ _).mono ?_; rintro e w4 ⟨rfl, rfl⟩)
        obtain ⟨B, hBe⟩ : ∃ B, B = wr.heap.size := ⟨_, rfl⟩
        obtain ⟨w5, hw5⟩ : ∃ w5, w5 = ((wr.alloc (.cells #[.int .i64 (i : Int)] 3)).alloc (.cells #[.slice A N c] 22)).alloc (.cells #[.int .i64 (i : Int)] 3) := ⟨_, rfl⟩
        have hz5 : w5.heap.size = B + 3 := by rw [hw5, hBe]; simp
        have hBw : Below wr.heap.size wr w5 := by rw [hw5]; exact (((Below.refl _ wr).alloc (Nat.le_refl _) _).alloc (by simp) _).alloc (by simp; omega) _
        have k0 : Blk w5 B 3 #[.int .i64 (i : Int)] := by rw [hw5, hBe]; exact ((Blk.new _ _ _).alloc _).alloc _
        have k1 : Blk w5 (B + 1) 22 #[.slice A N c] := by rw [hw5, hBe]; exact (Blk.new' (by simp) _ _).alloc _
        have k2 : Blk w5 (B + 2) 3 #[.int .i64 (i : Int)] := by rw [hw5, hBe]; exact Blk.new' (by simp) _ _
        have hzB := hB.size
        have hB5 : Below w3.heap.size w3 w5 := hB.trans (hBw.mono hzB)
        have hM5 : Marks w5 ms := hM.below hBw
        have hML : ∀ d ∈ ms, d < B := by rw [hBe]; exact hM.lt
        have hG5 : Blk w5 G 38 #[.slice (some ⟨bp, op, none⟩) (N + 1) cp] := hGr.later hBw
        have hS5 : Hid (Sl u8 w5 B A b) := Lib.hid (by rw [hBe]; exact ((HS3.out.later hB).below hBw))
        rw [← hBe] at hzB
        rw [← hw5, ← hBe]
        simp only [Nat.add_assoc, Nat.reduceAdd]
        clear hw5 hBw hM hGr hB hBe
        have eg := enters_of (P := Try.prog) Try.func40 (by kernel_rfl) rfl
        refine wpIn_rangeFunc_ownH rfl (by omega) (gf := 40) (lb := #[.pointer (some ⟨B + 1, 0, none⟩), .pointer (some ⟨B + 2, 0, none⟩)]) rfl trivial eg
          (choices_stops2 _ (by omega) (B + 1) B A c N i b HN.out (by omega) hlt w5 (by omega) k1 k2 hS5.out) (fun h k => h.trans k)
          (fun W l o o' hl ho h1 h2 => ⟨⟨belowK_b (w := w5) (by omega) W l o o' hl ho h1 h2, by simp⟩, World.putObj_heap_other (by omega), World.putObj_heap_other (by omega)⟩) (Below.refl _ _) (fun _ => rfl)
          (fun pre W => GoodP b i Q pre ∧ Below (B + 3) w5 W)
          (fun c _ W => (c = .exit 0 ∧ BadP b i Q) ∧ Below (B + 3) w5 W)
          (OwnFrom.and (ownFrom_pure _ _) (ownFrom_below (by omega) (by omega)))
          (fun c => OwnFrom.and (ownFrom_pure _ _) (ownFrom_below (by omega) (by omega)))
          ⟨(fun x hx => by simp at hx), Below.refl _ _⟩
          (fun x a' W => ∃ g, w5.heap.size ≤ g ∧ Blk W g 46 (tokC x.val) ∧ a' = { tmps := List.toArray ((.slice A N c) :: (.slice AT n ct) :: (.slice (some ⟨bp, op, none⟩) (N + 1) cp) :: (undef) :: (undef) :: (.pointer (some ⟨G, 0, none⟩)) :: (.int .i64 0) :: (.slice A1 N c1) :: (.int .i64 0) :: (.bool false) :: (.pointer (some ⟨B, 0, none⟩)) :: (.pointer (some ⟨g, 0, none⟩)) :: (undef) :: (undef) :: (.slice A N c) :: (.int .i64 (N : Int)) :: (.bool (decide (65536 < (N : Int)))) :: (.tuple #[.slice A1 N c1, .int .i64 0]) :: (.slice AT n ct) :: (.tuple #[.slice A1 N c1, .int .i64 0]) :: (.slice A1 N c1) :: (.int .i64 0) :: (.int .i64 0) :: (.bool false) :: (undef) :: (.slice A1 N c1) :: (.slice A N c) :: (.bool true) :: (.bool false) :: (.slice (some ⟨bp, op, none⟩) (N + 1) cp) :: (.int .i64 ((N : Int) + 1)) :: (.slice A N c) :: (.int .i64 (N : Int)) :: (.int .i64 ((N : Int) + 1)) :: (.bool false) :: (.slice (some ⟨bp, op, none⟩) (N + 1) cp) :: (.bool false) :: (.slice (some ⟨bp, op, none⟩) (N + 1) cp) :: (.slice A N c) :: (.int .i64 (N : Int)) :: (.pointer (some ⟨bp, op + N, none⟩)) :: (.int .i64 0) :: (.bool false) :: (.slice A N c) :: (.int .i64 (N : Int)) :: (.int .i64 (i : Int)) :: (.bool true) :: (.int .i64 (i : Int)) :: (.slice A N c) :: (.int .i64 (i : Int)) :: (.func (.func 40) #[] #[.pointer (some ⟨B + 1, 0, none⟩), .pointer (some ⟨B + 2, 0, none⟩)]) :: (tokV x.val) :: (undef) :: (undef) :: (undef) :: (undef) :: (undef) :: (undef) :: (undef) :: (undef) :: (undef) :: (undef) :: (undef) :: (undef) :: (undef) :: (undef) :: (undef) :: (u67) :: (u68) :: (u69) :: (u70) :: (u71) :: (u72) :: (undef) :: (undef) :: (undef) :: (undef) :: (undef) :: (undef) :: (undef) :: (undef) :: (undef) :: (undef) :: (undef) :: (undef) :: (undef) :: (undef) :: (undef) :: (undef) :: (undef) :: []), defers := [] })
          (fun x a' s X Y row hs hg hr => by
            obtain ⟨g, hg0, hg1, hg2⟩ := hs
            exact ⟨g, hg0, blk_own s X Y row hg1 hg (fun r e => (hr r e).2), hg2⟩) ?assign ?body ?done ?stop
        case assign =>
          rintro l' pre ⟨⟨x1, x2, x3⟩, hx⟩ W K ⟨hst, hBW⟩ hK
          have hzW := hBW.size
          show Code.wpIn _ _ _ _ _ { tmps := ((#[51] : Array Nat).zip #[Value.agg #[.int .i64 (x1 : Int), .int .i64 (x2 : Int), .int .u8 (x3.toNat : Int)]]).foldl _ _, defers := _ } _
          gi_wp2
          exact hK _ _ ((KeepsOthers.alloc W _).from _) ⟨⟨(Below.refl _ _).alloc (by omega) _, by simp⟩, Below.heap_alloc _ _ _ (by omega), Below.heap_alloc _ _ _ (by omega)⟩ ⟨hst, hBW.alloc (by omega) _⟩ ⟨W.heap.size, hzW, Blk.new _ _ _, rfl⟩
        case body =>
          rintro l' pre ⟨⟨x1, x2, x3⟩, hx⟩ a' W hl' _ ⟨hst, hBW⟩ ⟨g, hg0, hgk, rfl⟩ hlt9
          obtain ⟨hR, _⟩ := okAt_right hx
          have hend := okAt_end hx
          rw [HN.out] at hend
          have hp1 := (price_le hR).1
          have PR := Lib.hid (fun W => price_ok (x1, x2, x3) hR W)
          have SZ := Lib.hid (fun W => psize_ok (x1, x2, x3) (by have := hR.le; omega) W)
          obtain ⟨z, hz⟩ : ∃ z, tsz (x1, x2, x3) = z := ⟨_, rfl⟩
          obtain ⟨p, hp⟩ : ∃ p, price (x1, x2, x3) = p := ⟨_, rfl⟩
          rw [hz] at SZ hend
          rw [hp] at PR hp1
          obtain ⟨k, hk⟩ : ∃ k, i + z = k := ⟨_, rfl⟩
          obtain ⟨q, hq⟩ : ∃ q, Q.getD k 0 = q := ⟨_, rfl⟩
          obtain ⟨r, hr⟩ : ∃ r, Q.getD i 0 = r := ⟨_, rfl⟩
          obtain ⟨m, hm⟩ : ∃ m, (p : Int) + q = m := ⟨_, rfl⟩
          have hq6 := HQ6.out k (by omega)
          have hr6 := HQ6.out i (by omega)
          rw [hq] at hq6
          rw [hr] at hr6
          have GOOD : Hid (r ≤ m → GoodP b i Q (pre ++ [⟨(x1, x2, x3), hx⟩])) := Lib.hid fun h x hxm => by
            rcases List.mem_append.1 hxm with h1 | h1
            · exact hst x h1
            · obtain rfl : x = ⟨(x1, x2, x3), hx⟩ := by simpa using h1
              show Q.getD i 0 ≤ (price (x1, x2, x3) : Int) + Q.getD (i + tsz (x1, x2, x3)) 0
              rw [hz, hp, hk, hq, hr, hm]; exact h
          have BAD : Hid (m < r → BadP b i Q) := Lib.hid fun h => ⟨_, hx, by
            rw [hz, hp, hk, hq, hr, hm]; omega⟩
          have v1 : (i : Int) + (z : Int) = (k : Int) := by omega
          have v3 : IntKind.i64.wrap (k : Int) = (k : Int) := by rw [IntKind.wrap_i64]; omega
          have v4 : IntKind.i64.wrap m = m := by rw [IntKind.wrap_i64]; omega
          have hkN : k < N + 1 := by omega
          have hiN : i < N + 1 := by omega
          have v5 : (k : Int) < (N : Int) + 1 := by omega
          have v6 : (i : Int) < (N : Int) + 1 := by omega
          have hzW := hBW.size
          have hBQ : Below w.heap.size w W := HB3.out.trans ((hB5.trans (hBW.mono (by omega))).mono (by have := HB3.out.size; omega))
          have hPk : W.cell? ⟨bp, op + k, none⟩ = some (.int .i64 q) := by rw [← hq]; exact HP.out W hBQ k (by omega)
          have hPi : W.cell? ⟨bp, op + i, none⟩ = some (.int .i64 r) := by rw [← hr]; exact HP.out W hBQ i (by omega)
          have hbpW := World.block_lt_of_cell? W _ hPk
          have hGW := hG5.below hBW (by have := hG5.lt; omega)
          have hBiW := k0.below hBW (by omega)
          have KEEP : Hid (∀ V, Below W.heap.size W V → V.cell? ⟨g, 0, none⟩ = some (.int .i64 (x1 : Int)) ∧ V.cell? ⟨g, 1, none⟩ = some (.int .i64 (x2 : Int)) ∧ V.cell? ⟨g, 2, none⟩ = some (.int .u8 (x3.toNat : Int)) ∧ V.cell? ⟨B, 0, none⟩ = some (.int .i64 (i : Int)) ∧ V.cell? ⟨G, 0, none⟩ = some (.slice (some ⟨bp, op, none⟩) (N + 1) cp) ∧ V.cell? ⟨bp, op + k, none⟩ = some (.int .i64 q) ∧ V.cell? ⟨bp, op + i, none⟩ = some (.int .i64 r)) := Lib.hid fun V hV =>
            ⟨(hgk.later hV).cell 0, (hgk.later hV).cell 1, (hgk.later hV).cell 2, (hBiW.later hV).cell 0, (hGW.later hV).cell 0, (hV.cell (p := ⟨bp, op + k, none⟩) hbpW).trans hPk, (hV.cell (p := ⟨bp, op + i, none⟩) hbpW).trans hPi⟩
          have POST : Hid (∀ V, Below W.heap.size W V → KeepsOthers W V ∧ KeepC B (B + 1) W V ∧ Below (B + 3) w5 V) := Lib.hid fun V hV =>
            ⟨keepsO hV, KeepC.below (by omega) (by omega) hV, hBW.trans (hV.mono (by omega))⟩
          clear hst hgk hR hz hp hk hq hr hlt9 hPk hPi hbpW hGW hBiW hBQ hend
          unfold tokV at PR SZ
          change Code.wpIn _ _ _ _ _ { tmps := List.toArray ((.slice A N c) :: (.slice AT n ct) :: (.slice (some ⟨bp, op, none⟩) (N + 1) cp) :: (undef) :: (undef) :: (.pointer (some ⟨G, 0, none⟩)) :: (.int .i64 0) :: (.slice A1 N c1) :: (.int .i64 0) :: (.bool false) :: (.pointer (some ⟨B, 0, none⟩)) :: (.pointer (some ⟨g, 0, none⟩)) :: (undef) :: (undef) :: (.slice A N c) :: (.int .i64 (N : Int)) :: (.bool (decide (65536 < (N : Int)))) :: (.tuple #[.slice A1 N c1, .int .i64 0]) :: (.slice AT n ct) :: (.tuple #[.slice A1 N c1, .int .i64 0]) :: (.slice A1 N c1) :: (.int .i64 0) :: (.int .i64 0) :: (.bool false) :: (undef) :: (.slice A1 N c1) :: (.slice A N c) :: (.bool true) :: (.bool false) :: (.slice (some ⟨bp, op, none⟩) (N + 1) cp) :: (.int .i64 ((N : Int) + 1)) :: (.slice A N c) :: (.int .i64 (N : Int)) :: (.int .i64 ((N : Int) + 1)) :: (.bool false) :: (.slice (some ⟨bp, op, none⟩) (N + 1) cp) :: (.bool false) :: (.slice (some ⟨bp, op, none⟩) (N + 1) cp) :: (.slice A N c) :: (.int .i64 (N : Int)) :: (.pointer (some ⟨bp, op + N, none⟩)) :: (.int .i64 0) :: (.bool false) :: (.slice A N c) :: (.int .i64 (N : Int)) :: (.int .i64 (i : Int)) :: (.bool true) :: (.int .i64 (i : Int)) :: (.slice A N c) :: (.int .i64 (i : Int)) :: (.func (.func 40) #[] #[.pointer (some ⟨B + 1, 0, none⟩), .pointer (some ⟨B + 2, 0, none⟩)]) :: (.agg #[.int .i64 (x1 : Int), .int .i64 (x2 : Int), .int .u8 (x3.toNat : Int)]) :: (undef) :: (undef) :: (undef) :: (undef) :: (undef) :: (undef) :: (undef) :: (undef) :: (undef) :: (undef) :: (undef) :: (undef) :: (undef) :: (undef) :: (undef) :: (u67) :: (u68) :: (u69) :: (u70) :: (u71) :: (u72) :: (undef) :: (undef) :: (undef) :: (undef) :: (undef) :: (undef) :: (undef) :: (undef) :: (undef) :: (undef) :: (undef) :: (undef) :: (undef) :: (undef) :: (undef) :: (undef) :: (undef) :: []), defers := [] } _
          gi_wp2_with fail
          have hH : Below W.heap.size W W.drew := (Below.refl _ _).drew
          refine region_round' (fun V => V.cell? ⟨g, 0, none⟩ = some (.int .i64 (x1 : Int)) ∧ V.cell? ⟨g, 1, none⟩ = some (.int .i64 (x2 : Int)) ∧ V.cell? ⟨g, 2, none⟩ = some (.int .u8 (x3.toNat : Int)) ∧ V.cell? ⟨B, 0, none⟩ = some (.int .i64 (i : Int)) ∧ V.cell? ⟨G, 0, none⟩ = some (.slice (some ⟨bp, op, none⟩) (N + 1) cp) ∧ V.cell? ⟨bp, op + k, none⟩ = some (.int .i64 q) ∧ V.cell? ⟨bp, op + i, none⟩ = some (.int .i64 r)) (by kernel_rfl) (by kernel_rfl) (KEEP.out _ hH) (fun hHeld => ?_)
          refine wpAnyH_take (i := 0) (v := ?_) rfl (by kernel_rfl) (by kernel_rfl) (by kernel_rfl) (fun _ _ _ h => h) (Or.inl ⟨by rfl, ?_⟩) hHeld ?_
          rotate_left
          · (intro W' hSw; obtain ⟨s0, s1, s2, s3, s4, s5, s6⟩ := hSw; go_simp; try with_reducible rfl)
          try simp only [Act.put, List.setIfInBounds_toArray, List.set_cons_zero, List.set_cons_succ, List.getElem_toArray, List.getElem_cons_succ, List.getElem_cons_zero]
          refine wpAnyH_take (i := 1) (v := ?_) rfl (by kernel_rfl) (by kernel_rfl) (by kernel_rfl) (fun _ _ _ h => h) (Or.inl ⟨by rfl, ?_⟩) hHeld ?_
          rotate_left
          · (intro W' hSw; obtain ⟨s0, s1, s2, s3, s4, s5, s6⟩ := hSw; go_simp; try with_reducible rfl)
          try simp only [Act.put, List.setIfInBounds_toArray, List.set_cons_zero, List.set_cons_succ, List.getElem_toArray, List.getElem_cons_succ, List.getElem_cons_zero]
          refine wpAnyH_take (i := 2) (v := ?_) rfl (by kernel_rfl) (by kernel_rfl) (by kernel_rfl) (fun _ _ _ h => h) (Or.inl ⟨by rfl, ?_⟩) hHeld ?_
          rotate_left
          · (intro W' hSw; obtain ⟨s0, s1, s2, s3, s4, s5, s6⟩ := hSw; go_simp; try with_reducible rfl)
          try simp only [Act.put, List.setIfInBounds_toArray, List.set_cons_zero, List.set_cons_succ, List.getElem_toArray, List.getElem_cons_succ, List.getElem_cons_zero]
          refine wpAnyH_take (i := 3) (v := ?_) rfl (by kernel_rfl) (by kernel_rfl) (by kernel_rfl) (fun _ _ _ h => h) (Or.inl ⟨by rfl, ?_⟩) hHeld ?_
          rotate_left
          · (intro W' hSw; obtain ⟨s0, s1, s2, s3, s4, s5, s6⟩ := hSw; go_simp; try with_reducible rfl)
          try simp only [Act.put, List.setIfInBounds_toArray, List.set_cons_zero, List.set_cons_succ, List.getElem_toArray, List.getElem_cons_succ, List.getElem_cons_zero]
          refine wpAnyH_take (i := 4) (v := ?_) rfl (by kernel_rfl) (by kernel_rfl) (by kernel_rfl) (fun _ _ _ h => h) (Or.inl ⟨by rfl, ?_⟩) hHeld ?_
          rotate_left
          · (intro W' hSw; obtain ⟨s0, s1, s2, s3, s4, s5, s6⟩ := hSw; go_simp; try with_reducible rfl)
          try simp only [Act.put, List.setIfInBounds_toArray, List.set_cons_zero, List.set_cons_succ, List.getElem_toArray, List.getElem_cons_succ, List.getElem_cons_zero]
          refine wpAnyH_take (i := 6) (v := ?_) rfl (by kernel_rfl) (by kernel_rfl) (by kernel_rfl) (fun _ _ _ h => h) (Or.inl ⟨by rfl, ?_⟩) hHeld ?_
          rotate_left
          · (intro W' hSw; obtain ⟨s0, s1, s2, s3, s4, s5, s6⟩ := hSw; go_simp; try with_reducible rfl)
          try simp only [Act.put, List.setIfInBounds_toArray, List.set_cons_zero, List.set_cons_succ, List.getElem_toArray, List.getElem_cons_succ, List.getElem_cons_zero]
          refine wpAnyH_take (i := 7) (v := ?_) rfl (by kernel_rfl) (by kernel_rfl) (by kernel_rfl) (fun _ _ _ h => h) (Or.inl ⟨by rfl, ?_⟩) hHeld ?_
          rotate_left
          · (intro W' hSw; obtain ⟨s0, s1, s2, s3, s4, s5, s6⟩ := hSw; go_simp; try with_reducible rfl)
          try simp only [Act.put, List.setIfInBounds_toArray, List.set_cons_zero, List.set_cons_succ, List.getElem_toArray, List.getElem_cons_succ, List.getElem_cons_zero]
          refine wpAnyH_take (i := 8) (v := ?_) rfl (by kernel_rfl) (by kernel_rfl) (by kernel_rfl) (fun _ _ _ h => h) (Or.inl ⟨by rfl, ?_⟩) hHeld ?_
          rotate_left
          · (intro W' hSw; obtain ⟨s0, s1, s2, s3, s4, s5, s6⟩ := hSw; go_simp; try with_reducible rfl)
          try simp only [Act.put, List.setIfInBounds_toArray, List.set_cons_zero, List.set_cons_succ, List.getElem_toArray, List.getElem_cons_succ, List.getElem_cons_zero]
          refine wpAnyH_ready (rs := [5]) (by kernel_rfl) (by simp) ?_
          refine AllReadyH.cons (o := ?_) ?_ (fun K' hK => ?_) AllReadyH.nil
          rotate_left
          · (simp only [List.getElem?_toArray, List.getElem?_cons_succ, List.getElem?_cons_zero] <;> rfl)
          go_simp
          go_at_call 19; refine (PR.out _).mono ?_; rintro e w5 ⟨rfl, hb5⟩; have hH := bsa hH hb5
          refine hK.out _ _ (KEEP.out _ hH) (fun hHeld' => ?_)
          clear hK K' hHeld
          have hHeld := hHeld'
          clear hHeld'
          try simp only [Act.put, List.setIfInBounds_toArray, List.set_cons_zero, List.set_cons_succ, List.getElem_toArray, List.getElem_cons_succ, List.getElem_cons_zero]
          refine wpAnyH_ready (rs := [9]) (by kernel_rfl) (by simp) ?_
          refine AllReadyH.cons (o := ?_) ?_ (fun K' hK => ?_) AllReadyH.nil
          rotate_left
          · (simp only [List.getElem?_toArray, List.getElem?_cons_succ, List.getElem?_cons_zero] <;> rfl)
          go_simp
          go_at_call 22; refine (SZ.out _).mono ?_; rintro e w6 ⟨rfl, hb6⟩; have hH := bsa hH hb6
          refine hK.out _ _ (KEEP.out _ hH) (fun hHeld' => ?_)
          clear hK K' hHeld
          have hHeld := hHeld'
          clear hHeld'
          try simp only [Act.put, List.setIfInBounds_toArray, List.set_cons_zero, List.set_cons_succ, List.getElem_toArray, List.getElem_cons_succ, List.getElem_cons_zero]
          refine wpAnyH_take (i := 10) (v := ?_) rfl (by kernel_rfl) (by kernel_rfl) (by kernel_rfl) (fun _ _ _ h => h) (Or.inl ⟨by rfl, ?_⟩) hHeld ?_
          rotate_left
          · (intro W' hSw; obtain ⟨s0, s1, s2, s3, s4, s5, s6⟩ := hSw; go_simp; try with_reducible rfl)
          try simp only [Act.put, List.setIfInBounds_toArray, List.set_cons_zero, List.set_cons_succ, List.getElem_toArray, List.getElem_cons_succ, List.getElem_cons_zero]
          refine wpAnyH_take (i := 11) (v := ?_) rfl (by kernel_rfl) (by kernel_rfl) (by kernel_rfl) (fun _ _ _ h => h) (Or.inl ⟨by rfl, ?_⟩) hHeld ?_
          rotate_left
          · (intro W' hSw; obtain ⟨s0, s1, s2, s3, s4, s5, s6⟩ := hSw; go_simp; try with_reducible rfl)
          try simp only [Act.put, List.setIfInBounds_toArray, List.set_cons_zero, List.set_cons_succ, List.getElem_toArray, List.getElem_cons_succ, List.getElem_cons_zero]
          refine wpAnyH_take (i := 12) (v := ?_) rfl (by kernel_rfl) (by kernel_rfl) (by kernel_rfl) (fun _ _ _ h => h) (Or.inl ⟨by rfl, ?_⟩) hHeld ?_
          rotate_left
          · (intro W' hSw; obtain ⟨s0, s1, s2, s3, s4, s5, s6⟩ := hSw; go_simp; try with_reducible rfl)
          try simp only [Act.put, List.setIfInBounds_toArray, List.set_cons_zero, List.set_cons_succ, List.getElem_toArray, List.getElem_cons_succ, List.getElem_cons_zero]
          refine wpAnyH_take (i := 13) (v := ?_) rfl (by kernel_rfl) (by kernel_rfl) (by kernel_rfl) (fun _ _ _ h => h) (Or.inl ⟨by rfl, ?_⟩) hHeld ?_
          rotate_left
          · (intro W' hSw; obtain ⟨s0, s1, s2, s3, s4, s5, s6⟩ := hSw; go_simp; try with_reducible rfl)
          try simp only [Act.put, List.setIfInBounds_toArray, List.set_cons_zero, List.set_cons_succ, List.getElem_toArray, List.getElem_cons_succ, List.getElem_cons_zero]
          refine wpAnyH_take (i := 14) (v := ?_) rfl (by kernel_rfl) (by kernel_rfl) (by kernel_rfl) (fun _ _ _ h => h) (Or.inl ⟨by rfl, ?_⟩) hHeld ?_
          rotate_left
          · (intro W' hSw; obtain ⟨s0, s1, s2, s3, s4, s5, s6⟩ := hSw; go_simp; try with_reducible rfl)
          try simp only [Act.put, List.setIfInBounds_toArray, List.set_cons_zero, List.set_cons_succ, List.getElem_toArray, List.getElem_cons_succ, List.getElem_cons_zero]
          refine wpAnyH_done (by kernel_rfl) ?_ _
          refine onlyN_normal ?_
          have PP := Lib.hid (POST.out _ hH)
          by_cases hmr : m < r
          · have BB := Lib.hid (BAD.out hmr)
            clear POST GOOD BAD
            gi_wp2
            exact ⟨PP.out.1.from _, ⟨rfl, BB.out⟩, PP.out.2.2⟩
          · have GG := Lib.hid (GOOD.out (by omega))
            clear POST GOOD BAD
            gi_wp2
            exact ⟨PP.out.1.from _, PP.out.2.1, GG.out, PP.out.2.2⟩
        case done =>
          rintro D ys W hD hys ⟨hst, hBW⟩ hK
          have hMW := hM5.below (by rw [hz5]; exact hBW)
          have hzW := hBW.size
          have hBW3 : Below w3.heap.size w3 W := hB5.trans (hBW.mono (by omega))
          have hM9 : Marks W (D :: ms) := ⟨hK, fun d hd => by have := hML d hd; omega, hMW⟩
          have hMB9 : ∀ d ∈ D :: ms, w3.heap.size ≤ d := fun d hd => by
            rcases List.mem_cons.1 hd with rfl | hd
            · omega
            · exact hMB d hd
          have hBiW := k0.below hBW (by omega)
          have d0 := hBiW.cell0
          have e1 : (N : Int) - 1 = ((N - 1 : Nat) : Int) := by omega
          have e2 : IntKind.i64.wrap ((N - 1 : Nat) : Int) = ((N - 1 : Nat) : Int) := by rw [IntKind.wrap_i64]; omega
          have HC2 : Hid (∀ a, a < i + 1 → ∀ t, okAt b a t → Q.getD a 0 ≤ (price t : Int) + Q.getD (a + tsz t) 0) := Lib.hid fun a ha t ht => by
            by_cases hai : a = i
            · subst hai
              obtain ⟨t', ht', hs1, hs2⟩ := chs_dom ht
              rw [← hys] at ht'
              obtain ⟨x, hx1, hx2⟩ := List.mem_map.1 ht'
              have := hst x hx1
              rw [hx2, hs1] at this
              omega
            · exact hcert.out a (by omega) t ht
          have HPV : Hid (((i : Int) == ((N - 1 : Nat) : Int)) = decide (0 < N ∧ i + 1 = N)) := Lib.hid (by
            by_cases he : i + 1 = N
            · rw [decide_eq_true (show 0 < N ∧ i + 1 = N from ⟨by omega, he⟩), beq_iff_eq]; omega
            · rw [decide_eq_false (fun h => he h.2), beq_eq_false_iff_ne]; omega)
          gi_wp2
          refine ⟨⟨i + 1, ((i : Int) == ((N - 1 : Nat) : Int)), _, _, _, _, _, _, _, _, _, _, _, _, D :: ms, hlt, rfl, HPV, HC2, hM9, hMB9, hBW3⟩, ?_⟩
          simp [intOf]
          omega
        case stop =>
          rintro D c' pre W hD _ ⟨⟨rfl, hbad⟩, hBW⟩ hK
          have hMW := hM5.below (by rw [hz5]; exact hBW)
          have hzW := hBW.size
          have hBW3 : Below w3.heap.size w3 W := hB5.trans (hBW.mono (by omega))
          have hM9 : Marks W (D :: ms) := ⟨hK, fun d hd => by have := hML d hd; omega, hMW⟩
          have hMB9 : ∀ d ∈ D :: ms, w3.heap.size ≤ d := fun d hd => by
            rcases List.mem_cons.1 hd with rfl | hd
            · omega
            · exact hMB d hd
          change Code.wpIn _ _ _ _ _ { tmps := _, defers := markL (D :: ms) } _
          have HNO : Hid (¬ CertOK b Q C) := Lib.hid fun h => by
            obtain ⟨t, ht1, ht2⟩ := hbad
            exact ht2 (h.2.2.1 i (by rw [HN.out]; exact hlt) t ht1)
          gi_wp2
          exact marks_leave (B := w.heap.size) (D :: ms) W hM9 (fun d hd => Nat.le_trans HB3.out.size (hMB9 d hd)) (fun W' hW' => ⟨_, results_tmp rfl _ _ _, 18, rfl, ⟨fun h => (by cases h), fun h => (HNO.out h).elim⟩, HB3.out.trans ((hBW3.mono HB3.out.size).trans hW')⟩)
      · obtain rfl : i = N := by omega
        have hlt' : ¬ (i : Int) < (i : Int) := by omega
        obtain ⟨q0, hq0⟩ : ∃ q0, Q.getD 0 0 = q0 := ⟨_, rfl⟩
        have HBr := Lib.hid hB
        have hBQ : Below w.heap.size w wr := HB3.out.trans (hB.mono HB3.out.size)
        have hp0 : pv = decide (0 < i) := by rw [hpv.out]; simp
        have v5 : (0 : Int) < (i : Int) + 1 := by omega
        have COST := Lib.hid (CST.out wr (HT.out.later hBQ))
        have HOK : Hid ((C : Int) = q0 → CertOK b Q C) := Lib.hid fun h => ⟨HANY.out, by rw [HN.out]; exact HQN.out, by rw [HN.out]; exact hcert.out, by rw [hq0]; exact h.symm⟩
        have HNO : Hid (¬ (C : Int) = q0 → ¬ CertOK b Q C) := Lib.hid fun h hc => h (by rw [← hq0]; exact hc.2.2.2.symm)
        have HQ0 : Hid (∀ W, Below w.heap.size w W → W.cell? ⟨bp, op, none⟩ = some (.int .i64 q0)) := Lib.hid fun W hW => by rw [← hq0]; exact HP.out W hW 0 (Nat.zero_le _)
        have HMB : Hid (∀ d ∈ ms, w.heap.size ≤ d) := Lib.hid fun d hd => Nat.le_trans HB3.out.size (hMB d hd)
        clear hB hq0 hcert hpv hMB
        by_cases hi0 : 0 < i
        · obtain rfl : pv = true := by rw [hp0]; exact decide_eq_true hi0
          clear hp0
          have hi0' : (0 : Int) < (i : Int) := by omega
          by_cases hCq : (C : Int) = q0
          · have HOK' := Lib.hid (HOK.out hCq)
            obtain rfl : q0 = (C : Int) := hCq.symm
            clear hCq HOK HNO
            gi_wp2_with (refine ⟨trivial, ?_⟩; gi_at_call 7; refine (callsIn_wide.2 COST.out).mono ?_; rintro en w6 ⟨rfl, hb6⟩; have d6 := (hGr.later hb6).cell0; have d7 := HQ0.out w6 (bsa hBQ hb6); have hM6 := hM.below hb6)
            exact marks_leave (B := w.heap.size) ms w6 hM6 HMB.out (fun W' hW' => ⟨_, results_tmp rfl _ _ _, 0, rfl, ⟨fun _ => HOK'.out, fun _ => rfl⟩, (bsa hBQ hb6).trans hW'⟩)
          · gi_wp2_with (refine ⟨trivial, ?_⟩; gi_at_call 7; refine (callsIn_wide.2 COST.out).mono ?_; rintro en w6 ⟨rfl, hb6⟩; have d6 := (hGr.later hb6).cell0; have d7 := HQ0.out w6 (bsa hBQ hb6); have hM6 := hM.below hb6)
            exact marks_leave (B := w.heap.size) ms w6 hM6 HMB.out (fun W' hW' => ⟨_, results_tmp rfl _ _ _, 23, rfl, ⟨fun h => (by cases h), fun h => (HNO.out hCq h).elim⟩, (bsa hBQ hb6).trans hW'⟩)
        · obtain rfl : pv = false := by rw [hp0]; exact decide_eq_false hi0
          clear hp0
          have hi0' : ¬ (0 : Int) < (i : Int) := by omega
          by_cases hCq : (C : Int) = q0
          · have HOK' := Lib.hid (HOK.out hCq)
            obtain rfl : q0 = (C : Int) := hCq.symm
            clear hCq HOK HNO
            gi_wp2_with (refine ⟨trivial, ?_⟩; gi_at_call 7; refine (callsIn_wide.2 COST.out).mono ?_; rintro en w6 ⟨rfl, hb6⟩; have d6 := (hGr.later hb6).cell0; have d7 := HQ0.out w6 (bsa hBQ hb6); have hM6 := hM.below hb6)
            exact marks_leave (B := w.heap.size) ms w6 hM6 HMB.out (fun W' hW' => ⟨_, results_tmp rfl _ _ _, 0, rfl, ⟨fun _ => HOK'.out, fun _ => rfl⟩, (bsa hBQ hb6).trans hW'⟩)
          · gi_wp2_with (refine ⟨trivial, ?_⟩; gi_at_call 7; refine (callsIn_wide.2 COST.out).mono ?_; rintro en w6 ⟨rfl, hb6⟩; have d6 := (hGr.later hb6).cell0; have d7 := HQ0.out w6 (bsa hBQ hb6); have hM6 := hM.below hb6)
            exact marks_leave (B := w.heap.size) ms w6 hM6 HMB.out (fun W' hW' => ⟨_, results_tmp rfl _ _ _, 23, rfl, ⟨fun h => (by cases h), fun h => (HNO.out hCq h).elim⟩, (bsa hBQ hb6).trans hW'⟩)
    · gi_wp2
      refine wpIn_scope_straight ?_
      gi_wp2_with (first
        | (refine ⟨trivial, ?_⟩; gi_at_call 9; refine (callsIn_wide.2 (EXP.out _ (HT.out.later hB0))).mono ?_; rintro en w1 ⟨A1, c1, rfl, hE1, _, _, hb1⟩; have hB1 := bsa hB0 hb1; have hk1 := hk0.later hb1)
        | (refine ⟨trivial, ?_⟩; gi_at_call 24; refine (callsIn_wide.2 (EQ.out _ _ _ hE1 (HS.out.later hB1))).mono ?_; rintro en w2 ⟨rfl, hb2⟩; have hB2 := bsa hB1 hb2; have hk2 := hk1.later hb2; have d2 := hk2.cell0)
        | (refine ⟨trivial, ?_⟩; gi_at_call 25; refine (callsIn_wide.2 (CON.out _ (HPS.out.later hB2))).mono ?_; rintro en w3 ⟨rfl, hb3⟩; have hB3 := bsa hB2 hb3; have hk3 := hk2.later hb3; have d3 := hk3.cell0; have d4 := HP.out _ hB3 N (Nat.le_refl _); rw [HQN.out] at d4))
      exact ⟨_, results_tmp rfl _ _ _, 3, rfl, ⟨fun h => (by cases h), fun h => by have := h.2.1; rw [HN.out, HQN.out] at this; exact (h0 this).elim⟩, hB3⟩
end Go.Proofs.Ytfahfbkkgcekgaa.H
