/- TopParseCertified: the potentials certify exactly the cheapest factorizations, and no numbers certify a dearer one. -/
import Derived.Test.YtfahfbkkgcekgaaYQ
import Derived.StillTailTactics
namespace Go.Proofs.Ytfahfbkkgcekgaa.H
set_option linter.unusedVariables false
set_option linter.unusedSimpArgs false
open Go Go.RowKit Go.Proofs.Ytfahfbkkgcekgaa Go.Proofs.Ytfahfbkkgcekgaa.W Go.Proofs.Ytfahfbkkgcekgaa.M

/-- The potentials, as Certify reads them. -/
def potQ (b : Bs) : List Int := (solv b b.length).1.map fun (n : Nat) => (n : Int)
theorem potQ_len (b : Bs) : (potQ b).length = b.length + 1 := by unfold potQ; rw [List.length_map, (solv_len b _).1]
theorem potQ_get (b : Bs) (k : Nat) : (potQ b).getD k 0 = (pot b k : Int) := by
  unfold potQ pot
  rw [List.getD_eq_getElem?_getD, List.getElem?_map, List.getD_eq_getElem?_getD]
  cases (solv b b.length).1[k]? <;> rfl
theorem pot_le (b : Bs) (k : Nat) : pot b k ≤ 9 * b.length := by
  have h := solv_le b b.length rfl b.length (Nat.le_refl _) k
  unfold potL at h
  rw [Nat.sub_self] at h
  exact h
theorem potQ_sl {w : World} {g : Nat} {b : Bs} {N : Nat} (hN : b.length = N) (h : NB w g (solv b N).1) : Sl zI w w.heap.size (some ⟨g, 0, none⟩) (potQ b) := by
  subst hN
  refine Sl.of_blk (t := 3) ?_
  have e : (potQ b).map zI = (solv b b.length).1.map i64 := by unfold potQ; rw [List.map_map]; rfl
  rw [e]; exact h
theorem any_bad {Q : List Int} (h : ∀ k, k < Q.length → 0 ≤ Q.getD k 0 ∧ Q.getD k 0 ≤ 589824) : Q.any bad = false := by
  cases he : Q.any bad with
  | false => rfl
  | true =>
    obtain ⟨x, hx, hb⟩ := List.any_eq_true.1 he
    obtain ⟨k, hk, rfl⟩ := List.getElem_of_mem hx
    have := h k hk
    rw [List.getD_eq_getElem?_getD, List.getElem?_eq_getElem hk] at this
    simp only [Option.getD_some] at this
    unfold bad at hb
    rw [Bool.or_eq_true, decide_eq_true_iff, decide_eq_true_iff] at hb
    omega
/-- The potentials certify the least cost, and it alone. -/
theorem cert_pot {b : Bs} (h6 : b.length ≤ 60) (C : Nat) : CertOK b (potQ b) C ↔ C = pot b 0 := by
  refine ⟨fun h => ?_, fun h => ⟨any_bad (fun k hk => ?_), ?_, fun a ha t ht => ?_, ?_⟩⟩
  · have := h.2.2.2
    rw [potQ_get] at this
    omega
  · rw [potQ_get]; have := pot_le b k; omega
  · rw [potQ_get, pot_end]; rfl
  · rw [potQ_get, potQ_get]
    obtain ⟨t', h1, h2, h3⟩ := chs_dom ht
    have := (pot_spec b ha).2.2 t' h1
    rw [h2] at this
    omega
  · rw [potQ_get, h]
/-- Whatever numbers certify a cost: none is less. -/
theorem cert_none {b : Bs} {Q : List Int} {C : Nat} (h : CertOK b Q C) : C ≤ pot b 0 := by
  have := cert_least b (fun k => Q.getD k 0) h.2.1 (fun a ha t ht => h.2.2.1 a ha t (chs_ok ha ht)) (opt b 0) 0 (opt_fac b).1
  rw [(opt_fac b).2] at this
  have h2 := h.2.2.2
  simp only [h2] at this
  omega
theorem zI_one (x : Int) : (zI x).oneCell' = true := rfl
theorem own_empty {w : World} {base : Nat} {t : TypeId} (hb : base ≤ w.heap.size) : (w.alloc (.cells #[] t)).ownsRow base t 1 (.slice (some ⟨w.heap.size, 0, none⟩) 0 0) 0 [] :=
  ⟨rfl, .inr ⟨w.heap.size, 0, #[], rfl, hb, heap_alloc_new _ _, Nat.le_refl _, by unfold maxLen; omega, rfl, rfl⟩⟩
theorem size_i16 (w : World) : (sizeOf 36).run Try.prog w = .ok 1 w := by
  obtain ⟨i, hi⟩ : ∃ i, Try.prog.info? 36 = some i := Option.isSome_iff_exists.1 (by kernel_rfl)
  have h1 : (Try.prog.info? 36).map (fun i => i.size) = some 1 := by kernel_rfl
  rw [hi] at h1
  simp at h1
  simp [sizeOf, typeInfo, hi, h1]
theorem ix_arr (g : Nat) (j : Nat) (hj : j < 2) (w : World) : (Instr.indexAt 37 (.pointer (some ⟨g, 0, none⟩)) (.int .i64 (j : Int))).run Try.prog w = .ok (.pointer (some ⟨g, j, none⟩)) w := by
  rw [run_indexAt_array (P := Try.prog) w 37 ⟨g, 0, none⟩ .i64 (j : Int) (by kernel_rfl)]
  rw [show Try.prog.arrayLen 37 = 2 by kernel_rfl, show Try.prog.elem 37 = 36 by kernel_rfl, if_pos ⟨by omega, by omega⟩, size_i16]
  show Result.ok (Value.pointer (some ((⟨g, 0, none⟩ : Addr).add ((j : Int).toNat * 1)))) w = _
  rw [Int.toNat_natCast, Nat.mul_one]
  unfold Addr.add
  by_cases h : j = 0 <;> simp [h]
theorem conv_i16 (x : Int) (hx : IntKind.i64.wrap x = x) (w : World) : (convert 36 3 (.int .i16 x)).run Try.prog w = .ok (.int .i64 x) w := by
  have h := run_convert_int (P := Try.prog) w 36 3 .i16 x (by kernel_rfl) (by kernel_rfl)
  rw [show Try.prog.intKind 3 = .i64 by kernel_rfl, hx] at h
  exact h
/-- A row of numbers of the call's own, and one of them overwritten. -/
theorem row_set {w : World} {base g N1 cap : Nat} {Q : List Int} (h : w.ownsRow base 3 1 (.slice (some ⟨g, 0, none⟩) N1 cap) N1 (Q.map zI)) :
    base ≤ g ∧ Q.length = N1 ∧ Sl zI w w.heap.size (some ⟨g, 0, none⟩) Q ∧ (∀ j, w.frozen? ⟨g, j, none⟩ = false) ∧ (∀ j, j < N1 → w.cell? ⟨g, j, none⟩ = some (.int .i64 (Q.getD j 0))) ∧
      ∀ j v, j < N1 → Sl zI (w.setCell ⟨g, j, none⟩ (.int .i64 v)) w.heap.size (some ⟨g, 0, none⟩) (Q.set j v) := by
  have hlen : Q.length = N1 := by have := h.1; rwa [List.length_map, Nat.mul_one] at this
  have hsl : Sl zI w w.heap.size (some ⟨g, 0, none⟩) Q := Sl.of_own h
  rcases h.2 with ⟨h1, _⟩ | ⟨g', cap', cur, hv, hg, hh, hn, _, hsz, htk⟩
  · cases h1
  · simp only [Value.slice.injEq, Option.some.injEq, Addr.mk.injEq, and_true, true_and] at hv
    obtain ⟨rfl, rfl⟩ := hv
    have hb : Blk w g 3 cur := hh
    rw [Nat.mul_one] at htk hsz
    refine ⟨hg, hlen, hsl, fun j => hb.frozen j, fun j hj => ?_, fun j v hj _ => ⟨g, 0, rfl, hb.lt, fun k y hy => ?_⟩⟩
    · obtain ⟨p, q, y, e1, _, e2, e3⟩ := hsl.at_ (j := j) (by omega)
      simp only [Option.some.injEq, Addr.mk.injEq, and_true] at e1
      obtain ⟨rfl, rfl⟩ := e1
      rw [Nat.zero_add] at e3
      rw [e3, List.getD_eq_getElem?_getD, e2]; rfl
    · rw [Nat.zero_add, (hb.store j _).cell k]
      have hk : k < Q.length := by have := (List.getElem?_eq_some_iff.1 hy).1; rwa [List.length_set] at this
      by_cases hkj : k = j
      · subst hkj
        rw [List.getElem?_set_self hk] at hy
        injection hy with hy
        subst hy
        rw [Array.getElem?_setIfInBounds, if_pos rfl, if_pos (by omega)]; rfl
      · rw [List.getElem?_set_ne (fun e => hkj e.symm)] at hy
        rw [Array.getElem?_setIfInBounds, if_neg (fun e => hkj e.symm)]
        have e1 : (Q.map zI)[k]? = some (zI y) := by rw [List.getElem?_map, hy]; rfl
        rw [← htk, List.getElem?_take, if_pos (by omega)] at e1
        simpa using e1
theorem neq_bool (x y : Bool) (w : World) : (binOp .neq 4 (.bool x) (.bool y)).run Try.prog w = .ok (.bool (x != y)) w := by
  simp [binOp]
  cases x <;> cases y <;> kernel_rfl
set_option maxRecDepth 100000 in
set_option maxHeartbeats 4000000 in
theorem certified_walk (A : Option Addr) (c : Nat) (b : List UInt8) (A' : Option Addr) (c' : Nat) (ps : List UInt8) (x y : Int) (w : World) (hS : Sl u8 w w.heap.size A b) (hc : b.length ≤ c) (hm : c ≤ maxLen) (hS' : Sl u8 w w.heap.size A' ps) (hc' : ps.length ≤ c') (hm' : c' ≤ maxLen) (hx1 : -32768 ≤ x) (hx2 : x ≤ 32767) (hy1 : -32768 ≤ y) (hy2 : y ≤ 32767) :
    Calls Try.prog 4 #[.slice A b.length c, .slice A' ps.length c', .agg #[.int .i16 x, .int .i16 y]] w fun e w' => e = .returned (.bool true) ∧ Below w.heap.size w w' := by
  obtain ⟨N, hN⟩ : ∃ N, b.length = N := ⟨_, rfl⟩
  obtain ⟨p, hp⟩ : ∃ p, ps.length = p := ⟨_, rfl⟩
  rw [hN, hp]
  have hk0 : Blk (w.alloc (.cells #[.int .i16 x, .int .i16 y] 37)) w.heap.size 37 #[.int .i16 x, .int .i16 y] := Blk.new _ _ _
  have hB0 : Below w.heap.size w (w.alloc (.cells #[.int .i16 x, .int .i16 y] 37)) := (Below.refl _ _).alloc (Nat.le_refl _) _
  have CP := Lib.hid (fun W => parsed_ok W)
  have BN := neq_bool
  have ix0 : ∀ (g : Nat) (w : World), (Instr.indexAt 37 (.pointer (some ⟨g, 0, none⟩)) (.int .i64 0)).run Try.prog w = .ok (.pointer (some ⟨g, 0, none⟩)) w := fun g w => ix_arr g 0 (by decide) w
  have ix1 : ∀ (g : Nat) (w : World), (Instr.indexAt 37 (.pointer (some ⟨g, 0, none⟩)) (.int .i64 1)).run Try.prog w = .ok (.pointer (some ⟨g, 1, none⟩)) w := fun g w => ix_arr g 1 (by decide) w
  have ux : IntKind.i64.wrap x = x := by rw [IntKind.wrap_i64]; omega
  have uy : IntKind.i64.wrap y = y := by rw [IntKind.wrap_i64]; omega
  clear hc hm hc' hm'
  have cx := fun w => conv_i16 x ux w
  have cy := fun w => conv_i16 y uy w
  by_cases h6 : N ≤ 60 ∧ p ≤ 60
  · obtain ⟨hN6, hp6⟩ := h6
    have v1 : ¬ (60 : Int) < (N : Int) := by omega
    have v2 : ¬ (60 : Int) < (p : Int) := by omega
    obtain ⟨i0, hi, hz0, hz1, hz2⟩ := info_parts infoI
    have CF := Lib.hid (fun W h1 h2 => caseFactor_ok b ps N p hN hN6 hp hp6 A A' c c' W h1 h2)
    have COST := Lib.hid (fun A c n l (hl : l.length = n) (hF : Fac b 0 l) C (hC : cost l = C) W h => Cost_ok b N hN (by omega) A n c l hl hF C hC W h)
    obtain ⟨ob, hob⟩ : ∃ ob, opt b 0 = ob := ⟨_, rfl⟩
    obtain ⟨k, hk⟩ : ∃ k, ob.length = k := ⟨_, rfl⟩
    obtain ⟨n, hn⟩ : ∃ n, pot b 0 = n := ⟨_, rfl⟩
    have OPT := Lib.hid (fun W h => Optimal_ok b N hN (by omega) A c ob k n hob hk hn W h)
    have POT := Lib.hid (fun W h => Potentials_ok b N hN (by omega) A c W h)
    have CERT := Lib.hid (fun AT n ct l hl hF C hC AP cp Q hQ W h1 h2 h3 => Certify_ok b N hN hN6 A AT c n ct l hl hF C hC AP cp Q hQ W h1 h2 h3)
    have CPOT : Hid (∀ C, CertOK b (potQ b) C ↔ C = n) := Lib.hid (fun C => by rw [← hn]; exact cert_pot (by omega) C)
    have CNONE : Hid (∀ Q C, CertOK b Q C → C ≤ n) := Lib.hid (fun Q C h => by rw [← hn]; exact cert_none h)
    have hof := opt_fac b
    rw [hob, hn] at hof
    have HOF := Lib.hid hof
    have LEAST := Lib.hid (fun l hF => pot_least b l 0 hF)
    rw [hn] at LEAST
    have HK := Lib.hid hk
    have HS := Lib.hid hS
    have HS' := Lib.hid hS'
    have HP0 : Hid (∀ W g, NB W g (solv b N).1 → W.cell? ⟨g, 0, none⟩ = some (.int .i64 (n : Int))) := Lib.hid fun W g h => by
      have := h.at_ (i := 0) (by rw [(solv_len b N).1]; omega)
      have e : (solv b N).1.getD 0 0 = n := by rw [← hn]; unfold pot; rw [hN]
      rwa [e] at this
    have PSL : Hid (∀ W g, NB W g (solv b N).1 → Sl zI W W.heap.size (some ⟨g, 0, none⟩) (potQ b)) := Lib.hid fun W g h => potQ_sl hN h
    have hql : (potQ b).length = N + 1 := by rw [potQ_len, hN]
    have HPQ : Hid (∀ j, 0 ≤ (potQ b).getD j 0 ∧ (potQ b).getD j 0 ≤ 540) := Lib.hid fun j => by rw [potQ_get]; have := pot_le b j; omega
    have HQL := Lib.hid hql
    have v0 : (0 : Int) < (N : Int) + 1 := by omega
    clear hof hk hn hob hN hp hS hS' hql
    go_enter Try.func4, Try.ntmps4
    go_wp2_with (go_at_call 6; refine (CF.out _ (HS.out.later hB0) (HS'.out.later hB0)).mono ?_; rintro e w1 ⟨A1, c1, k1, l, rfl, hl, hF, hT1, _, _, hb1⟩; obtain ⟨C, hC⟩ : ∃ C, cost l = C := ⟨_, rfl⟩; have hnC := LEAST.out l hF; rw [hC] at hnC; have HLL := Lib.hid hl; have HFL := Lib.hid hF; have HC := Lib.hid hC; clear hl hF hC; have hB1 := bsa hB0 hb1; have hk1 := hk0.later hb1)
    by_cases hx0 : 0 ≤ x
    · obtain ⟨X, rfl⟩ : ∃ X : Nat, x = (X : Int) := ⟨x.toNat, by omega⟩
      by_cases hCn : C = n
      · refine (COST.out _ _ _ _ HLL.out HFL.out _ HC.out _ hT1).mono ?_
        rintro e w2 ⟨rfl, hb2⟩
        have hB2 := bsa hB1 hb2
        have hk2 := hk1.later hb2
        have hT2 := hT1.later hb2
        have HCn := Lib.hid hCn
        clear hCn hnC
        obtain rfl := HCn.out
        go_wp2_with (first
          | (at_builtin; refine wpList_append_sl _ zI_one rfl _ _ 38 rfl w6.heap.size 3 i0 (.int .i64 0) 8 Try.underlying38 hi hz0 hz1 hz2 rfl (.slice (some ⟨w6.heap.size, 0, none⟩) 0 0) 0 [] rfl (own_empty (Nat.le_refl _)) _ _ _ (potQ b) (N + 1) rfl (PSL.out _ _ (Blk.alloc hN6' _)) HQL.out (by unfold maxLen; omega) (by omega) (by simp) ?_; intro v7 w7 o7 g7; have hb7 : Below w6.heap.size w6 w7 := ((Below.refl _ w6).alloc (Nat.le_refl _) _).grown g7 (by simp) (fun j hj => (by simp [Value.ownBlock] at hj; omega)); have hB7 := bsa hB6 hb7; have hk7 := hk6.later hb7; have hT7 := hT6.later hb7; clear g7; simp only [Nat.zero_add, List.nil_append] at o7; obtain ⟨g7, c7, rfl⟩ := ownsRow_succ o7; have q0 : w7.cell? ⟨w.heap.size, 0, none⟩ = some (.int .i16 (X : Int)) := hk7.cell 0; have q1 : w7.cell? ⟨w.heap.size, 1, none⟩ = some (.int .i16 y) := hk7.cell 1; (try simp only [Act.put, List.setIfInBounds_toArray, List.set_cons_zero, List.set_cons_succ, List.getElem_toArray, List.getElem_cons_succ, List.getElem_cons_zero]))
          | (go_at_call 15; refine (CERT.out _ _ _ _ HLL.out HFL.out _ HC.out _ _ _ HQL.out _ (HS.out.later hB5) hT5 (PSL.out _ _ hN5)).mono ?_; rintro e w6 ⟨er2, rfl, hiff, hb6⟩; obtain rfl : er2 = 0 := hiff.2 ((CPOT.out _).2 rfl); clear hiff; have hB6 := bsa hB5 hb6; have hk6 := hk5.later hb6; have hN6' := hN5.later hb6; have hT6 := hT5.later hb6; clear hT5)
          | (go_at_call 15; refine (CERT.out _ _ _ _ HK.out HOF.out.1 _ HOF.out.2 _ _ _ HQL.out _ (HS.out.later hB4) ((fun _ => hO3.later hb4) hT4) (PSL.out _ _ hN4)).mono ?_; rintro e w5 ⟨er1, rfl, hiff, hb5⟩; obtain rfl : er1 = 0 := hiff.2 ((CPOT.out _).2 rfl); clear hiff; have hB5 := bsa hB4 hb5; have hk5 := hk4.later hb5; have hN5 := hN4.later hb5; have hT5 := hT4.later hb5; clear hT4)
          | (go_at_call 14; refine (POT.out _ (HS.out.later hB3)).mono ?_; rintro e w4 ⟨gp, rfl, hN4, _, hb4⟩; have hB4 := bsa hB3 hb4; have hk4 := hk3.later hb4; have hT4 := hT3.later hb4; have p4 := HP0.out _ _ hN4)
          | (go_at_call 10; refine (OPT.out _ (HS.out.later hB2)).mono ?_; rintro e w3 ⟨A3, c3, rfl, hO3, _, _, hb3⟩; have hB3 := bsa hB2 hb3; have hk3 := hk2.later hb3; have hT3 := hT2.later hb3))
        obtain ⟨hg7, _, _, hfz, hcl, hset⟩ := row_set o7
        obtain ⟨j, hj⟩ : ∃ j, X % (N + 1) = j := ⟨_, rfl⟩
        have hjN : j < N + 1 := by rw [← hj]; exact Nat.mod_lt _ (by omega)
        have hjm : Int.tmod (X : Int) ((N : Int) + 1) = (j : Int) := by rw [← hj]; rfl
        have hz8 : ((N : Int) + 1 == 0) = false := by rw [beq_eq_false_iff_ne]; omega
        have hz9 : ¬ ((N : Int) + 1 = 0) := by omega
        have hjI : (j : Int) < (N : Int) + 1 := by omega
        obtain ⟨qj, hqj⟩ : ∃ qj, (potQ b).getD j 0 = qj := ⟨_, rfl⟩
        have hq6 : 0 ≤ qj ∧ qj ≤ 540 := by rw [← hqj]; exact HPQ.out j
        have ky := hcl j hjN
        rw [hqj] at ky
        have fy := hfz j
        obtain ⟨sm, hsm⟩ : ∃ sm, qj + y = sm := ⟨_, rfl⟩
        have us : IntKind.i64.wrap sm = sm := by rw [IntKind.wrap_i64]; omega
        have SL8 := Lib.hid (hset j sm hjN)
        have hbs : Below w6.heap.size w7 (w7.setCell ⟨g7, j, none⟩ (.int .i64 sm)) := (Below.refl _ w7).setCell (p := ⟨g7, j, none⟩) hg7 _
        have HB8 : Hid (Below w6.heap.size w6 (w7.setCell ⟨g7, j, none⟩ (.int .i64 sm))) := Lib.hid (hb7.trans hbs)
        have hql8 : ((potQ b).set j sm).length = N + 1 := by rw [List.length_set]; exact HQL.out
        have HQL8 := Lib.hid hql8
        clear hset hfz hcl hj hqj hbs hql8 o7
        try simp only [List.getElem?_cons_zero, Option.getD_some]
        go_still_tail 12, (by kernel_rfl)
        change wpList _ _ _ _ _ w7.drew
        have ky' : w7.drew.cell? ⟨g7, j, none⟩ = some (.int .i64 qj) := ky
        have fy' : w7.drew.frozen? ⟨g7, j, none⟩ = false := fy
        go_wp2_with fail
        have hB8 : Below w.heap.size w (w7.setCell ⟨g7, j, none⟩ (.int .i64 sm)).drew := (bsa hB6 HB8.out).drew
        have hT8 : SlT (w7.setCell ⟨g7, j, none⟩ (.int .i64 sm)).drew (w7.setCell ⟨g7, j, none⟩ (.int .i64 sm)).drew.heap.size A1 l := (hT6.later HB8.out.drew)
        have hS8 : Sl zI (w7.setCell ⟨g7, j, none⟩ (.int .i64 sm)).drew (w7.setCell ⟨g7, j, none⟩ (.int .i64 sm)).drew.heap.size (some ⟨g7, 0, none⟩) ((potQ b).set j sm) := SL8.out.more (by simp)
        refine (CERT.out _ _ _ _ HLL.out HFL.out _ HC.out _ _ _ HQL8.out _ (HS.out.later hB8) hT8 hS8).mono ?_
        rintro e w9 ⟨er3, rfl, hiff3, hb9⟩
        have hB9 := bsa hB8 hb9
        by_cases h3 : er3 = 0
        · subst h3
          clear hiff3
          go_wp2_with (go_at_call 5; refine (CP.out _).mono ?_; rintro e wA ⟨rfl, hbA⟩)
          go_ret
          exact ⟨rfl, bsa hB9 hbA⟩
        · have h3' : (er3 == 0) = false := by rw [beq_eq_false_iff_ne]; exact h3
          have h3a : (er3 != 0) = true := by rw [bne_iff_ne]; exact h3
          have h3b : decide (er3 = 0) = false := decide_eq_false h3
          clear hiff3
          go_wp2_with (go_at_call 5; refine (CP.out _).mono ?_; rintro e wA ⟨rfl, hbA⟩)
          go_ret
          exact ⟨rfl, bsa hB9 hbA⟩
      · refine (COST.out _ _ _ _ HLL.out HFL.out _ HC.out _ hT1).mono ?_
        rintro e w2 ⟨rfl, hb2⟩
        have hB2 := bsa hB1 hb2
        have hk2 := hk1.later hb2
        have hT2 := hT1.later hb2
        have cn1 : ¬ (C : Int) = (n : Int) := by omega
        have cn2 : ((C : Int) == (n : Int)) = false := by rw [beq_eq_false_iff_ne]; exact cn1
        have HNC := Lib.hid hnC
        have HNE := Lib.hid hCn
        clear hnC hCn
        go_wp2_with (first
          | (at_builtin; refine wpList_append_sl _ zI_one rfl _ _ 38 rfl w6.heap.size 3 i0 (.int .i64 0) 8 Try.underlying38 hi hz0 hz1 hz2 rfl (.slice (some ⟨w6.heap.size, 0, none⟩) 0 0) 0 [] rfl (own_empty (Nat.le_refl _)) _ _ _ (potQ b) (N + 1) rfl (PSL.out _ _ (Blk.alloc hN6' _)) HQL.out (by unfold maxLen; omega) (by omega) (by simp) ?_; intro v7 w7 o7 g7; have hb7 : Below w6.heap.size w6 w7 := ((Below.refl _ w6).alloc (Nat.le_refl _) _).grown g7 (by simp) (fun j hj => (by simp [Value.ownBlock] at hj; omega)); have hB7 := bsa hB6 hb7; have hk7 := hk6.later hb7; have hT7 := hT6.later hb7; clear g7; simp only [Nat.zero_add, List.nil_append] at o7; obtain ⟨g7, c7, rfl⟩ := ownsRow_succ o7; have q0 : w7.cell? ⟨w.heap.size, 0, none⟩ = some (.int .i16 (X : Int)) := hk7.cell 0; have q1 : w7.cell? ⟨w.heap.size, 1, none⟩ = some (.int .i16 y) := hk7.cell 1; (try simp only [Act.put, List.setIfInBounds_toArray, List.set_cons_zero, List.set_cons_succ, List.getElem_toArray, List.getElem_cons_succ, List.getElem_cons_zero]))
          | (go_at_call 15; refine (CERT.out _ _ _ _ HLL.out HFL.out _ HC.out _ _ _ HQL.out _ (HS.out.later hB5) hT5 (PSL.out _ _ hN5)).mono ?_; rintro e w6 ⟨er2, rfl, hiff, hb6⟩; have her2 : ¬ er2 = 0 := fun h => HNE.out ((CPOT.out _).1 (hiff.1 h)); have her2' : (er2 == 0) = false := (by rw [beq_eq_false_iff_ne]; exact her2); clear hiff; have hB6 := bsa hB5 hb6; have hk6 := hk5.later hb6; have hN6' := hN5.later hb6; have hT6 := hT5.later hb6; clear hT5)
          | (go_at_call 15; refine (CERT.out _ _ _ _ HK.out HOF.out.1 _ HOF.out.2 _ _ _ HQL.out _ (HS.out.later hB4) ((fun _ => hO3.later hb4) hT4) (PSL.out _ _ hN4)).mono ?_; rintro e w5 ⟨er1, rfl, hiff, hb5⟩; obtain rfl : er1 = 0 := hiff.2 ((CPOT.out _).2 rfl); clear hiff; have hB5 := bsa hB4 hb5; have hk5 := hk4.later hb5; have hN5 := hN4.later hb5; have hT5 := hT4.later hb5; clear hT4)
          | (go_at_call 14; refine (POT.out _ (HS.out.later hB3)).mono ?_; rintro e w4 ⟨gp, rfl, hN4, _, hb4⟩; have hB4 := bsa hB3 hb4; have hk4 := hk3.later hb4; have hT4 := hT3.later hb4; have p4 := HP0.out _ _ hN4)
          | (go_at_call 10; refine (OPT.out _ (HS.out.later hB2)).mono ?_; rintro e w3 ⟨A3, c3, rfl, hO3, _, _, hb3⟩; have hB3 := bsa hB2 hb3; have hk3 := hk2.later hb3; have hT3 := hT2.later hb3))
        obtain ⟨hg7, _, _, hfz, hcl, hset⟩ := row_set o7
        obtain ⟨j, hj⟩ : ∃ j, X % (N + 1) = j := ⟨_, rfl⟩
        have hjN : j < N + 1 := by rw [← hj]; exact Nat.mod_lt _ (by omega)
        have hjm : Int.tmod (X : Int) ((N : Int) + 1) = (j : Int) := by rw [← hj]; rfl
        have hz8 : ((N : Int) + 1 == 0) = false := by rw [beq_eq_false_iff_ne]; omega
        have hz9 : ¬ ((N : Int) + 1 = 0) := by omega
        have hjI : (j : Int) < (N : Int) + 1 := by omega
        obtain ⟨qj, hqj⟩ : ∃ qj, (potQ b).getD j 0 = qj := ⟨_, rfl⟩
        have hq6 : 0 ≤ qj ∧ qj ≤ 540 := by rw [← hqj]; exact HPQ.out j
        have ky := hcl j hjN
        rw [hqj] at ky
        have fy := hfz j
        obtain ⟨sm, hsm⟩ : ∃ sm, qj + y = sm := ⟨_, rfl⟩
        have us : IntKind.i64.wrap sm = sm := by rw [IntKind.wrap_i64]; omega
        have SL8 := Lib.hid (hset j sm hjN)
        have hbs : Below w6.heap.size w7 (w7.setCell ⟨g7, j, none⟩ (.int .i64 sm)) := (Below.refl _ w7).setCell (p := ⟨g7, j, none⟩) hg7 _
        have HB8 : Hid (Below w6.heap.size w6 (w7.setCell ⟨g7, j, none⟩ (.int .i64 sm))) := Lib.hid (hb7.trans hbs)
        have hql8 : ((potQ b).set j sm).length = N + 1 := by rw [List.length_set]; exact HQL.out
        have HQL8 := Lib.hid hql8
        clear hset hfz hcl hj hqj hbs hql8 o7
        try simp only [List.getElem?_cons_zero, Option.getD_some]
        go_still_tail 12, (by kernel_rfl)
        change wpList _ _ _ _ _ w7.drew
        have ky' : w7.drew.cell? ⟨g7, j, none⟩ = some (.int .i64 qj) := ky
        have fy' : w7.drew.frozen? ⟨g7, j, none⟩ = false := fy
        go_wp2_with fail
        have hB8 : Below w.heap.size w (w7.setCell ⟨g7, j, none⟩ (.int .i64 sm)).drew := (bsa hB6 HB8.out).drew
        have hT8 : SlT (w7.setCell ⟨g7, j, none⟩ (.int .i64 sm)).drew (w7.setCell ⟨g7, j, none⟩ (.int .i64 sm)).drew.heap.size A1 l := (hT6.later HB8.out.drew)
        have hS8 : Sl zI (w7.setCell ⟨g7, j, none⟩ (.int .i64 sm)).drew (w7.setCell ⟨g7, j, none⟩ (.int .i64 sm)).drew.heap.size (some ⟨g7, 0, none⟩) ((potQ b).set j sm) := SL8.out.more (by simp)
        refine (CERT.out _ _ _ _ HLL.out HFL.out _ HC.out _ _ _ HQL8.out _ (HS.out.later hB8) hT8 hS8).mono ?_
        rintro e w9 ⟨er3, rfl, hiff3, hb9⟩
        have hB9 := bsa hB8 hb9
        have h3 : ¬ er3 = 0 := fun h => HNE.out (Nat.le_antisymm (CNONE.out _ _ (hiff3.1 h)) HNC.out)
        have h3' : (er3 == 0) = false := by rw [beq_eq_false_iff_ne]; exact h3
        have h3a : (er3 != 0) = true := by rw [bne_iff_ne]; exact h3
        have h3b : decide (er3 = 0) = false := decide_eq_false h3
        clear hiff3
        go_wp2_with (go_at_call 5; refine (CP.out _).mono ?_; rintro e wA ⟨rfl, hbA⟩)
        go_ret
        exact ⟨rfl, bsa hB9 hbA⟩
    · by_cases hCn : C = n
      · refine (COST.out _ _ _ _ HLL.out HFL.out _ HC.out _ hT1).mono ?_
        rintro e w2 ⟨rfl, hb2⟩
        have hB2 := bsa hB1 hb2
        have hk2 := hk1.later hb2
        have hT2 := hT1.later hb2
        have HCn := Lib.hid hCn
        clear hCn hnC
        obtain rfl := HCn.out
        go_wp2_with (first
          | (at_builtin; refine wpList_append_sl _ zI_one rfl _ _ 38 rfl w6.heap.size 3 i0 (.int .i64 0) 8 Try.underlying38 hi hz0 hz1 hz2 rfl (.slice (some ⟨w6.heap.size, 0, none⟩) 0 0) 0 [] rfl (own_empty (Nat.le_refl _)) _ _ _ (potQ b) (N + 1) rfl (PSL.out _ _ (Blk.alloc hN6' _)) HQL.out (by unfold maxLen; omega) (by omega) (by simp) ?_; intro v7 w7 o7 g7; have hb7 : Below w6.heap.size w6 w7 := ((Below.refl _ w6).alloc (Nat.le_refl _) _).grown g7 (by simp) (fun j hj => (by simp [Value.ownBlock] at hj; omega)); have hB7 := bsa hB6 hb7; have hk7 := hk6.later hb7; have hT7 := hT6.later hb7; clear g7; simp only [Nat.zero_add, List.nil_append] at o7; obtain ⟨g7, c7, rfl⟩ := ownsRow_succ o7; have q0 : w7.cell? ⟨w.heap.size, 0, none⟩ = some (.int .i16 x) := hk7.cell 0; have q1 : w7.cell? ⟨w.heap.size, 1, none⟩ = some (.int .i16 y) := hk7.cell 1; (try simp only [Act.put, List.setIfInBounds_toArray, List.set_cons_zero, List.set_cons_succ, List.getElem_toArray, List.getElem_cons_succ, List.getElem_cons_zero]))
          | (go_at_call 15; refine (CERT.out _ _ _ _ HLL.out HFL.out _ HC.out _ _ _ HQL.out _ (HS.out.later hB5) hT5 (PSL.out _ _ hN5)).mono ?_; rintro e w6 ⟨er2, rfl, hiff, hb6⟩; obtain rfl : er2 = 0 := hiff.2 ((CPOT.out _).2 rfl); clear hiff; have hB6 := bsa hB5 hb6; have hk6 := hk5.later hb6; have hN6' := hN5.later hb6; have hT6 := hT5.later hb6; clear hT5)
          | (go_at_call 15; refine (CERT.out _ _ _ _ HK.out HOF.out.1 _ HOF.out.2 _ _ _ HQL.out _ (HS.out.later hB4) ((fun _ => hO3.later hb4) hT4) (PSL.out _ _ hN4)).mono ?_; rintro e w5 ⟨er1, rfl, hiff, hb5⟩; obtain rfl : er1 = 0 := hiff.2 ((CPOT.out _).2 rfl); clear hiff; have hB5 := bsa hB4 hb5; have hk5 := hk4.later hb5; have hN5 := hN4.later hb5; have hT5 := hT4.later hb5; clear hT4)
          | (go_at_call 14; refine (POT.out _ (HS.out.later hB3)).mono ?_; rintro e w4 ⟨gp, rfl, hN4, _, hb4⟩; have hB4 := bsa hB3 hb4; have hk4 := hk3.later hb4; have hT4 := hT3.later hb4; have p4 := HP0.out _ _ hN4)
          | (go_at_call 10; refine (OPT.out _ (HS.out.later hB2)).mono ?_; rintro e w3 ⟨A3, c3, rfl, hO3, _, _, hb3⟩; have hB3 := bsa hB2 hb3; have hk3 := hk2.later hb3; have hT3 := hT2.later hb3))
        obtain ⟨_, _, hS7, _, _, _⟩ := row_set o7
        refine (CERT.out _ _ _ _ HLL.out HFL.out _ HC.out _ _ _ HQL.out _ (HS.out.later hB7) hT7 hS7).mono ?_
        rintro e w9 ⟨er3, rfl, hiff3, hb9⟩
        have hB9 := bsa hB7 hb9
        by_cases h3 : er3 = 0
        · subst h3
          clear hiff3
          go_wp2_with (go_at_call 5; refine (CP.out _).mono ?_; rintro e wA ⟨rfl, hbA⟩)
          go_ret
          exact ⟨rfl, bsa hB9 hbA⟩
        · have h3' : (er3 == 0) = false := by rw [beq_eq_false_iff_ne]; exact h3
          have h3a : (er3 != 0) = true := by rw [bne_iff_ne]; exact h3
          have h3b : decide (er3 = 0) = false := decide_eq_false h3
          clear hiff3
          go_wp2_with (go_at_call 5; refine (CP.out _).mono ?_; rintro e wA ⟨rfl, hbA⟩)
          go_ret
          exact ⟨rfl, bsa hB9 hbA⟩
      · refine (COST.out _ _ _ _ HLL.out HFL.out _ HC.out _ hT1).mono ?_
        rintro e w2 ⟨rfl, hb2⟩
        have hB2 := bsa hB1 hb2
        have hk2 := hk1.later hb2
        have hT2 := hT1.later hb2
        have cn1 : ¬ (C : Int) = (n : Int) := by omega
        have cn2 : ((C : Int) == (n : Int)) = false := by rw [beq_eq_false_iff_ne]; exact cn1
        have HNC := Lib.hid hnC
        have HNE := Lib.hid hCn
        clear hnC hCn
        go_wp2_with (first
          | (at_builtin; refine wpList_append_sl _ zI_one rfl _ _ 38 rfl w6.heap.size 3 i0 (.int .i64 0) 8 Try.underlying38 hi hz0 hz1 hz2 rfl (.slice (some ⟨w6.heap.size, 0, none⟩) 0 0) 0 [] rfl (own_empty (Nat.le_refl _)) _ _ _ (potQ b) (N + 1) rfl (PSL.out _ _ (Blk.alloc hN6' _)) HQL.out (by unfold maxLen; omega) (by omega) (by simp) ?_; intro v7 w7 o7 g7; have hb7 : Below w6.heap.size w6 w7 := ((Below.refl _ w6).alloc (Nat.le_refl _) _).grown g7 (by simp) (fun j hj => (by simp [Value.ownBlock] at hj; omega)); have hB7 := bsa hB6 hb7; have hk7 := hk6.later hb7; have hT7 := hT6.later hb7; clear g7; simp only [Nat.zero_add, List.nil_append] at o7; obtain ⟨g7, c7, rfl⟩ := ownsRow_succ o7; have q0 : w7.cell? ⟨w.heap.size, 0, none⟩ = some (.int .i16 x) := hk7.cell 0; have q1 : w7.cell? ⟨w.heap.size, 1, none⟩ = some (.int .i16 y) := hk7.cell 1; (try simp only [Act.put, List.setIfInBounds_toArray, List.set_cons_zero, List.set_cons_succ, List.getElem_toArray, List.getElem_cons_succ, List.getElem_cons_zero]))
          | (go_at_call 15; refine (CERT.out _ _ _ _ HLL.out HFL.out _ HC.out _ _ _ HQL.out _ (HS.out.later hB5) hT5 (PSL.out _ _ hN5)).mono ?_; rintro e w6 ⟨er2, rfl, hiff, hb6⟩; have her2 : ¬ er2 = 0 := fun h => HNE.out ((CPOT.out _).1 (hiff.1 h)); have her2' : (er2 == 0) = false := (by rw [beq_eq_false_iff_ne]; exact her2); clear hiff; have hB6 := bsa hB5 hb6; have hk6 := hk5.later hb6; have hN6' := hN5.later hb6; have hT6 := hT5.later hb6; clear hT5)
          | (go_at_call 15; refine (CERT.out _ _ _ _ HK.out HOF.out.1 _ HOF.out.2 _ _ _ HQL.out _ (HS.out.later hB4) ((fun _ => hO3.later hb4) hT4) (PSL.out _ _ hN4)).mono ?_; rintro e w5 ⟨er1, rfl, hiff, hb5⟩; obtain rfl : er1 = 0 := hiff.2 ((CPOT.out _).2 rfl); clear hiff; have hB5 := bsa hB4 hb5; have hk5 := hk4.later hb5; have hN5 := hN4.later hb5; have hT5 := hT4.later hb5; clear hT4)
          | (go_at_call 14; refine (POT.out _ (HS.out.later hB3)).mono ?_; rintro e w4 ⟨gp, rfl, hN4, _, hb4⟩; have hB4 := bsa hB3 hb4; have hk4 := hk3.later hb4; have hT4 := hT3.later hb4; have p4 := HP0.out _ _ hN4)
          | (go_at_call 10; refine (OPT.out _ (HS.out.later hB2)).mono ?_; rintro e w3 ⟨A3, c3, rfl, hO3, _, _, hb3⟩; have hB3 := bsa hB2 hb3; have hk3 := hk2.later hb3; have hT3 := hT2.later hb3))
        obtain ⟨_, _, hS7, _, _, _⟩ := row_set o7
        refine (CERT.out _ _ _ _ HLL.out HFL.out _ HC.out _ _ _ HQL.out _ (HS.out.later hB7) hT7 hS7).mono ?_
        rintro e w9 ⟨er3, rfl, hiff3, hb9⟩
        have hB9 := bsa hB7 hb9
        have h3 : ¬ er3 = 0 := fun h => HNE.out (Nat.le_antisymm (CNONE.out _ _ (hiff3.1 h)) HNC.out)
        have h3' : (er3 == 0) = false := by rw [beq_eq_false_iff_ne]; exact h3
        have h3a : (er3 != 0) = true := by rw [bne_iff_ne]; exact h3
        have h3b : decide (er3 = 0) = false := decide_eq_false h3
        clear hiff3
        go_wp2_with (go_at_call 5; refine (CP.out _).mono ?_; rintro e wA ⟨rfl, hbA⟩)
        go_ret
        exact ⟨rfl, bsa hB9 hbA⟩
  · clear hS hS'
    by_cases h1 : N ≤ 60
    · have v1 : ¬ (60 : Int) < (N : Int) := by omega
      have v2 : (60 : Int) < (p : Int) := by omega
      go_enter Try.func4, Try.ntmps4
      go_wp2_with (go_at_call 5; refine (CP.out _).mono ?_; rintro e wA ⟨rfl, hbA⟩)
      go_ret
      exact ⟨rfl, bsa hB0 hbA⟩
    · have v1 : (60 : Int) < (N : Int) := by omega
      go_enter Try.func4, Try.ntmps4
      go_wp2_with (go_at_call 5; refine (CP.out _).mono ?_; rintro e wA ⟨rfl, hbA⟩)
      go_ret
      exact ⟨rfl, bsa hB0 hbA⟩
end Go.Proofs.Ytfahfbkkgcekgaa.H
