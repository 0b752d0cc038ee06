/- The reference's Shared. -/
import Derived.Test.YtcdaieoondmljaaU2
import Derived.BigQuiet
namespace Go.Proofs.Ytcdaieoondmljaa.H
set_option linter.unusedVariables false
open Go Go.RowKit Go.Proofs.Ytcdaieoondmljaa Go.Proofs.Ytcdaieoondmljaa.W Go.Proofs.Ytcdaieoondmljaa.M

theorem str_eq (p q : Bs) : ((⟨p.toArray⟩ : ByteArray).toList == (⟨q.toArray⟩ : ByteArray).toList) = decide (p = q) := by
  rw [ByteArray.toList_eq, ByteArray.toList_eq]
  by_cases h : p = q
  · subst h; simp
  · rw [decide_eq_false h]; simpa using h
theorem mem_snoc {p : Bs} {l : List Ex} {s : Bs} {j : Nat} {y : Ex} (hy : l[j]? = some y) : (p ∈ (l.take (j + 1)).map (pc s)) ↔ (p ∈ (l.take j).map (pc s) ∨ pc s y = p) := by
  rw [take_succ hy, List.map_append, List.mem_append]
  simp [eq_comm]
/-- string(s[x:x+d]) of the string that begins at A. -/
def Reads (A : Option Addr) (N : Nat) (s : Bs) (w : World) : Prop := ∀ W (x1 x2 : Nat), Below w.heap.size w W → 1 ≤ x2 ∧ x1 + x2 ≤ N → ∃ b o, A = some ⟨b, o, none⟩ ∧ ∀ cc, (convert 24 9 (.slice (some ⟨b, o + x1, none⟩) x2 cc)).run Try.prog W = .ok (.string ⟨(pc s (x1, x2)).toArray⟩) W
theorem reads_of {A : Option Addr} {N : Nat} {s : Bs} {w : World} (hs : s.length = N) (h : Sl u8 w w.heap.size A s) : Reads A N s w := fun W x1 x2 hW hx => by
  obtain ⟨b, o, rfl, _⟩ := h.open_ (by omega)
  exact ⟨b, o, rfl, fun cc => sl_piece (h.later hW) (by omega)⟩
set_option maxRecDepth 100000 in
set_option maxHeartbeats 4000000 in
theorem rShared_ok (le us mo wi : Int) (A : Option Addr) (c N : Nat) (sa : Bs) (ha : sa.length = N) (hc : N ≤ c) (hN : N ≤ 65536) (A' : Option Addr) (c' M : Nat) (sb : Bs) (hb : sb.length = M) (hc' : M ≤ c') (hM : M ≤ 65536)
    (l m : List Ex) (n k : Nat) (hl : l.length = n) (hm : m.length = k) (hn6 : n ≤ 65537) (hk6 : k ≤ 65537) (hIl : In N l) (hIm : In M m) (S : Nat) (hS : shr sa sb l m = S)
    (w : World) (B B' : Nat) (h : Sl u8 w B A sa) (h' : Sl u8 w B' A' sb)
    (E1 : ∀ W, Sl u8 W W.heap.size A sa → Splits le us mo wi 13 A N c l n 0 W) (E2 : ∀ W, Sl u8 W W.heap.size A' sb → Splits le us mo wi 13 A' M c' m k 0 W) :
    Calls Try.prog 22 #[.agg #[.int .i64 le, .int .i64 us, .int .i64 mo, .int .i64 wi], .slice A N c, .slice A' M c'] w fun e w' => e = .returned (.tuple #[.int .i64 (S : Int), .int .i64 0]) ∧ Below w.heap.size w w' := by
  have hA := h.lt
  have hA' := h'.lt
  have hB0 : Below w.heap.size w (w.alloc (.cells #[.int .i64 le, .int .i64 us, .int .i64 mo, .int .i64 wi] 23)) := (Below.refl _ _).alloc (Nat.le_refl _) _
  have hk0 : Blk (w.alloc (.cells #[.int .i64 le, .int .i64 us, .int .i64 mo, .int .i64 wi] 23)) w.heap.size 23 #[.int .i64 le, .int .i64 us, .int .i64 mo, .int .i64 wi] := Blk.new _ _ _
  have d0 := hk0.cell 0
  have d1 := hk0.cell 1
  have d2 := hk0.cell 2
  have d3 := hk0.cell 3
  have D1 : Hid (∀ W, Below w.heap.size w W → Splits le us mo wi 13 A N c l n 0 W) := Lib.hid fun W hW => E1 W (hA.later hW)
  have D2 : Hid (∀ W, Below w.heap.size w W → Splits le us mo wi 13 A' M c' m k 0 W) := Lib.hid fun W hW => E2 W (hA'.later hW)
  have V1 := Lib.hid (reads_of ha hA)
  have V2 := Lib.hid (reads_of hb hA')
  have HIl := Lib.hid hIl
  have HIm := Lib.hid hIm
  have HL := Lib.hid hl
  have HM := Lib.hid hm
  have HS := Lib.hid hS
  have HP' : Hid (∀ (x : Ex), x.1 + x.2 ≤ M → (pc sb x).length = x.2) := Lib.hid fun x hx => by rw [pc_length (by omega)]
  clear E1 E2 hIl hIm hl hm hS ha hb hA hA' h h'
  go_enter Try.func22, Try.ntmps22
  go_wp2_with (first
    | (go_at_call 13; refine (D1.out _ hB0).mono ?_; clear D1; rintro e w2 ⟨A2, c2, rfl, t2, hc2, hb2⟩; have hB2 := bsa hB0 hB0.size hb2; have hk2 := hk0.later hb2; have f0 := hk2.cell 0; have f1 := hk2.cell 1; have f2 := hk2.cell 2; have f3 := hk2.cell 3)
    | (go_at_call 13; refine (D2.out _ hB2).mono ?_; clear D2; rintro e w3 ⟨A3, c3, rfl, t3, hc3, hb3⟩; have hB3 := bsa hB2 hB2.size hb3; have t23 := t2.later hb3))
  clear hB0 hk0 d0 d1 d2 d3 t2 hb2 hB2 hk2 f0 f1 f2 f3 hb3
  go_loopw [11, 12] (fun sv iv wm => ∃ (i s : Nat), i ≤ k ∧ iv = .int .i64 (i : Int) ∧ sv = .int .i64 (s : Int) ∧ Hid (shr sa sb l (m.take i) = s) ∧ SlE wm wm.heap.size A2 l ∧ SlE wm wm.heap.size A3 m ∧ Below w.heap.size w wm) (fun _ iv _ => k - (intOf iv).toNat)
  case atStart => exact ⟨0, 0, Nat.zero_le _, rfl, rfl, Lib.hid rfl, t23, t3, hB3⟩
  case round =>
    obtain ⟨i, s, hi, rfl, rfl, hs, s2, s3, hB⟩ := hrel
    clear t23 t3 hB3
    by_cases hlt : i < k
    · obtain ⟨b0, q0, x, rfl, _, hx, hc1, hc2⟩ := s3.at_ (i := i) (by rw [HM.out]; exact hlt)
      have hin := HIm.out x (List.mem_of_getElem? hx)
      have hs6 : s ≤ 65537 * 65536 := by
        have h1 := shr_le sa sb l 65536 (m.take i) (fun e he => by have := HIm.out e (List.mem_of_mem_take he); omega)
        rw [hs.out] at h1
        have h2 : (m.take i).length ≤ 65537 := by rw [List.length_take]; omega
        exact Nat.le_trans h1 (Nat.mul_le_mul_right _ h2)
      obtain ⟨x1, x2⟩ := x
      replace hin : 1 ≤ x2 ∧ x1 + x2 ≤ M := hin
      replace hc1 : wr.cell? ⟨b0, q0 + i * 2, none⟩ = some (.int .i64 (x1 : Int)) := hc1
      replace hc2 : wr.cell? ⟨b0, q0 + i * 2 + 1, none⟩ = some (.int .i64 (x2 : Int)) := hc2
      have hstep : Hid (shr sa sb l (m.take (i + 1)) = s + if pc sb (x1, x2) ∈ l.map (pc sa) then x2 else 0) := Lib.hid (by rw [take_succ hx, shr_snoc, hs.out])
      obtain ⟨bb, ob, rfl, _⟩ := V2.out wr x1 x2 hB hin
      have hcv : ∀ q, (convert 24 9 (.slice (some ⟨bb, ob + x1, none⟩) x2 (c' - x1))).run Try.prog (wr.drewN q) = .ok (.string ⟨(pc sb (x1, x2)).toArray⟩) (wr.drewN q) := fun q => by
        obtain ⟨b', o', e, h⟩ := V2.out (wr.drewN q) x1 x2 (below_drewN hB q) hin
        injection e with e
        injection e with e1 e2 _
        subst e1 e2
        exact h _
      have hpl : (⟨(pc sb (x1, x2)).toArray⟩ : ByteArray).size = x2 := by have := HP'.out (x1, x2) hin.2; simpa [ByteArray.size] using this
      obtain ⟨p, hp⟩ : ∃ p : Bs, pc sb (x1, x2) = p := ⟨_, rfl⟩
      rw [hp] at hcv hstep hpl
      obtain ⟨P, hP⟩ : ∃ P : ByteArray, ⟨p.toArray⟩ = P := ⟨_, rfl⟩
      rw [hP] at hcv hpl
      have HPE := Lib.hid hP
      have hcx : ¬ c' = x1 := by omega
      have g1 : IntKind.i64.wrap ((x1 : Int) + (x2 : Int)) = ((x1 + x2 : Nat) : Int) := by rw [IntKind.wrap_i64]; omega
      have g2 : (0 : Int) ≤ (x1 : Int) := by omega
      have g3 : (x1 : Int) ≤ ((x1 + x2 : Nat) : Int) := by omega
      have g4 : ((x1 + x2 : Nat) : Int) ≤ (M : Int) := by omega
      have g5 : (M : Int) ≤ (c' : Int) := by omega
      clear hp hx hP
      go_wp2_with fail
      go_quiet (fail)
      have s2' : SlE (wr.drewN nq) (wr.drewN nq).heap.size A2 l := Sl.drewN s2 nq
      have s3' : SlE (wr.drewN nq) (wr.drewN nq).heap.size (some ⟨b0, q0, none⟩) m := Sl.drewN s3 nq
      have hB' := below_drewN hB nq
      clear hcv hc1 hc2 s2 s3 hcx g1 g2 g3 g4 g5
      go_wp2
      go_loopw [14, 15] (fun fv jv wm => ∃ (j : Nat), j ≤ n ∧ jv = .int .i64 (j : Int) ∧ fv = .bool (decide (p ∈ (l.take j).map (pc sa))) ∧ SlE wm wm.heap.size A2 l ∧ SlE wm wm.heap.size (some ⟨b0, q0, none⟩) m ∧ Below w.heap.size w wm) (fun _ jv _ => n - (intOf jv).toNat)
      case atStart => exact ⟨0, Nat.zero_le _, rfl, by simp, s2', s3', hB'⟩
      case round =>
        obtain ⟨j, hj, rfl, rfl, s2, s3, hB⟩ := hrel
        clear s2' s3' hB'
        by_cases hlt : j < n
        · obtain ⟨b1, q1, y, rfl, _, hy, hd1, hd2⟩ := s2.at_ (i := j) (by rw [HL.out]; exact hlt)
          have hin' := HIl.out y (List.mem_of_getElem? hy)
          have hmem := Lib.hid (mem_snoc (p := p) (s := sa) hy)
          by_cases hf : p ∈ (l.take j).map (pc sa)
          · have hf' : decide (p ∈ (l.take j).map (pc sa)) = true := decide_eq_true hf
            have hnx : Hid (decide (p ∈ (l.take (j + 1)).map (pc sa)) = true) := Lib.hid (decide_eq_true (hmem.out.2 (.inl hf)))
            clear hf hmem hy hin'
            rw [hf']
            go_wp2_with fail
            go_quiet (fail)
            go_wp2
            go_roundw
            case rel => exact ⟨j + 1, by omega, by go_num, by rw [hnx.out], Sl.drewN s2 _, Sl.drewN s3 _, below_drewN hB _⟩
            case measure => simp [intOf]; omega
          · have hf' : decide (p ∈ (l.take j).map (pc sa)) = false := decide_eq_false hf
            obtain ⟨y1, y2⟩ := y
            replace hin' : 1 ≤ y2 ∧ y1 + y2 ≤ N := hin'
            replace hd1 : wr.cell? ⟨b1, q1 + j * 2, none⟩ = some (.int .i64 (y1 : Int)) := hd1
            replace hd2 : wr.cell? ⟨b1, q1 + j * 2 + 1, none⟩ = some (.int .i64 (y2 : Int)) := hd2
            obtain ⟨ba, oa, rfl, _⟩ := V1.out wr y1 y2 hB hin'
            have hcv : ∀ q, (convert 24 9 (.slice (some ⟨ba, oa + y1, none⟩) y2 (c - y1))).run Try.prog (wr.drewN q) = .ok (.string ⟨(pc sa (y1, y2)).toArray⟩) (wr.drewN q) := fun q => by
              obtain ⟨b', o', e, h⟩ := V1.out (wr.drewN q) y1 y2 (below_drewN hB q) hin'
              injection e with e
              injection e with e1 e2 _
              subst e1 e2
              exact h _
            have hnx : Hid (decide (p ∈ (l.take (j + 1)).map (pc sa)) = decide (pc sa (y1, y2) = p)) := Lib.hid (by rw [decide_eq_decide, hmem.out]; exact ⟨fun h => h.resolve_left hf, .inr⟩)
            have heq := str_eq (pc sa (y1, y2)) p
            rw [HPE.out] at heq
            obtain ⟨rr, hrr⟩ : ∃ rr, pc sa (y1, y2) = rr := ⟨_, rfl⟩
            rw [hrr] at hcv hnx heq
            obtain ⟨R, hR⟩ : ∃ R : ByteArray, ⟨rr.toArray⟩ = R := ⟨_, rfl⟩
            rw [hR] at hcv heq
            obtain ⟨bq, hbq⟩ : ∃ bq, decide (rr = p) = bq := ⟨_, rfl⟩
            rw [hbq] at hnx heq
            have hcx : ¬ c = y1 := by omega
            have g1 : IntKind.i64.wrap ((y1 : Int) + (y2 : Int)) = ((y1 + y2 : Nat) : Int) := by rw [IntKind.wrap_i64]; omega
            have g2 : (0 : Int) ≤ (y1 : Int) := by omega
            have g3 : (y1 : Int) ≤ ((y1 + y2 : Nat) : Int) := by omega
            have g4 : ((y1 + y2 : Nat) : Int) ≤ (N : Int) := by omega
            have g5 : (N : Int) ≤ (c : Int) := by omega
            clear hrr hR hbq hy hmem hf
            rw [hf']
            go_wp2_with fail
            go_quiet (fail)
            go_wp2
            go_roundw
            case rel => exact ⟨j + 1, by omega, by go_num, by rw [hnx.out], Sl.drewN s2 _, Sl.drewN s3 _, below_drewN hB _⟩
            case measure => simp [intOf]; omega
        · obtain rfl : j = n := by omega
          have htn : l.take j = l := by rw [← HL.out, List.take_length]
          rw [htn]
          by_cases hf : p ∈ l.map (pc sa)
          · rw [if_pos hf] at hstep
            have hf' : decide (p ∈ l.map (pc sa)) = true := decide_eq_true hf
            have hsum : IntKind.i64.wrap ((s : Int) + (P.size : Int)) = ((s + x2 : Nat) : Int) := by rw [IntKind.wrap_i64, hpl]; omega
            rw [hf']
            clear hf hf' htn
            go_wp2_with fail
            go_roundw
            case rel => exact ⟨i + 1, s + x2, by omega, by go_num, by go_num, hstep, s2, s3, hB⟩
            case measure => simp [intOf]; omega
          · rw [if_neg hf] at hstep
            have hf' : decide (p ∈ l.map (pc sa)) = false := decide_eq_false hf
            rw [hf']
            clear hf hf' htn
            go_wp2_with fail
            go_roundw
            case rel => exact ⟨i + 1, s, by omega, by go_num, rfl, hstep, s2, s3, hB⟩
            case measure => simp [intOf]; omega
    · obtain rfl : i = k := by omega
      have hsS : Hid (s = S) := Lib.hid (by rw [← hs.out, ← HS.out, ← HM.out, List.take_length])
      go_wp2
      go_ret2
      have e1 := hsS.out
      subst e1
      exact ⟨rfl, hB⟩
end Go.Proofs.Ytcdaieoondmljaa.H
