/- The reference's Next. -/
import Derived.Test.YtcdaieoondmljaaT4
namespace Go.Proofs.Ytcdaieoondmljaa.H
set_option linter.unusedVariables false
open Go Go.RowKit Go.Proofs.Ytcdaieoondmljaa Go.Proofs.Ytcdaieoondmljaa.W Go.Proofs.Ytcdaieoondmljaa.M

/-- Nothing from a + le on up to i is a place. -/
def Nohit (P : List Nat) (a le i : Nat) : Prop := ∀ p ∈ P, a + le ≤ p → i ≤ p
theorem find_first {P : List Nat} {t i : Nat} (hs : P.Pairwise (· < ·)) (hi : i ∈ P) (ht : t ≤ i) (hn : ∀ p ∈ P, t ≤ p → i ≤ p) : P.find? (fun p => decide (t ≤ p)) = some i := by
  cases hf : P.find? (fun p => decide (t ≤ p)) with
  | none =>
    have := List.find?_eq_none.1 hf i hi
    simp at this; omega
  | some q =>
    have h1 := List.find?_some hf
    have h2 := List.mem_of_find?_eq_some hf
    simp at h1
    have h3 := hn q h2 h1
    congr 1
    obtain ⟨h4, l1, l2, e, h5⟩ := List.find?_eq_some_iff_append.1 hf
    rw [e, List.mem_append, List.mem_cons] at hi
    rcases hi with hi | hi | hi
    · have := h5 i hi; simp at this; omega
    · exact hi.symm
    · rw [e] at hs
      have := (List.pairwise_append.1 hs).2.1
      have := List.rel_of_pairwise_cons this hi
      omega
theorem nxt_hit {P : List Nat} {le mo N a i : Nat} (hs : P.Pairwise (· < ·)) (hi : i ∈ P) (h1 : a + le ≤ i) (h2 : i < a + mo) (h3 : i ≤ N) (hn : Nohit P a le i) : nxt P le mo N a = i := by
  unfold nxt; rw [find_first hs hi h1 hn]; show min i _ = i; omega
theorem nxt_miss {P : List Nat} {le mo N a i : Nat} (h2 : ¬ (i < a + mo ∧ i ≤ N)) (hp : ∀ p ∈ P, p ≤ N) (hn : Nohit P a le i) : nxt P le mo N a = min (a + mo) N := by
  unfold nxt
  split
  · rename_i p hf
    have h1 := List.find?_some hf
    have h3 := List.mem_of_find?_eq_some hf
    simp at h1
    have := hn p h3 h1
    have := hp p h3
    omega
  · rfl
theorem places_sorted' (b : Bs) (k : Nat) (m : R) : (places b k m).Pairwise (· < ·) := by
  unfold places plc prs pf
  refine (List.Pairwise.sublist (List.Sublist.map _ List.filter_sublist) ?_)
  rw [List.map_map]
  show (List.map (fun i => i) _).Pairwise _
  rw [List.map_id']
  exact List.pairwise_lt_range'

def NextAt (r er : Int) (w : World) (e : Ending) (w' : World) : Prop := e = .returned (.tuple #[.int .i64 r, .int .i64 er]) ∧ Below w.heap.size w w'
set_option maxRecDepth 100000 in
set_option maxHeartbeats 4000000 in
theorem rNext_ok {le us mo wi : Nat} (hg : Fine le us mo wi) (hchk : chkC le us mo wi = 0) (A : Option Addr) (c N a : Nat) (b : Bs) (hlb : b.length = N) (hc : N ≤ c) (hlen : N ≤ 65536) (ha : a < N) (r : Nat) (hr : nxt (places b wi (msk us)) le mo N a = r) (w : World) (B : Nat) (h : Sl u8 w B A b) :
    Calls Try.prog 19 #[.agg #[.int .i64 (le : Int), .int .i64 (us : Int), .int .i64 (mo : Int), .int .i64 (wi : Int)], .slice A N c, .int .i64 (a : Int)] w (NextAt r 0 w) := by
  obtain ⟨g1, g2, g3, g4, g5, g6, g7⟩ := hg
  have hS := h.lt
  have HL := Lib.hid hlb
  have HR := Lib.hid hr
  have HCK := Lib.hid hchk
  obtain ⟨m, hm⟩ : ∃ m, msk us = m := ⟨_, rfl⟩
  have hmm : ((us : Int) - 1) = (m.toNat : Int) := by rw [← hm, msk_nat g7]; omega
  have hm3 : m.toNat ≤ 32768 := by omega
  have hmw : IntKind.u32.wrap (m.toNat : Int) = (m.toNat : Int) := wrap_u32 _ (by omega) (by omega)
  obtain ⟨P, hP⟩ : ∃ P, places b wi (msk us) = P := ⟨_, rfl⟩
  have HP := Lib.hid hP
  have HS : Hid (P.Pairwise (· < ·)) := Lib.hid (by rw [← hP]; exact places_sorted' b wi _)
  have HM : Hid (∀ i, i ∈ P ↔ wi ≤ i ∧ i ≤ N ∧ hsh (win b wi i) &&& m = 0#32) := Lib.hid fun i => by rw [← hP, mem_places, HL.out, hm]
  have HR2 : Hid (nxt P le mo N a = r) := Lib.hid (by rw [← hP]; exact hr)
  have hB0 : Below w.heap.size w (w.alloc (.cells #[.int .i64 (le : Int), .int .i64 (us : Int), .int .i64 (mo : Int), .int .i64 (wi : Int)] 23)) := (Below.refl _ _).alloc (Nat.le_refl _) _
  have hk0 : Blk (w.alloc (.cells #[.int .i64 (le : Int), .int .i64 (us : Int), .int .i64 (mo : Int), .int .i64 (wi : Int)] 23)) w.heap.size 23 #[.int .i64 (le : Int), .int .i64 (us : Int), .int .i64 (mo : Int), .int .i64 (wi : Int)] := Blk.new _ _ _
  have C : Hid (∀ W, Calls Try.prog 20 #[.agg #[.int .i64 (le : Int), .int .i64 (us : Int), .int .i64 (mo : Int), .int .i64 (wi : Int)]] W fun e w' => e = .returned (.int .i64 0) ∧ Below W.heap.size W w') := Lib.hid fun W => by have := rCheck_ok le us mo wi W; rw [hchk] at this; exact this
  have ha1 : ¬ (a : Int) < 0 := by omega
  have ha2 : ¬ (N : Int) ≤ (a : Int) := by omega
  have hN6 : decide ((65536 : Int) < (N : Int)) = false := by simp; omega
  clear hchk hlb hr hP hm h
  go_enter Try.func19, Try.ntmps19
  go_wp2_with (go_at_call 20; refine (C.out _).mono ?_; rintro e w1 ⟨rfl, hb1⟩; have hB1 := hB0.trans (hb1.mono hB0.size); have hk1 := hk0.later hb1; have c0 := hk1.cell 0; have c1 := hk1.cell 1; have c2 := hk1.cell 2; have c3 := hk1.cell 3)
  clear C hB0 hk0 hb1
  go_loopw [9] (fun iv wm => ∃ i : Nat, a + le ≤ i ∧ (i ≤ N + 1 ∨ i = a + le) ∧ iv = .int .i64 (i : Int) ∧ Hid (Nohit P a le i) ∧ (∀ q : Addr, wm.cell? q = w1.cell? q) ∧ Below w.heap.size w wm) (fun iv _ => N + 2 - (intOf iv).toNat)
  case atStart => exact ⟨a + le, Nat.le_refl _, .inr rfl, by go_num, Lib.hid fun p _ hp => hp, fun _ => rfl, hB1⟩
  case round =>
    obtain ⟨i, hi, hii, rfl, hn, hW, hB⟩ := hrel
    have HW := Lib.hid hW
    have d0 : wr.cell? ⟨w.heap.size, 0, none⟩ = some (.int .i64 (le : Int)) := (hW _).trans c0
    have d1 : wr.cell? ⟨w.heap.size, 1, none⟩ = some (.int .i64 (us : Int)) := (hW _).trans c1
    have d2 : wr.cell? ⟨w.heap.size, 2, none⟩ = some (.int .i64 (mo : Int)) := (hW _).trans c2
    have d3 : wr.cell? ⟨w.heap.size, 3, none⟩ = some (.int .i64 (wi : Int)) := (hW _).trans c3
    obtain ⟨M, hM⟩ : ∃ M, a + mo = M := ⟨_, rfl⟩
    have hMi : (a : Int) + (mo : Int) = (M : Int) := by omega
    have hMw : IntKind.i64.wrap (M : Int) = (M : Int) := by rw [IntKind.wrap_i64]; omega
    have hM6 : M ≤ 200000 := by omega
    have hi6 : i ≤ 200000 := by omega
    clear hW
    by_cases hlt : i < M ∧ i ≤ N
    · obtain ⟨hl1, hl2⟩ := hlt
      have hl1' : (i : Int) < (M : Int) := by omega
      have hl2' : (i : Int) ≤ (N : Int) := by omega
      have hSw := hS.below hB
      obtain ⟨bl, o, hAe, hbl, hcs⟩ := hSw.open_ (by rw [HL.out]; omega)
      obtain ⟨p, hp⟩ : ∃ p, i - wi = p := ⟨_, rfl⟩
      have hpi : (i : Int) - (wi : Int) = (p : Int) := by omega
      have hpw : IntKind.i64.wrap (p : Int) = (p : Int) := by rw [IntKind.wrap_i64]; omega
      have hpc : ¬ c = p := by omega
      have hip : i - p = wi := by omega
      have hpp : (p : Int) ≤ (i : Int) := by omega
      have hpp2 : (i : Int) ≤ (c : Int) := by omega
      have hpp3 : (0 : Int) ≤ (p : Int) := by omega
      have hWn := Lib.hid (win_sl (k := wi) (i := i) hp hbl hcs)
      have hwl : Hid ((win b wi i).length = wi) := Lib.hid (win_length (by omega) (by rw [HL.out]; exact hl2))
      obtain ⟨h', hh'⟩ : ∃ h', h' = hsh (win b wi i) := ⟨_, rfl⟩
      have HH := Lib.hid hh'
      have D : Hid (∀ cc W, (∀ q : Addr, W.cell? q = wr.cell? q) → Calls Try.prog 17 #[.slice (some ⟨bl, o + p, none⟩) wi cc] W fun e w' => e = .returned (.int .u32 (h'.toNat : Int)) ∧ w' = W) := Lib.hid fun cc W hW => by rw [hh']; exact rHash_ok _ cc wi _ hwl.out (by omega) W _ (hWn.out.keep fun q _ => hW q)
      have qand := bits_and h' m
      subst hAe
      clear hcs hh' hp
      obtain ⟨z, hz⟩ : ∃ z, h' &&& m = z := ⟨_, rfl⟩
      rw [hz] at qand
      have HZ := Lib.hid hz
      clear hz
      have hm64 : IntKind.i64.wrap (m.toNat : Int) = (m.toNat : Int) := by rw [IntKind.wrap_i64]; omega
      have hpi2 : IntKind.i64.wrap ((i : Int) - (wi : Int)) = (p : Int) := by rw [hpi]; exact hpw
      have hus2 : IntKind.i64.wrap ((us : Int) - 1) = (m.toNat : Int) := by rw [hmm]; exact hm64
      go_wp2_with fail
      go_quiet ((go_at_call 17; exact Calls.quiet_of_same (D.out _ _ (fun _ => rfl))))
      clear hpi2 hus2
      by_cases hz0 : z = 0#32
      · have hz1 : (((z.toNat : Nat) : Int) == 0) = true := by rw [hz0]; rfl
        have hr0 : Hid (r = i) := Lib.hid (by
          rw [← HR2.out]
          refine nxt_hit HS.out ((HM.out i).2 ⟨by omega, hl2, ?_⟩) hi (by omega) hl2 hn.out
          rw [← HH.out, HZ.out, hz0])
        clear hz0
        go_wp2
        go_ret2
        exact ⟨by rw [hr0.out]; rfl, below_drewN hB _⟩
      · have hz1 : (((z.toNat : Nat) : Int) == 0) = false := by
          rw [beq_eq_false_iff_ne]; intro e; exact hz0 (BitVec.eq_of_toNat_eq (by simpa using (show z.toNat = 0 by omega)))
        have HNN : Hid (Nohit P a le (i + 1)) := Lib.hid fun p' hp' hle => by
          have h1 := hn.out p' hp' hle
          rcases Nat.lt_or_ge i p' with h | h
          · exact h
          · obtain rfl : p' = i := by omega
            have := ((HM.out p').1 hp').2.2
            rw [← HH.out, HZ.out] at this
            exact absurd this hz0
        clear hz0
        go_wp2
        go_roundw
        case rel => exact ⟨i + 1, by omega, by omega, by go_num, HNN, HW.out, below_drewN hB _⟩
        case measure => simp [intOf]; omega
    · have hmiss : Hid (r = min M N) := Lib.hid (by rw [← HR2.out, nxt_miss (by rw [hM]; exact hlt) (fun p hp => ((HM.out p).1 hp).2.1) hn.out, hM])
      have hend : ((i : Int) < (M : Int) ∧ decide ((i : Int) ≤ (N : Int)) = false) ∨ decide ((i : Int) < (M : Int)) = false := by
        by_cases h : (i : Int) < (M : Int)
        · exact .inl ⟨h, by simp; omega⟩
        · exact .inr (by simp; omega)
      have hmin : ((N : Int) < (M : Int) ∧ Hid (r = N)) ∨ (¬ (N : Int) < (M : Int) ∧ Hid (r = M)) := by
        by_cases h : N < M
        · exact .inl ⟨by omega, Lib.hid (by rw [hmiss.out]; omega)⟩
        · exact .inr ⟨by omega, Lib.hid (by rw [hmiss.out]; omega)⟩
      have HLT := Lib.hid hlt
      clear hlt hii hi
      rcases hend with ⟨e1, e2⟩ | e1
      all_goals rcases hmin with ⟨f1, f2⟩ | ⟨f1, f2⟩
      all_goals go_wp2
      all_goals first
        | (exfalso; have := HLT.out; omega)
        | (go_ret2; exact ⟨by rw [f2.out]; rfl, hB⟩)
end Go.Proofs.Ytcdaieoondmljaa.H
