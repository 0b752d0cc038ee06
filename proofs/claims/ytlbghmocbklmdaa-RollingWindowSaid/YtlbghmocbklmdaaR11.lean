/- Places' error; the reference's Places. -/
import Derived.Test.YtlbghmocbklmdaaR10
namespace Go.Proofs.Ytlbghmocbklmdaa.H
set_option linter.unusedVariables false
open Go Go.RowKit Go.Proofs.Ytlbghmocbklmdaa Go.Proofs.Ytlbghmocbklmdaa.W Go.Proofs.Ytlbghmocbklmdaa.M

set_option maxRecDepth 100000 in
theorem Places_bad (A : Option Addr) (n c : Nat) (k : Int) (m : Int) (hk : k < 1 ∨ 64 < k) (w : World) : Calls Try.prog 22 #[.slice A n c, .int .i64 k, .int .u32 m] w fun e w' => e = .returned (.tuple #[.slice none 0 0, .int .i64 2]) ∧ Below w.heap.size w w' := by
  have hb : Below w.heap.size w (w.alloc (.cells #[.int .u32 m] 24)) := (Below.refl _ _).alloc (Nat.le_refl _) _
  have hd : k < 1 ∨ (¬ k < 1 ∧ 64 < k) := by omega
  clear hk
  go_enter Try.func22, Try.ntmps22
  rcases hd with h | ⟨h, h'⟩
  all_goals
    go_wp2
    go_ret2
    exact ⟨rfl, hb⟩
set_option maxRecDepth 100000 in
theorem rPlaces_bad (A : Option Addr) (n c : Nat) (k : Int) (m : Int) (hk : k < 1 ∨ 64 < k) (w : World) : Calls Try.prog 23 #[.slice A n c, .int .i64 k, .int .u32 m] w fun e w' => e = .returned (.tuple #[.slice none 0 0, .int .i64 2]) ∧ w' = w := by
  have hd : k < 1 ∨ (¬ k < 1 ∧ 64 < k) := by omega
  clear hk
  go_enter Try.func23, Try.ntmps23
  rcases hd with h | ⟨h, h'⟩
  all_goals
    go_wp2
    go_ret2
    exact ⟨rfl, rfl⟩

theorem win_at {b : Bs} {k i j : Nat} {x : UInt8} (h : (win b k i)[j]? = some x) : b[i - k + j]? = some x := by
  unfold win at h
  rw [List.getElem?_drop, List.getElem?_take] at h
  split at h
  · exact h
  · cases h
theorem win_sl {w : World} {B bl o : Nat} {b : Bs} {k i p : Nat} (hp : i - k = p) (hbl : bl < B) (hcs : ∀ j x, b[j]? = some x → w.cell? ⟨bl, o + j, none⟩ = some (u8 x)) : Sl u8 w B (some ⟨bl, o + p, none⟩) (win b k i) := fun _ =>
  ⟨bl, o + p, rfl, hbl, fun j x hx => by rw [Nat.add_assoc]; exact hcs _ x (hp ▸ win_at hx)⟩

set_option maxRecDepth 100000 in
set_option maxHeartbeats 4000000 in
theorem rPlaces_ok (A : Option Addr) (c N k : Nat) (b : Bs) (hlb : b.length = N) (hc : N ≤ c) (hlen : N ≤ 65536) (hk1 : 1 ≤ k) (hk2 : k ≤ 64) (m : R) (w : World) (B : Nat) (h : Sl u8 w B A b) :
    Calls Try.prog 23 #[.slice A N c, .int .i64 (k : Int), .int .u32 (m.toNat : Int)] w fun e w' => ∃ v, e = .returned (.tuple #[v, .int .i64 0]) ∧
      w'.ownsRow w.heap.size 3 1 v (places b k m).length ((places b k m).map i64) ∧ (places b k m = [] → v = .slice none 0 0) ∧ Below w.heap.size w w' := by
  obtain ⟨i0, hi, hz0, hz1, hz2⟩ := info_parts infoI
  have hS := h.lt
  have HL := Lib.hid hlb
  have hkk1 : ¬ (k : Int) < 1 := by omega
  have hkk2 : ¬ (64 : Int) < (k : Int) := by omega
  have hkN : decide ((65536 : Int) < (N : Int)) = false := by simp; omega
  have hstart : Hid (places b k m = plc m [] ++ plc m (pf b k k)) := Lib.hid (by
    show plc m (prs b k) = plc m (pf b k k)
    unfold prs pf
    rw [show max k 0 = k by omega, show max k k = k by omega])
  clear h hlb
  go_enter Try.func23, Try.ntmps23
  go_wp2
  go_loopw [8, 9] (fun v iv wm => ∃ (i : Nat) (acc : List Nat) , k ≤ i ∧ (i ≤ N ∨ i = N + 1 ∨ i = k) ∧ iv = .int .i64 (i : Int) ∧ Hid (places b k m = acc ++ plc m (pf b k i)) ∧ acc.length + k ≤ i ∧
      wm.ownsRow w.heap.size 3 1 v acc.length (acc.map i64) ∧ Hid (acc = [] → v = .slice none 0 0) ∧ Below w.heap.size w wm) (fun _ iv _ => N + 1 - (intOf iv).toNat)
  case atStart => exact ⟨k, [], Nat.le_refl _, .inr (.inr rfl), rfl, hstart, by simp, World.ownsRow_nil _ _ _ _, Lib.hid fun _ => rfl, Below.refl _ _⟩
  case round =>
    obtain ⟨i, acc, hki, hii, rfl, hpl, hacc, hown, hnil, hB⟩ := hrel
    by_cases hlt : i ≤ N
    · have hSw := hS.below hB
      obtain ⟨bl, o, hAe, hbl, hcs⟩ := hSw.open_ (by rw [HL.out]; omega)
      obtain ⟨p, hp⟩ : ∃ p, i - k = p := ⟨_, rfl⟩
      have hpi : (i : Int) - (k : Int) = (p : Int) := by omega
      have hpc : ¬ c = p := by omega
      have hip : i - p = k := by omega
      have hW := Lib.hid (win_sl (k := k) (i := i) hp hbl hcs)
      have hwl : Hid ((win b k i).length = k) := Lib.hid (win_length hki (by rw [HL.out]; exact hlt))
      have C : Hid (∀ cc, Calls Try.prog 16 #[.slice (some ⟨bl, o + p, none⟩) k cc] wr fun e w' => e = .returned (.int .u32 ((hsh (win b k i)).toNat : Int)) ∧ w' = wr) := Lib.hid fun cc => rHash_ok _ cc k _ hwl.out (by omega) wr _ hW.out
      have hgo := Lib.hid (pf_hit (b := b) (k := k) (j := i) hki (by rw [HL.out]; exact hlt))
      obtain ⟨h', hh'⟩ : ∃ h', h' = hsh (win b k i) := ⟨_, rfl⟩
      rw [← hh'] at C hgo
      have qand := bits_and h' m
      have hii2 : (i : Int) ≤ (N : Int) := by omega
      have hpp : (p : Int) ≤ (i : Int) := by omega
      have hpp2 : (i : Int) ≤ (c : Int) := by omega
      subst hAe
      clear hcs hh' hp
      by_cases hz : h' &&& m = 0#32
      · rw [hz] at qand
        replace qand : bits .and .u32 (h'.toNat : Int) (m.toNat : Int) = 0 := qand
        have HZ := Lib.hid hz
        clear hz
        go_wp2_with (first
          | (go_at_call 16; refine (C.out _).mono ?_; rintro e w2 ⟨rfl, rfl⟩)
          | (at_builtin; refine wpList_append_at _ i64_one rfl _ _ 41 rfl w.heap.size 3 i0 (.int .i64 0) 8 Try.underlying41 hi hz0 hz1 hz2 rfl _ acc.length _ rfl (hown.alloc _) _ _ 1 [i] 1 rfl (Sl.of_new rfl rfl) rfl (by unfold maxLen; omega) (by omega) (by have := hB.size; simp; omega) ?_; intro v4 w4 o4 g4 _; have hb4 := (hB.alloc hB.size _).grown g4 (by have := hB.size; simp; omega) (fun j hj => (hown.lt j hj).1); rw [← List.map_append] at o4))
        go_roundw
        case rel => exact ⟨i + 1, acc ++ [i], by omega, by omega, by go_num, Lib.hid (by rw [hpl.out, hgo.out, show (i, h') :: pf b k (i + 1) = [(i, h')] ++ pf b k (i + 1) from rfl, plc_append, plc_hit HZ.out]; simp), by simp; omega, by rw [List.length_append]; exact o4, Lib.hid (by simp), hb4⟩
        case measure => simp [intOf]; omega
      · have hz' : (((h' &&& m).toNat : Int) == 0) = false := by
          rw [beq_eq_false_iff_ne]; intro e; exact hz (BitVec.eq_of_toNat_eq (by simpa using (show (h' &&& m).toNat = 0 by omega)))
        obtain ⟨z, hzz⟩ : ∃ z, z = h' &&& m := ⟨_, rfl⟩
        rw [← hzz] at qand hz'
        have HZ := Lib.hid hz
        clear hz hzz
        go_wp2_with (go_at_call 16; refine (C.out _).mono ?_; rintro e w2 ⟨rfl, rfl⟩)
        go_roundw
        case rel => exact ⟨i + 1, acc, by omega, by omega, by go_num, Lib.hid (by rw [hpl.out, hgo.out, show (i, h') :: pf b k (i + 1) = [(i, h')] ++ pf b k (i + 1) from rfl, plc_append, plc_miss HZ.out]; simp), by omega, hown, hnil, hB⟩
        case measure => simp [intOf]; omega
    · have hall : Hid (places b k m = acc) := Lib.hid (by rw [hpl.out, pf_end (by rw [HL.out]; omega)]; simp [plc])
      have hlt2 : ¬ (i : Int) ≤ (N : Int) := by omega
      clear hii
      go_wp2
      go_ret2
      exact ⟨_, rfl, by rw [hall.out]; exact hown, by rw [hall.out]; exact hnil.out, hB⟩
end Go.Proofs.Ytlbghmocbklmdaa.H
