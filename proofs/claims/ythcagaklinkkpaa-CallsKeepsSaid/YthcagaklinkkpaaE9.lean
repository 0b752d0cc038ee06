/- awake. -/
import Derived.Test.YthcagaklinkkpaaE8
namespace Go.Proofs.Ythcagaklinkkpaa.E
set_option linter.unusedVariables false
open Go Go.RowKit Go.Shelf Go.Proofs.Ythcagaklinkkpaa Go.Proofs.Ythcagaklinkkpaa.W Go.Proofs.Ythcagaklinkkpaa.M Go.Proofs.Ythcagaklinkkpaa.B

def ex0 : Nat → Bs
  | 0 => [232, 5, 0, 0, 0, 1]
  | 1 => [9, 233, 255, 255, 255, 255]
  | 2 => [232, 232, 0, 0, 0, 0]
  | 3 => [232, 1, 2, 3, 4]
  | _ => [232, 0, 0, 0]
def ex1 : Nat → Bs
  | 0 => [232, 10, 0, 0, 0, 1]
  | 1 => [9, 233, 5, 0, 0, 255]
  | 2 => [232, 237, 0, 0, 0, 0]
  | 3 => [232, 1, 2, 3, 4]
  | _ => [232, 0, 0, 0]
theorem ex_len (k : Nat) : (ex0 k).length = (ex1 k).length ∧ 0 < (ex0 k).length ∧ (ex0 k).length ≤ 6 := by
  match k with
  | 0 => exact ⟨rfl, by decide, by decide⟩
  | 1 => exact ⟨rfl, by decide, by decide⟩
  | 2 => exact ⟨rfl, by decide, by decide⟩
  | 3 => exact ⟨rfl, by decide, by decide⟩
  | n + 4 => exact ⟨rfl, by show 0 < 4; decide, by show 4 ≤ 6; decide⟩
theorem ex_trans (k : Nat) (h : k < 5) : trans 1 (ex0 k) = ex1 k ∧ trans (-1) (ex1 k) = ex0 k := by
  rw [trans_eq, trans_eq]
  match k, h with
  | 0, _ => decide +kernel
  | 1, _ => decide +kernel
  | 2, _ => decide +kernel
  | 3, _ => decide +kernel
  | 4, _ => decide +kernel

def lay (w : World) (l : List Obj) : World := l.foldl World.alloc w
theorem lay_at (l : List Obj) : ∀ (w : World) (j : Nat) (o : Obj), l[j]? = some o → (lay w l).heap[w.heap.size + j]? = some o := by
  induction l with
  | nil => intro w j o h; simp at h
  | cons x l ih =>
    intro w j o h
    have hb : ∀ (l : List Obj) (w : World), Below w.heap.size w (lay w l) := by
      intro l
      induction l with
      | nil => intro w; exact Below.refl _ _
      | cons y l ih => intro w; exact ((Below.refl _ w).alloc (Nat.le_refl _) y).trans ((ih (w.alloc y)).mono (by simp))
    cases j with
    | zero =>
      obtain rfl : x = o := by simpa using h
      have := (hb l (w.alloc x)).block w.heap.size (by simp)
      exact this.trans (heap_alloc_new w x)
    | succ j =>
      have := ih (w.alloc x) j o (by simpa using h)
      rw [World.size_alloc] at this
      rw [show w.heap.size + (j + 1) = w.heap.size + 1 + j by omega]
      exact this
theorem lay_below (l : List Obj) : ∀ w : World, Below w.heap.size w (lay w l) := by
  induction l with
  | nil => intro w; exact Below.refl _ _
  | cons y l ih => intro w; exact ((Below.refl _ w).alloc (Nat.le_refl _) y).trans ((ih (w.alloc y)).mono (by simp))
theorem lay_size (l : List Obj) : ∀ w : World, (lay w l).heap.size = w.heap.size + l.length := by
  induction l with
  | nil => intro w; rfl
  | cons y l ih => intro w; exact (ih (w.alloc y)).trans (by simp; omega)

def bytesObj (l : Bs) : Obj := .cells (l.map u8).toArray 5
def exObjs (B : Nat) : List Obj := [bytesObj (ex0 0), bytesObj (ex1 0), bytesObj (ex0 1), bytesObj (ex1 1), bytesObj (ex0 2), bytesObj (ex1 2), bytesObj (ex0 3), bytesObj (ex1 3), bytesObj (ex0 4), bytesObj (ex1 4),
  .cells #[.slice (some ⟨B, 0, none⟩) 6 6, .slice (some ⟨B + 1, 0, none⟩) 6 6, .slice (some ⟨B + 2, 0, none⟩) 6 6, .slice (some ⟨B + 3, 0, none⟩) 6 6, .slice (some ⟨B + 4, 0, none⟩) 6 6, .slice (some ⟨B + 5, 0, none⟩) 6 6,
    .slice (some ⟨B + 6, 0, none⟩) 5 5, .slice (some ⟨B + 7, 0, none⟩) 5 5, .slice (some ⟨B + 8, 0, none⟩) 4 4, .slice (some ⟨B + 9, 0, none⟩) 4 4] 42]
/-- What the rounds read. -/
def Facts (B : Nat) (W : World) : Prop := ∀ k, k < 5 → W.cell? ⟨B + 10, k * 2, none⟩ = some (.slice (some ⟨B + 2 * k, 0, none⟩) (ex0 k).length (ex0 k).length) ∧
  W.cell? ⟨B + 10, k * 2 + 1, none⟩ = some (.slice (some ⟨B + (2 * k + 1), 0, none⟩) (ex0 k).length (ex0 k).length) ∧ Sl u8 W (B + 11) (some ⟨B + 2 * k, 0, none⟩) (ex0 k) ∧ Sl u8 W (B + 11) (some ⟨B + (2 * k + 1), 0, none⟩) (ex1 k)
theorem Facts.below {B : Nat} {W W' : World} (h : Facts B W) (hb : Below (B + 11) W W') : Facts B W' := fun k hk => by
  obtain ⟨h1, h2, h3, h4⟩ := h k hk
  exact ⟨(hb.cell (p := ⟨B + 10, k * 2, none⟩) (by show B + 10 < B + 11; omega)).trans h1, (hb.cell (p := ⟨B + 10, k * 2 + 1, none⟩) (by show B + 10 < B + 11; omega)).trans h2, h3.below hb, h4.below hb⟩
theorem sl_lay {w : World} {L : List Obj} {j : Nat} {l : Bs} {n : Nat} (h : L[j]? = some (bytesObj l)) (hn : w.heap.size + j < n) : Sl u8 (lay w L) n (some ⟨w.heap.size + j, 0, none⟩) l := fun _ => by
  have hb : Blk (lay w L) (w.heap.size + j) 5 (l.map u8).toArray := lay_at _ _ _ _ h
  exact ⟨_, 0, rfl, hn, fun i x hx => by rw [Nat.zero_add, hb.cell i]; simp [hx]⟩
theorem facts0 (w : World) : Facts w.heap.size (lay w (exObjs w.heap.size)) := fun k hk => by
  have hb : Blk (lay w (exObjs w.heap.size)) (w.heap.size + 10) 42 _ := lay_at _ _ 10 _ rfl
  match k, hk with
  | 0, _ => exact ⟨hb.cell _, hb.cell _, sl_lay rfl (by omega), sl_lay rfl (by omega)⟩
  | 1, _ => exact ⟨hb.cell _, hb.cell _, sl_lay rfl (by omega), sl_lay rfl (by omega)⟩
  | 2, _ => exact ⟨hb.cell _, hb.cell _, sl_lay rfl (by omega), sl_lay rfl (by omega)⟩
  | 3, _ => exact ⟨hb.cell _, hb.cell _, sl_lay rfl (by omega), sl_lay rfl (by omega)⟩
  | 4, _ => exact ⟨hb.cell _, hb.cell _, sl_lay rfl (by omega), sl_lay rfl (by omega)⟩

set_option maxRecDepth 100000 in
set_option maxHeartbeats 2000000 in
theorem awake_any (w : World) : Calls Try.prog 11 #[] w fun e w' => e = .returned (.bool true) ∧ Below w.heap.size w w' := by
  have F0 := Lib.hid (facts0 w)
  have B0 : Below w.heap.size w (lay w (exObjs w.heap.size)) := lay_below _ _
  have Z0 : (lay w (exObjs w.heap.size)).heap.size = w.heap.size + 11 := lay_size _ _
  have Z0 := Lib.hid Z0
  go_enter Try.func11, Try.ntmps11
  go_wp2
  go_loopw [26] (fun kv wr => ∃ k : Nat, k ≤ 5 ∧ kv = .int .i64 k ∧ Hid (Facts w.heap.size wr) ∧ w.heap.size + 11 ≤ wr.heap.size ∧ Below w.heap.size w wr) (fun kv _ => 5 - (intOf kv).toNat)
  case atStart => exact ⟨0, by omega, rfl, F0, Nat.le_of_eq Z0.out.symm, B0⟩
  case round =>
    obtain ⟨k, hk, rfl, HF, hz, hB⟩ := hrel
    by_cases hlt : k < 5
    · obtain ⟨c0, c1, s0, s1⟩ := HF.out k hlt
      obtain ⟨ht1, ht2⟩ := ex_trans k hlt
      obtain ⟨hl1, hl2, hl3⟩ := ex_len k
      obtain ⟨l0, hl0⟩ : ∃ l, l = ex0 k := ⟨_, rfl⟩
      obtain ⟨l1, hl1'⟩ : ∃ l, l = ex1 k := ⟨_, rfl⟩
      obtain ⟨n, hn⟩ : ∃ n, n = l0.length := ⟨_, rfl⟩
      rw [← hl0] at c0 c1 s0 hl1 hl2 hl3 ht1 ht2
      rw [← hl1'] at s1 hl1 ht1 ht2
      rw [← hn] at c0 c1 hl1 hl2 hl3
      have HN := Lib.hid hn
      have HL := Lib.hid hl1
      clear hl0 hl1' hn hl1
      obtain ⟨X, hX⟩ : ∃ X : Obj, X = .cells #[.slice (some ⟨w.heap.size + 2 * k, 0, none⟩) n n, .slice (some ⟨w.heap.size + (2 * k + 1), 0, none⟩) n n] 42 := ⟨_, rfl⟩
      have HX := Lib.hid hX
      have D1 := Lib.hid (forward_g (c := n) HN.out.symm (by omega) ht1 (s0.alloc hz X))
      have hB1 : Below w.heap.size w (wr.alloc X) := hB.alloc (by omega) _
      have D2 : Hid (∀ W, Below wr.heap.size wr W → Gives 18 (some ⟨w.heap.size + (2 * k + 1), 0, none⟩) n n W l0 n 0) := Lib.hid fun W hW => inverse_g (by rw [← HL.out]) (by omega) ht2 (s1.below (hW.mono hz))
      have E1 : Hid (∀ W A c, Below wr.heap.size wr W → Sl u8 W W.heap.size A l1 → Calls Try.prog 14 #[.slice A n c, .slice (some ⟨w.heap.size + (2 * k + 1), 0, none⟩) n n] W fun e w' => e = .returned (.bool true) ∧ W = w') := Lib.hid fun W A c hW hs => equal_same HL.out.symm hs (s1.below (hW.mono hz))
      have E2 : Hid (∀ W A c, Below wr.heap.size wr W → Sl u8 W W.heap.size A l0 → Calls Try.prog 14 #[.slice A n c, .slice (some ⟨w.heap.size + 2 * k, 0, none⟩) n n] W fun e w' => e = .returned (.bool true) ∧ W = w') := Lib.hid fun W A c hW hs => equal_same HN.out.symm hs (s0.below (hW.mono hz))
      have bX : ∀ W, Below (wr.heap.size + 1) (wr.alloc X) W → W.cell? ⟨wr.heap.size, 0, none⟩ = some (.slice (some ⟨w.heap.size + 2 * k, 0, none⟩) n n) ∧ W.cell? ⟨wr.heap.size, 1, none⟩ = some (.slice (some ⟨w.heap.size + (2 * k + 1), 0, none⟩) n n) := fun W hW => by
        have hb : Blk W wr.heap.size 42 #[.slice (some ⟨w.heap.size + 2 * k, 0, none⟩) n n, .slice (some ⟨w.heap.size + (2 * k + 1), 0, none⟩) n n] := (Blk.new wr _ _).below (HX.out ▸ hW) (by omega)
        exact ⟨hb.cell 0, hb.cell 1⟩
      have HBX := Lib.hid bX
      have HA : Hid (∀ W, Below (wr.heap.size + 1) (wr.alloc X) W → Below wr.heap.size wr W) := Lib.hid fun W hW => ((Below.refl _ wr).alloc (Nat.le_refl _) _).trans (hW.mono (by omega))
      have SX : Hid ((wr.alloc X).heap.size = wr.heap.size + 1) := Lib.hid (by simp)
      subst hX
      clear s0 s1 ht1 ht2 bX
      go_wp2_with (first
        | (go_at_call 12; refine D1.out.mono ?_; clear D1; rintro e w1 ⟨A1, c1, rfl, t1, _, _, hb1⟩; replace hb1 := hb1.mono (Nat.le_of_eq SX.out.symm); obtain ⟨k0, k1⟩ := HBX.out _ hb1)
        | (go_at_call 18; refine (D2.out _ (HA.out _ hb1)).mono ?_; clear D2; rintro e w2 ⟨A2, c2, rfl, t2, _, _, hb2⟩; have t1 := t1.later hb2; have hb12 := hb1.trans (hb2.mono (by have := hb1.size; have := SX.out; omega)); obtain ⟨k2, k3⟩ := HBX.out _ hb12)
        | (go_at_call 14; refine (E1.out _ _ _ (HA.out _ hb12) t1).mono ?_; clear E1; rintro e w3 ⟨rfl, rfl⟩)
        | (go_at_call 14; refine (E2.out _ _ _ (HA.out _ hb12) t2).mono ?_; clear E2; rintro e w3 ⟨rfl, rfl⟩))
      go_roundw
      case rel => exact ⟨k + 1, by omega, by go_num, Lib.hid (HF.out.below ((HA.out _ hb12).mono hz)), by have := (HA.out _ hb12).size; omega, hB.trans ((HA.out _ hb12).mono (by omega))⟩
      case measure => simp [intOf]; omega
    · obtain rfl : k = 5 := by omega
      have D : Hid (GivesI 15 (some ⟨wr.heap.size, 0, none⟩) 6 6 (wr.alloc (.cells #[.int .u8 9, .int .u8 233, .int .u8 255, .int .u8 255, .int .u8 255, .int .u8 255] 5)) [1] 1 0) :=
        Lib.hid (sites_g (n := 6) (b := ex0 1) rfl (by omega) (by rw [scan_eq]; decide +kernel) rfl (Sl.of_new rfl rfl))
      go_wp2_with (first
        | (go_at_call 15; refine D.out.mono ?_; rintro e w1 ⟨A1, c1, rfl, t1, _, _, hb1⟩)
        | (go_at_call 17; refine (equalI_same (l := [1]) (n := 1) rfl (by omega) (t1.alloc (Nat.le_refl _) _) (Sl.of_new rfl rfl)).mono ?_; rintro e w2 ⟨rfl, hb2⟩))
      go_ret
      exact ⟨rfl, hB.trans (((((Below.refl _ wr).alloc (Nat.le_refl _) _).trans (hb1.mono (by simp))).alloc (by have := hb1.size; simp at this; omega) _).trans (hb2.mono (by have := hb1.size; simp at this; simp; omega)) |>.mono (by omega))⟩
end Go.Proofs.Ythcagaklinkkpaa.E
