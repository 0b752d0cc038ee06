/- Words for memory that all proofs of this seat share: a slice that reads as a list. Plain lemmas; no program in sight. -/
import Derived.Below
import Derived.Laws.OwnMore
import Derived.Deep.Draws
import Derived.Deep.AppendLies
import Derived.Lib.Hide
import Derived.Laws.BytesArg
import Derived.Laws.NewBlocks
import Derived.OwnWalk
namespace Go.Proofs.Ytfahfbkkgcekgaa.W
set_option linter.unusedVariables false
open Go Go.RowKit

/-- A byte as the model holds it. -/
def u8 (x : UInt8) : Value := .int .u8 (x.toNat : Int)
theorem u8_def (x : UInt8) : u8 x = .int .u8 (x.toNat : Int) := rfl
theorem lt256 (x : UInt8) : (x.toNat : Int) < 256 := by have := x.toNat_lt; omega
theorem ge0 (x : UInt8) : (0 : Int) ≤ (x.toNat : Int) := by omega

/-- The slice that begins at A holds the list l (each x as enc x), in a block below B; nothing is asked where l is empty. -/
def Sl {α : Type} (enc : α → Value) (w : World) (B : Nat) (A : Option Addr) (l : List α) : Prop :=
  l ≠ [] → ∃ b o, A = some ⟨b, o, none⟩ ∧ b < B ∧ ∀ j x, l[j]? = some x → w.cell? ⟨b, o + j, none⟩ = some (enc x)

section
variable {α : Type} {enc : α → Value} {w w' : World} {B B' : Nat} {A : Option Addr} {l : List α}

theorem Sl.nil : Sl enc w B A [] := fun h => absurd rfl h
theorem Sl.open_ (h : Sl enc w B A l) (hl : 0 < l.length) : ∃ b o, A = some ⟨b, o, none⟩ ∧ b < B ∧ ∀ j x, l[j]? = some x → w.cell? ⟨b, o + j, none⟩ = some (enc x) :=
  h (fun e => by subst e; simp at hl)
theorem Sl.at_ (h : Sl enc w B A l) {j : Nat} (hj : j < l.length) : ∃ b o x, A = some ⟨b, o, none⟩ ∧ b < B ∧ l[j]? = some x ∧ w.cell? ⟨b, o + j, none⟩ = some (enc x) := by
  obtain ⟨b, o, e, hb, hc⟩ := h.open_ (by omega)
  exact ⟨b, o, l[j], e, hb, List.getElem?_eq_getElem hj, hc j _ (List.getElem?_eq_getElem hj)⟩
theorem Sl.byte {l : List UInt8} (h : Sl u8 w B A l) {j : Nat} (hj : j < l.length) : ∃ b o x, A = some ⟨b, o, none⟩ ∧ b < B ∧ l[j]? = some x ∧ w.cell? ⟨b, o + j, none⟩ = some (.int .u8 (x.toNat : Int)) := h.at_ hj
theorem Sl.keep (h : Sl enc w B A l) (hk : ∀ p : Addr, p.block < B → w'.cell? p = w.cell? p) : Sl enc w' B A l := fun hl => by
  obtain ⟨b, o, e, hb, hc⟩ := h hl
  exact ⟨b, o, e, hb, fun j x hx => (hk _ hb).trans (hc j x hx)⟩
theorem Sl.more (h : Sl enc w B A l) (hB : B ≤ B') : Sl enc w B' A l := fun hl => by
  obtain ⟨b, o, e, hb, hc⟩ := h hl
  exact ⟨b, o, e, by omega, hc⟩
theorem Sl.below (h : Sl enc w B A l) (hb : Below B w w') : Sl enc w' B A l := h.keep fun _ hp => hb.cell hp
/-- From the heap's size of a world to that of a later one. -/
theorem Sl.later (h : Sl enc w w.heap.size A l) (hb : Below w.heap.size w w') : Sl enc w' w'.heap.size A l := (h.below hb).more hb.size
theorem Sl.lt (h : Sl enc w B A l) : Sl enc w w.heap.size A l := fun hl => by
  obtain ⟨b, o, e, _, hc⟩ := h hl
  have h0 : 0 < l.length := List.length_pos_iff.2 hl
  exact ⟨b, o, e, World.block_lt_of_cell? w _ (hc 0 _ (List.getElem?_eq_getElem h0)), hc⟩
theorem Sl.alloc (h : Sl enc w B A l) (hB : B ≤ w.heap.size) (o : Obj) : Sl enc (w.alloc o) B A l := h.keep fun p hp => World.cell?_alloc_lt w o p (by omega)
theorem Sl.setCell (h : Sl enc w B A l) {p : Addr} (hB : B ≤ p.block) (u : Value) : Sl enc (w.setCell p u) B A l :=
  h.keep fun q hq => World.cell?_setCell_other w p q u (fun e => by subst e; omega)
theorem Sl.drew (h : Sl enc w B A l) : Sl enc w.drew B A l := h
theorem Sl.drewN (h : Sl enc w B A l) (k : Nat) : Sl enc (w.drewN k) B A l := h
theorem Sl.grown (h : Sl enc w B A l) {row : Option Nat} (hg : w.grownBy w' row) (hB : B ≤ w.heap.size) (hr : ∀ g, row = some g → B ≤ g) : Sl enc w' B A l :=
  h.keep fun p hp => World.cell?_of_block (hg.block p.block (by omega) (fun e => by have := hr _ e.symm; omega))
/-- l[k:] -/
theorem Sl.drop (h : Sl enc w B A l) {k cap : Nat} (hc : l.length ≤ cap) : Sl enc w B (if cap = k then A else A.map (·.add k)) (l.drop k) := fun hl => by
  have h0 : 0 < (l.drop k).length := List.length_pos_iff.2 hl
  rw [List.length_drop] at h0
  obtain ⟨b, o, rfl, hb, hcell⟩ := h.open_ (by omega)
  rw [if_neg (by omega)]
  refine ⟨b, o + k, ?_, hb, fun j x hx => ?_⟩
  · unfold Addr.add
    by_cases hk : k = 0 <;> simp [hk]
  · rw [Nat.add_assoc]
    exact hcell _ x (by rw [← hx, List.getElem?_drop])
/-- l[:k] -/
theorem Sl.take (h : Sl enc w B A l) (k : Nat) : Sl enc w B A (l.take k) := fun hl => by
  have h0 : 0 < (l.take k).length := List.length_pos_iff.2 hl
  rw [List.length_take] at h0
  obtain ⟨b, o, rfl, hb, hcell⟩ := h.open_ (by omega)
  refine ⟨b, o, rfl, hb, fun j x hx => hcell j x ?_⟩
  rw [List.getElem?_take] at hx
  split at hx
  · exact hx
  · cases hx
theorem Sl.of_own {base : Nat} {e : TypeId} {n c : Nat} (h : w.ownsRow base e 1 (.slice A n c) n (l.map enc)) : Sl enc w w.heap.size A l := fun hl => by
  have hlen : l.length = n := by have := h.1; simpa using this
  have h0 : 0 < l.length := List.length_pos_iff.2 hl
  obtain ⟨g, cap, hv, _, hlt⟩ := h.form (by omega)
  have hA : A = some ⟨g, 0, none⟩ := by injection hv
  subst hA
  refine ⟨g, 0, rfl, hlt, fun j x hx => ?_⟩
  have := h.cells (g := g) rfl j (enc x) (by rw [List.getElem?_map, hx]; rfl)
  have ha : (⟨g, 0, none⟩ : Addr).add j = ⟨g, 0 + j, none⟩ := by unfold Addr.add; by_cases hj : j = 0 <;> simp [hj]
  rw [← ha]
  exact this
theorem Sl.cons {x : α} (h : Sl enc w B A [x]) : ∃ b o, A = some ⟨b, o, none⟩ ∧ b < B ∧ w.cell? ⟨b, o, none⟩ = some (enc x) := by
  obtain ⟨b, o, e, hb, hc⟩ := h.open_ (by simp)
  exact ⟨b, o, e, hb, hc 0 x rfl⟩
end

/-- The cells of a byte list, as append asks them. -/
theorem Sl.news {α : Type} {enc : α → Value} {w : World} {B : Nat} {ad : Addr} {l : List α} (h : Sl enc w B (some ad) l) : ∀ j u, (l.map enc)[j]? = some u → w.cell? (ad.add j) = some u := by
  intro j u hu
  rw [List.getElem?_map, Option.map_eq_some_iff] at hu
  obtain ⟨x, hx, rfl⟩ := hu
  have hj := (List.getElem?_eq_some_iff.1 hx).1
  obtain ⟨b, o, e, _, hc⟩ := h.open_ (by omega)
  obtain rfl : ad = ⟨b, o, none⟩ := by injection e
  have ha : (⟨b, o, none⟩ : Addr).add j = ⟨b, o + j, none⟩ := by unfold Addr.add; by_cases hj : j = 0 <;> simp [hj]
  rw [ha]
  exact hc j x hx
theorem u8_one {l : List UInt8} : ∀ u ∈ l.map u8, u.oneCell' = true := by
  intro u hu
  obtain ⟨x, _, rfl⟩ := List.mem_map.1 hu
  rfl

/-- 'string(b)'. -/
theorem Sl.convert {P : Program} {w : World} {B : Nat} {A : Option Addr} {l : List UInt8} (h : Sl u8 w B A l) (c : Nat) (src e dst : TypeId)
    (hs : P.underlying src = some (.slice e)) (he : P.underlying e = some (.int .u8)) (hd : P.underlying dst = some .string) :
    (convert src dst (.slice A l.length c)).run P w = .ok (.string ⟨l.toArray⟩) w := by
  have hx : strOfNums (l.map fun x => (x.toNat : Int)) = ⟨l.toArray⟩ := by
    unfold strOfNums
    rw [List.map_map]
    congr 2
    conv => rhs; rw [← List.map_id l]
    refine List.map_congr_left fun x _ => ?_
    simp
  rw [← hx]
  rcases Nat.eq_zero_or_pos l.length with h0 | h0
  · obtain rfl : l = [] := List.eq_nil_of_length_eq_zero h0
    cases A with
    | none => exact run_convert_bytes_nil w src e hs he _ c dst hd
    | some ad =>
      rw [run_convert_bytes_string w src dst e _ _ c hs he hd]
      simp [Conv.bytesToString, loadCells, loadCellsFrom, strOfNums, ByteArray.empty, ByteArray.emptyWithCapacity]; rfl
  · obtain ⟨b, o, rfl, hb, hc⟩ := h.open_ h0
    refine run_convert_bytes_arg w src e hs he b o l.length c _ (by simp) (fun i hi => ?_) dst hd
    have := hc i l[i] (List.getElem?_eq_getElem hi)
    rw [this]
    simp [u8, List.getD, hi]

theorem take_succ {α : Type} {l : List α} {k : Nat} {x : α} (h : l[k]? = some x) : l.take (k + 1) = l.take k ++ [x] := by
  rw [List.take_add_one, h]; rfl
theorem lt_of_some {α : Type} {l : List α} {k : Nat} {x : α} (h : l[k]? = some x) : k < l.length := (List.getElem?_eq_some_iff.1 h).1

/-- An owned slice value, its shape. -/
theorem own_form {w : World} {base : Nat} {e : TypeId} {size n : Nat} {v : Value} {xs : List Value} (h : w.ownsRow base e size v n xs) : ∃ A c, v = .slice A n c ∧ n ≤ c ∧ c ≤ maxLen := by
  rcases h.2 with ⟨rfl, rfl⟩ | ⟨g, cap, cur, rfl, _, _, hnc, hcm, _⟩
  · exact ⟨none, 0, rfl, Nat.le_refl _, by simp [maxLen]⟩
  · exact ⟨_, cap, rfl, hnc, hcm⟩

/-- Block g is just the cells cs of element type t, none of them frozen. -/
def Blk (w : World) (g : Nat) (t : TypeId) (cs : Array Value) : Prop := w.heap[g]? = some (.cells cs t (0, 0))
section
variable {w w' : World} {g : Nat} {t : TypeId} {cs : Array Value}
theorem Blk.lt (h : Blk w g t cs) : g < w.heap.size := (Array.getElem?_eq_some_iff.1 h).1
theorem Blk.cell (h : Blk w g t cs) (i : Nat) : w.cell? ⟨g, i, none⟩ = cs[i]? := cell_of_row w g i cs t (0, 0) h
theorem Blk.cell0 {v : Value} (h : Blk w g t #[v]) : w.cell? ⟨g, 0, none⟩ = some v := h.cell 0
theorem Blk.frozen (h : Blk w g t cs) (i : Nat) : w.frozen? ⟨g, i, none⟩ = false := frozen_of_row w g i cs t h
theorem Blk.new (w : World) (t : TypeId) (cs : Array Value) : Blk (w.alloc (.cells cs t)) w.heap.size t cs := heap_alloc_new w _
theorem Blk.new' {g : Nat} (hg : g = w.heap.size) (t : TypeId) (cs : Array Value) : Blk (w.alloc (.cells cs t)) g t cs := by subst hg; exact Blk.new w t cs
theorem Blk.alloc (h : Blk w g t cs) (o : Obj) : Blk (w.alloc o) g t cs := (Below.heap_alloc w o g h.lt).trans h
theorem Blk.drew (h : Blk w g t cs) : Blk w.drew g t cs := h
theorem Blk.drewN (h : Blk w g t cs) (n : Nat) : Blk (w.drewN n) g t cs := h
theorem Blk.store (h : Blk w g t cs) (i : Nat) (u : Value) : Blk (w.setCell ⟨g, i, none⟩ u) g t (cs.setIfInBounds i u) := heap_setCell_same w g i cs t u h
theorem Blk.far (h : Blk w g t cs) {p : Addr} (hp : g ≠ p.block) (u : Value) : Blk (w.setCell p u) g t cs := (Below.heap_setCell w p u g hp).trans h
theorem Blk.below {B : Nat} (h : Blk w g t cs) (hb : Below B w w') (hg : g < B) : Blk w' g t cs := (hb.block g hg).trans h
theorem Blk.later (h : Blk w g t cs) (hb : Below w.heap.size w w') : Blk w' g t cs := h.below hb h.lt
theorem Blk.grown {row : Option Nat} (h : Blk w g t cs) (hb : w.grownBy w' row) (hg : some g ≠ row) : Blk w' g t cs := (hb.block g h.lt hg).trans h
end

/-- A block just laid, as a list. -/
theorem Sl.of_blk {α : Type} {enc : α → Value} {w : World} {g : Nat} {t : TypeId} {l : List α} (h : Blk w g t (l.map enc).toArray) : Sl enc w w.heap.size (some ⟨g, 0, none⟩) l := fun _ =>
  ⟨g, 0, rfl, h.lt, fun j x hx => by rw [Nat.zero_add, h.cell j]; simp [hx]⟩
theorem Sl.of_new {α : Type} {enc : α → Value} {w : World} {t : TypeId} {l : List α} {cs : Array Value} {g : Nat} (hg : g = w.heap.size) (h : cs = (l.map enc).toArray) : Sl enc (w.alloc (.cells cs t)) (w.heap.size + 1) (some ⟨g, 0, none⟩) l := by
  subst h
  have := Sl.of_blk (enc := enc) (Blk.new' hg t (l.map enc).toArray)
  rwa [World.size_alloc] at this

theorem own_base {w : World} {base base' : Nat} {e : TypeId} {size n : Nat} {v : Value} {xs : List Value} (h : w.ownsRow base e size v n xs) (hb : base' ≤ base) : w.ownsRow base' e size v n xs := by
  obtain ⟨h1, h2⟩ := h
  refine ⟨h1, ?_⟩
  rcases h2 with h2 | ⟨g, cap, cur, hv, hg, r⟩
  · exact .inl h2
  · exact .inr ⟨g, cap, cur, hv, by omega, r⟩

theorem ret_int {k : IntKind} {a b : Int} (h : a = b) : Ending.returned (.int k a) = .returned (.int k b) := by rw [h]
theorem ret_bool {a b : Bool} (h : a = b) : Ending.returned (.bool a) = .returned (.bool b) := by rw [h]
theorem below_drewN {B : Nat} {a w : World} (h : Below B a w) (n : Nat) : Below B a (w.drewN n) := ⟨h.os, h.tape, h.output, h.size, h.block⟩

/-- After a call that ends in Below: every old cell and mark reads as before. -/
theorem bcell {W w1 : World} (hb : Below W.heap.size W w1) : (∀ b o, b < W.heap.size → w1.cell? ⟨b, o, none⟩ = W.cell? ⟨b, o, none⟩) ∧ (∀ b o, b < W.heap.size → w1.frozen? ⟨b, o, none⟩ = W.frozen? ⟨b, o, none⟩) :=
  ⟨fun b o h => hb.cell (p := ⟨b, o, none⟩) h, fun b o h => hb.frozen (p := ⟨b, o, none⟩) h⟩

end Go.Proofs.Ytfahfbkkgcekgaa.W
