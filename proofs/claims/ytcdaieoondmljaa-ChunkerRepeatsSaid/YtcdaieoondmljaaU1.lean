/- Shared: pieces of a string, the map of pieces. -/
import Derived.Test.YtcdaieoondmljaaT9
import Derived.Test.YtcdaieoondmljaaLChunkerSplits
import Derived.Maps.OwnOps
import Derived.Maps.Views
import Derived.StringKeys
namespace Go.Proofs.Ytcdaieoondmljaa.H
set_option linter.unusedVariables false
open Go Go.RowKit Go.Proofs.Ytcdaieoondmljaa Go.Proofs.Ytcdaieoondmljaa.W Go.Proofs.Ytcdaieoondmljaa.M

/-- The bytes of a fragment. -/
def pc (s : Bs) (x : Ex) : Bs := (s.drop x.1).take x.2
theorem pc_length {s : Bs} {x : Ex} (h : x.1 + x.2 ≤ s.length) : (pc s x).length = x.2 := by unfold pc; rw [List.length_take, List.length_drop]; omega
/-- A byte string as the model holds it. -/
def str (s : Bs) : Value := .string ⟨s.toArray⟩

/-- string(s[x:x+d]), in any world where s reads. -/
theorem sl_piece {w : World} {B b o c : Nat} {s : Bs} {x1 x2 : Nat} (h : Sl u8 w B (some ⟨b, o, none⟩) s) (hx : x1 + x2 ≤ s.length) :
    (convert 24 9 (.slice (some ⟨b, o + x1, none⟩) x2 c)).run Try.prog w = .ok (str (pc s (x1, x2))) w := by
  have hd : Sl u8 w B (some ⟨b, o + x1, none⟩) (s.drop x1) := by
    have := h.drop (k := x1) (cap := s.length) (Nat.le_refl _)
    by_cases hc : s.length = x1
    · rw [hc] at this
      rw [show s.drop x1 = [] from List.drop_eq_nil_of_le (by omega)]
      exact Sl.nil
    · rw [if_neg hc, Option.map_some] at this
      have e : (⟨b, o, none⟩ : Addr).add x1 = ⟨b, o + x1, none⟩ := by unfold Addr.add; by_cases hk : x1 = 0 <;> simp [hk]
      rwa [e] at this
  have ht := hd.take x2
  have := ht.convert (P := Try.prog) c 24 5 9 (by kernel_rfl) (by kernel_rfl) (by kernel_rfl)
  rw [show (List.take x2 (List.drop x1 s)).length = x2 by rw [List.length_take, List.length_drop]; omega] at this
  exact this
set_option maxRecDepth 100000 in
theorem text_ok (A : Option Addr) (c N : Nat) (s : Bs) (hs : s.length = N) (hc : N ≤ c) (hN : N ≤ 65536) (x1 x2 : Nat) (hx0 : 1 ≤ x2) (hx : x1 + x2 ≤ N) (w : World) (B : Nat) (h : Sl u8 w B A s) :
    Calls Try.prog 33 #[.slice A N c, .agg #[.int .i64 (x1 : Int), .int .i64 (x2 : Int)]] w fun e w' => e = .returned (str (pc s (x1, x2))) ∧ Below w.heap.size w w' := by
  have hS := h.lt
  obtain ⟨b, o, rfl, hb, _⟩ := h.open_ (by omega)
  have hB0 : Below w.heap.size w (w.alloc (.cells #[.int .i64 (x1 : Int), .int .i64 (x2 : Int)] 36)) := (Below.refl _ _).alloc (Nat.le_refl _) _
  have hcv := sl_piece (c := c - x1) (x1 := x1) (x2 := x2) (h.lt.alloc (Nat.le_refl _) (.cells #[.int .i64 (x1 : Int), .int .i64 (x2 : Int)] 36)) (by omega)
  have hcx : ¬ c = x1 := by omega
  have h1 : IntKind.i64.wrap ((x1 : Int) + (x2 : Int)) = ((x1 + x2 : Nat) : Int) := by rw [IntKind.wrap_i64]; omega
  have h2 : (0 : Int) ≤ (x1 : Int) := by omega
  have h3 : (x1 : Int) ≤ ((x1 + x2 : Nat) : Int) := by omega
  have h4 : ((x1 + x2 : Nat) : Int) ≤ (c : Int) := by omega
  go_enter Try.func33, Try.ntmps33
  go_wp2_with fail
  go_ret
  exact ⟨rfl, hB0⟩

/-- The map's datum behind the pieces L. -/
def Mk (L : List Bs) : DataW Unit := L.foldl (fun D s => D.put (.string s) (.lit (.bool true))) (.map [])
theorem Mk_snoc (L : List Bs) (s : Bs) : Mk (L ++ [s]) = (Mk L).put (.string s) (.lit (.bool true)) := by unfold Mk; rw [List.foldl_append]; rfl
theorem str_key (s : Bs) : WideAt.IsKeyLit (.string s) := trivial
theorem mk_at (s : Bs) (z : DataW Unit) : ∀ (L : List Bs) (D : DataW Unit), Maps.IsMap D → (L.foldl (fun D s => D.put (.string s) (.lit (.bool true))) D).atKey (.string s) z = if s ∈ L then .lit (.bool true) else D.atKey (.string s) z
  | [], D, _ => by simp
  | a :: L, D, hD => by
    rw [List.foldl_cons, mk_at s z L _ (hD.put _ _)]
    by_cases h1 : s ∈ L
    · rw [if_pos h1, if_pos (List.mem_cons_of_mem _ h1)]
    · rw [if_neg h1]
      by_cases h2 : s = a
      · subst h2
        rw [if_pos (List.mem_cons_self ..), Maps.atKey_put_same hD (str_key s)]
      · rw [if_neg (by rw [List.mem_cons]; rintro (h | h); exact h2 h; exact h1 h), Maps.atKey_put_other (by intro e; injection e with e; exact h2 e)]
theorem Mk_at (L : List Bs) (s : Bs) : (Mk L).atKey (.string s) (.lit (.bool false)) = .lit (.bool (decide (s ∈ L))) := by
  unfold Mk
  rw [mk_at s _ L _ Maps.isMap_empty]
  by_cases h : s ∈ L
  · rw [if_pos h, decide_eq_true h]
  · rw [if_neg h, decide_eq_false h]; rfl
theorem underS : Try.prog.underlying 9 = some .string := by kernel_rfl
theorem underB : Try.prog.underlying 4 = some .bool := by kernel_rfl
theorem lawS : Maps.Keyed Try.prog 9 := Maps.string_keyed underS
theorem key_str {s : Bs} (h : s.length ≤ maxLen) : keyOf Try.prog 9 (str s) = some (.string s) := WideMaps.keyOf_string_mk underS (s := ⟨s.toArray⟩) (by simpa [ByteArray.size] using h)
theorem plainElem_bool_inv {v : Value} {x : Bool} {ps : List MemPlace} (h : plainElem (H := Unit) Try.prog 4 v = some (.lit (.bool x), ps)) : v = .bool x := by
  unfold plainElem at h
  rw [underB] at h
  cases v <;> simp at h
  rw [h.1]
theorem own_lookup {w : World} {b n : Nat} {L : List Bs} {s : Bs} (h : w.ownsMap Try.prog 9 (plainElem Try.prog 4) b n (Mk L)) (hs : s.length ≤ maxLen) :
    (Instr.lookup 66 (.map (some b)) (str s) false).run Try.prog w = .ok (.bool (decide (s ∈ L))) w := by
  obtain ⟨v, ps, hr, hv⟩ := h.lookup lawS (t := 66) (e := 4) (by kernel_rfl) (z := .bool false) (by kernel_rfl) (plainElem_bool underB false) (key_str hs)
  rw [Mk_at] at hv
  obtain rfl := plainElem_bool_inv hv
  exact hr
theorem own_map_later {w w' : World} {b n : Nat} {D : DataW Unit} (h : w.ownsMap Try.prog 9 (plainElem Try.prog 4) b n D) (hb : Below w.heap.size w w') : w'.ownsMap Try.prog 9 (plainElem Try.prog 4) b n D :=
  h.kept (row := some w.heap.size) ⟨hb.os, hb.tape, hb.output, hb.size, fun k hk _ => hb.block k hk⟩ (by have := h.lt; intro e; injection e with e; omega)
/-- How many bytes of the fragments m of b stand in fragments l of a. -/
def shr (a b : Bs) (l m : List Ex) : Nat := (m.map fun x => if pc b x ∈ l.map (pc a) then x.2 else 0).sum
theorem shr_nil (a b : Bs) (l : List Ex) : shr a b l [] = 0 := rfl
theorem shr_snoc (a b : Bs) (l m : List Ex) (x : Ex) : shr a b l (m ++ [x]) = shr a b l m + if pc b x ∈ l.map (pc a) then x.2 else 0 := by unfold shr; rw [List.map_append, List.sum_append]; simp
theorem shr_le (a b : Bs) (l : List Ex) (K : Nat) : ∀ (m : List Ex), (∀ e ∈ m, e.2 ≤ K) → shr a b l m ≤ m.length * K
  | [], _ => by simp [shr]
  | x :: m, h => by
    have h1 := shr_le a b l K m (fun e he => h e (List.mem_cons_of_mem _ he))
    have h2 := h x (List.mem_cons_self ..)
    have h3 : shr a b l (x :: m) = (if pc b x ∈ l.map (pc a) then x.2 else 0) + shr a b l m := rfl
    have h4 : (if pc b x ∈ l.map (pc a) then x.2 else 0) ≤ K := by split <;> omega
    rw [h3, List.length_cons, Nat.succ_mul]; omega
/-- Fragments that lie inside. -/
def In (N : Nat) (l : List Ex) : Prop := ∀ e ∈ l, 1 ≤ e.2 ∧ e.1 + e.2 ≤ N
theorem frg_in (f : Nat → Nat) (N : Nat) (hf : ∀ a, a < N → a < f a) (hN : ∀ a, f a ≤ N) : ∀ k a, N - a ≤ k → In N (frg f N a) := by
  intro k
  induction k with
  | zero => intro a h e he; rw [frg_end (by omega)] at he; cases he
  | succ k ih =>
    intro a h e he
    rcases Nat.lt_or_ge a N with ha | ha
    · rw [frg_step hf ha] at he
      have h1 := hf a ha
      have h2 := hN a
      rcases List.mem_cons.1 he with rfl | he
      · exact ⟨by show 1 ≤ f a - a; omega, by show a + (f a - a) ≤ N; omega⟩
      · exact ih (f a) (by omega) e he
    · rw [frg_end ha] at he; cases he
end Go.Proofs.Ytcdaieoondmljaa.H
