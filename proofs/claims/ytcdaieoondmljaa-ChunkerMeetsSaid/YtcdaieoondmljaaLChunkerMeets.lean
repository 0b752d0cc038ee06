import Derived.Test.YtcdaieoondmljaaT12
import Derived.Test.YtcdaieoondmljaaSC
import Derived.Deep.RegionHeld3
import Derived.StillTailTactics
namespace Go.Proofs.Ytcdaieoondmljaa.H
set_option linter.unusedVariables false
set_option linter.unusedSimpArgs false
open Go Go.RowKit Go.Proofs.Ytcdaieoondmljaa Go.Proofs.Ytcdaieoondmljaa.W Go.Proofs.Ytcdaieoondmljaa.M

theorem frg_lt (f : Nat → Nat) (N : Nat) (hf : ∀ a, a < N → a < f a) : ∀ k a, N - a ≤ k → ∀ e ∈ frg f N a, e.1 < N := by
  intro k
  induction k with
  | zero => intro a h e he; rw [frg_end (by omega)] at he; cases he
  | succ k ih =>
    intro a h e he
    rcases Nat.lt_or_ge a N with ha | ha
    · rw [frg_step hf ha] at he
      rcases List.mem_cons.1 he with rfl | he
      · exact ha
      · exact ih (f a) (by have := hf a ha; omega) e he
    · rw [frg_end ha] at he; cases he
theorem add_at (b o k : Nat) : (⟨b, o, none⟩ : Addr).add k = ⟨b, o + k, none⟩ := by unfold Addr.add; by_cases hk : k = 0 <;> simp [hk]
/-- The block of ends: two rows of the call's own, apart, from p and from q on. -/
def EndsAt (W : World) (g p q : Nat) (L0 L1 : List Nat) (v0 v1 : Value) : Prop :=
  Blk W g 52 #[v0, v1] ∧ W.ownsRow p 3 1 v0 L0.length (L0.map i64) ∧ W.ownsRow q 3 1 v1 L1.length (L1.map i64) ∧ Apart v0 v1
theorem ends_new {W : World} {g p q : Nat} (h : Blk W g 52 #[.slice none 0 0, .slice none 0 0]) : EndsAt W g p q [] [] (.slice none 0 0) (.slice none 0 0) :=
  ⟨h, ⟨rfl, .inl ⟨rfl, rfl⟩⟩, ⟨rfl, .inl ⟨rfl, rfl⟩⟩, fun k hk => by simp [Value.ownBlock] at hk⟩
theorem EndsAt.low {W : World} {g p q p' q' : Nat} {L0 L1 : List Nat} {v0 v1 : Value} (h : EndsAt W g p q L0 L1 v0 v1) (hp : p' ≤ p) (hq : q' ≤ q) : EndsAt W g p' q' L0 L1 v0 v1 := ⟨h.1, own_base h.2.1 hp, own_base h.2.2.1 hq, h.2.2.2⟩
theorem own_empty {W : World} {p' : Nat} {e : TypeId} {v : Value} (h : v = .slice none 0 0) : W.ownsRow p' e 1 v ([] : List Nat).length (([] : List Nat).map i64) := by subst h; exact ⟨rfl, .inl ⟨rfl, rfl⟩⟩
theorem own_later' {w w' : World} {base : Nat} {e : TypeId} {v : Value} {n : Nat} {xs : List Value} (h : w.ownsRow base e 1 v n xs) (hb : Below w.heap.size w w') : w'.ownsRow base e 1 v n xs := by
  obtain ⟨h1, h2⟩ := h
  refine ⟨h1, ?_⟩
  rcases h2 with h2 | ⟨g, cap, cur, e1, e2, e3, e4⟩
  · exact .inl h2
  · exact .inr ⟨g, cap, cur, e1, e2, (hb.block g (Array.getElem?_eq_some_iff.1 e3).1).trans e3, e4⟩
theorem EndsAt.later {W W' : World} {g p q : Nat} {L0 L1 : List Nat} {v0 v1 : Value} (h : EndsAt W g p q L0 L1 v0 v1) (hb : Below W.heap.size W W') : EndsAt W' g p q L0 L1 v0 v1 :=
  ⟨h.1.later hb, own_later' h.2.1 hb, own_later' h.2.2.1 hb, h.2.2.2⟩
theorem EndsAt.start0 {W : World} {g p q p' : Nat} {L1 : List Nat} {v0 v1 : Value} (hv : v0 = .slice none 0 0) (h : EndsAt W g p q [] L1 v0 v1) : EndsAt W g p' q [] L1 v0 v1 := ⟨h.1, own_empty hv, h.2.2.1, h.2.2.2⟩
theorem EndsAt.start1 {W : World} {g p q q' : Nat} {L0 : List Nat} {v0 v1 : Value} (hv : v1 = .slice none 0 0) (h : EndsAt W g p q L0 [] v0 v1) : EndsAt W g p q' L0 [] v0 v1 := ⟨h.1, h.2.1, own_empty hv, h.2.2.2⟩
theorem slE_far {W : World} {B g i : Nat} {A : Option Addr} {l : List Ex} {v0 v1 u : Value} (h : SlE W B A l) (hb : Blk W g 52 #[v0, v1]) (h0 : ∃ A c n, v0 = .slice A n c) (h1 : ∃ A c n, v1 = .slice A n c) : SlE (W.setCell ⟨g, i, none⟩ u) B A l := fun hl => by
  obtain ⟨b, o, e, hlt, hc⟩ := h hl
  refine ⟨b, o, e, hlt, fun j x hx => ?_⟩
  have h2 := hc j x hx
  by_cases hbg : b = g
  · exfalso
    subst hbg
    rw [hb.cell] at h2
    have h3 : ∃ z : Int, x = .int .i64 z := by
      have := List.mem_of_getElem? hx
      unfold flatE at this
      rw [List.mem_flatMap] at this
      obtain ⟨e, _, he⟩ := this
      rw [List.mem_cons, List.mem_singleton] at he
      rcases he with rfl | rfl <;> exact ⟨_, rfl⟩
    obtain ⟨z, rfl⟩ := h3
    obtain ⟨_, _, _, rfl⟩ := h0
    obtain ⟨_, _, _, rfl⟩ := h1
    match o + j, h2 with
    | 0, h2 => simp at h2
    | 1, h2 => simp at h2
    | k + 2, h2 => simp at h2
  · rw [World.cell?_setCell_other _ _ _ _ (by intro e2; injection e2 with e3; exact hbg e3.symm)]
    exact h2
theorem own_slice {W : World} {base n : Nat} {e : TypeId} {v : Value} {xs : List Value} (h : W.ownsRow base e 1 v n xs) : ∃ A c n, v = .slice A n c := by
  obtain ⟨A, c, h, _⟩ := own_form h
  exact ⟨A, c, n, h⟩
/-- One more number at the first row's end. -/
theorem ends_put0 {W w5 w : World} {g q gg cap k y gx B4 : Nat} {L0 L1 : List Nat} {v0 v1 : Value} {A4 : Option Addr} {l : List Ex} {cs xs : Array Value} {tmp : Obj} (hE : EndsAt W g B4 q L0 L1 v0 v1) (hk : L0.length = k)
    (o5 : w5.ownsRow B4 3 1 (.slice (some ⟨gg, 0, none⟩) (k + 1) cap) (k + 1) (L0.map i64 ++ [.int .i64 (y : Int)])) (g5 : (W.alloc tmp).drew.grownBy w5 v0.ownBlock) (at5 : v0.ownBlock = some gg ∨ gg = W.heap.size + 1)
    (hg : g < B4) (hq : g < q) (hc : Blk W w.heap.size 23 cs) (hcg : w.heap.size < g) (hs : SlE W B4 A4 l) (hB : Below w.heap.size w W) (hx : Blk W gx 36 xs) (hBs : B4 ≤ W.heap.size) :
    let W' := w5.setCell ⟨g, 0, none⟩ (.slice (some ⟨gg, 0, none⟩) (k + 1) cap)
    Blk w5 g 52 #[v0, v1] ∧ EndsAt W' g B4 q (L0 ++ [y]) L1 (.slice (some ⟨gg, 0, none⟩) (k + 1) cap) v1 ∧ Blk W' w.heap.size 23 cs ∧ SlE W' B4 A4 l ∧ Below w.heap.size w W' ∧ B4 ≤ W'.heap.size ∧ W'.cell? ⟨gx, 0, none⟩ = xs[0]? := by
  intro W'
  obtain ⟨e1, e2, e3, e4⟩ := hE
  subst hk
  have b5 : Blk w5 g 52 #[v0, v1] := (e1.alloc tmp).drew.grown g5 (blk_not_row e1 (by decide) e2)
  have k5 : Blk w5 w.heap.size 23 cs := (hc.alloc tmp).drew.grown g5 (blk_not_row hc (by decide) e2)
  have x5 : Blk w5 gx 36 xs := (hx.alloc tmp).drew.grown g5 (blk_not_row hx (by decide) e2)
  have hgx : gx ≠ g := by
    intro e; subst e
    have := (show W.heap[gx]? = _ from hx).symm.trans e1
    simp at this
  have hbb : Below B4 W w5 := (((Below.refl B4 W).alloc hBs tmp).drew).grown g5 (by simp; omega) (fun j e => (e2.lt j e).1)
  have r5 := Apart.kept (w := (W.alloc tmp).drew) e4 ((e3.alloc tmp).drew) g5
  have s5 : SlE w5 B4 A4 l := Sl.below hs hbb
  refine ⟨b5, ⟨b5.store 0 _, ?_, ownsRow_setCell_below r5 (a := ⟨g, 0, none⟩) hq _, Apart.step e4 e3 (H := W.heap.size + 1) (by omega) ?_⟩, k5.far (by simp; omega) _, ?_, (hB.trans (hbb.mono (by omega))).setCell (by simp; omega) _, ?_, ?_⟩
  · rw [List.length_append, List.map_append]
    exact ownsRow_setCell_below o5 (a := ⟨g, 0, none⟩) hg _
  · rcases at5 with h | h
    · exact .inl (by rw [h]; rfl)
    · exact .inr (by rw [← h]; rfl)
  · exact slE_far s5 b5 (own_slice e2) (own_slice e3)
  · have := hbb.size; simp [W']; omega
  · exact (x5.far (by simpa using hgx) _).cell 0
/-- One more number at the second row's end. -/
theorem ends_put1 {W w5 w : World} {g q gg cap k y gx B4 : Nat} {L0 L1 : List Nat} {v0 v1 : Value} {A4 : Option Addr} {l : List Ex} {cs xs : Array Value} {tmp : Obj} (hE : EndsAt W g q B4 L0 L1 v0 v1) (hk : L1.length = k)
    (o5 : w5.ownsRow B4 3 1 (.slice (some ⟨gg, 0, none⟩) (k + 1) cap) (k + 1) (L1.map i64 ++ [.int .i64 (y : Int)])) (g5 : (W.alloc tmp).drew.grownBy w5 v1.ownBlock) (at5 : v1.ownBlock = some gg ∨ gg = W.heap.size + 1)
    (hg : g < B4) (hq : g < q) (hc : Blk W w.heap.size 23 cs) (hcg : w.heap.size < g) (hs : SlE W B4 A4 l) (hB : Below w.heap.size w W) (hx : Blk W gx 36 xs) (hBs : B4 ≤ W.heap.size) :
    let W' := w5.setCell ⟨g, 1, none⟩ (.slice (some ⟨gg, 0, none⟩) (k + 1) cap)
    Blk w5 g 52 #[v0, v1] ∧ EndsAt W' g q B4 L0 (L1 ++ [y]) v0 (.slice (some ⟨gg, 0, none⟩) (k + 1) cap) ∧ Blk W' w.heap.size 23 cs ∧ SlE W' B4 A4 l ∧ Below w.heap.size w W' ∧ B4 ≤ W'.heap.size ∧ W'.cell? ⟨gx, 0, none⟩ = xs[0]? := by
  intro W'
  obtain ⟨e1, e3, e2, e4⟩ := hE
  subst hk
  have b5 : Blk w5 g 52 #[v0, v1] := (e1.alloc tmp).drew.grown g5 (blk_not_row e1 (by decide) e2)
  have k5 : Blk w5 w.heap.size 23 cs := (hc.alloc tmp).drew.grown g5 (blk_not_row hc (by decide) e2)
  have x5 : Blk w5 gx 36 xs := (hx.alloc tmp).drew.grown g5 (blk_not_row hx (by decide) e2)
  have hgx : gx ≠ g := by
    intro e; subst e
    have := (show W.heap[gx]? = _ from hx).symm.trans e1
    simp at this
  have hbb : Below B4 W w5 := (((Below.refl B4 W).alloc hBs tmp).drew).grown g5 (by simp; omega) (fun j e => (e2.lt j e).1)
  have r5 := Apart.kept (w := (W.alloc tmp).drew) e4.symm ((e3.alloc tmp).drew) g5
  have s5 : SlE w5 B4 A4 l := Sl.below hs hbb
  refine ⟨b5, ⟨b5.store 1 _, ownsRow_setCell_below r5 (a := ⟨g, 1, none⟩) hq _, ?_, (Apart.step e4.symm e3 (H := W.heap.size + 1) (by omega) ?_).symm⟩, k5.far (by simp; omega) _, ?_, (hB.trans (hbb.mono (by omega))).setCell (by simp; omega) _, ?_, ?_⟩
  · rw [List.length_append, List.map_append]
    exact ownsRow_setCell_below o5 (a := ⟨g, 1, none⟩) hg _
  · rcases at5 with h | h
    · exact .inl (by rw [h]; rfl)
    · exact .inr (by rw [← h]; rfl)
  · exact slE_far s5 b5 (own_slice e3) (own_slice e2)
  · have := hbb.size; simp [W']; omega
  · exact (x5.far (by simpa using hgx) _).cell 0
/-- Which lists stand there ahead of round i. -/
def Rnd (i : Value) (E0 E1 L0 L1 : List Nat) (v0 v1 : Value) : Prop := (i = .int .i64 0 ∧ L0 = [] ∧ L1 = [] ∧ v0 = .slice none 0 0 ∧ v1 = .slice none 0 0) ∨ (i = .int .i64 1 ∧ L0 = E0 ∧ L1 = [] ∧ v1 = .slice none 0 0) ∨ (i = .int .i64 2 ∧ L0 = E0 ∧ L1 = E1)

set_option maxRecDepth 100000 in
set_option maxHeartbeats 4000000 in
theorem meets_walk (le us mo wi : Int) (A : Option Addr) (c : Nat) (a : List UInt8) (A' : Option Addr) (c' : Nat) (b : List UInt8) (A'' : Option Addr) (c'' : Nat) (t : List UInt8) (w : World) (_h1 : -9223372036854775808 ≤ le) (_h2 : le ≤ 9223372036854775807) (_h3 : -9223372036854775808 ≤ us) (_h4 : us ≤ 9223372036854775807) (_h5 : -9223372036854775808 ≤ mo) (_h6 : mo ≤ 9223372036854775807) (_h7 : -9223372036854775808 ≤ wi) (_h8 : wi ≤ 9223372036854775807)
    (h : Sl u8 w w.heap.size A a) (hc : a.length ≤ c) (hm : c ≤ maxLen) (h' : Sl u8 w w.heap.size A' b) (hc' : b.length ≤ c') (hm' : c' ≤ maxLen) (h'' : Sl u8 w w.heap.size A'' t) (hc'' : t.length ≤ c'') (hm'' : c'' ≤ maxLen) :
    Calls Try.prog 9 #[.agg #[.int .i64 le, .int .i64 us, .int .i64 mo, .int .i64 wi], .agg #[.slice A a.length c, .slice A' b.length c'], .slice A'' t.length c''] w fun e w' => e = .returned (.bool true) ∧ Below w.heap.size w w' := by
  have hmx : a.length ≤ 9223372036854775807 := by unfold maxLen at hm; omega
  have hmy : b.length ≤ 9223372036854775807 := by unfold maxLen at hm'; omega
  have hmz : t.length ≤ 9223372036854775807 := by unfold maxLen at hm''; omega
  obtain ⟨iI, hi, hz0, hz1, hz2⟩ := info_parts infoI
  obtain ⟨N, hn⟩ : ∃ n, a.length = n := ⟨_, rfl⟩
  obtain ⟨M, hmm⟩ : ∃ n, b.length = n := ⟨_, rfl⟩
  obtain ⟨T, ht⟩ : ∃ n, t.length = n := ⟨_, rfl⟩
  rw [hn] at hc hmx ⊢
  rw [hmm] at hc' hmy ⊢
  rw [ht] at hc'' hmz ⊢
  have hB0 : Below w.heap.size w ((w.alloc (.cells #[.int .i64 le, .int .i64 us, .int .i64 mo, .int .i64 wi] 23)).alloc (.cells #[.slice A N c, .slice A' M c'] 50)) := ((Below.refl _ _).alloc (Nat.le_refl _) _).alloc (by simp) _
  have hk0 : Blk ((w.alloc (.cells #[.int .i64 le, .int .i64 us, .int .i64 mo, .int .i64 wi] 23)).alloc (.cells #[.slice A N c, .slice A' M c'] 50)) w.heap.size 23 #[.int .i64 le, .int .i64 us, .int .i64 mo, .int .i64 wi] := (Blk.new _ _ _).alloc _
  have hq0 : Blk ((w.alloc (.cells #[.int .i64 le, .int .i64 us, .int .i64 mo, .int .i64 wi] 23)).alloc (.cells #[.slice A N c, .slice A' M c'] 50)) (w.heap.size + 1) 50 #[.slice A N c, .slice A' M c'] := Blk.new' (by simp) _ _
  obtain ⟨ck, hck⟩ : ∃ ck, chkC le us mo wi = ck := ⟨_, rfl⟩
  have E1 : Hid (∀ W, Calls Try.prog 15 #[.agg #[.int .i64 le, .int .i64 us, .int .i64 mo, .int .i64 wi]] W fun e w' => e = .returned (.int .i64 ck) ∧ Below W.heap.size W w') := Lib.hid fun W => by rw [← hck]; exact Check_ok le us mo wi W
  by_cases h5 : N > 100
  · have h5' : decide ((100 : Int) < (N : Int)) = true := by simp; omega
    clear hm hm' hm'' hn hmm ht h5 _h1 _h2 _h3 _h4 _h5 _h6 _h7 _h8 hck
    go_enter Try.func9, Try.ntmps9
    go_wp2_with (go_at_call 11; refine (awake_any _).mono ?_; rintro e w1 ⟨rfl, hb1⟩)
    go_ret
    exact ⟨rfl, bsa hB0 hB0.size hb1⟩
  · have h5' : decide ((100 : Int) < (N : Int)) = false := by simp; omega
    by_cases h6 : M > 100
    · have h6' : decide ((100 : Int) < (M : Int)) = true := by simp; omega
      clear hm hm' hm'' hn hmm ht h5 h6 _h1 _h2 _h3 _h4 _h5 _h6 _h7 _h8 hck
      go_enter Try.func9, Try.ntmps9
      go_wp2_with (go_at_call 11; refine (awake_any _).mono ?_; rintro e w1 ⟨rfl, hb1⟩)
      go_ret
      exact ⟨rfl, bsa hB0 hB0.size hb1⟩
    · have h6' : decide ((100 : Int) < (M : Int)) = false := by simp; omega
      by_cases h7 : T > 150
      · have h7' : decide ((150 : Int) < (T : Int)) = true := by simp; omega
        clear hm hm' hm'' hn hmm ht h5 h6 h7 _h1 _h2 _h3 _h4 _h5 _h6 _h7 _h8 hck
        go_enter Try.func9, Try.ntmps9
        go_wp2_with (go_at_call 11; refine (awake_any _).mono ?_; rintro e w1 ⟨rfl, hb1⟩)
        go_ret
        exact ⟨rfl, bsa hB0 hB0.size hb1⟩
      · have h7' : decide ((150 : Int) < (T : Int)) = false := by simp; omega
        by_cases hck0 : ck = 0
        · subst hck0
          obtain ⟨le', us', mo', wi', rfl, rfl, rfl, rfl, hg⟩ := chk_nat hck
          have gp : 1 ≤ le' := by have := hg.w1; have := hg.l1; omega
          have hlaw := meets_law hg a b t
          have hlN : (a ++ t).length = N + T := by rw [List.length_append, hn, ht]
          have hlM : (b ++ t).length = M + T := by rw [List.length_append, hmm, ht]
          rw [hn, hmm, ht] at hlaw
          obtain ⟨l, hl⟩ : ∃ l, frg (nxt (places (a ++ t) wi' (msk us')) le' mo' (N + T)) (N + T) 0 = l := ⟨_, rfl⟩
          obtain ⟨l', hl'⟩ : ∃ l, frg (nxt (places (b ++ t) wi' (msk us')) le' mo' (M + T)) (M + T) 0 = l := ⟨_, rfl⟩
          obtain ⟨n, hln⟩ : ∃ n, l.length = n := ⟨_, rfl⟩
          obtain ⟨n', hln'⟩ : ∃ n, l'.length = n := ⟨_, rfl⟩
          rw [hl, hl'] at hlaw
          have hn6 : n ≤ N + T := by rw [← hln, ← hl]; exact frg_length _ (N + T) (fun a ha => nxt_gt gp hg.m1 ha) (N + T) 0 (by omega)
          have hn6' : n' ≤ M + T := by rw [← hln', ← hl']; exact frg_length _ (M + T) (fun a ha => nxt_gt gp hg.m1 ha) (M + T) 0 (by omega)
          have D1 : Hid (∀ (W : World) (g : Nat), g = W.heap.size → Below w.heap.size w W → Calls Try.prog 23 #[.slice (some ⟨g, 0, none⟩) 2 2] (W.alloc (.cells #[.slice A N c, .slice A'' T c''] 24)) fun e w' => ∃ A3 c3, e = .returned (.slice A3 (N + T) c3) ∧ Sl u8 w' w'.heap.size A3 (a ++ t) ∧ N + T ≤ c3 ∧ c3 ≤ maxLen ∧ Below W.heap.size W w') := Lib.hid fun W g hgW hW => by subst hgW; exact Concat2 hn ht rfl (by omega) (h.later hW) (h''.later hW)
          have D2 : Hid (∀ (W : World) (g : Nat), g = W.heap.size → Below w.heap.size w W → Calls Try.prog 23 #[.slice (some ⟨g, 0, none⟩) 2 2] (W.alloc (.cells #[.slice A' M c', .slice A'' T c''] 24)) fun e w' => ∃ A3 c3, e = .returned (.slice A3 (M + T) c3) ∧ Sl u8 w' w'.heap.size A3 (b ++ t) ∧ M + T ≤ c3 ∧ c3 ≤ maxLen ∧ Below W.heap.size W w') := Lib.hid fun W g hgW hW => by subst hgW; exact Concat2 hmm ht rfl (by omega) (h'.later hW) (h''.later hW)
          have D3 : Hid (∀ (W : World) A3 c3, Sl u8 W W.heap.size A3 (a ++ t) → Splits le' us' mo' wi' 12 A3 (N + T) c3 l n 0 W) := Lib.hid fun W A3 c3 hW => Split_ok hg hck A3 c3 (N + T) (a ++ t) hlN (by omega) l n hl hln W _ hW
          have D4 : Hid (∀ (W : World) A3 c3, Sl u8 W W.heap.size A3 (b ++ t) → Splits le' us' mo' wi' 12 A3 (M + T) c3 l' n' 0 W) := Lib.hid fun W A3 c3 hW => Split_ok hg hck A3 c3 (M + T) (b ++ t) hlM (by omega) l' n' hl' hln' W _ hW
          have i0 : ∀ W : World, (Instr.index 50 (.agg #[.slice A N c, .slice A' M c']) (.int .i64 0)).run Try.prog W = .ok (.slice A N c) W := fun _ => by kernel_rfl
          have i1 : ∀ W : World, (Instr.index 50 (.agg #[.slice A N c, .slice A' M c']) (.int .i64 1)).run Try.prog W = .ok (.slice A' M c') W := fun _ => by kernel_rfl
          have hnb : n ≤ 250 := by omega
          have HLT : Hid (∀ e ∈ l, e.1 < 250) := Lib.hid fun e he => by have := frg_lt _ (N + T) (fun a ha => nxt_gt gp hg.m1 ha) (N + T) 0 (by omega) e (by rw [hl]; exact he); omega
          have HLT' : Hid (∀ e ∈ l', e.1 < 250) := Lib.hid fun e he => by have := frg_lt _ (M + T) (fun a ha => nxt_gt gp hg.m1 ha) (M + T) 0 (by omega) e (by rw [hl']; exact he); omega
          have hnb' : n' ≤ 250 := by omega
          have HLAW := Lib.hid hlaw
          have HLN := Lib.hid hln
          have HLN' := Lib.hid hln'
          clear hm hm' hm'' hn hmm ht h5 h6 h7 _h1 _h2 _h3 _h4 _h5 _h6 _h7 _h8 hck hl hl' hln hln' hlaw hlN hlM hg
          go_enter Try.func9, Try.ntmps9
          go_wp2_with (go_at_call 15; refine (E1.out _).mono ?_; rintro e w1 ⟨rfl, hb1⟩; have hB1 := bsa hB0 hB0.size hb1; have hk1 := (hk0.later hb1).alloc (.cells #[.slice none 0 0, .slice none 0 0] 52); have hq1 := (hq0.later hb1).alloc (.cells #[.slice none 0 0, .slice none 0 0] 52); have he1 : Blk (w1.alloc (.cells #[.slice none 0 0, .slice none 0 0] 52)) w1.heap.size 52 #[.slice none 0 0, .slice none 0 0] := Blk.new _ _ _; have q0 := hq1.cell 0; have q1 := hq1.cell 1; have hww : w.heap.size < w1.heap.size := (hk0.later hb1).lt; have hBe := hB1.alloc hB1.size (.cells #[.slice none 0 0, .slice none 0 0] 52))
          clear hk0 hq0 hB0 hb1 hB1 E1 q0 q1
          go_loopw [39] (fun iv wm => ∃ (L0 L1 : List Nat) (v0 v1 : Value), Rnd iv (rel N l) (rel M l') L0 L1 v0 v1 ∧ EndsAt wm w1.heap.size (w1.heap.size + 1) (w1.heap.size + 1) L0 L1 v0 v1 ∧ Blk wm w.heap.size 23 #[.int .i64 (le' : Int), .int .i64 (us' : Int), .int .i64 (mo' : Int), .int .i64 (wi' : Int)] ∧ Below w.heap.size w wm) (fun iv _ => 2 - (intOf iv).toNat)
          case atStart => exact ⟨[], [], _, _, .inl ⟨rfl, rfl, rfl, rfl, rfl⟩, ends_new he1, hk1, hBe⟩
          case round =>
            obtain ⟨L0, L1, v0, v1, hR, hE, hk, hB⟩ := hrel
            clear he1 hk1 hBe hq1
            rcases hR with ⟨rfl, rfl, rfl, hv0, hv1⟩ | ⟨rfl, rfl, rfl, hv1⟩ | ⟨rfl, rfl, rfl⟩
            · go_wp2_with fail
              have hH : Below wr.heap.size wr wr.drew := (Below.refl _ _).drew
              have KEEP : Hid (∀ W, Below wr.heap.size wr W → (W.cell? ⟨w.heap.size, 0, none⟩ = some (.int .i64 (le' : Int)) ∧ W.cell? ⟨w.heap.size, 1, none⟩ = some (.int .i64 (us' : Int)) ∧ W.cell? ⟨w.heap.size, 2, none⟩ = some (.int .i64 (mo' : Int)) ∧ W.cell? ⟨w.heap.size, 3, none⟩ = some (.int .i64 (wi' : Int)))) := Lib.hid fun W hW => ⟨(hk.later hW).cell 0, (hk.later hW).cell 1, (hk.later hW).cell 2, (hk.later hW).cell 3⟩
              go_region_held3 (fun W => W.cell? ⟨w.heap.size, 0, none⟩ = some (.int .i64 (le' : Int)) ∧ W.cell? ⟨w.heap.size, 1, none⟩ = some (.int .i64 (us' : Int)) ∧ W.cell? ⟨w.heap.size, 2, none⟩ = some (.int .i64 (mo' : Int)) ∧ W.cell? ⟨w.heap.size, 3, none⟩ = some (.int .i64 (wi' : Int)))
                (first | exact KEEP.out _ hH | exact KEEP.out _ (hH.alloc hH.size _))
                (first
                | (go_at_call 23; refine (D1.out _ _ (by simp) (bsa hB hB.size hH)).mono ?_; rintro e w3 ⟨A3, c3, rfl, t3, _, _, hb3⟩; have hH := bsa hH hH.size hb3)
                | (go_at_call 12; refine (D3.out _ _ _ t3).mono ?_; rintro e w4 ⟨A4, c4, rfl, t4, hc4, hb4⟩; have hH := bsa hH hH.size hb4))
              obtain ⟨B4, hB4e⟩ : ∃ B4, w4.heap.size = B4 := ⟨_, rfl⟩
              have hE4 := EndsAt.start0 (p' := B4) hv0 (hE.later hH)
              have hk4 := hk.later hH
              have hB4 := bsa hB hB.size hH
              have hg4 : w1.heap.size < B4 := by rw [← hB4e]; exact hE4.1.lt
              have hw4 : w.heap.size < w1.heap.size := hww
              rw [hB4e] at t4
              have hb4' : B4 ≤ w4.heap.size := by omega
              clear KEEP hH hb3 hb4 t3 hE hk hB hB4e
              go_wp2_with fail
              go_loopw [56] (fun jv wm => ∃ (j : Nat) (v : Value), j ≤ n ∧ jv = .int .i64 (j : Int) ∧ EndsAt wm w1.heap.size B4 (w1.heap.size + 1) (rel N (l.take j)) [] v v1 ∧ Blk wm w.heap.size 23 #[.int .i64 (le' : Int), .int .i64 (us' : Int), .int .i64 (mo' : Int), .int .i64 (wi' : Int)] ∧ SlE wm B4 A4 l ∧ Below w.heap.size w wm ∧ B4 ≤ wm.heap.size) (fun jv _ => n - (intOf jv).toNat)
              case atStart => exact ⟨0, _, Nat.zero_le _, rfl, hE4, hk4, t4, hB4, hb4'⟩
              case round =>
                obtain ⟨j, v, hj, rfl, hE, hk, hs, hB, hBs⟩ := hrel
                clear hE4 hk4 t4 hB4 hb4'
                by_cases hlt : j < n
                · obtain ⟨b0, q0, x, rfl, _, hx, hc1, hc2⟩ := hs.at_ (i := j) (by rw [HLN.out]; exact hlt)
                  obtain ⟨y, z⟩ := x
                  replace hc1 : wr.cell? ⟨b0, q0 + j * 2, none⟩ = some (.int .i64 (y : Int)) := hc1
                  replace hc2 : wr.cell? ⟨b0, q0 + j * 2 + 1, none⟩ = some (.int .i64 (z : Int)) := hc2
                  have hx1 : Blk (wr.alloc (.cells #[.int .i64 (y : Int), .int .i64 (z : Int)] 36)) wr.heap.size 36 #[.int .i64 (y : Int), .int .i64 (z : Int)] := Blk.new _ _ _
                  have x0 := hx1.cell 0
                  have htk := take_succ hx
                  have hyl : y < 250 := HLT.out _ (List.mem_of_getElem? hx)
                  by_cases hy : y < N
                  · have hy' : ¬ (N : Int) ≤ (y : Int) := by omega
                    go_wp2_with fail
                    go_roundw
                    case rel => exact ⟨j + 1, v, by omega, by go_num, by rw [htk, rel_append, rel_out hy, rel_nil, List.append_nil]; exact hE.later ((Below.refl _ _).alloc (Nat.le_refl _) _), hk.alloc _, SlE.alloc hs hBs _, hB.alloc hB.size _, by simp; omega⟩
                    case measure => simp [intOf]; omega
                  · have hy' : (N : Int) ≤ (y : Int) := by omega
                    have hW1 : Below wr.heap.size wr (wr.alloc (.cells #[.int .i64 (y : Int), .int .i64 (z : Int)] 36)) := (Below.refl _ _).alloc (Nat.le_refl _) _
                    have hE1 := hE.later hW1
                    have hk1 := hk.later hW1
                    have hs1 := SlE.alloc hs hBs (.cells #[.int .i64 (y : Int), .int .i64 (z : Int)] 36)
                    have hB1 := bsa hB hB.size hW1
                    have hz1' : wr.heap.size < (wr.alloc (.cells #[.int .i64 (y : Int), .int .i64 (z : Int)] 36)).heap.size := by simp
                    have hg1 : w1.heap.size < wr.heap.size := hE.1.lt
                    have hln : (rel N (l.take j)).length ≤ 250 := Nat.le_trans (rel_length _ _) (by rw [List.length_take]; omega)
                    go_wp2_with fail
                    obtain ⟨wn, hwn⟩ : ∃ wn, wr.alloc (.cells #[.int .i64 (y : Int), .int .i64 (z : Int)] 36) = wn := ⟨_, rfl⟩
                    obtain ⟨gx, hgx⟩ : ∃ g, wr.heap.size = g := ⟨_, rfl⟩
                    rw [hwn] at hE1 hk1 hs1 hB1 hx1 x0 hz1'
                    rw [hgx] at x0 hx1 hz1' hg1 hBs
                    rw [hwn, hgx]
                    clear hwn hgx hE hk hs hB hW1 hc1 hc2
                    have e0 := hE1.1.cell 0
                    have e0a : ∀ ob, (wn.alloc ob).cell? ⟨w1.heap.size, 0, none⟩ = some v := fun ob => (hE1.1.alloc ob).cell 0
                    obtain ⟨k, hkl⟩ : ∃ k, (rel N (l.take j)).length = k := ⟨_, rfl⟩
                    rw [hkl] at hln
                    have OW := Lib.hid (show ((wn.alloc (.cells #[.int .i64 ((y - N : Nat) : Int)] 3)).drew).ownsRow B4 3 1 v k ((rel N (l.take j)).map i64) from by rw [← hkl]; exact ((hE1.2.1).alloc _).drew)
                    have HM := Lib.hid (show k + 1 ≤ maxLen by unfold maxLen; omega)
                    have HM2 := Lib.hid (show (k + 1) * 8 ≤ 140737488355328 by omega)
                    have HB4 := Lib.hid (show B4 ≤ ((wn.alloc (.cells #[.int .i64 ((y - N : Nat) : Int)] 3)).drew).heap.size by simp; omega)
                    have XA := Lib.hid (show (wn.alloc (.cells #[.int .i64 ((y - N : Nat) : Int)] 3)).drew.cell? ⟨gx, 0, none⟩ = some (.int .i64 (y : Int)) from (hx1.alloc _).cell 0)
                    have XC := Lib.hid (show ∀ w5, (wn.alloc (.cells #[.int .i64 ((y - N : Nat) : Int)] 3)).drew.grownBy w5 v.ownBlock → w5.cell? ⟨gx, 0, none⟩ = some (.int .i64 (y : Int)) from fun w5 g5 => (Blk.grown (Blk.drew (hx1.alloc _)) g5 (blk_not_row hx1 (by decide) hE1.2.1)).cell 0)
                    have EN := Lib.hid (show ∀ gg cap w5, w5.ownsRow B4 3 1 (.slice (some ⟨gg, 0, none⟩) (k + 1) cap) (k + 1) ((rel N (l.take j)).map i64 ++ [.int .i64 ((y - N : Nat) : Int)]) → (wn.alloc (.cells #[.int .i64 ((y - N : Nat) : Int)] 3)).drew.grownBy w5 v.ownBlock → (v.ownBlock = some gg ∨ gg = wn.heap.size + 1) →
                      (Blk w5 w1.heap.size 52 #[v, v1] ∧ Blk w5 w1.heap.size 52 #[v, v1]) ∧ (w5.setCell ⟨w1.heap.size, 0, none⟩ (.slice (some ⟨gg, 0, none⟩) (k + 1) cap)).cell? ⟨gx, 0, none⟩ = some (.int .i64 (y : Int)) ∧ ∃ (j' : Nat) (v' : Value), j' ≤ n ∧ Value.int .i64 ((j : Int) + 1) = .int .i64 (j' : Int) ∧ EndsAt (w5.setCell ⟨w1.heap.size, 0, none⟩ (.slice (some ⟨gg, 0, none⟩) (k + 1) cap)) w1.heap.size B4 (w1.heap.size + 1) (rel N (l.take j')) [] v' v1 ∧ Blk (w5.setCell ⟨w1.heap.size, 0, none⟩ (.slice (some ⟨gg, 0, none⟩) (k + 1) cap)) w.heap.size 23 #[.int .i64 (le' : Int), .int .i64 (us' : Int), .int .i64 (mo' : Int), .int .i64 (wi' : Int)] ∧ SlE (w5.setCell ⟨w1.heap.size, 0, none⟩ (.slice (some ⟨gg, 0, none⟩) (k + 1) cap)) B4 (some ⟨b0, q0, none⟩) l ∧ Below w.heap.size w (w5.setCell ⟨w1.heap.size, 0, none⟩ (.slice (some ⟨gg, 0, none⟩) (k + 1) cap)) ∧ B4 ≤ (w5.setCell ⟨w1.heap.size, 0, none⟩ (.slice (some ⟨gg, 0, none⟩) (k + 1) cap)).heap.size from
                      fun gg cap w5 o5 g5 at5 => by
                        obtain ⟨bb, p1, p2, p3, p4, p5, p6⟩ := ends_put0 hE1 hkl o5 g5 at5 hg4 (Nat.lt_succ_self _) hk1 hw4 hs1 hB1 hx1 (by omega)
                        exact ⟨⟨bb, bb⟩, p6, j + 1, _, by omega, by go_num, by rw [htk, rel_append, rel_in (by omega), rel_nil]; exact p1, p2, p3, p4, p5⟩)
                    have hyN : IntKind.i64.wrap ((y : Int) - (N : Int)) = ((y - N : Nat) : Int) := by rw [IntKind.wrap_i64]; omega
                    clear hE1 hk1 hs1 hB1 hx1 hx htk hkl
                    refine wp_region_held_drew (S := fun W => W.cell? ⟨gx, 0, none⟩ = some (.int .i64 (y : Int))) (by kernel_rfl) x0 (fun hHeld => ?_)
                    refine wpAnyH_take (i := 0) (v := ?_) rfl (by kernel_rfl) (by kernel_rfl) (by kernel_rfl) (fun _ _ _ h => h) (Or.inl ⟨by rfl, ?_⟩) hHeld ?_
                    rotate_left
                    · (intro W hSw; (try dsimp only at hSw); go_simp; try with_reducible rfl)
                    try simp only [Act.put, List.setIfInBounds_toArray, List.set_cons_zero, List.set_cons_succ, List.getElem_toArray, List.getElem_cons_succ, List.getElem_cons_zero]
                    refine wpAnyH_take (i := 1) (v := ?_) rfl (by kernel_rfl) (by kernel_rfl) (by kernel_rfl) (fun _ _ _ h => h) (Or.inl ⟨by rfl, ?_⟩) hHeld ?_
                    rotate_left
                    · (intro W hSw; (try dsimp only at hSw); go_simp; try with_reducible rfl)
                    try simp only [Act.put, List.setIfInBounds_toArray, List.set_cons_zero, List.set_cons_succ, List.getElem_toArray, List.getElem_cons_succ, List.getElem_cons_zero]
                    refine wpAnyH_take (i := 2) (v := ?_) rfl (by kernel_rfl) (by kernel_rfl) (by kernel_rfl) (fun _ _ _ h => h) (Or.inl ⟨by rfl, ?_⟩) hHeld ?_
                    rotate_left
                    · (intro W hSw; (try dsimp only at hSw); go_simp; try with_reducible rfl)
                    try simp only [Act.put, List.setIfInBounds_toArray, List.set_cons_zero, List.set_cons_succ, List.getElem_toArray, List.getElem_cons_succ, List.getElem_cons_zero]
                    refine wpAnyH_take (i := 4) (v := ?_) rfl (by kernel_rfl) (by kernel_rfl) (by kernel_rfl) (fun _ _ _ h => h) (Or.inl ⟨by rfl, ?_⟩) hHeld ?_
                    rotate_left
                    · (intro W hSw; (try dsimp only at hSw); go_simp; try with_reducible rfl)
                    try simp only [Act.put, List.setIfInBounds_toArray, List.set_cons_zero, List.set_cons_succ, List.getElem_toArray, List.getElem_cons_succ, List.getElem_cons_zero]
                    refine wpAnyH_take (i := 5) (v := ?_) rfl (by kernel_rfl) (by kernel_rfl) (by kernel_rfl) (fun _ _ _ h => h) (Or.inl ⟨by rfl, ?_⟩) hHeld ?_
                    rotate_left
                    · (intro W hSw; (try dsimp only at hSw); go_simp; try with_reducible rfl)
                    try simp only [Act.put, List.setIfInBounds_toArray, List.set_cons_zero, List.set_cons_succ, List.getElem_toArray, List.getElem_cons_succ, List.getElem_cons_zero]
                    refine wpAnyH_take (i := 6) (v := ?_) rfl (by kernel_rfl) (by kernel_rfl) (by kernel_rfl) (fun _ _ _ h => h) (Or.inl ⟨by rfl, ?_⟩) hHeld ?_
                    rotate_left
                    · (intro W hSw; (try dsimp only at hSw); go_simp; try with_reducible rfl)
                    try simp only [Act.put, List.setIfInBounds_toArray, List.set_cons_zero, List.set_cons_succ, List.getElem_toArray, List.getElem_cons_succ, List.getElem_cons_zero]
                    refine wpAnyH_take (i := 7) (v := ?_) rfl (by kernel_rfl) (by kernel_rfl) (by kernel_rfl) (fun _ _ _ h => h) (Or.inl ⟨by rfl, ?_⟩) hHeld ?_
                    rotate_left
                    · (intro W hSw; (try dsimp only at hSw); go_simp; try with_reducible rfl)
                    try simp only [Act.put, List.setIfInBounds_toArray, List.set_cons_zero, List.set_cons_succ, List.getElem_toArray, List.getElem_cons_succ, List.getElem_cons_zero]
                    refine wpAnyH_take (i := 8) (v := ?_) rfl (by kernel_rfl) (by kernel_rfl) (by kernel_rfl) (fun _ _ _ h => h) (Or.inl ⟨by rfl, ?_⟩) hHeld ?_
                    rotate_left
                    · (intro W hSw; (try dsimp only at hSw); go_simp; try with_reducible rfl)
                    try simp only [Act.put, List.setIfInBounds_toArray, List.set_cons_zero, List.set_cons_succ, List.getElem_toArray, List.getElem_cons_succ, List.getElem_cons_zero]
                    refine wpAnyH_ready (rs := [3, 9]) (by kernel_rfl) (by simp) ?_
                    refine AllReadyH.cons (o := ?_) ?_ (fun K' hK => ?_) ?_
                    rotate_left
                    · (simp only [List.getElem?_toArray, List.getElem?_cons_succ, List.getElem?_cons_zero] <;> rfl)
                    · go_simp
                      refine hK.out _ _ hHeld (fun hHeld' => ?_)
                      clear hK K' hHeld
                      have hHeld := hHeld'
                      clear hHeld'
                      try simp only [Act.put, List.setIfInBounds_toArray, List.set_cons_zero, List.set_cons_succ, List.getElem_toArray, List.getElem_cons_succ, List.getElem_cons_zero]
                      refine wpAnyH_ready (rs := [9]) (by kernel_rfl) (by simp) ?_
                      refine AllReadyH.cons (o := ?_) ?_ (fun K' hK => ?_) ?_
                      rotate_left
                      · (simp only [List.getElem?_toArray, List.getElem?_cons_succ, List.getElem?_cons_zero] <;> rfl)
                      · go_simp
                        refine hK.out _ _ XA.out (fun hHeld' => ?_)
                        clear hK K' hHeld
                        have hHeld := hHeld'
                        clear hHeld'
                        try simp only [Act.put, List.setIfInBounds_toArray, List.set_cons_zero, List.set_cons_succ, List.getElem_toArray, List.getElem_cons_succ, List.getElem_cons_zero]
                        refine wpAnyH_ready (rs := [10]) (by kernel_rfl) (by simp) ?_
                        refine AllReadyH.cons (o := ?_) ?_ (fun K' hK => ?_) ?_
                        rotate_left
                        · (simp only [List.getElem?_toArray, List.getElem?_cons_succ, List.getElem?_cons_zero] <;> rfl)
                        · refine step_append_full _ (by rfl) _ _ 51 (by rfl) B4 3 iI (.int .i64 0) 1 8 Try.underlying51 hi hz0 hz1 hz2 rfl (by decide) v _ _ (by rfl) OW.out ⟨wn.heap.size, 0, none⟩ 1 1 [.int .i64 ((y - N : Nat) : Int)] (by rfl) (by rfl) (cell_one_new _ _ _) (by simp [Value.oneCell']) (by decide) HM.out HM2.out HB4.out (wn.heap.size + 1) (by simp) ?_
                          intro gg cap w5 o5 g5 at5 lt5 _
                          have XB := Lib.hid (XC.out w5 g5)
                          have ST := Lib.hid (EN.out gg cap w5 o5 g5 at5)
                          have f5 := (ST.out.1.1).cell 0
                          have z5 := (ST.out.1.2).frozen 0
                          try simp only [Act.put, List.setIfInBounds_toArray, List.set_cons_zero, List.set_cons_succ, List.getElem_toArray, List.getElem_cons_succ, List.getElem_cons_zero]
                          refine hK.out _ _ XB.out (fun hHeld' => ?_)
                          clear hK K' hHeld
                          have hHeld := hHeld'
                          clear hHeld'
                          try simp only [Act.put, List.setIfInBounds_toArray, List.set_cons_zero, List.set_cons_succ, List.getElem_toArray, List.getElem_cons_succ, List.getElem_cons_zero]
                          refine wpAnyH_take (i := 11) (v := ?_) rfl (by kernel_rfl) (by kernel_rfl) (by kernel_rfl) (fun _ _ _ h => h) (Or.inl ⟨by rfl, ?_⟩) hHeld ?_
                          rotate_left
                          · (intro W hSw; (try dsimp only at hSw); go_simp; try with_reducible rfl)
                          try simp only [Act.put, List.setIfInBounds_toArray, List.set_cons_zero, List.set_cons_succ, List.getElem_toArray, List.getElem_cons_succ, List.getElem_cons_zero]
                          refine wpAnyH_ready (rs := [12]) (by kernel_rfl) (by simp) ?_
                          refine AllReadyH.cons (o := ?_) ?_ (fun K' hK => ?_) ?_
                          rotate_left
                          · (simp only [List.getElem?_toArray, List.getElem?_cons_succ, List.getElem?_cons_zero] <;> rfl)
                          · go_simp
                            refine hK.out _ _ ST.out.2.1 (fun hHeld' => ?_)
                            clear hK K' hHeld
                            have hHeld := hHeld'
                            clear hHeld'
                            try simp only [Act.put, List.setIfInBounds_toArray, List.set_cons_zero, List.set_cons_succ, List.getElem_toArray, List.getElem_cons_succ, List.getElem_cons_zero]
                            refine wpAnyH_done (by kernel_rfl) ?_ _
                            go_wp2_with fail
                            go_roundw
                            case rel => exact ST.out.2.2
                            case measure => simp [intOf]; omega
                          exact AllReadyH.nil
                        exact AllReadyH.nil
                      exact AllReadyH.nil
                    refine AllReadyH.cons (o := ?_) ?_ (fun K' hK => ?_) ?_
                    rotate_left
                    · (simp only [List.getElem?_toArray, List.getElem?_cons_succ, List.getElem?_cons_zero] <;> rfl)
                    · go_simp
                      refine hK.out _ _ XA.out (fun hHeld' => ?_)
                      clear hK K' hHeld
                      have hHeld := hHeld'
                      clear hHeld'
                      try simp only [Act.put, List.setIfInBounds_toArray, List.set_cons_zero, List.set_cons_succ, List.getElem_toArray, List.getElem_cons_succ, List.getElem_cons_zero]
                      refine wpAnyH_ready (rs := [3]) (by kernel_rfl) (by simp) ?_
                      refine AllReadyH.cons (o := ?_) ?_ (fun K' hK => ?_) ?_
                      rotate_left
                      · (simp only [List.getElem?_toArray, List.getElem?_cons_succ, List.getElem?_cons_zero] <;> rfl)
                      · go_simp
                        refine hK.out _ _ XA.out (fun hHeld' => ?_)
                        clear hK K' hHeld
                        have hHeld := hHeld'
                        clear hHeld'
                        try simp only [Act.put, List.setIfInBounds_toArray, List.set_cons_zero, List.set_cons_succ, List.getElem_toArray, List.getElem_cons_succ, List.getElem_cons_zero]
                        refine wpAnyH_ready (rs := [10]) (by kernel_rfl) (by simp) ?_
                        refine AllReadyH.cons (o := ?_) ?_ (fun K' hK => ?_) ?_
                        rotate_left
                        · (simp only [List.getElem?_toArray, List.getElem?_cons_succ, List.getElem?_cons_zero] <;> rfl)
                        · refine step_append_full _ (by rfl) _ _ 51 (by rfl) B4 3 iI (.int .i64 0) 1 8 Try.underlying51 hi hz0 hz1 hz2 rfl (by decide) v _ _ (by rfl) OW.out ⟨wn.heap.size, 0, none⟩ 1 1 [.int .i64 ((y - N : Nat) : Int)] (by rfl) (by rfl) (cell_one_new _ _ _) (by simp [Value.oneCell']) (by decide) HM.out HM2.out HB4.out (wn.heap.size + 1) (by simp) ?_
                          intro gg cap w5 o5 g5 at5 lt5 _
                          have XB := Lib.hid (XC.out w5 g5)
                          have ST := Lib.hid (EN.out gg cap w5 o5 g5 at5)
                          have f5 := (ST.out.1.1).cell 0
                          have z5 := (ST.out.1.2).frozen 0
                          try simp only [Act.put, List.setIfInBounds_toArray, List.set_cons_zero, List.set_cons_succ, List.getElem_toArray, List.getElem_cons_succ, List.getElem_cons_zero]
                          refine hK.out _ _ XB.out (fun hHeld' => ?_)
                          clear hK K' hHeld
                          have hHeld := hHeld'
                          clear hHeld'
                          try simp only [Act.put, List.setIfInBounds_toArray, List.set_cons_zero, List.set_cons_succ, List.getElem_toArray, List.getElem_cons_succ, List.getElem_cons_zero]
                          refine wpAnyH_take (i := 11) (v := ?_) rfl (by kernel_rfl) (by kernel_rfl) (by kernel_rfl) (fun _ _ _ h => h) (Or.inl ⟨by rfl, ?_⟩) hHeld ?_
                          rotate_left
                          · (intro W hSw; (try dsimp only at hSw); go_simp; try with_reducible rfl)
                          try simp only [Act.put, List.setIfInBounds_toArray, List.set_cons_zero, List.set_cons_succ, List.getElem_toArray, List.getElem_cons_succ, List.getElem_cons_zero]
                          refine wpAnyH_ready (rs := [12]) (by kernel_rfl) (by simp) ?_
                          refine AllReadyH.cons (o := ?_) ?_ (fun K' hK => ?_) ?_
                          rotate_left
                          · (simp only [List.getElem?_toArray, List.getElem?_cons_succ, List.getElem?_cons_zero] <;> rfl)
                          · go_simp
                            refine hK.out _ _ ST.out.2.1 (fun hHeld' => ?_)
                            clear hK K' hHeld
                            have hHeld := hHeld'
                            clear hHeld'
                            try simp only [Act.put, List.setIfInBounds_toArray, List.set_cons_zero, List.set_cons_succ, List.getElem_toArray, List.getElem_cons_succ, List.getElem_cons_zero]
                            refine wpAnyH_done (by kernel_rfl) ?_ _
                            go_wp2_with fail
                            go_roundw
                            case rel => exact ST.out.2.2
                            case measure => simp [intOf]; omega
                          exact AllReadyH.nil
                        exact AllReadyH.nil
                      exact AllReadyH.nil
                    exact AllReadyH.nil
                · obtain rfl : j = n := by omega
                  have htn : l.take j = l := by rw [← HLN.out, List.take_length]
                  rw [htn] at hE
                  go_wp2_with fail
                  go_roundw
                  case rel => exact ⟨rel N l, [], v, v1, .inr (.inl ⟨by go_num, rfl, rfl, hv1⟩), hE.low hg4 (Nat.le_refl _), hk, hB⟩
                  case measure => simp [intOf]
            · go_wp2_with fail
              have hH : Below wr.heap.size wr wr.drew := (Below.refl _ _).drew
              have KEEP : Hid (∀ W, Below wr.heap.size wr W → (W.cell? ⟨w.heap.size, 0, none⟩ = some (.int .i64 (le' : Int)) ∧ W.cell? ⟨w.heap.size, 1, none⟩ = some (.int .i64 (us' : Int)) ∧ W.cell? ⟨w.heap.size, 2, none⟩ = some (.int .i64 (mo' : Int)) ∧ W.cell? ⟨w.heap.size, 3, none⟩ = some (.int .i64 (wi' : Int)))) := Lib.hid fun W hW => ⟨(hk.later hW).cell 0, (hk.later hW).cell 1, (hk.later hW).cell 2, (hk.later hW).cell 3⟩
              go_region_held3 (fun W => W.cell? ⟨w.heap.size, 0, none⟩ = some (.int .i64 (le' : Int)) ∧ W.cell? ⟨w.heap.size, 1, none⟩ = some (.int .i64 (us' : Int)) ∧ W.cell? ⟨w.heap.size, 2, none⟩ = some (.int .i64 (mo' : Int)) ∧ W.cell? ⟨w.heap.size, 3, none⟩ = some (.int .i64 (wi' : Int)))
                (first | exact KEEP.out _ hH | exact KEEP.out _ (hH.alloc hH.size _))
                (first
                | (go_at_call 23; refine (D2.out _ _ (by simp) (bsa hB hB.size hH)).mono ?_; rintro e w3 ⟨A3, c3, rfl, t3, _, _, hb3⟩; have hH := bsa hH hH.size hb3)
                | (go_at_call 12; refine (D4.out _ _ _ t3).mono ?_; rintro e w4 ⟨A4, c4, rfl, t4, hc4, hb4⟩; have hH := bsa hH hH.size hb4))
              obtain ⟨B4, hB4e⟩ : ∃ B4, w4.heap.size = B4 := ⟨_, rfl⟩
              have hE4 := EndsAt.start1 (q' := B4) hv1 (hE.later hH)
              have hk4 := hk.later hH
              have hB4 := bsa hB hB.size hH
              have hg4 : w1.heap.size < B4 := by rw [← hB4e]; exact hE4.1.lt
              have hw4 : w.heap.size < w1.heap.size := hww
              rw [hB4e] at t4
              have hb4' : B4 ≤ w4.heap.size := by omega
              clear KEEP hH hb3 hb4 t3 hE hk hB hB4e
              go_wp2_with fail
              go_loopw [56] (fun jv wm => ∃ (j : Nat) (v : Value), j ≤ n' ∧ jv = .int .i64 (j : Int) ∧ EndsAt wm w1.heap.size (w1.heap.size + 1) B4 (rel N l) (rel M (l'.take j)) v0 v ∧ Blk wm w.heap.size 23 #[.int .i64 (le' : Int), .int .i64 (us' : Int), .int .i64 (mo' : Int), .int .i64 (wi' : Int)] ∧ SlE wm B4 A4 l' ∧ Below w.heap.size w wm ∧ B4 ≤ wm.heap.size) (fun jv _ => n' - (intOf jv).toNat)
              case atStart => exact ⟨0, _, Nat.zero_le _, rfl, hE4, hk4, t4, hB4, hb4'⟩
              case round =>
                obtain ⟨j, v, hj, rfl, hE, hk, hs, hB, hBs⟩ := hrel
                clear hE4 hk4 t4 hB4 hb4'
                by_cases hlt : j < n'
                · obtain ⟨b0, q0, x, rfl, _, hx, hc1, hc2⟩ := hs.at_ (i := j) (by rw [HLN'.out]; exact hlt)
                  obtain ⟨y, z⟩ := x
                  replace hc1 : wr.cell? ⟨b0, q0 + j * 2, none⟩ = some (.int .i64 (y : Int)) := hc1
                  replace hc2 : wr.cell? ⟨b0, q0 + j * 2 + 1, none⟩ = some (.int .i64 (z : Int)) := hc2
                  have hx1 : Blk (wr.alloc (.cells #[.int .i64 (y : Int), .int .i64 (z : Int)] 36)) wr.heap.size 36 #[.int .i64 (y : Int), .int .i64 (z : Int)] := Blk.new _ _ _
                  have x0 := hx1.cell 0
                  have htk := take_succ hx
                  have hyl : y < 250 := HLT'.out _ (List.mem_of_getElem? hx)
                  by_cases hy : y < M
                  · have hy' : ¬ (M : Int) ≤ (y : Int) := by omega
                    go_wp2_with fail
                    go_roundw
                    case rel => exact ⟨j + 1, v, by omega, by go_num, by rw [htk, rel_append, rel_out hy, rel_nil, List.append_nil]; exact hE.later ((Below.refl _ _).alloc (Nat.le_refl _) _), hk.alloc _, SlE.alloc hs hBs _, hB.alloc hB.size _, by simp; omega⟩
                    case measure => simp [intOf]; omega
                  · have hy' : (M : Int) ≤ (y : Int) := by omega
                    have hW1 : Below wr.heap.size wr (wr.alloc (.cells #[.int .i64 (y : Int), .int .i64 (z : Int)] 36)) := (Below.refl _ _).alloc (Nat.le_refl _) _
                    have hE1 := hE.later hW1
                    have hk1 := hk.later hW1
                    have hs1 := SlE.alloc hs hBs (.cells #[.int .i64 (y : Int), .int .i64 (z : Int)] 36)
                    have hB1 := bsa hB hB.size hW1
                    have hz1' : wr.heap.size < (wr.alloc (.cells #[.int .i64 (y : Int), .int .i64 (z : Int)] 36)).heap.size := by simp
                    have hg1 : w1.heap.size < wr.heap.size := hE.1.lt
                    have hln : (rel M (l'.take j)).length ≤ 250 := Nat.le_trans (rel_length _ _) (by rw [List.length_take]; omega)
                    go_wp2_with fail
                    obtain ⟨wn, hwn⟩ : ∃ wn, wr.alloc (.cells #[.int .i64 (y : Int), .int .i64 (z : Int)] 36) = wn := ⟨_, rfl⟩
                    obtain ⟨gx, hgx⟩ : ∃ g, wr.heap.size = g := ⟨_, rfl⟩
                    rw [hwn] at hE1 hk1 hs1 hB1 hx1 x0 hz1'
                    rw [hgx] at x0 hx1 hz1' hg1 hBs
                    rw [hwn, hgx]
                    clear hwn hgx hE hk hs hB hW1 hc1 hc2
                    have e0 := hE1.1.cell 1
                    have e0a : ∀ ob, (wn.alloc ob).cell? ⟨w1.heap.size, 1, none⟩ = some v := fun ob => (hE1.1.alloc ob).cell 1
                    obtain ⟨k, hkl⟩ : ∃ k, (rel M (l'.take j)).length = k := ⟨_, rfl⟩
                    rw [hkl] at hln
                    have OW := Lib.hid (show ((wn.alloc (.cells #[.int .i64 ((y - M : Nat) : Int)] 3)).drew).ownsRow B4 3 1 v k ((rel M (l'.take j)).map i64) from by rw [← hkl]; exact ((hE1.2.2.1).alloc _).drew)
                    have HM := Lib.hid (show k + 1 ≤ maxLen by unfold maxLen; omega)
                    have HM2 := Lib.hid (show (k + 1) * 8 ≤ 140737488355328 by omega)
                    have HB4 := Lib.hid (show B4 ≤ ((wn.alloc (.cells #[.int .i64 ((y - M : Nat) : Int)] 3)).drew).heap.size by simp; omega)
                    have XA := Lib.hid (show (wn.alloc (.cells #[.int .i64 ((y - M : Nat) : Int)] 3)).drew.cell? ⟨gx, 0, none⟩ = some (.int .i64 (y : Int)) from (hx1.alloc _).cell 0)
                    have XC := Lib.hid (show ∀ w5, (wn.alloc (.cells #[.int .i64 ((y - M : Nat) : Int)] 3)).drew.grownBy w5 v.ownBlock → w5.cell? ⟨gx, 0, none⟩ = some (.int .i64 (y : Int)) from fun w5 g5 => (Blk.grown (Blk.drew (hx1.alloc _)) g5 (blk_not_row hx1 (by decide) hE1.2.2.1)).cell 0)
                    have EN := Lib.hid (show ∀ gg cap w5, w5.ownsRow B4 3 1 (.slice (some ⟨gg, 0, none⟩) (k + 1) cap) (k + 1) ((rel M (l'.take j)).map i64 ++ [.int .i64 ((y - M : Nat) : Int)]) → (wn.alloc (.cells #[.int .i64 ((y - M : Nat) : Int)] 3)).drew.grownBy w5 v.ownBlock → (v.ownBlock = some gg ∨ gg = wn.heap.size + 1) →
                      (Blk w5 w1.heap.size 52 #[v0, v] ∧ Blk w5 w1.heap.size 52 #[v0, v]) ∧ (w5.setCell ⟨w1.heap.size, 1, none⟩ (.slice (some ⟨gg, 0, none⟩) (k + 1) cap)).cell? ⟨gx, 0, none⟩ = some (.int .i64 (y : Int)) ∧ ∃ (j' : Nat) (v' : Value), j' ≤ n' ∧ Value.int .i64 ((j : Int) + 1) = .int .i64 (j' : Int) ∧ EndsAt (w5.setCell ⟨w1.heap.size, 1, none⟩ (.slice (some ⟨gg, 0, none⟩) (k + 1) cap)) w1.heap.size (w1.heap.size + 1) B4 (rel N l) (rel M (l'.take j')) v0 v' ∧ Blk (w5.setCell ⟨w1.heap.size, 1, none⟩ (.slice (some ⟨gg, 0, none⟩) (k + 1) cap)) w.heap.size 23 #[.int .i64 (le' : Int), .int .i64 (us' : Int), .int .i64 (mo' : Int), .int .i64 (wi' : Int)] ∧ SlE (w5.setCell ⟨w1.heap.size, 1, none⟩ (.slice (some ⟨gg, 0, none⟩) (k + 1) cap)) B4 (some ⟨b0, q0, none⟩) l' ∧ Below w.heap.size w (w5.setCell ⟨w1.heap.size, 1, none⟩ (.slice (some ⟨gg, 0, none⟩) (k + 1) cap)) ∧ B4 ≤ (w5.setCell ⟨w1.heap.size, 1, none⟩ (.slice (some ⟨gg, 0, none⟩) (k + 1) cap)).heap.size from
                      fun gg cap w5 o5 g5 at5 => by
                        obtain ⟨bb, p1, p2, p3, p4, p5, p6⟩ := ends_put1 hE1 hkl o5 g5 at5 hg4 (Nat.lt_succ_self _) hk1 hw4 hs1 hB1 hx1 (by omega)
                        exact ⟨⟨bb, bb⟩, p6, j + 1, _, by omega, by go_num, by rw [htk, rel_append, rel_in (by omega), rel_nil]; exact p1, p2, p3, p4, p5⟩)
                    have hyN : IntKind.i64.wrap ((y : Int) - (M : Int)) = ((y - M : Nat) : Int) := by rw [IntKind.wrap_i64]; omega
                    clear hE1 hk1 hs1 hB1 hx1 hx htk hkl
                    refine wp_region_held_drew (S := fun W => W.cell? ⟨gx, 0, none⟩ = some (.int .i64 (y : Int))) (by kernel_rfl) x0 (fun hHeld => ?_)
                    refine wpAnyH_take (i := 0) (v := ?_) rfl (by kernel_rfl) (by kernel_rfl) (by kernel_rfl) (fun _ _ _ h => h) (Or.inl ⟨by rfl, ?_⟩) hHeld ?_
                    rotate_left
                    · (intro W hSw; (try dsimp only at hSw); go_simp; try with_reducible rfl)
                    try simp only [Act.put, List.setIfInBounds_toArray, List.set_cons_zero, List.set_cons_succ, List.getElem_toArray, List.getElem_cons_succ, List.getElem_cons_zero]
                    refine wpAnyH_take (i := 1) (v := ?_) rfl (by kernel_rfl) (by kernel_rfl) (by kernel_rfl) (fun _ _ _ h => h) (Or.inl ⟨by rfl, ?_⟩) hHeld ?_
                    rotate_left
                    · (intro W hSw; (try dsimp only at hSw); go_simp; try with_reducible rfl)
                    try simp only [Act.put, List.setIfInBounds_toArray, List.set_cons_zero, List.set_cons_succ, List.getElem_toArray, List.getElem_cons_succ, List.getElem_cons_zero]
                    refine wpAnyH_take (i := 2) (v := ?_) rfl (by kernel_rfl) (by kernel_rfl) (by kernel_rfl) (fun _ _ _ h => h) (Or.inl ⟨by rfl, ?_⟩) hHeld ?_
                    rotate_left
                    · (intro W hSw; (try dsimp only at hSw); go_simp; try with_reducible rfl)
                    try simp only [Act.put, List.setIfInBounds_toArray, List.set_cons_zero, List.set_cons_succ, List.getElem_toArray, List.getElem_cons_succ, List.getElem_cons_zero]
                    refine wpAnyH_take (i := 4) (v := ?_) rfl (by kernel_rfl) (by kernel_rfl) (by kernel_rfl) (fun _ _ _ h => h) (Or.inl ⟨by rfl, ?_⟩) hHeld ?_
                    rotate_left
                    · (intro W hSw; (try dsimp only at hSw); go_simp; try with_reducible rfl)
                    try simp only [Act.put, List.setIfInBounds_toArray, List.set_cons_zero, List.set_cons_succ, List.getElem_toArray, List.getElem_cons_succ, List.getElem_cons_zero]
                    refine wpAnyH_take (i := 5) (v := ?_) rfl (by kernel_rfl) (by kernel_rfl) (by kernel_rfl) (fun _ _ _ h => h) (Or.inl ⟨by rfl, ?_⟩) hHeld ?_
                    rotate_left
                    · (intro W hSw; (try dsimp only at hSw); go_simp; try with_reducible rfl)
                    try simp only [Act.put, List.setIfInBounds_toArray, List.set_cons_zero, List.set_cons_succ, List.getElem_toArray, List.getElem_cons_succ, List.getElem_cons_zero]
                    refine wpAnyH_take (i := 6) (v := ?_) rfl (by kernel_rfl) (by kernel_rfl) (by kernel_rfl) (fun _ _ _ h => h) (Or.inl ⟨by rfl, ?_⟩) hHeld ?_
                    rotate_left
                    · (intro W hSw; (try dsimp only at hSw); go_simp; try with_reducible rfl)
                    try simp only [Act.put, List.setIfInBounds_toArray, List.set_cons_zero, List.set_cons_succ, List.getElem_toArray, List.getElem_cons_succ, List.getElem_cons_zero]
                    refine wpAnyH_take (i := 7) (v := ?_) rfl (by kernel_rfl) (by kernel_rfl) (by kernel_rfl) (fun _ _ _ h => h) (Or.inl ⟨by rfl, ?_⟩) hHeld ?_
                    rotate_left
                    · (intro W hSw; (try dsimp only at hSw); go_simp; try with_reducible rfl)
                    try simp only [Act.put, List.setIfInBounds_toArray, List.set_cons_zero, List.set_cons_succ, List.getElem_toArray, List.getElem_cons_succ, List.getElem_cons_zero]
                    refine wpAnyH_take (i := 8) (v := ?_) rfl (by kernel_rfl) (by kernel_rfl) (by kernel_rfl) (fun _ _ _ h => h) (Or.inl ⟨by rfl, ?_⟩) hHeld ?_
                    rotate_left
                    · (intro W hSw; (try dsimp only at hSw); go_simp; try with_reducible rfl)
                    try simp only [Act.put, List.setIfInBounds_toArray, List.set_cons_zero, List.set_cons_succ, List.getElem_toArray, List.getElem_cons_succ, List.getElem_cons_zero]
                    refine wpAnyH_ready (rs := [3, 9]) (by kernel_rfl) (by simp) ?_
                    refine AllReadyH.cons (o := ?_) ?_ (fun K' hK => ?_) ?_
                    rotate_left
                    · (simp only [List.getElem?_toArray, List.getElem?_cons_succ, List.getElem?_cons_zero] <;> rfl)
                    · go_simp
                      refine hK.out _ _ hHeld (fun hHeld' => ?_)
                      clear hK K' hHeld
                      have hHeld := hHeld'
                      clear hHeld'
                      try simp only [Act.put, List.setIfInBounds_toArray, List.set_cons_zero, List.set_cons_succ, List.getElem_toArray, List.getElem_cons_succ, List.getElem_cons_zero]
                      refine wpAnyH_ready (rs := [9]) (by kernel_rfl) (by simp) ?_
                      refine AllReadyH.cons (o := ?_) ?_ (fun K' hK => ?_) ?_
                      rotate_left
                      · (simp only [List.getElem?_toArray, List.getElem?_cons_succ, List.getElem?_cons_zero] <;> rfl)
                      · go_simp
                        refine hK.out _ _ XA.out (fun hHeld' => ?_)
                        clear hK K' hHeld
                        have hHeld := hHeld'
                        clear hHeld'
                        try simp only [Act.put, List.setIfInBounds_toArray, List.set_cons_zero, List.set_cons_succ, List.getElem_toArray, List.getElem_cons_succ, List.getElem_cons_zero]
                        refine wpAnyH_ready (rs := [10]) (by kernel_rfl) (by simp) ?_
                        refine AllReadyH.cons (o := ?_) ?_ (fun K' hK => ?_) ?_
                        rotate_left
                        · (simp only [List.getElem?_toArray, List.getElem?_cons_succ, List.getElem?_cons_zero] <;> rfl)
                        · refine step_append_full _ (by rfl) _ _ 51 (by rfl) B4 3 iI (.int .i64 0) 1 8 Try.underlying51 hi hz0 hz1 hz2 rfl (by decide) v _ _ (by rfl) OW.out ⟨wn.heap.size, 0, none⟩ 1 1 [.int .i64 ((y - M : Nat) : Int)] (by rfl) (by rfl) (cell_one_new _ _ _) (by simp [Value.oneCell']) (by decide) HM.out HM2.out HB4.out (wn.heap.size + 1) (by simp) ?_
                          intro gg cap w5 o5 g5 at5 lt5 _
                          have XB := Lib.hid (XC.out w5 g5)
                          have ST := Lib.hid (EN.out gg cap w5 o5 g5 at5)
                          have f5 := (ST.out.1.1).cell 1
                          have z5 := (ST.out.1.2).frozen 1
                          try simp only [Act.put, List.setIfInBounds_toArray, List.set_cons_zero, List.set_cons_succ, List.getElem_toArray, List.getElem_cons_succ, List.getElem_cons_zero]
                          refine hK.out _ _ XB.out (fun hHeld' => ?_)
                          clear hK K' hHeld
                          have hHeld := hHeld'
                          clear hHeld'
                          try simp only [Act.put, List.setIfInBounds_toArray, List.set_cons_zero, List.set_cons_succ, List.getElem_toArray, List.getElem_cons_succ, List.getElem_cons_zero]
                          refine wpAnyH_take (i := 11) (v := ?_) rfl (by kernel_rfl) (by kernel_rfl) (by kernel_rfl) (fun _ _ _ h => h) (Or.inl ⟨by rfl, ?_⟩) hHeld ?_
                          rotate_left
                          · (intro W hSw; (try dsimp only at hSw); go_simp; try with_reducible rfl)
                          try simp only [Act.put, List.setIfInBounds_toArray, List.set_cons_zero, List.set_cons_succ, List.getElem_toArray, List.getElem_cons_succ, List.getElem_cons_zero]
                          refine wpAnyH_ready (rs := [12]) (by kernel_rfl) (by simp) ?_
                          refine AllReadyH.cons (o := ?_) ?_ (fun K' hK => ?_) ?_
                          rotate_left
                          · (simp only [List.getElem?_toArray, List.getElem?_cons_succ, List.getElem?_cons_zero] <;> rfl)
                          · go_simp
                            refine hK.out _ _ ST.out.2.1 (fun hHeld' => ?_)
                            clear hK K' hHeld
                            have hHeld := hHeld'
                            clear hHeld'
                            try simp only [Act.put, List.setIfInBounds_toArray, List.set_cons_zero, List.set_cons_succ, List.getElem_toArray, List.getElem_cons_succ, List.getElem_cons_zero]
                            refine wpAnyH_done (by kernel_rfl) ?_ _
                            go_wp2_with fail
                            go_roundw
                            case rel => exact ST.out.2.2
                            case measure => simp [intOf]; omega
                          exact AllReadyH.nil
                        exact AllReadyH.nil
                      exact AllReadyH.nil
                    refine AllReadyH.cons (o := ?_) ?_ (fun K' hK => ?_) ?_
                    rotate_left
                    · (simp only [List.getElem?_toArray, List.getElem?_cons_succ, List.getElem?_cons_zero] <;> rfl)
                    · go_simp
                      refine hK.out _ _ XA.out (fun hHeld' => ?_)
                      clear hK K' hHeld
                      have hHeld := hHeld'
                      clear hHeld'
                      try simp only [Act.put, List.setIfInBounds_toArray, List.set_cons_zero, List.set_cons_succ, List.getElem_toArray, List.getElem_cons_succ, List.getElem_cons_zero]
                      refine wpAnyH_ready (rs := [3]) (by kernel_rfl) (by simp) ?_
                      refine AllReadyH.cons (o := ?_) ?_ (fun K' hK => ?_) ?_
                      rotate_left
                      · (simp only [List.getElem?_toArray, List.getElem?_cons_succ, List.getElem?_cons_zero] <;> rfl)
                      · go_simp
                        refine hK.out _ _ XA.out (fun hHeld' => ?_)
                        clear hK K' hHeld
                        have hHeld := hHeld'
                        clear hHeld'
                        try simp only [Act.put, List.setIfInBounds_toArray, List.set_cons_zero, List.set_cons_succ, List.getElem_toArray, List.getElem_cons_succ, List.getElem_cons_zero]
                        refine wpAnyH_ready (rs := [10]) (by kernel_rfl) (by simp) ?_
                        refine AllReadyH.cons (o := ?_) ?_ (fun K' hK => ?_) ?_
                        rotate_left
                        · (simp only [List.getElem?_toArray, List.getElem?_cons_succ, List.getElem?_cons_zero] <;> rfl)
                        · refine step_append_full _ (by rfl) _ _ 51 (by rfl) B4 3 iI (.int .i64 0) 1 8 Try.underlying51 hi hz0 hz1 hz2 rfl (by decide) v _ _ (by rfl) OW.out ⟨wn.heap.size, 0, none⟩ 1 1 [.int .i64 ((y - M : Nat) : Int)] (by rfl) (by rfl) (cell_one_new _ _ _) (by simp [Value.oneCell']) (by decide) HM.out HM2.out HB4.out (wn.heap.size + 1) (by simp) ?_
                          intro gg cap w5 o5 g5 at5 lt5 _
                          have XB := Lib.hid (XC.out w5 g5)
                          have ST := Lib.hid (EN.out gg cap w5 o5 g5 at5)
                          have f5 := (ST.out.1.1).cell 1
                          have z5 := (ST.out.1.2).frozen 1
                          try simp only [Act.put, List.setIfInBounds_toArray, List.set_cons_zero, List.set_cons_succ, List.getElem_toArray, List.getElem_cons_succ, List.getElem_cons_zero]
                          refine hK.out _ _ XB.out (fun hHeld' => ?_)
                          clear hK K' hHeld
                          have hHeld := hHeld'
                          clear hHeld'
                          try simp only [Act.put, List.setIfInBounds_toArray, List.set_cons_zero, List.set_cons_succ, List.getElem_toArray, List.getElem_cons_succ, List.getElem_cons_zero]
                          refine wpAnyH_take (i := 11) (v := ?_) rfl (by kernel_rfl) (by kernel_rfl) (by kernel_rfl) (fun _ _ _ h => h) (Or.inl ⟨by rfl, ?_⟩) hHeld ?_
                          rotate_left
                          · (intro W hSw; (try dsimp only at hSw); go_simp; try with_reducible rfl)
                          try simp only [Act.put, List.setIfInBounds_toArray, List.set_cons_zero, List.set_cons_succ, List.getElem_toArray, List.getElem_cons_succ, List.getElem_cons_zero]
                          refine wpAnyH_ready (rs := [12]) (by kernel_rfl) (by simp) ?_
                          refine AllReadyH.cons (o := ?_) ?_ (fun K' hK => ?_) ?_
                          rotate_left
                          · (simp only [List.getElem?_toArray, List.getElem?_cons_succ, List.getElem?_cons_zero] <;> rfl)
                          · go_simp
                            refine hK.out _ _ ST.out.2.1 (fun hHeld' => ?_)
                            clear hK K' hHeld
                            have hHeld := hHeld'
                            clear hHeld'
                            try simp only [Act.put, List.setIfInBounds_toArray, List.set_cons_zero, List.set_cons_succ, List.getElem_toArray, List.getElem_cons_succ, List.getElem_cons_zero]
                            refine wpAnyH_done (by kernel_rfl) ?_ _
                            go_wp2_with fail
                            go_roundw
                            case rel => exact ST.out.2.2
                            case measure => simp [intOf]; omega
                          exact AllReadyH.nil
                        exact AllReadyH.nil
                      exact AllReadyH.nil
                    exact AllReadyH.nil
                · obtain rfl : j = n' := by omega
                  have htn : l'.take j = l' := by rw [← HLN'.out, List.take_length]
                  rw [htn] at hE
                  go_wp2_with fail
                  go_roundw
                  case rel => exact ⟨rel N l, rel M l', v0, v, .inr (.inr ⟨by go_num, rfl, rfl⟩), hE.low (Nat.le_refl _) hg4, hk, hB⟩
                  case measure => simp [intOf]
            · obtain ⟨A0, k0, rfl, hk01, hk02⟩ := own_form hE.2.1
              obtain ⟨A1, k1, rfl, hk11, hk12⟩ := own_form hE.2.2.1
              have S0 : Sl i64 wr wr.heap.size A0 (rel N l) := Sl.of_own hE.2.1
              have S1 : Sl i64 wr wr.heap.size A1 (rel M l') := Sl.of_own hE.2.2.1
              have hBk := hE.1
              have hpb : (rel N l).length ≤ 250 := Nat.le_trans (rel_length _ _) (by rw [HLN.out]; exact hnb)
              have hqb : (rel M l').length ≤ 250 := Nat.le_trans (rel_length _ _) (by rw [HLN'.out]; exact hnb')
              have HLW : Hid (∀ i k x, (rel N l)[i]? = some x → (rel M l')[k]? = some x → (rel N l).drop i = (rel M l').drop k) := Lib.hid fun i k x => HLAW.out i k x
              obtain ⟨L0, hL0⟩ : ∃ L, rel N l = L := ⟨_, rfl⟩
              obtain ⟨L1, hL1⟩ : ∃ L, rel M l' = L := ⟨_, rfl⟩
              obtain ⟨p, hp⟩ : ∃ p, L0.length = p := ⟨_, rfl⟩
              obtain ⟨q, hq⟩ : ∃ q, L1.length = q := ⟨_, rfl⟩
              rw [hL0] at S0 hpb hBk HLW hk01
              rw [hL1] at S1 hqb hBk HLW hk11
              rw [hp] at hpb hBk hk01
              rw [hq] at hqb hBk hk11
              have HP := Lib.hid hp
              have HQ := Lib.hid hq
              have e0 := hBk.cell 0
              have e1 := hBk.cell 1
              clear hE hk hp hq hL0 hL1 HLAW HLN HLN' HLT HLT' D1 D2 D3 D4
              go_wp2_with fail
              go_loop [82] (fun iv => ∃ i : Nat, i ≤ p ∧ iv = .int .i64 (i : Int)) (fun iv => p - (intOf iv).toNat)
              case atStart => exact ⟨0, Nat.zero_le _, rfl⟩
              case round =>
                obtain ⟨i, hi', rfl⟩ := hrel
                by_cases hlt : i < p
                · obtain ⟨b0, o0, x, rfl, _, hx, hcx⟩ := S0.at_ (j := i) (by rw [HP.out]; exact hlt)
                  replace hcx : wr.cell? ⟨b0, o0 + i, none⟩ = some (.int .i64 (x : Int)) := hcx
                  obtain ⟨r, hr⟩ := first_ex L1 x
                  have IX := Lib.hid (indexI_ok A1 k1 q L1 x r HQ.out (by omega) hr wr _ S1)
                  rcases hr with ⟨rfl, hr⟩ | ⟨k, rfl, hk, _⟩
                  · clear hr hx
                    go_wp2_with (go_at_call 25; refine (IX.out).mono ?_; rintro e wx ⟨rfl, rfl⟩)
                    go_round
                    case rel => exact ⟨i + 1, by omega, by go_num⟩
                    case measure => simp [intOf]; omega
                  · have hkq : k < q := by have := lt_of_some hk; rw [HQ.out] at this; exact this
                    have hdr := HLW.out i k x hx hk
                    have hk0 : (0 : Int) ≤ (k : Int) := by omega
                    clear hx hk
                    go_wp2_with (go_at_call 25; refine (IX.out).mono ?_; rintro e wx ⟨rfl, rfl⟩)
                    obtain ⟨b1, o1, x', rfl, _, _, _⟩ := S1.at_ (j := k) (by rw [HQ.out]; exact hkq)
                    have hpq : q - k = p - i := by have e := congrArg List.length hdr; rw [List.length_drop, List.length_drop, HP.out, HQ.out] at e; omega
                    have T0 := S0.drop (k := i) (cap := k0) (by rw [HP.out]; exact hk01)
                    have T1 := S1.drop (k := k) (cap := k1) (by rw [HQ.out]; exact hk11)
                    rw [if_neg (by omega), Option.map_some, add_at] at T0 T1
                    rw [← hdr] at T1
                    have HE : Hid (∀ W, Below wx.heap.size wx W → Calls Try.prog 26 #[.slice (if k0 = i then some ⟨b0, o0, none⟩ else some ⟨b0, o0 + i, none⟩) (p - i) (k0 - i), .slice (if k1 = k then some ⟨b1, o1, none⟩ else some ⟨b1, o1 + k, none⟩) (q - k) (k1 - k)] W fun e w' => e = .returned (.bool true) ∧ Below W.heap.size W w') := Lib.hid fun W hW => by rw [hpq, if_neg (by omega), if_neg (by omega)]; exact equalN_ok _ _ _ _ (p - i) (L0.drop i) (by rw [List.length_drop, HP.out]) (by omega) W _ _ (T0.later hW) (T1.later hW)
                    have hik : (0 : Int) ≤ (i : Int) := by omega
                    have hip : (i : Int) ≤ (p : Int) := by omega
                    have hkq' : (k : Int) ≤ (q : Int) := by omega
                    have hpk : (p : Int) ≤ (k0 : Int) := by omega
                    have hqk : (q : Int) ≤ (k1 : Int) := by omega
                    have KE : Hid (∀ W, Below wx.heap.size wx W → (W.cell? ⟨w1.heap.size, 0, none⟩ = some (.slice (some ⟨b0, o0, none⟩) p k0) ∧ W.cell? ⟨w1.heap.size, 1, none⟩ = some (.slice (some ⟨b1, o1, none⟩) q k1))) := Lib.hid fun W hW => ⟨(hBk.later hW).cell 0, (hBk.later hW).cell 1⟩
                    have hH : Below wx.heap.size wx wx.drew := (Below.refl _ _).drew
                    clear T0 T1 S0 S1 IX hdr hpq
                    go_region_held3 (fun W => W.cell? ⟨w1.heap.size, 0, none⟩ = some (.slice (some ⟨b0, o0, none⟩) p k0) ∧ W.cell? ⟨w1.heap.size, 1, none⟩ = some (.slice (some ⟨b1, o1, none⟩) q k1)) (exact KE.out _ hH)
                      (first
                      | (go_at_call 26; refine (HE.out _ hH).mono ?_; rintro e w8 ⟨rfl, hb8⟩; have hH := bsa hH hH.size hb8)
                      | (go_at_call 11; refine (awake_any _).mono ?_; rintro e w9 ⟨rfl, hb9⟩; have hH := bsa hH hH.size hb9))
                    all_goals go_wp2
                    all_goals go_ret
                    all_goals exact ⟨rfl, bsa hB hB.size hH⟩
                · obtain rfl : i = p := by omega
                  go_wp2_with (go_at_call 11; refine (awake_any _).mono ?_; rintro e w9 ⟨rfl, hb9⟩)
                  go_ret
                  exact ⟨rfl, bsa hB hB.size hb9⟩
        · have hck1 : (ck == 0) = false := by rw [beq_eq_false_iff_ne]; exact hck0
          clear hm hm' hm'' hn hmm ht h5 h6 h7 _h1 _h2 _h3 _h4 _h5 _h6 _h7 _h8 hck hck0
          go_enter Try.func9, Try.ntmps9
          go_wp2_with (first
            | (go_at_call 15; refine (E1.out _).mono ?_; rintro e w1 ⟨rfl, hb1⟩; have hB1 := bsa hB0 hB0.size hb1)
            | (go_at_call 11; refine (awake_any _).mono ?_; rintro e w2 ⟨rfl, hb2⟩; have hB2 := bsa hB1 hB1.size hb2))
          go_ret
          exact ⟨rfl, hB2⟩
end Go.Proofs.Ytcdaieoondmljaa.H
