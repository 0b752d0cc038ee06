/- The plain law of chapter 40, second part: what CallsParts, CallsMeets and CallsKeeps say. No program in sight. -/
import Derived.Test.YthcagaklinkkpaaM40
namespace Go.Proofs.Ythcagaklinkkpaa.M
set_option linter.unusedVariables false

theorem tr_skip {x : UInt8} (hx : ¬ (x = 232 ∨ x = 233)) (s : Int) (p : Nat) (l : Bs) : tr s p (x :: l) = x :: tr s (p + 1) l := by
  by_cases h : l.length < 4
  · exact tr_short s p x l h
  · obtain ⟨a, b, c, d, r, rfl⟩ := four_long l (by omega)
    exact tr_step hx s p a b c r
theorem st_skip {x : UInt8} (hx : ¬ (x = 232 ∨ x = 233)) (p : Nat) (l : Bs) : st p (x :: l) = st (p + 1) l := by
  by_cases h : l.length < 4
  · exact st_short p x l h
  · obtain ⟨a, b, c, d, r, rfl⟩ := four_long l (by omega)
    exact st_step hx p a b c r
theorem tr_skips {l : Bs} (hl : ∀ x ∈ l, ¬ (x = 232 ∨ x = 233)) (s : Int) (r : Bs) : ∀ p, tr s p (l ++ r) = l ++ tr s (p + l.length) r := by
  induction l with
  | nil => intro p; rfl
  | cons x l ih =>
    intro p
    rw [List.cons_append, tr_skip (hl x (by simp)), ih (fun y hy => hl y (by simp [hy])), List.length_cons, Nat.add_right_comm, Nat.add_assoc]; rfl
theorem st_skips {l : Bs} (hl : ∀ x ∈ l, ¬ (x = 232 ∨ x = 233)) (r : Bs) : ∀ p, st p (l ++ r) = st (p + l.length) r := by
  induction l with
  | nil => intro p; rfl
  | cons x l ih =>
    intro p
    rw [List.cons_append, st_skip (hl x (by simp)), ih (fun y hy => hl y (by simp [hy])), List.length_cons, Nat.add_right_comm, Nat.add_assoc]

/-! ### what stands behind -/
theorem ones_ne : ∀ (k : Nat), ∀ x ∈ List.replicate k (1 : UInt8), ¬ (x = 232 ∨ x = 233) := fun k x hx => by rw [List.eq_of_mem_replicate hx]; decide
theorem parts (s : Int) (b : Bs) (l : Bs) : ∀ p, tr s p (l ++ [1, 1, 1, 1]) <+: tr s p (l ++ [1, 1, 1, 1] ++ b) ∧ st p (l ++ [1, 1, 1, 1]) <+: st p (l ++ [1, 1, 1, 1] ++ b) := by
  have ones : ∀ k p, tr s p (List.replicate k (1 : UInt8)) <+: tr s p (List.replicate k (1 : UInt8) ++ b) ∧ st p (List.replicate k (1 : UInt8)) <+: st p (List.replicate k (1 : UInt8) ++ b) := fun k p => by
    have h1 := tr_skips (ones_ne k) s [] p
    have h2 := st_skips (ones_ne k) [] p
    rw [List.append_nil] at h1 h2
    rw [h1, h2, tr_skips (ones_ne k), st_skips (ones_ne k)]
    exact ⟨(List.prefix_append_right_inj _).2 (List.nil_prefix), List.nil_prefix⟩
  induction l using by_five with
  | nil => intro p; exact ones 4 p
  | short x rest h ih =>
    intro p
    by_cases hx : x = 232 ∨ x = 233
    · have key : ∀ (a b' c : UInt8) (k : Nat), rest ++ [1, 1, 1, 1] = a :: b' :: c :: 1 :: List.replicate k 1 → (tr s p (x :: rest ++ [1, 1, 1, 1]) <+: tr s p (x :: rest ++ [1, 1, 1, 1] ++ b) ∧ st p (x :: rest ++ [1, 1, 1, 1]) <+: st p (x :: rest ++ [1, 1, 1, 1] ++ b)) := fun a b' c k e => by
        have e1 : x :: rest ++ [1, 1, 1, 1] = x :: a :: b' :: c :: 1 :: List.replicate k 1 := by rw [List.cons_append, e]
        have e2 : x :: rest ++ [1, 1, 1, 1] ++ b = x :: a :: b' :: c :: 1 :: (List.replicate k 1 ++ b) := by rw [e1]; rfl
        rw [e2, e1, tr_pass hx (by decide), tr_pass hx (by decide), st_pass hx (by decide), st_pass hx (by decide)]
        obtain ⟨⟨z, hz⟩, h2⟩ := ones k (p + 5)
        exact ⟨⟨z, by simp [hz]⟩, h2⟩
      rcases rest with _ | ⟨a, _ | ⟨b', _ | ⟨c, _ | ⟨d, rest⟩⟩⟩⟩
      · exact key 1 1 1 0 rfl
      · exact key a 1 1 1 rfl
      · exact key a b' 1 2 rfl
      · exact key a b' c 3 rfl
      · simp only [List.length_cons] at h; omega
    · obtain ⟨h1, h2⟩ := ih (p + 1)
      rw [List.cons_append, List.cons_append, tr_skip hx, tr_skip hx, st_skip hx, st_skip hx]
      exact ⟨(List.prefix_append_right_inj [x]).2 h1, h2⟩
  | long x a b' c d rest ih1 ih2 =>
    intro p
    by_cases hx : x = 232 ∨ x = 233
    · obtain ⟨⟨z, hz⟩, ⟨y, hy⟩⟩ := ih1 (p + 5)
      simp only [List.cons_append]
      by_cases hd : d = 0 ∨ d = 255
      · rw [tr_hit hx hd, tr_hit hx hd, st_hit hx hd, st_hit hx hd]
        exact ⟨⟨z, by rw [← hz]; try rfl⟩, ⟨y, by rw [← hy]; try rfl⟩⟩
      · rw [tr_pass hx hd, tr_pass hx hd, st_pass hx hd, st_pass hx hd]
        exact ⟨⟨z, by rw [← hz]; try rfl⟩, ⟨y, by rw [← hy]; try rfl⟩⟩
    · obtain ⟨h1, h2⟩ := ih2 (p + 1)
      show tr s p (x :: (a :: b' :: c :: d :: rest ++ [1, 1, 1, 1])) <+: tr s p (x :: (a :: b' :: c :: d :: rest ++ [1, 1, 1, 1] ++ b)) ∧ st p (x :: (a :: b' :: c :: d :: rest ++ [1, 1, 1, 1])) <+: st p (x :: (a :: b' :: c :: d :: rest ++ [1, 1, 1, 1] ++ b))
      rw [tr_skip hx, tr_skip hx, st_skip hx, st_skip hx]
      exact ⟨(List.prefix_append_right_inj [x]).2 h1, h2⟩
theorem trans_parts (s : Int) (a b : Bs) : trans s (a ++ [1, 1, 1, 1]) <+: trans s (a ++ [1, 1, 1, 1] ++ b) ∧ scan (a ++ [1, 1, 1, 1]) 0 <+: scan (a ++ [1, 1, 1, 1] ++ b) 0 := by
  rw [trans_eq, trans_eq, scan_eq, scan_eq]; exact parts s b a 0

/-! ### calls of one place -/
/-- The call of a place: the opcode, and the operand's four bytes. -/
def b3 (n : Int) : UInt8 := UInt8.ofNat ((n / 16777216 % 256).toNat)
def callOf (q : Nat) (t : Int) : Bs := [232, b0 (t - ((q : Int) + 5)), b1 (t - ((q : Int) + 5)), b2 (t - ((q : Int) + 5)), b3 (t - ((q : Int) + 5))]
/-- What the loop makes of the gaps; the sites. -/
def step2 (t : Int) (s : Bs × List Nat) (g : UInt8) : Bs × List Nat := (s.1 ++ List.replicate (g.toNat % 30) 0 ++ callOf (s.1.length + g.toNat % 30) t, s.2 ++ [s.1.length + g.toNat % 30])
def meets (t : Int) (gs : List UInt8) : Bs × List Nat := gs.foldl (step2 t) ([], [])
theorem b3_hi {q : Nat} {t : Int} (ht : 0 ≤ t) (ht2 : t ≤ 65535) (hq : q ≤ 100000) : b3 (t - ((q : Int) + 5)) = 0 ∨ b3 (t - ((q : Int) + 5)) = 255 := by
  unfold b3
  by_cases h : 0 ≤ t - ((q : Int) + 5)
  · left
    rw [show ((t - ((q : Int) + 5)) / 16777216 % 256).toNat = 0 by omega]; rfl
  · right
    rw [show ((t - ((q : Int) + 5)) / 16777216 % 256).toNat = 255 by omega]; rfl
/-- A beginning that is done: what it becomes, its sites. -/
structure Done (t : Int) (b T : Bs) (S : List Nat) : Prop where
  trE : ∀ r, tr 1 0 (b ++ r) = T ++ tr 1 b.length r
  stE : ∀ r, st 0 (b ++ r) = S ++ st b.length r
  lenE : T.length = b.length
  numE : ∀ k ∈ S, k + 5 ≤ b.length ∧ num (at_ T (k + 1)) (at_ T (k + 2)) (at_ T (k + 3)) = t
theorem at_left {T U : Bs} {k : Nat} (h : k < T.length) : at_ (T ++ U) k = at_ T k := by
  unfold at_; rw [List.getElem?_append_left h]
theorem Done.step {t : Int} {b T : Bs} {S : List Nat} (h : Done t b T S) (z : Nat) (ht : 0 ≤ t) (ht2 : t ≤ 65535) (hq : b.length + z ≤ 100000) :
    Done t (b ++ List.replicate z 0 ++ callOf (b.length + z) t) (T ++ List.replicate z 0 ++ [232, b0 t, b1 t, b2 t, b3 (t - (((b.length + z : Nat) : Int) + 5))]) (S ++ [b.length + z]) := by
  have hz : ∀ x ∈ List.replicate z (0 : UInt8), ¬ (x = 232 ∨ x = 233) := fun x hx => by rw [List.eq_of_mem_replicate hx]; decide
  have hh := b3_hi ht ht2 hq
  obtain ⟨q, hq'⟩ : ∃ q, q = b.length + z := ⟨_, rfl⟩
  rw [← hq'] at hh hq ⊢
  have ec : ∀ r, callOf q t ++ r = 232 :: b0 (t - ((q : Int) + 5)) :: b1 (t - ((q : Int) + 5)) :: b2 (t - ((q : Int) + 5)) :: b3 (t - ((q : Int) + 5)) :: r := fun r => rfl
  have el : (b ++ List.replicate z 0 ++ callOf q t).length = q + 5 := by simp [callOf, hq']; omega
  refine ⟨fun r => ?_, fun r => ?_, ?_, fun k hk => ?_⟩
  · rw [List.append_assoc, List.append_assoc, h.trE, tr_skips hz, List.length_replicate, ← hq', ec, tr_hit (.inl rfl) hh]
    have e : (M.num (b0 (t - ((q : Int) + 5))) (b1 (t - ((q : Int) + 5))) (b2 (t - ((q : Int) + 5))) + 1 * ((q : Int) + 5)) % 16777216 = t % 16777216 := by rw [num_b]; omega
    obtain ⟨e0, e1, e2⟩ := b_congr e
    rw [e0, e1, e2, el]
    simp
  · rw [List.append_assoc, List.append_assoc, h.stE, st_skips hz, List.length_replicate, ← hq', ec, st_hit (.inl rfl) hh, el]
    simp
  · rw [el]; simp [h.lenE]; omega
  · rw [el]
    rcases List.mem_append.1 hk with hk | hk
    · obtain ⟨h1, h2⟩ := h.numE k hk
      refine ⟨by omega, ?_⟩
      have hl := h.lenE
      rw [List.append_assoc, at_left (by omega), at_left (by omega), at_left (by omega)]
      exact h2
    · obtain rfl : k = q := by simpa using hk
      refine ⟨by omega, ?_⟩
      have hl : (T ++ List.replicate z 0).length = k := by simp [h.lenE, hq']
      rw [← hl, at_append, at_append, at_append, hl]
      show M.num (b0 t) (b1 t) (b2 t) = t
      rw [num_b]; omega
theorem meets_done (t : Int) (ht : 0 ≤ t) (ht2 : t ≤ 65535) (gs : List UInt8) (hg : gs.length ≤ 20) : (∃ T, Done t (meets t gs).1 T (meets t gs).2) ∧ (meets t gs).1.length ≤ 34 * gs.length ∧ (meets t gs).2.length = gs.length := by
  have key : ∀ (gs : List UInt8) (b T : Bs) (S : List Nat), Done t b T S → b.length + 34 * gs.length ≤ 100000 → (∃ T', Done t (gs.foldl (step2 t) (b, S)).1 T' (gs.foldl (step2 t) (b, S)).2) ∧ (gs.foldl (step2 t) (b, S)).1.length ≤ b.length + 34 * gs.length ∧ (gs.foldl (step2 t) (b, S)).2.length = S.length + gs.length := by
    intro gs
    induction gs with
    | nil => intro b T S h _; exact ⟨⟨T, h⟩, by simp, by simp⟩
    | cons g gs ih =>
      intro b T S h hl
      have hz : g.toNat % 30 < 30 := Nat.mod_lt _ (by omega)
      simp only [List.length_cons] at hl
      have hd := h.step (g.toNat % 30) ht ht2 (by omega)
      have hlen : (b ++ List.replicate (g.toNat % 30) 0 ++ callOf (b.length + g.toNat % 30) t).length ≤ b.length + 34 := by simp [callOf]; omega
      obtain ⟨h1, h2, h3⟩ := ih _ _ _ hd (by omega)
      refine ⟨h1, ?_, ?_⟩
      · have : (List.foldl (step2 t) (b, S) (g :: gs)).1.length ≤ _ := h2
        simp only [List.length_cons]; omega
      · have : (List.foldl (step2 t) (b, S) (g :: gs)).2.length = _ := h3
        rw [this]; simp; omega
  have h0 : Done t [] [] [] := ⟨fun r => rfl, fun r => rfl, rfl, fun k hk => by cases hk⟩
  obtain ⟨h1, h2, h3⟩ := key gs [] [] [] h0 (by simp; omega)
  rw [List.length_nil, Nat.zero_add] at h2 h3
  exact ⟨h1, h2, h3⟩
theorem Done.whole {t : Int} {b T : Bs} {S : List Nat} (h : Done t b T S) : trans 1 b = T ∧ scan b 0 = S := by
  have h1 := h.trE []
  have h2 := h.stE []
  rw [List.append_nil] at h1 h2
  rw [trans_eq, scan_eq, h1, h2]
  exact ⟨by simp [tr], by simp [st]⟩
end Go.Proofs.Ythcagaklinkkpaa.M
