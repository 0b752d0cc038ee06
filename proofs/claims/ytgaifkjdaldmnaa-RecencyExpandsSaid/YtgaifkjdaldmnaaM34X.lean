/- The plain law of chapter 34, fourth part: Expand. No program in sight. -/
import Derived.Test.YtgaifkjdaldmnaaM34R
namespace Go.Proofs.Ytgaifkjdaldmnaa.M
set_option linter.unusedVariables false

/-- How many digits stand at the beginning. -/
def dlen : Bs → Nat
  | [] => 0
  | x :: r => if x.toNat ≤ 1 then dlen r + 1 else 0
def dval (l : Bs) : Nat := val (l.take (dlen l))
def put (o : Bs) (u : UInt8) (r : Bs) : (Bs × Int) ⊕ (Bs × Bs) := if 65536 ≤ o.length then .inl ([], 5) else .inr (o ++ [u], r)
def after (o : Bs) : Bs → (Bs × Int) ⊕ (Bs × Bs)
  | [] => .inl (o, 0)
  | v :: r => if v = 255 then (match r with
      | [] => .inl ([], 9)
      | c :: r' => if 1 < c.toNat then .inl ([], 3) else put o (254 + c) r') else put o (v - 1) r
theorem after_nil (o : Bs) : after o [] = .inl (o, 0) := rfl
theorem after_torn (o : Bs) : after o [255] = .inl ([], 9) := by
  show (if (255 : UInt8) = 255 then (Sum.inl ([], 9) : (Bs × Int) ⊕ (Bs × Bs)) else put o (255 - 1) []) = _
  rw [if_pos rfl]
theorem after_esc (o : Bs) (c : UInt8) (r : Bs) : after o (255 :: c :: r) = if 1 < c.toNat then .inl ([], 3) else put o (254 + c) r := by
  show (if (255 : UInt8) = 255 then (if 1 < c.toNat then (Sum.inl ([], 3) : (Bs × Int) ⊕ (Bs × Bs)) else put o (254 + c) r) else put o (255 - 1) (c :: r)) = _
  rw [if_pos rfl]
theorem after_byte (o : Bs) {v : UInt8} (h : v ≠ 255) (r : Bs) : after o (v :: r) = put o (v - 1) r := by
  unfold after
  exact if_neg h
/-- One step: digits, and a byte behind them. -/
def next (out l : Bs) : (Bs × Int) ⊕ (Bs × Bs) :=
  if 65536 < out.length + dval l then .inl ([], 5) else after (out ++ List.replicate (dval l) 0) (l.drop (dlen l))
inductive Ex : Bs → Bs → Bs × Int → Prop
  | stop {out l : Bs} {res : Bs × Int} : next out l = .inl res → Ex out l res
  | go {out l out' l' : Bs} {res : Bs × Int} : next out l = .inr (out', l') → Ex out' l' res → Ex out l res
theorem Ex.det {out l : Bs} {r r' : Bs × Int} (h : Ex out l r) (h' : Ex out l r') : r = r' := by
  induction h with
  | stop e =>
    cases h' with
    | stop e' => rw [e] at e'; injection e'
    | go e' _ => rw [e] at e'; cases e'
  | go e _ ih =>
    cases h' with
    | stop e' => rw [e] at e'; cases e'
    | go e' h2 =>
      rw [e] at e'
      injection e' with e'
      injection e' with e1 e2
      subst e1 e2
      exact ih h2
theorem Ex.congr {o o' l l' : Bs} {res : Bs × Int} (e : next o l = next o' l') (h : Ex o' l' res) : Ex o l res := by
  cases h with
  | stop e' => exact .stop (e.trans e')
  | go e' h2 => exact .go (e.trans e') h2

theorem dlen_le (l : Bs) : dlen l ≤ l.length := by
  induction l with
  | nil => exact Nat.le_refl _
  | cons x r ih => unfold dlen; split <;> simp; exact ih
theorem dlen_append {ds : Bs} (h : ∀ d ∈ ds, d = 0 ∨ d = 1) (r : Bs) : dlen (ds ++ r) = ds.length + dlen r := by
  induction ds with
  | nil => simp
  | cons d ds ih =>
    have hd : d.toNat ≤ 1 := by rcases h d (by simp) with rfl | rfl <;> decide
    have : dlen (d :: ds ++ r) = dlen (ds ++ r) + 1 := by rw [List.cons_append]; show (if d.toNat ≤ 1 then dlen (ds ++ r) + 1 else 0) = _; rw [if_pos hd]
    rw [this, ih (fun x hx => h x (by simp [hx])), List.length_cons]; omega
theorem dlen_digit {l : Bs} {j : Nat} (h : j < dlen l) : ∃ d, l[j]? = some d ∧ d.toNat ≤ 1 := by
  induction l generalizing j with
  | nil => simp [dlen] at h
  | cons x r ih =>
    unfold dlen at h
    split at h
    · rename_i hx
      cases j with
      | zero => exact ⟨x, rfl, hx⟩
      | succ j => exact ih (by omega)
    · omega
theorem dlen_stop {l : Bs} {y : UInt8} (h : l[dlen l]? = some y) : 1 < y.toNat := by
  induction l with
  | nil => simp at h
  | cons x r ih =>
    by_cases hx : x.toNat ≤ 1
    · have e : dlen (x :: r) = dlen r + 1 := by show (if x.toNat ≤ 1 then dlen r + 1 else 0) = _; rw [if_pos hx]
      rw [e] at h
      exact ih (by simpa using h)
    · have e : dlen (x :: r) = 0 := by show (if x.toNat ≤ 1 then dlen r + 1 else 0) = _; rw [if_neg hx]
      rw [e] at h
      obtain rfl : x = y := by simpa using h
      omega
theorem dlen_cons_no {x : UInt8} (h : 1 < x.toNat) (r : Bs) : dlen (x :: r) = 0 := by
  show (if x.toNat ≤ 1 then dlen r + 1 else 0) = 0; rw [if_neg (by omega)]
theorem dval_zero {l : Bs} (h : dlen l = 0) : dval l = 0 := by unfold dval; rw [h]; rfl
theorem dlen_drop (l : Bs) : dlen (l.drop (dlen l)) = 0 := by
  rcases hd : l.drop (dlen l) with _ | ⟨y, r⟩
  · rfl
  · have : l[dlen l]? = some y := by
      have h0 : (l.drop (dlen l))[0]? = some y := by rw [hd]; rfl
      rwa [List.getElem?_drop] at h0
    exact dlen_cons_no (dlen_stop this) r
/-- Behind the digits one goes on alike. -/
theorem next_digits {out l : Bs} (h : out.length + dval l ≤ 65536) : next (out ++ List.replicate (dval l) 0) (l.drop (dlen l)) = next out l := by
  have h1 := dlen_drop l
  have h2 := dval_zero h1
  unfold next
  rw [h2, h1, if_neg (by simp; omega), if_neg (by omega)]
  simp
theorem val_snoc (ds : Bs) (d : UInt8) : val (ds ++ [d]) = val ds + (d.toNat + 1) * 2 ^ ds.length := by
  induction ds with
  | nil => show d.toNat + 1 + 2 * 0 = 0 + _; simp
  | cons x ds ih =>
    show x.toNat + 1 + 2 * val (ds ++ [d]) = x.toNat + 1 + 2 * val ds + _
    rw [ih, List.length_cons, Nat.pow_succ, Nat.mul_add]
    have : 2 * ((d.toNat + 1) * 2 ^ ds.length) = (d.toNat + 1) * (2 ^ ds.length * 2) := by rw [Nat.mul_comm 2, Nat.mul_assoc]
    omega
theorem val_ge (ds : Bs) : 2 ^ ds.length ≤ val ds + 1 := by
  induction ds with
  | nil => exact Nat.le_refl _
  | cons x ds ih => show 2 ^ (ds.length + 1) ≤ x.toNat + 1 + 2 * val ds + 1; rw [Nat.pow_succ]; omega
theorem val_take_le (l : Bs) {j k : Nat} (h : j ≤ k) : val (l.take j) ≤ val (l.take k) := by
  induction l generalizing j k with
  | nil => simp
  | cons x l ih =>
    cases j with
    | zero => exact Nat.zero_le _
    | succ j =>
      cases k with
      | zero => omega
      | succ k =>
        show x.toNat + 1 + 2 * val (l.take j) ≤ x.toNat + 1 + 2 * val (l.take k)
        have := ih (j := j) (k := k) (by omega)
        omega

/-! ### Expand of a run code, and back -/
theorem next_digs {ds : Bs} (h : ∀ d ∈ ds, d = 0 ∨ d = 1) {r : Bs} (hr : dlen r = 0) (out : Bs) (hl : out.length + val ds ≤ 65536) : next out (ds ++ r) = next (out ++ List.replicate (val ds) 0) r := by
  have h1 : dlen (ds ++ r) = ds.length := by rw [dlen_append h, hr]; rfl
  have h2 : dval (ds ++ r) = val ds := by unfold dval; rw [h1, List.take_left]
  have := next_digits (out := out) (l := ds ++ r) (by rw [h2]; exact hl)
  rw [h2, h1, List.drop_left] at this
  exact this.symm
theorem dlen_code {r : Bs} (h : lead r = 0) : dlen (code r) = 0 := by
  rcases r with _ | ⟨x, r⟩
  · rw [code_nil]; rfl
  · have hx : x ≠ 0 := by
      rintro rfl
      have : lead (0 :: r) = lead r + 1 := by show (if (0 : UInt8) = 0 then lead r + 1 else 0) = _; rw [if_pos rfl]
      omega
    rw [code_other hx]
    unfold enc
    split
    · exact dlen_cons_no (by decide) _
    · rename_i h4
      refine dlen_cons_no ?_ _
      have h5 : ¬ (254 ≤ x.toNat) := fun e => h4 (UInt8.le_iff_toNat_le.2 e)
      have h6 : x.toNat ≠ 0 := fun e => hx (UInt8.toNat_inj.1 e)
      rw [UInt8.toNat_add]
      have h7 : (1 : UInt8).toNat = 1 := rfl
      omega
theorem next_enc {x : UInt8} (hx : x ≠ 0) (out r : Bs) (hl : out.length < 65536) : next out (enc x ++ r) = .inr (out ++ [x], r) := by
  have h7 : (1 : UInt8).toNat = 1 := rfl
  have h8 : (254 : UInt8).toNat = 254 := rfl
  have hx0 : x.toNat ≠ 0 := fun e => hx (UInt8.toNat_inj.1 e)
  have hlt := x.toNat_lt
  by_cases h4 : 254 ≤ x
  · have h5 : 254 ≤ x.toNat := UInt8.le_iff_toNat_le.1 h4
    have h6 : (x - 254).toNat = x.toNat - 254 := by rw [UInt8.toNat_sub_of_le _ _ h4]; omega
    have e : enc x = [255, x - 254] := by unfold enc; rw [if_pos h4]
    have hd : dlen (enc x ++ r) = 0 := by rw [e]; exact dlen_cons_no (by decide) _
    unfold next
    rw [dval_zero hd, hd, if_neg (by omega), e]
    show after (out ++ List.replicate 0 0) (255 :: (x - 254) :: r) = _
    rw [after_esc, if_neg (by omega)]
    unfold put
    rw [if_neg (by simp; omega)]
    have : 254 + (x - 254) = x := UInt8.toNat_inj.1 (by rw [UInt8.toNat_add]; omega)
    rw [this]; simp
  · have h5 : ¬ (254 ≤ x.toNat) := fun e => h4 (UInt8.le_iff_toNat_le.2 e)
    have h6 : (x + 1).toNat = x.toNat + 1 := by rw [UInt8.toNat_add]; omega
    have e : enc x = [x + 1] := by unfold enc; rw [if_neg h4]
    have hd : dlen (enc x ++ r) = 0 := by rw [e]; exact dlen_cons_no (by omega) _
    unfold next
    rw [dval_zero hd, hd, if_neg (by omega), e]
    show after (out ++ List.replicate 0 0) ((x + 1) :: r) = _
    rw [after_byte _ (fun e => by have := congrArg UInt8.toNat e; rw [h6] at this; have h9 : (255 : UInt8).toNat = 255 := rfl; omega)]
    unfold put
    rw [if_neg (by simp; omega)]
    have : x + 1 - 1 = x := UInt8.toNat_inj.1 (by rw [UInt8.toNat_sub_of_le _ _ (UInt8.le_iff_toNat_le.2 (by omega))]; omega)
    rw [this]; simp
theorem expand_code (b : Bs) : ∀ out : Bs, out.length + b.length ≤ 65536 → Ex out (code b) (out ++ b, 0) := by
  induction b using by_runs with
  | nil =>
    intro out h
    refine .stop ?_
    rw [code_nil]
    unfold next
    have hd : dlen [] = 0 := rfl
    rw [dval_zero hd, hd, if_neg (by simp at h; omega)]
    simp [after]
  | zero r ih =>
    intro out h
    rw [List.length_cons] at h
    have hl := lead_le r
    have hv := val_dig (lead r + 1)
    rw [code_zero]
    refine Ex.congr (next_digs (dig_le_one _) (dlen_code (lead_drop r)) out (by omega)) ?_
    rw [hv]
    have := ih (out ++ List.replicate (lead r + 1) 0) (by rw [List.length_append, List.length_replicate, List.length_drop]; omega)
    have e : out ++ List.replicate (lead r + 1) 0 ++ r.drop (lead r) = out ++ 0 :: r := by
      conv => rhs; rw [lead_split r]
      rw [List.append_assoc]; simp [List.replicate_succ]
    rwa [e] at this
  | other x r hx ih =>
    intro out h
    rw [List.length_cons] at h
    rw [code_other hx]
    refine .go (next_enc hx out _ (by omega)) ?_
    have := ih (out ++ [x]) (by rw [List.length_append]; simp; omega)
    rwa [List.append_assoc] at this

theorem take_digits {l : Bs} : ∀ d ∈ l.take (dlen l), d = 0 ∨ d = 1 := fun d hd => by
  obtain ⟨j, hj, rfl⟩ := List.mem_iff_getElem.1 hd
  have hj' : j < dlen l := by simp at hj; omega
  obtain ⟨d, h1, h2⟩ := dlen_digit hj'
  have e : (l.take (dlen l))[j] = d := by
    have := List.getElem?_eq_getElem hj
    rw [List.getElem?_take, if_pos hj', h1] at this
    injection this with this; exact this.symm
  rw [e]
  have h0 : (0 : UInt8).toNat = 0 := rfl
  have h1' : (1 : UInt8).toNat = 1 := rfl
  rcases (show d.toNat = 0 ∨ d.toNat = 1 by omega) with h | h
  · exact .inl (UInt8.toNat_inj.1 h)
  · exact .inr (UInt8.toNat_inj.1 h)
/-- What a step decodes. -/
theorem next_code {out l o' l' : Bs} (h : next out l = .inr (o', l')) : ∃ (V : Nat) (u : UInt8), o' = out ++ List.replicate V 0 ++ [u] ∧ u ≠ 0 ∧ l = dig V ++ (enc u ++ l') := by
  unfold next at h
  split at h
  · cases h
  · have hdv : dig (dval l) = l.take (dlen l) := dig_val _ take_digits
    have hl : l = dig (dval l) ++ l.drop (dlen l) := by rw [hdv, List.take_append_drop]
    have hs := dlen_drop l
    rcases hr : l.drop (dlen l) with _ | ⟨v, r⟩
    · rw [hr] at h; cases h
    · rw [hr] at h hs hl
      have hv : 1 < v.toNat := by
        by_cases hv : v.toNat ≤ 1
        · have : dlen (v :: r) = dlen r + 1 := by show (if v.toNat ≤ 1 then dlen r + 1 else 0) = _; rw [if_pos hv]
          omega
        · omega
      have h7 : (1 : UInt8).toNat = 1 := rfl
      have h8 : (254 : UInt8).toNat = 254 := rfl
      have hlt := v.toNat_lt
      by_cases hv5 : v = 255
      · rw [hv5] at h
        rcases r with _ | ⟨c, r'⟩
        · rw [after_torn] at h; cases h
        · rw [after_esc] at h
          by_cases hc : 1 < c.toNat
          · rw [if_pos hc] at h; cases h
          · rw [if_neg hc] at h
            unfold put at h
            split at h
            · cases h
            · injection h with h
              injection h with e1 e2
              have hu : (254 + c).toNat = 254 + c.toNat := by rw [UInt8.toNat_add]; omega
              refine ⟨dval l, 254 + c, e1.symm, fun e => by have := congrArg UInt8.toNat e; rw [hu] at this; simp at this, ?_⟩
              have he : enc (254 + c) = [255, c] := by
                unfold enc
                rw [if_pos (UInt8.le_iff_toNat_le.2 (by rw [hu]; omega))]
                have : 254 + c - 254 = c := UInt8.toNat_inj.1 (by rw [UInt8.toNat_sub_of_le _ _ (UInt8.le_iff_toNat_le.2 (by rw [hu]; omega)), hu]; omega)
                rw [this]
              rw [he, ← e2]
              conv => lhs; rw [hl, hv5]
              rfl
      · rw [after_byte _ hv5] at h
        unfold put at h
        split at h
        · cases h
        · injection h with h
          injection h with e1 e2
          have hv6 : v.toNat ≠ 255 := fun e => hv5 (UInt8.toNat_inj.1 e)
          have hu : (v - 1).toNat = v.toNat - 1 := by rw [UInt8.toNat_sub_of_le _ _ (UInt8.le_iff_toNat_le.2 (by omega))]; omega
          refine ⟨dval l, v - 1, e1.symm, fun e => by have := congrArg UInt8.toNat e; rw [hu] at this; have h0 : (0 : UInt8).toNat = 0 := rfl; omega, ?_⟩
          have he : enc (v - 1) = [v] := by
            unfold enc
            rw [if_neg (fun e => by have := UInt8.le_iff_toNat_le.1 e; omega)]
            have : v - 1 + 1 = v := UInt8.toNat_inj.1 (by rw [UInt8.toNat_add, hu]; omega)
            rw [this]
          rw [he, ← e2]
          conv => lhs; rw [hl]
          rfl
theorem code_expand {out l : Bs} {res : Bs × Int} (h : Ex out l res) : ∀ z, res = (z, 0) → ∃ z', z = out ++ z' ∧ code z' = l := by
  induction h with
  | @stop out l res e =>
    rintro z rfl
    unfold next at e
    split at e
    · injection e with e; injection e with _ e; cases e
    · have hdv : dig (dval l) = l.take (dlen l) := dig_val _ take_digits
      rcases hr : l.drop (dlen l) with _ | ⟨v, r⟩
      · rw [hr] at e
        injection e with e
        injection e with e _
        refine ⟨List.replicate (dval l) 0, e.symm, ?_⟩
        have hl : l = dig (dval l) := by
          conv => lhs; rw [← List.take_append_drop (dlen l) l]
          rw [hr, List.append_nil, hdv]
        have key : ∀ k, code (List.replicate k 0) = dig k := fun k => by
          rcases Nat.eq_zero_or_pos k with rfl | hk
          · rw [dig_zero]; exact code_nil
          · have := code_run k hk [] rfl
            rwa [List.append_nil, code_nil, List.append_nil] at this
        rw [key, ← hl]
      · rw [hr] at e
        by_cases hv5 : v = 255
        · rw [hv5] at e
          rcases r with _ | ⟨c, r'⟩
          · rw [after_torn] at e; injection e with e; injection e with _ e; cases e
          · rw [after_esc] at e
            split at e
            · injection e with e; injection e with _ e; cases e
            · unfold put at e
              split at e
              · injection e with e; injection e with _ e; cases e
              · cases e
        · rw [after_byte _ hv5] at e
          unfold put at e
          split at e
          · injection e with e; injection e with _ e; cases e
          · cases e
  | go e _ ih =>
    intro z hz
    obtain ⟨z', hz', hc⟩ := ih z hz
    obtain ⟨V, u, ho, hu, hl⟩ := next_code e
    refine ⟨List.replicate V 0 ++ (u :: z'), by rw [hz', ho]; simp, ?_⟩
    have h1 : code (u :: z') = enc u ++ code z' := code_other hu z'
    rcases Nat.eq_zero_or_pos V with rfl | hV
    · rw [dig_zero] at hl
      show code (u :: z') = _
      rw [h1, hc, hl]; rfl
    · rw [code_run V hV _ (by show (if u = 0 then lead z' + 1 else 0) = 0; rw [if_neg hu]), h1, hc, hl]
end Go.Proofs.Ytgaifkjdaldmnaa.M
