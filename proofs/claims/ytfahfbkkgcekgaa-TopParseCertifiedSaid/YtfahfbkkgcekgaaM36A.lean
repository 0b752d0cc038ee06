/- Plain: tokens, factorizations, prices, choices, the optimum. No program in sight. -/
import Derived.Lib.BitFns
namespace Go.Proofs.Ytfahfbkkgcekgaa.M
set_option linter.unusedVariables false
open Go

abbrev Bs := List UInt8
/-- A token: length, distance, byte. -/
abbrev Tok := Nat × Nat × UInt8
def tsz (t : Tok) : Nat := max t.1 1
theorem tsz_pos (t : Tok) : 1 ≤ tsz t := Nat.le_max_right _ _
def gb (n : Nat) : Nat := 2 * Lib.bitLen n - 1
def price (t : Tok) : Nat := if t.1 = 0 then 9 else 1 + gb (t.1 - 1) + gb t.2.1
def cost (l : List Tok) : Nat := (l.map price).sum
theorem cost_cons (t : Tok) (l : List Tok) : cost (t :: l) = price t + cost l := rfl
def lit (x : UInt8) : Tok := (0, 0, x)
def copy (n d : Nat) : Tok := (n, d, 0)

/-- A token that can stand at place a of b. -/
def okAt (b : Bs) (a : Nat) (t : Tok) : Prop :=
  (t.1 = 0 ∧ t.2.1 = 0 ∧ b[a]? = some t.2.2) ∨
    (t.2.2 = 0 ∧ 2 ≤ t.1 ∧ t.1 ≤ 255 ∧ 1 ≤ t.2.1 ∧ t.2.1 ≤ 4096 ∧ t.2.1 ≤ a ∧ a + t.1 ≤ b.length ∧ ∀ k, k < t.1 → b[a + k]? = b[a + k - t.2.1]?)
theorem okAt_end {b : Bs} {a : Nat} {t : Tok} (h : okAt b a t) : a + tsz t ≤ b.length := by
  unfold tsz
  rcases h with ⟨h1, _, h2⟩ | ⟨_, h1, _, _, _, _, h2, _⟩
  · have := (List.getElem?_eq_some_iff.1 h2).1; omega
  · omega
/-- A factorization of b from place a on. -/
def Fac (b : Bs) : Nat → List Tok → Prop
  | a, [] => a = b.length
  | a, t :: l => okAt b a t ∧ Fac b (a + tsz t) l

/-- How many bytes from a on are those at distance d: from n on, at most f more. -/
def comG (b : Bs) (a d : Nat) : Nat → Nat → Nat
  | 0, n => n
  | f + 1, n => if n < 255 ∧ a + n < b.length ∧ b[a + n]? = b[a + n - d]? then comG b a d f (n + 1) else n
def com (b : Bs) (a d : Nat) : Nat := comG b a d 256 0
theorem comG_step {b : Bs} {a d n : Nat} (hn : n ≤ 255) (h : n < 255 ∧ a + n < b.length ∧ b[a + n]? = b[a + n - d]?) : comG b a d (256 - n) n = comG b a d (256 - (n + 1)) (n + 1) := by
  rw [show 256 - n = (256 - (n + 1)) + 1 by omega, comG, if_pos h]
theorem comG_stop {b : Bs} {a d n : Nat} (hn : n ≤ 255) (h : ¬ (n < 255 ∧ a + n < b.length ∧ b[a + n]? = b[a + n - d]?)) : comG b a d (256 - n) n = n := by
  rw [show 256 - n = (256 - (n + 1)) + 1 by omega, comG, if_neg h]
theorem comG_spec (b : Bs) (a d : Nat) : ∀ f n, n ≤ 255 → a + n ≤ b.length → (∀ k, k < n → b[a + k]? = b[a + k - d]?) →
    comG b a d f n ≤ 255 ∧ a + comG b a d f n ≤ b.length ∧ ∀ k, k < comG b a d f n → b[a + k]? = b[a + k - d]?
  | 0, n, h1, h2, h3 => ⟨h1, h2, h3⟩
  | f + 1, n, h1, h2, h3 => by
    unfold comG
    by_cases h : n < 255 ∧ a + n < b.length ∧ b[a + n]? = b[a + n - d]?
    · rw [if_pos h]
      refine comG_spec b a d f (n + 1) (by omega) (by omega) (fun k hk => ?_)
      by_cases e : k = n
      · subst e; exact h.2.2
      · exact h3 k (by omega)
    · rw [if_neg h]; exact ⟨h1, h2, h3⟩
theorem com_spec {b : Bs} {a d : Nat} (ha : a ≤ b.length) : com b a d ≤ 255 ∧ a + com b a d ≤ b.length ∧ ∀ k, k < com b a d → b[a + k]? = b[a + k - d]? :=
  comG_spec b a d 256 0 (by omega) (by omega) (fun k hk => by omega)
theorem comG_most (b : Bs) (a d L : Nat) (hL : L ≤ 255) (hN : a + L ≤ b.length) (h : ∀ k, k < L → b[a + k]? = b[a + k - d]?) : ∀ f n, L ≤ n + f → n ≤ L → L ≤ comG b a d f n
  | 0, n, h1, h2 => by unfold comG; omega
  | f + 1, n, h1, h2 => by
    unfold comG
    by_cases e : n < L
    · rw [if_pos ⟨by omega, by omega, h n e⟩]
      exact comG_most b a d L hL hN h f (n + 1) (by omega) (by omega)
    · split
      · have : n = L := by omega
        subst this
        have := comG_ge b a d f (n + 1)
        omega
      · omega
where comG_ge (b : Bs) (a d : Nat) : ∀ f n, n ≤ comG b a d f n
  | 0, n => Nat.le_refl _
  | f + 1, n => by
    unfold comG
    split
    · exact Nat.le_trans (Nat.le_succ n) (comG_ge b a d f (n + 1))
    · exact Nat.le_refl _
theorem com_most {b : Bs} {a d L : Nat} (hL : L ≤ 255) (hN : a + L ≤ b.length) (h : ∀ k, k < L → b[a + k]? = b[a + k - d]?) : L ≤ com b a d :=
  comG_most b a d L hL hN h 256 0 (by omega) (by omega)

/-- The copies of lengths n to m from distance d. -/
def cps (n m d : Nat) : List Tok := (List.range (m + 1 - n)).map fun i => copy (n + i) d
theorem mem_cps {n m d : Nat} {t : Tok} : t ∈ cps n m d ↔ ∃ k, n ≤ k ∧ k ≤ m ∧ t = copy k d := by
  unfold cps
  rw [List.mem_map]
  constructor
  · rintro ⟨i, hi, rfl⟩
    rw [List.mem_range] at hi
    exact ⟨n + i, by omega, by omega, rfl⟩
  · rintro ⟨k, h1, h2, rfl⟩
    exact ⟨k - n, by rw [List.mem_range]; omega, by rw [show n + (k - n) = k by omega]⟩
theorem cps_nil {n m d : Nat} (h : m < n) : cps n m d = [] := by unfold cps; rw [show m + 1 - n = 0 by omega]; rfl
theorem cps_cons {n m d : Nat} (h : n ≤ m) : cps n m d = copy n d :: cps (n + 1) m d := by
  unfold cps
  rw [show m + 1 - n = (m + 1 - (n + 1)) + 1 by omega, List.range_succ_eq_map, List.map_cons, List.map_map]
  congr 1
  refine List.map_congr_left fun i _ => ?_
  show copy (n + (i + 1)) d = copy (n + 1 + i) d
  rw [show n + (i + 1) = n + 1 + i by omega]
/-- The copies from distance d on, r distances, lengths from n on. -/
def chD (b : Bs) (a : Nat) : Nat → Nat → Nat → List Tok
  | 0, _, _ => []
  | r + 1, d, n => cps n (com b a d) d ++ chD b a r (d + 1) (max n (com b a d + 1))
def chs (b : Bs) (a : Nat) : List Tok := lit (b.getD a 0) :: chD b a (min a 4096) 1 2
theorem chD_ok {b : Bs} {a : Nat} (ha : a < b.length) : ∀ r d n, 2 ≤ n → 1 ≤ d → d + r ≤ min a 4096 + 1 → ∀ t ∈ chD b a r d n, okAt b a t
  | 0, _, _, _, _, _, t, h => by cases h
  | r + 1, d, n, hn, hd, hr, t, h => by
    unfold chD at h
    rcases List.mem_append.1 h with h | h
    · obtain ⟨k, h1, h2, rfl⟩ := mem_cps.1 h
      obtain ⟨c1, c2, c3⟩ := com_spec (b := b) (a := a) (d := d) (by omega)
      refine .inr ⟨rfl, by show 2 ≤ k; omega, by show k ≤ 255; omega, hd, by show d ≤ 4096; omega, by show d ≤ a; omega, by show a + k ≤ _; omega, fun j hj => c3 j (by have : j < k := hj; omega)⟩
    · exact chD_ok ha r (d + 1) _ (by omega) (by omega) (by omega) t h
theorem chs_ok {b : Bs} {a : Nat} (ha : a < b.length) {t : Tok} (h : t ∈ chs b a) : okAt b a t := by
  rcases List.mem_cons.1 h with rfl | h
  · refine .inl ⟨rfl, rfl, ?_⟩
    show b[a]? = some (b.getD a 0)
    rw [List.getD_eq_getElem?_getD, List.getElem?_eq_getElem ha]; rfl
  · exact chD_ok ha _ 1 2 (by omega) (by omega) (by omega) t h
theorem bitLenAux_mono : ∀ (f x y : Nat), x ≤ y → Lib.bitLenAux f x ≤ Lib.bitLenAux f y
  | 0, _, _, _ => Nat.le_refl _
  | f + 1, x, y, h => by
    unfold Lib.bitLenAux
    by_cases hx : x = 0
    · rw [if_pos hx]; exact Nat.zero_le _
    · rw [if_neg hx, if_neg (by omega)]
      have := bitLenAux_mono f (x / 2) (y / 2) (by omega)
      omega
theorem gb_mono {x y : Nat} (h : x ≤ y) : gb x ≤ gb y := by
  have := bitLenAux_mono 64 x y h
  unfold gb Lib.bitLen
  omega
theorem chD_dom {b : Bs} {a L D : Nat} (hL : L ≤ 255) (hN : a + L ≤ b.length) (h : ∀ k, k < L → b[a + k]? = b[a + k - D]?) : ∀ r d n, d ≤ D → D < d + r → n ≤ L → ∃ D', D' ≤ D ∧ copy L D' ∈ chD b a r d n
  | 0, d, n, h1, h2, _ => by omega
  | r + 1, d, n, h1, h2, h3 => by
    unfold chD
    by_cases hc : L ≤ com b a d
    · exact ⟨d, h1, List.mem_append_left _ (mem_cps.2 ⟨L, h3, hc, rfl⟩)⟩
    · have hd : d ≠ D := by
        rintro rfl
        exact hc (com_most hL hN h)
      obtain ⟨D', h4, h5⟩ := chD_dom hL hN h r (d + 1) (max n (com b a d + 1)) (by omega) (by omega) (by omega)
      exact ⟨D', h4, List.mem_append_right _ h5⟩
/-- Every token that can stand here has a choice of the same size that is no dearer. -/
theorem chs_dom {b : Bs} {a : Nat} {t : Tok} (h : okAt b a t) : ∃ t' ∈ chs b a, tsz t' = tsz t ∧ price t' ≤ price t := by
  rcases h with ⟨h1, h2, h3⟩ | ⟨h1, h2, h3, h4, h5, h6, h7, h8⟩
  · refine ⟨_, List.mem_cons_self .., ?_, ?_⟩
    · unfold tsz; rw [h1]; rfl
    · unfold price; rw [h1]; exact Nat.le_refl _
  · obtain ⟨D', h9, h10⟩ := chD_dom h3 h7 h8 (min a 4096) 1 2 h4 (by omega) h2
    refine ⟨copy t.1 D', List.mem_cons_of_mem _ h10, rfl, ?_⟩
    have h0 : ¬ t.1 = 0 := by omega
    unfold price
    rw [if_neg h0]
    show (if t.1 = 0 then 9 else 1 + gb (t.1 - 1) + gb D') ≤ _
    rw [if_neg h0]
    have := gb_mono h9
    omega

/-- The cheapest of some tokens, the last one of several (least is -1 where there is none yet). -/
def pick (f : Tok → Nat) (s : Tok × Int) (t : Tok) : Tok × Int := if s.2 < 0 ∨ (f t : Int) ≤ s.2 then (t, (f t : Int)) else s
theorem pick_congr {f g : Tok → Nat} (s : Tok × Int) (t : Tok) (h : f t = g t) : pick f s t = pick g s t := by unfold pick; simp only [h]
theorem pick_spec (f : Tok → Nat) : ∀ (l : List Tok) (s : Tok × Int), (l.foldl (pick f) s).2 < 0 ∧ l = [] ∧ s.2 < 0 ∨
    0 ≤ (l.foldl (pick f) s).2 ∧ (0 ≤ s.2 → (l.foldl (pick f) s).2 ≤ s.2) ∧ (∀ t ∈ l, (l.foldl (pick f) s).2 ≤ f t) ∧ ((l.foldl (pick f) s) = s ∨ ((l.foldl (pick f) s).1 ∈ l ∧ (l.foldl (pick f) s).2 = f (l.foldl (pick f) s).1))
  | [], s => by
    by_cases h : s.2 < 0
    · exact .inl ⟨h, rfl, h⟩
    · exact .inr ⟨by show 0 ≤ s.2; omega, fun _ => Int.le_refl _, fun t ht => (by cases ht), .inl rfl⟩
  | t :: l, s => by
    rw [List.foldl_cons]
    have ih := pick_spec f l (pick f s t)
    by_cases h : s.2 < 0 ∨ (f t : Int) ≤ s.2
    · have hp : pick f s t = (t, (f t : Int)) := if_pos h
      rw [hp] at ih ⊢
      have hft : (0 : Int) ≤ (f t : Int) := by omega
      rcases ih with ⟨h1, _, h2⟩ | ⟨h1, h2, h3, h4⟩
      · have h2 : (f t : Int) < 0 := h2
        omega
      · have h2' := h2 hft
        refine .inr ⟨h1, fun h5 => ?_, fun x hx => ?_, .inr ?_⟩
        · have h2' : _ ≤ (f t : Int) := h2'
          omega
        · rcases List.mem_cons.1 hx with rfl | hx
          · exact h2'
          · exact h3 x hx
        · rcases h4 with h4 | ⟨h4, h5⟩
          · rw [h4]; exact ⟨List.mem_cons_self .., rfl⟩
          · exact ⟨List.mem_cons_of_mem _ h4, h5⟩
    · have hp : pick f s t = s := if_neg h
      rw [hp] at ih ⊢
      rcases ih with ⟨h1, _, h2⟩ | ⟨h1, h2, h3, h4⟩
      · omega
      · have hs : 0 ≤ s.2 := by omega
        have h2' := h2 hs
        refine .inr ⟨h1, fun _ => h2', fun x hx => ?_, ?_⟩
        · rcases List.mem_cons.1 hx with rfl | hx
          · omega
          · exact h3 x hx
        · rcases h4 with h4 | ⟨h4, h5⟩
          · exact .inl h4
          · exact .inr ⟨List.mem_cons_of_mem _ h4, h5⟩
def none0 : Tok × Int := ((0, 0, 0), -1)
/-- The best choice at a, where pot x is the potential of place x. -/
def best (b : Bs) (a : Nat) (pot : Nat → Nat) : Tok × Int := (chs b a).foldl (pick fun t => price t + pot (a + tsz t)) none0
theorem best_spec (b : Bs) (a : Nat) (pot : Nat → Nat) : ∃ (t : Tok) (n : Nat), best b a pot = (t, (n : Int)) ∧ t ∈ chs b a ∧ n = price t + pot (a + tsz t) ∧ ∀ t' ∈ chs b a, n ≤ price t' + pot (a + tsz t') := by
  rcases pick_spec (fun t => price t + pot (a + tsz t)) (chs b a) none0 with ⟨_, h, _⟩ | ⟨h1, _, h3, h4⟩
  · cases h
  · rcases h4 with h4 | ⟨h4, h5⟩
    · rw [h4] at h1
      exact absurd h1 (by decide)
    · refine ⟨(best b a pot).1, price (best b a pot).1 + pot (a + tsz (best b a pot).1), ?_, h4, rfl, fun t' ht' => ?_⟩
      · exact Prod.ext rfl h5
      · have h6 := h3 t' ht'
        rw [h5] at h6
        exact Int.ofNat_le.1 h6
theorem best_congr {b : Bs} {a : Nat} {p q : Nat → Nat} (ha : a < b.length) (h : ∀ x, a < x → x ≤ b.length → p x = q x) : best b a p = best b a q := by
  unfold best
  have key : ∀ (l : List Tok) (s : Tok × Int), (∀ t ∈ l, t ∈ chs b a) → l.foldl (pick fun t => price t + p (a + tsz t)) s = l.foldl (pick fun t => price t + q (a + tsz t)) s := by
    intro l
    induction l with
    | nil => intro s _; rfl
    | cons t l ih =>
      intro s hl
      rw [List.foldl_cons, List.foldl_cons]
      have ht := chs_ok ha (hl t (List.mem_cons_self ..))
      have he := okAt_end ht
      have hp := tsz_pos t
      have : pick (fun t => price t + p (a + tsz t)) s t = pick (fun t => price t + q (a + tsz t)) s t := by
        exact pick_congr s t (show price t + p (a + tsz t) = price t + q (a + tsz t) by rw [h (a + tsz t) (by omega) he])
      rw [this]
      exact ih _ fun x hx => hl x (List.mem_cons_of_mem _ hx)
  exact key _ _ fun t ht => ht
/-- The potentials and the steps of the last j places. -/
def solv (b : Bs) : Nat → List Nat × List Tok
  | 0 => ([0], [])
  | j + 1 =>
    let s := solv b j
    let r := best b (b.length - (j + 1)) fun x => s.1.getD (x - (b.length - j)) 0
    (r.2.toNat :: s.1, r.1 :: s.2)
theorem solv_succ1 (b : Bs) (j : Nat) : (solv b (j + 1)).1 = (best b (b.length - (j + 1)) fun x => (solv b j).1.getD (x - (b.length - j)) 0).2.toNat :: (solv b j).1 := rfl
theorem solv_succ2 (b : Bs) (j : Nat) : (solv b (j + 1)).2 = (best b (b.length - (j + 1)) fun x => (solv b j).1.getD (x - (b.length - j)) 0).1 :: (solv b j).2 := rfl
theorem solv_len (b : Bs) : ∀ j, (solv b j).1.length = j + 1 ∧ (solv b j).2.length = j
  | 0 => ⟨rfl, rfl⟩
  | j + 1 => by
    have := solv_len b j
    exact ⟨by rw [solv_succ1, List.length_cons, this.1], by rw [solv_succ2, List.length_cons, this.2]⟩
def pot (b : Bs) (x : Nat) : Nat := (solv b b.length).1.getD x 0
def stp (b : Bs) (x : Nat) : Tok := (solv b b.length).2.getD x (0, 0, 0)
theorem solv_tail (b : Bs) : ∀ k j x, (solv b (j + k)).1.getD (x + k) 0 = (solv b j).1.getD x 0 ∧ (solv b (j + k)).2.getD (x + k) (0, 0, 0) = (solv b j).2.getD x (0, 0, 0)
  | 0, _, _ => ⟨rfl, rfl⟩
  | k + 1, j, x => by
    have := solv_tail b k j x
    rw [show j + (k + 1) = (j + k) + 1 by omega, show x + (k + 1) = (x + k) + 1 by omega, solv_succ1, solv_succ2, List.getD_cons_succ, List.getD_cons_succ]
    exact this
theorem pot_of (b : Bs) {j : Nat} (hj : j ≤ b.length) (x : Nat) : (solv b j).1.getD x 0 = pot b (x + (b.length - j)) ∧ (solv b j).2.getD x (0, 0, 0) = stp b (x + (b.length - j)) := by
  have := solv_tail b (b.length - j) j x
  rw [show j + (b.length - j) = b.length by omega] at this
  exact ⟨this.1.symm, this.2.symm⟩
theorem pot_end (b : Bs) : pot b b.length = 0 := by
  have := (pot_of b (j := 0) (Nat.zero_le _) 0).1
  rw [Nat.zero_add, Nat.sub_zero] at this
  exact this.symm
theorem pot_step (b : Bs) {a : Nat} (ha : a < b.length) : best b a (pot b) = (stp b a, (pot b a : Int)) := by
  obtain ⟨j, hj⟩ : ∃ j, b.length = a + (j + 1) := ⟨b.length - a - 1, by omega⟩
  have h1 := pot_of b (j := j + 1) (by omega) 0
  rw [Nat.zero_add, show b.length - (j + 1) = a by omega] at h1
  have h2 : best b a (pot b) = best b (b.length - (j + 1)) fun x => (solv b j).1.getD (x - (b.length - j)) 0 := by
    rw [show b.length - (j + 1) = a by omega]
    refine best_congr ha fun x hx1 hx2 => ?_
    rw [(pot_of b (j := j) (by omega) _).1, show x - (b.length - j) + (b.length - j) = x by omega]
  obtain ⟨t, n, h3, _⟩ := best_spec b a (pot b)
  rw [solv_succ1, solv_succ2, ← h2, h3, List.getD_cons_zero, List.getD_cons_zero] at h1
  rw [h3, ← h1.1, ← h1.2]
  simp
theorem pot_spec (b : Bs) {a : Nat} (ha : a < b.length) : stp b a ∈ chs b a ∧ pot b a = price (stp b a) + pot b (a + tsz (stp b a)) ∧ ∀ t ∈ chs b a, pot b a ≤ price t + pot b (a + tsz t) := by
  obtain ⟨t, n, h1, h2, h3, h4⟩ := best_spec b a (pot b)
  rw [pot_step b ha] at h1
  have e1 : stp b a = t := congrArg Prod.fst h1
  have e2 : pot b a = n := Int.ofNat_inj.1 (congrArg Prod.snd h1)
  rw [e1, e2]
  exact ⟨h2, h3, h4⟩
/-- No factorization is cheaper than the potential says. -/
theorem pot_least (b : Bs) : ∀ (l : List Tok) (a : Nat), Fac b a l → pot b a ≤ cost l
  | [], a, h => by
    have h : a = b.length := h
    rw [h, pot_end]; exact Nat.zero_le _
  | t :: l, a, h => by
    obtain ⟨h1, h2⟩ := h
    have h3 := pot_least b l _ h2
    obtain ⟨t', h4, h5, h6⟩ := chs_dom h1
    have he := okAt_end h1
    have hp := tsz_pos t
    have h7 := (pot_spec b (a := a) (by omega)).2.2 t' h4
    rw [h5] at h7
    rw [cost_cons]
    omega
/-- Any numbers that certify bound the cost of what is made of choices. -/
theorem cert_least (b : Bs) (q : Nat → Int) (h0 : q b.length = 0) (hq : ∀ a, a < b.length → ∀ t ∈ chs b a, q a ≤ (price t : Int) + q (a + tsz t)) : ∀ (l : List Tok) (a : Nat), Fac b a l → q a ≤ (cost l : Int)
  | [], a, h => by
    have h : a = b.length := h
    rw [h, h0]; exact Int.le_refl _
  | t :: l, a, h => by
    obtain ⟨h1, h2⟩ := h
    have h3 := cert_least b q h0 hq l _ h2
    obtain ⟨t', h4, h5, h6⟩ := chs_dom h1
    have he := okAt_end h1
    have hp := tsz_pos t
    have h7 := hq a (by omega) t' h4
    rw [h5] at h7
    rw [cost_cons]
    omega
/-- The optimal factorization from a on. -/
def optG (b : Bs) : Nat → Nat → List Tok
  | 0, _ => []
  | f + 1, a => if a < b.length then stp b a :: optG b f (a + tsz (stp b a)) else []
def opt (b : Bs) (a : Nat) : List Tok := optG b (b.length - a) a
theorem optG_more (b : Bs) : ∀ f g a, b.length ≤ a + f → b.length ≤ a + g → optG b f a = optG b g a
  | 0, 0, _, _, _ => rfl
  | 0, g + 1, a, h, _ => by unfold optG; rw [if_neg (by omega)]
  | f + 1, 0, a, _, h => by unfold optG; rw [if_neg (by omega)]
  | f + 1, g + 1, a, h1, h2 => by
    unfold optG
    by_cases ha : a < b.length
    · have hp := tsz_pos (stp b a)
      rw [if_pos ha, if_pos ha, optG_more b f g _ (by omega) (by omega)]
    · rw [if_neg ha, if_neg ha]
theorem opt_end {b : Bs} {a : Nat} (h : b.length ≤ a) : opt b a = [] := by unfold opt; rw [show b.length - a = 0 by omega]; rfl
theorem opt_step {b : Bs} {a : Nat} (h : a < b.length) : opt b a = stp b a :: opt b (a + tsz (stp b a)) := by
  have hp := tsz_pos (stp b a)
  unfold opt
  rw [show b.length - a = (b.length - a - 1) + 1 by omega]
  conv => lhs; unfold optG
  rw [if_pos h]
  rw [optG_more b (b.length - a - 1) (b.length - (a + tsz (stp b a))) _ (by omega) (by omega)]
theorem opt_spec (b : Bs) : ∀ k a, b.length ≤ a + k → a ≤ b.length → Fac b a (opt b a) ∧ cost (opt b a) = pot b a
  | 0, a, h1, h2 => by
    have e : a = b.length := by omega
    subst e
    rw [opt_end (Nat.le_refl _)]
    exact ⟨rfl, (pot_end b).symm⟩
  | k + 1, a, h1, h2 => by
    by_cases ha : a < b.length
    · obtain ⟨s1, s2, _⟩ := pot_spec b ha
      have s3 := chs_ok ha s1
      have s4 := okAt_end s3
      have hp := tsz_pos (stp b a)
      obtain ⟨h3, h4⟩ := opt_spec b k (a + tsz (stp b a)) (by omega) s4
      rw [opt_step ha]
      exact ⟨⟨s3, h3⟩, by rw [cost_cons, h4, s2]⟩
    · have e : a = b.length := by omega
      subst e
      rw [opt_end (Nat.le_refl _)]
      exact ⟨rfl, (pot_end b).symm⟩
theorem opt_fac (b : Bs) : Fac b 0 (opt b 0) ∧ cost (opt b 0) = pot b 0 := opt_spec b b.length 0 (by omega) (by omega)
end Go.Proofs.Ytfahfbkkgcekgaa.M
