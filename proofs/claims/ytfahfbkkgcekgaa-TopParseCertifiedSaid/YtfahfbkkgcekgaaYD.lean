/- caseFactor: some factorization. -/
import Derived.Test.YtfahfbkkgcekgaaYC
namespace Go.Proofs.Ytfahfbkkgcekgaa.H
set_option linter.unusedVariables false
set_option linter.unusedSimpArgs false
open Go Go.RowKit Go.Proofs.Ytfahfbkkgcekgaa Go.Proofs.Ytfahfbkkgcekgaa.W Go.Proofs.Ytfahfbkkgcekgaa.M

/-- q leads from 0 to a. -/
def Lead (b : Bs) (a : Nat) (q : List Tok) : Prop := ∀ r, Fac b a r → Fac b 0 (q ++ r)
theorem Lead.nil {b : Bs} : Lead b 0 [] := fun r h => h
theorem Lead.snoc {b : Bs} {a : Nat} {q : List Tok} {t : Tok} (h : Lead b a q) (ht : okAt b a t) : Lead b (a + tsz t) (q ++ [t]) := fun r hr => by
  rw [List.append_assoc]; exact h _ ⟨ht, hr⟩
theorem Lead.fac {b : Bs} {a : Nat} {q : List Tok} (h : Lead b a q) (ha : a = b.length) : Fac b 0 q := by
  have := h [] ha
  rwa [List.append_nil] at this
theorem three_news' (W : World) (t : TypeId) (g : Nat) (hg : g = W.heap.size) (x y z : Value) : ∀ j u, [x, y, z][j]? = some u → (W.alloc (.cells #[x, y, z] t)).cell? ((⟨g, 0, none⟩ : Addr).add j) = some u := by
  subst hg; exact three_news W t x y z
theorem own_apart {W W' : World} {base lim : Nat} {e : TypeId} {size n : Nat} {v : Value} {xs : List Value} {row : Option Nat} (h : W.ownsRow base e size v n xs) (hv : ∀ g, v.ownBlock = some g → g < lim) (hg : W.grownBy W' row) (hr : ∀ j, row = some j → lim ≤ j) : W'.ownsRow base e size v n xs :=
  h.kept hg (by
    rcases h.2 with ⟨rfl, _⟩ | ⟨g, cap, cur, rfl, _⟩
    · exact .inl rfl
    · refine .inr fun e' => ?_
      have := hv g rfl
      have := hr g (Eq.trans (Eq.symm e') rfl)
      omega)
theorem pick_at {b : Bs} {a k i c4 j c2 lim : Nat} {xs : List Tok} {t : Tok} {W : World} {A4 A2 : Option Addr} (o : W.ownsRow lim 46 3 (.slice A4 (k + 1) c4) (k + 1) (flatT xs ++ [.int .i64 (t.1 : Int), .int .i64 (t.2.1 : Int), .int .u8 (t.2.2.toNat : Int)])) (hxs : ∀ t, t ∈ xs → okAt b a t) (ht : okAt b a t) (hk : xs.length = k) (hi : i < k + 1) (hlim : ∀ g, (Value.slice A2 j c2).ownBlock = some g → g < lim) :
    ∃ b4 q4 s1 s2 s3, A4 = some ⟨b4, q4, none⟩ ∧ b4 < W.heap.size ∧ okAt b a (s1, s2, s3) ∧ W.cell? ⟨b4, q4 + i * 3, none⟩ = some (.int .i64 (s1 : Int)) ∧ W.cell? ⟨b4, q4 + i * 3 + 1, none⟩ = some (.int .i64 (s2 : Int)) ∧ W.cell? ⟨b4, q4 + i * 3 + 2, none⟩ = some (.int .u8 (s3.toNat : Int)) ∧
      ∀ (V : World) (cs : Array Value), (W.alloc (.cells cs 46)).grownBy V (Value.slice A2 j c2).ownBlock → V.cell? ⟨b4, q4 + i * 3, none⟩ = some (.int .i64 (s1 : Int)) := by
  have o' : W.ownsRow lim 46 3 (.slice A4 (k + 1) c4) (k + 1) (flatT (xs ++ [t])) := by rw [flatT_append]; exact o
  have hS : SlT W W.heap.size A4 (xs ++ [t]) := SlT.of_own o'
  obtain ⟨b4, q4, ⟨s1, s2, s3⟩, rfl, hb, hs, h1, h2, h3⟩ := hS.at_ (i := i) (by rw [List.length_append, hk]; exact hi)
  refine ⟨b4, q4, s1, s2, s3, rfl, hb, ?_, h1, h2, h3, fun V cs hg => ?_⟩
  · have := List.mem_of_getElem? hs
    rcases List.mem_append.1 this with h | h
    · exact hxs _ h
    · rw [List.mem_singleton] at h; rw [h]; exact ht
  · have hne : some b4 ≠ (Value.slice A2 j c2).ownBlock := fun e => by
      have := (World.ownsRow.lt o b4 rfl).1
      have := hlim b4 e.symm
      omega
    have e1 : V.heap[b4]? = (W.alloc (.cells cs 46)).heap[b4]? := hg.block b4 (by simp; omega) hne
    have e2 : (W.alloc (.cells cs 46)).heap[b4]? = W.heap[b4]? := Below.heap_alloc _ _ _ hb
    rw [← h1]
    simp only [World.cell?, e1, e2]
set_option maxRecDepth 100000 in
set_option maxHeartbeats 4000000 in
theorem caseFactor_ok (b P : Bs) (N p : Nat) (hN : b.length = N) (hN6 : N ≤ 60) (hP : P.length = p) (hp6 : p ≤ 60) (A A' : Option Addr) (c c' : Nat) (w : World) (hS : Sl u8 w w.heap.size A b) (hT : Sl u8 w w.heap.size A' P) :
    Calls Try.prog 6 #[.slice A N c, .slice A' p c'] w fun e w' => ∃ A2 c2 k l, e = .returned (.tuple #[.slice A2 k c2, .bool true]) ∧ l.length = k ∧ Fac b 0 l ∧ SlT w' w'.heap.size A2 l ∧ k ≤ c2 ∧ c2 ≤ maxLen ∧ Below w.heap.size w w' := by
  obtain ⟨i0, hi, hz0, hz1, hz2⟩ := info_parts infoT
  have HN := Lib.hid hN
  have HPP := Lib.hid hP
  clear hN hP
  go_enter Try.func6, Try.ntmps6
  go_wp2
  go_loopw [6, 7] (fun v av wm => ∃ (a : Nat) (q : List Tok) (A2 : Option Addr) (c2 j : Nat), a ≤ N ∧ av = .int .i64 (a : Int) ∧ v = .slice A2 j c2 ∧ Hid (q.length = j) ∧ j ≤ a ∧ Hid (Lead b a q) ∧ wm.ownsRow w.heap.size 46 3 (.slice A2 j c2) j (flatT q) ∧ Below w.heap.size w wm) (fun _ av _ => N - (intOf av).toNat)
  case atStart => exact ⟨0, [], none, 0, 0, Nat.zero_le _, rfl, rfl, Lib.hid rfl, Nat.le_refl _, Lib.hid Lead.nil, World.ownsRow_nil _ _ _ _, Below.refl _ _⟩
  case round =>
    obtain ⟨a, q, A2, c2, j, ha, rfl, rfl, hq, hja, hld, hown, hB⟩ := hrel
    have hzz := hB.size
    by_cases hlt : a < N
    · have hlt' : (a : Int) < (N : Int) := by omega
      obtain ⟨xs, hxs⟩ : ∃ xs, chs b a = xs := ⟨_, rfl⟩
      obtain ⟨k, hk⟩ : ∃ k, xs.length = k := ⟨_, rfl⟩
      have hkl := chs_len b a (by rw [HN.out]; omega)
      rw [hxs, hk] at hkl
      have hk0 : ((k : Int) == 0) = false := by rw [beq_eq_false_iff_ne]; omega
      have hk0' : ¬ (k : Int) = 0 := by omega
      have C1 := Lib.hid (Choices_ok A c N a b HN.out (by omega) hlt xs k hxs hk wr _ (hS.later hB))
      have C2 := Lib.hid (fun W (hW : Below w.heap.size w W) => Longest_ok A c N a b HN.out (by omega) hlt W (hS.later hW))
      have HXS := Lib.hid hxs
      have HK := Lib.hid hk
      obtain ⟨L, hL⟩ : ∃ L, flatT q = L := ⟨_, rfl⟩
      have HLQ := Lib.hid hL
      rw [hL] at hown
      clear hxs hk hL
      have HOKX : Hid (∀ t, t ∈ xs → okAt b a t) := Lib.hid fun t ht => chs_ok (by rw [HN.out]; exact hlt) (by rw [HXS.out]; exact ht)
      by_cases hjp : j < p
      · have hjp' : (j : Int) < (p : Int) := by omega
        obtain ⟨bp, op, y, rfl, hbp, hy, hcy⟩ := hT.byte (j := j) (by rw [HPP.out]; exact hjp)
        replace hcy : w.cell? ⟨bp, op + j, none⟩ = some (.int .u8 (y.toNat : Int)) := hcy
        obtain ⟨kk, hkk⟩ : ∃ kk, y.toNat % (k + 1) = kk := ⟨_, rfl⟩
        have hk1 : kk < k + 1 := by rw [← hkk]; exact Nat.mod_lt _ (by omega)
        have hkm : Int.tmod (y.toNat : Int) ((k : Int) + 1) = (kk : Int) := by rw [← hkk]; rfl
        have hk2 : ((k : Int) + 1 == 0) = false := by rw [beq_eq_false_iff_ne]; omega
        have hk3 : (kk : Int) < (k : Int) + 1 := by omega
        have hyl := lt256 y
        clear hkk hy
        go_wp2_with (first
          | (go_at_call 16; refine C1.out.mono ?_; rintro e w2 ⟨A3, c3, rfl, hox, hb2⟩; have hB2 := bsa hB hb2; have hown2 := own_later hown hb2)
          | (go_at_call 17; refine (C2.out _ hB2).mono ?_; rintro e w3 ⟨⟨t1, t2, t3⟩, rfl, hok, hb3⟩; have hB3 := bsa hB2 hb3; have hown3 := own_later hown2 hb3; have hox3 := own_later hox hb3; have hox4 : w3.ownsRow wr.heap.size 46 3 (.slice A3 k c3) k (flatT xs) := (by rw [HK.out] at hox3; exact hox3); have HOK := Lib.hid hok; clear hok hox3; unfold tokV)
          | (at_builtin; refine wpList_append_own _ rfl _ _ 24 rfl w.heap.size 46 i0 (.agg #[.int .i64 0, .int .i64 0, .int .u8 0]) 3 24 Try.underlying24 hi hz0 hz1 hz2 rfl (by decide) (.slice A2 j c2) j L rfl (hown4.alloc _) ⟨w4.heap.size, 0, none⟩ 1 1 [.int .i64 (s1 : Int), .int .i64 (s2 : Int), .int .u8 (s3.toNat : Int)] rfl rfl (three_news _ _ _ _ _) (three_one _ _ _) (by unfold maxLen; omega) (by omega) (by have := hB4.size; simp; omega) ?_; intro v5 w5 o5 g5 _; have hB5 : Below w.heap.size w w5 := (hB4.alloc hB4.size _).grown g5 (by have := hB4.size; simp; omega) (fun j hj => (World.ownsRow.lt hown4 j hj).1); have r0 := PICK5.out _ _ g5; (try simp only [Nat.zero_mul, Nat.add_zero] at r0); obtain ⟨A5, c5, rfl, _, _⟩ := own_form o5)
          | (at_builtin; refine wpList_append_own _ rfl _ _ 24 rfl wr.heap.size 46 i0 (.agg #[.int .i64 0, .int .i64 0, .int .u8 0]) 3 24 Try.underlying24 hi hz0 hz1 hz2 rfl (by decide) (.slice A3 k c3) k (flatT xs) rfl ((hox4.alloc _).alloc _) ⟨w3.heap.size + 1, 0, none⟩ 1 1 [.int .i64 (t1 : Int), .int .i64 (t2 : Int), .int .u8 (t3.toNat : Int)] rfl rfl (three_news' _ _ _ (by simp) _ _ _) (three_one _ _ _) (by unfold maxLen; omega) (by omega) (by have := hb2.size; have := hb3.size; simp; omega) ?_; intro v4 w4 o4 g4 _; have hB4 : Below w.heap.size w w4 := ((hB3.alloc hB3.size _).alloc (by have := hB3.size; simp; omega) _).grown g4 (by have := hB3.size; simp; omega) (fun j hj => by have := (World.ownsRow.lt hox4 j hj).1; omega); have hown4 := own_apart ((hown3.alloc _).alloc _) (fun g e => (World.ownsRow.lt hown g e).2) g4 (fun j hj => (World.ownsRow.lt hox4 j hj).1); obtain ⟨A4, c4, rfl, _, _⟩ := own_form o4; obtain ⟨b4, q4, s1, s2, s3, rfl, hgz, hz, c40, c41, c42, pk5⟩ := pick_at (A2 := A2) (c2 := c2) (lim := wr.heap.size) o4 HOKX.out HOK.out HK.out (i := kk) (by omega) (fun g e => (World.ownsRow.lt hown g e).2); have PICK5 := Lib.hid pk5; have HZ := Lib.hid hz; clear pk5 hz; have hcp := (hB4.cell (p := ⟨bp, op + j, none⟩) hbp).trans hcy))
        obtain ⟨z, hz9⟩ : ∃ z, tsz (s1, s2, s3) = z := ⟨_, rfl⟩
        have hend := okAt_end HZ.out
        rw [HN.out, hz9] at hend
        have hpos := tsz_pos (s1, s2, s3)
        rw [hz9] at hpos
        have hmx : max (1 : Int) (s1 : Int) = (z : Int) := by
          have : max s1 1 = z := hz9
          omega
        have hv : Value.int .i64 (wrap64 ((a : Int) + max 1 (s1 : Int))) = Value.int .i64 ((a + z : Nat) : Int) := congrArg (Value.int .i64) (by rw [hmx]; unfold wrap64; omega)
        have hL5 := Lib.hid (hld.out.snoc HZ.out)
        rw [hz9] at hL5
        go_roundw
        case rel => exact ⟨a + z, q ++ [(s1, s2, s3)], A5, c5, j + 1, hend, hv, rfl, Lib.hid (by rw [List.length_append, hq.out]; rfl), by omega, hL5, by rw [flatT_append, HLQ.out]; exact o5, hB5⟩
        case measure => rw [hv]; simp [intOf]; omega
      · have hjp' : ¬ (j : Int) < (p : Int) := by omega
        have hk3 : (0 : Int) < (k : Int) + 1 := by omega
        go_wp2_with (first
          | (go_at_call 16; refine C1.out.mono ?_; rintro e w2 ⟨A3, c3, rfl, hox, hb2⟩; have hB2 := bsa hB hb2; have hown2 := own_later hown hb2)
          | (go_at_call 17; refine (C2.out _ hB2).mono ?_; rintro e w3 ⟨⟨t1, t2, t3⟩, rfl, hok, hb3⟩; have hB3 := bsa hB2 hb3; have hown3 := own_later hown2 hb3; have hox3 := own_later hox hb3; have hox4 : w3.ownsRow wr.heap.size 46 3 (.slice A3 k c3) k (flatT xs) := (by rw [HK.out] at hox3; exact hox3); have HOK := Lib.hid hok; clear hok hox3; unfold tokV)
          | (at_builtin; refine wpList_append_own _ rfl _ _ 24 rfl w.heap.size 46 i0 (.agg #[.int .i64 0, .int .i64 0, .int .u8 0]) 3 24 Try.underlying24 hi hz0 hz1 hz2 rfl (by decide) (.slice A2 j c2) j L rfl (hown4.alloc _) ⟨w4.heap.size, 0, none⟩ 1 1 [.int .i64 (s1 : Int), .int .i64 (s2 : Int), .int .u8 (s3.toNat : Int)] rfl rfl (three_news _ _ _ _ _) (three_one _ _ _) (by unfold maxLen; omega) (by omega) (by have := hB4.size; simp; omega) ?_; intro v5 w5 o5 g5 _; have hB5 : Below w.heap.size w w5 := (hB4.alloc hB4.size _).grown g5 (by have := hB4.size; simp; omega) (fun j hj => (World.ownsRow.lt hown4 j hj).1); have r0 := PICK5.out _ _ g5; (try simp only [Nat.zero_mul, Nat.add_zero] at r0); obtain ⟨A5, c5, rfl, _, _⟩ := own_form o5)
          | (at_builtin; refine wpList_append_own _ rfl _ _ 24 rfl wr.heap.size 46 i0 (.agg #[.int .i64 0, .int .i64 0, .int .u8 0]) 3 24 Try.underlying24 hi hz0 hz1 hz2 rfl (by decide) (.slice A3 k c3) k (flatT xs) rfl ((hox4.alloc _).alloc _) ⟨w3.heap.size + 1, 0, none⟩ 1 1 [.int .i64 (t1 : Int), .int .i64 (t2 : Int), .int .u8 (t3.toNat : Int)] rfl rfl (three_news' _ _ _ (by simp) _ _ _) (three_one _ _ _) (by unfold maxLen; omega) (by omega) (by have := hb2.size; have := hb3.size; simp; omega) ?_; intro v4 w4 o4 g4 _; have hB4 : Below w.heap.size w w4 := ((hB3.alloc hB3.size _).alloc (by have := hB3.size; simp; omega) _).grown g4 (by have := hB3.size; simp; omega) (fun j hj => by have := (World.ownsRow.lt hox4 j hj).1; omega); have hown4 := own_apart ((hown3.alloc _).alloc _) (fun g e => (World.ownsRow.lt hown g e).2) g4 (fun j hj => (World.ownsRow.lt hox4 j hj).1); obtain ⟨A4, c4, rfl, _, _⟩ := own_form o4; obtain ⟨b4, q4, s1, s2, s3, rfl, hgz, hz, c40, c41, c42, pk5⟩ := pick_at (A2 := A2) (c2 := c2) (lim := wr.heap.size) o4 HOKX.out HOK.out HK.out (i := 0) (by omega) (fun g e => (World.ownsRow.lt hown g e).2); have PICK5 := Lib.hid pk5; have HZ := Lib.hid hz; clear pk5 hz; simp only [Nat.zero_mul, Nat.add_zero] at c40 c41 c42))
        obtain ⟨z, hz9⟩ : ∃ z, tsz (s1, s2, s3) = z := ⟨_, rfl⟩
        have hend := okAt_end HZ.out
        rw [HN.out, hz9] at hend
        have hpos := tsz_pos (s1, s2, s3)
        rw [hz9] at hpos
        have hmx : max (1 : Int) (s1 : Int) = (z : Int) := by
          have : max s1 1 = z := hz9
          omega
        have hv : Value.int .i64 (wrap64 ((a : Int) + max 1 (s1 : Int))) = Value.int .i64 ((a + z : Nat) : Int) := congrArg (Value.int .i64) (by rw [hmx]; unfold wrap64; omega)
        have hL5 := Lib.hid (hld.out.snoc HZ.out)
        rw [hz9] at hL5
        go_roundw
        case rel => exact ⟨a + z, q ++ [(s1, s2, s3)], A5, c5, j + 1, hend, hv, rfl, Lib.hid (by rw [List.length_append, hq.out]; rfl), by omega, hL5, by rw [flatT_append, HLQ.out]; exact o5, hB5⟩
        case measure => rw [hv]; simp [intOf]; omega
    · obtain rfl : a = N := by omega
      have hlt' : ¬ (a : Int) < (a : Int) := by omega
      have HF : Hid (Fac b 0 q) := Lib.hid (hld.out.fac HN.out.symm)
      obtain ⟨A9, c9, hsl, hkc, hcm⟩ := own_form hown
      obtain ⟨rfl, rfl⟩ : A2 = _ ∧ c2 = _ := by injection hsl with h1 _ h3; exact ⟨h1, h3⟩
      clear hsl
      go_wp2
      go_ret2
      exact ⟨A2, c2, j, rfl, q, hq.out, HF.out, SlT.of_own hown, hkc, hcm, hB⟩
end Go.Proofs.Ytfahfbkkgcekgaa.H
