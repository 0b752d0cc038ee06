/- lz.copies, longest, Longest: some token that can stand there. -/
import Derived.Test.YtfahfbkkgcekgaaYA
namespace Go.Proofs.Ytfahfbkkgcekgaa.H
set_option linter.unusedVariables false
set_option linter.unusedSimpArgs false
open Go Go.RowKit Go.Shelf Go.Proofs.Ytfahfbkkgcekgaa Go.Proofs.Ytfahfbkkgcekgaa.W Go.Proofs.Ytfahfbkkgcekgaa.M
attribute [local go_sem] Oper.semAt_some

/-- A distance and a length of which a copy can stand at place a. -/
abbrev CP (b : Bs) (a : Nat) := { p : Nat × Nat // okAt b a (copy p.2 p.1) }
set_option maxRecDepth 100000 in
set_option maxHeartbeats 4000000 in
theorem copies1_in (n : Nat) (hn : 1 ≤ n) (l g n₀ : Nat) (A : Option Addr) (c N a : Nat) (b : Bs) (hlb : b.length = N) (hN6 : N ≤ 65536) (ha : a < N) (J Jx : List (CP b a) → World → Prop)
    (hY : ∀ pre (p : CP b a) W, J pre W → pre.length < 4096 → YieldAt Fence.wide (n - 1) Try.prog l #[.int .i64 (p.val.1 : Int), .int .i64 (p.val.2 : Int)] W fun e W' =>
      (e = .returned (.bool true) ∧ J (pre ++ [p]) W' ∧ KeepC n₀ g W W') ∨ (e = .returned (.bool false) ∧ Jx (pre ++ [p]) W'))
    (W : World) (hA : AbidesFrom W.heap.size J) (hc : Blk W g 22 #[.slice A N c]) (hi : Blk W (g + 1) 3 #[.int .i64 (a : Int)]) (hS : Sl u8 W n₀ A b) (hn₀ : n₀ ≤ W.heap.size) (h0 : J [] W) :
    CallsIn Fence.wide n Try.prog 49 #[.func (.yield l) #[] #[], .pointer (some ⟨g, 0, none⟩), .pointer (some ⟨g + 1, 0, none⟩)] W fun e W' => (∃ v, e = .returned v) ∧
      ((∃ ys, J ys W') ∨ (∃ pre, Jx pre W')) := by
  have HA := Lib.hid hA
  have HL := Lib.hid hlb
  have hgz := hi.lt
  have hYc : Hid (∀ pre (d m : Nat) W', J pre W' → pre.length < 4096 → okAt b a (copy m d) → ∃ p : CP b a, YieldAt Fence.wide (n - 1) Try.prog l #[.int .i64 (d : Int), .int .i64 (m : Int)] W' fun e W'' =>
      (e = .returned (.bool true) ∧ J (pre ++ [p]) W'' ∧ KeepC n₀ g W' W'') ∨ (e = .returned (.bool false) ∧ Jx (pre ++ [p]) W'')) :=
    Lib.hid fun pre d m W' hJ' hl hok => ⟨⟨(d, m), hok⟩, hY pre ⟨(d, m), hok⟩ W' hJ' hl⟩
  have c0 := hc.cell0
  have c1 := hi.cell0
  obtain ⟨y, hy⟩ : ∃ y, N - a = y := ⟨_, rfl⟩
  have w1 : (N : Int) - (a : Int) = (y : Int) := by omega
  have w2 : IntKind.i64.wrap (y : Int) = (y : Int) := by rw [IntKind.wrap_i64]; omega
  obtain ⟨M, hM⟩ : ∃ M, min 255 y = M := ⟨_, rfl⟩
  have HMM := Lib.hid hM
  have w3 : min (255 : Int) (y : Int) = (M : Int) := by omega
  have hM1 : M ≤ 255 ∧ a + M ≤ N := by omega
  obtain ⟨D, hD⟩ : ∃ D, min 4096 a = D := ⟨_, rfl⟩
  have w4 : min (4096 : Int) (a : Int) = (D : Int) := by omega
  have hD1 : D ≤ 4096 ∧ D ≤ a := by omega
  clear hlb hA hY hM hD hy
  refine callsIn_of_wp Try.func49 rfl trivial ?_ rfl
  simp only [Try.ntmps49, List.size_toArray, List.length_cons, List.length_nil, Nat.reduceAdd, Nat.reduceSub, Array.replicate_succ, Array.replicate_zero, List.push_toArray, List.append_toArray, List.nil_append, List.cons_append]
  gi_wp2
  gi_loopw [5] (fun dv wr => ∃ (d : Nat) (pre : List (CP b a)), 1 ≤ d ∧ d ≤ D + 1 ∧ dv = .int .i64 (d : Int) ∧ pre.length < d ∧ J pre wr ∧ KeepC n₀ g W wr ∧ W.heap.size ≤ wr.heap.size)
    (fun dv _ => D + 1 - (intOf dv).toNat)
  case atStart => exact ⟨1, [], by omega, by omega, rfl, by simp, h0, KeepC.refl _ _ _, Nat.le_refl _⟩
  case round =>
    obtain ⟨wo, rfl⟩ : ∃ wo : World, wo = wr := ⟨_, rfl⟩
    obtain ⟨d, pre, hd1, hd2, rfl, hpl, hJs, hnx, hzz⟩ := hrel
    have k1 : Blk wo g 22 #[.slice A N c] := hnx.2.1.trans hc
    have k2 : Blk wo (g + 1) 3 #[.int .i64 (a : Int)] := hnx.2.2.trans hi
    have e0 := k1.cell0
    have e1 := k2.cell0
    by_cases hlt : d ≤ D
    · have hlt' : (d : Int) ≤ (D : Int) := by omega
      gi_wp2
      gi_loopw [6] (fun nv wi => ∃ (m : Nat), m ≤ M ∧ nv = .int .i64 (m : Int) ∧ Hid (∀ k, k < m → b[a + k]? = b[a + k - d]?) ∧ J pre wi ∧ KeepC n₀ g W wi ∧ W.heap.size ≤ wi.heap.size)
        (fun nv _ => M - (intOf nv).toNat)
      case atStart => exact ⟨0, Nat.zero_le _, rfl, Lib.hid (fun k hk => by omega), hJs, hnx, hzz⟩
      case round =>
        obtain ⟨wj, rfl⟩ : ∃ wj : World, wj = wr := ⟨_, rfl⟩
        obtain ⟨m, hm1, rfl, hcm, hJj, hnj, hzj⟩ := hrel
        have q1 : Blk wj g 22 #[.slice A N c] := hnj.2.1.trans hc
        have q2 : Blk wj (g + 1) 3 #[.int .i64 (a : Int)] := hnj.2.2.trans hi
        have e0 := q1.cell0
        have e1 := q2.cell0
        have DR : Hid (∀ q, J pre (wj.drewN q) ∧ KeepC n₀ g W (wj.drewN q) ∧ W.heap.size ≤ (wj.drewN q).heap.size) := Lib.hid fun q => by
          have hbq : Below wj.heap.size wj (wj.drewN q) := below_drewN (Below.refl _ _) q
          exact ⟨HA.out _ _ _ none hJj (grown_below hbq) (fun r e => by cases e), hnj.trans (KeepC.below (by omega) (by omega) hbq), Nat.le_trans hzj hbq.size⟩
        have OK : Hid (2 ≤ m → okAt b a (copy m d)) := Lib.hid fun h => .inr ⟨rfl, h, by show m ≤ 255; omega, hd1, by show d ≤ 4096; omega, by show d ≤ a; omega, by show a + m ≤ _; rw [HL.out]; omega, hcm.out⟩
        have hpl' : pre.length < 4096 := by omega
        by_cases g1 : m < M
        · obtain ⟨s, hs⟩ : ∃ s, a + m = s := ⟨_, rfl⟩
          obtain ⟨r, hr⟩ : ∃ r, s - d = r := ⟨_, rfl⟩
          obtain ⟨b0, q0, x, rfl, _, hx, hcx⟩ := (hS.below hnj.1.1).byte (j := s) (by rw [HL.out]; omega)
          obtain ⟨b1, q1', y', e1', _, hy, hcy⟩ := (hS.below hnj.1.1).byte (j := r) (by rw [HL.out]; omega)
          cases e1'
          replace hcx : wj.cell? ⟨b0, q0 + s, none⟩ = some (.int .u8 (x.toNat : Int)) := hcx
          replace hcy : wj.cell? ⟨b0, q0 + r, none⟩ = some (.int .u8 (y'.toNat : Int)) := hcy
          have z1 : (a : Int) + (m : Int) = (s : Int) := by omega
          have z2 : (s : Int) - (d : Int) = (r : Int) := by omega
          have z3 : IntKind.i64.wrap (s : Int) = (s : Int) := by rw [IntKind.wrap_i64]; omega
          have z4 : IntKind.i64.wrap (r : Int) = (r : Int) := by rw [IntKind.wrap_i64]; omega
          have hsN : s < N := by omega
          have hrN : r < N := by omega
          have d1 : decide ((m : Int) < (M : Int)) = true := decide_eq_true (by omega)
          have d2 : decide (m < M) = true := decide_eq_true g1
          by_cases hxy : x = y'
          · have hnx : Hid (∀ k, k < m + 1 → b[a + k]? = b[a + k - d]?) := Lib.hid fun k hk => by
              by_cases e : k = m
              · subst e; rw [hs, hr, hx, hy, hxy]
              · exact hcm.out k (by omega)
            clear hs hr hx hy
            subst hxy
            gi_wp2_with fail
            refine wpIn_wide.2 ?_
            go_quiet (fail)
            gi_wp2
            go_roundw
            case rel => exact ⟨m + 1, by omega, by go_num, hnx, (DR.out _).1, (DR.out _).2.1, (DR.out _).2.2⟩
            case measure => simp [intOf]; omega
          · clear hs hr hx hy
            have hxn : ¬ (x.toNat : Int) = (y'.toNat : Int) := fun e => hxy (UInt8.toNat_inj.1 (by omega))
            gi_wp2_with fail
            refine wpIn_wide.2 ?_
            go_quiet (fail)
            by_cases h2 : 2 ≤ m
            · have dd : decide ((2 : Int) ≤ (m : Int)) = true := decide_eq_true (by omega)
              obtain ⟨p, fn, tmps, assign, body, hy', hR⟩ := hYc.out pre d m (wj.drewN nq) (DR.out nq).1 hpl' (OK.out h2)
              gi_wp2
              refine hR.mono ?_
              rintro e W3 (⟨rfl, hJ3, hk3⟩ | ⟨rfl, hJx3⟩)
              · clear hR hy'
                gi_wp2
                go_roundw
                case rel => exact ⟨d + 1, pre ++ [p], by omega, by omega, by go_num, by simp; omega, hJ3, (DR.out nq).2.1.trans hk3, by have := hk3.1.2; have := (DR.out nq).2.2; omega⟩
                case measure => simp [intOf]; omega
              · gi_wp2
                refine bodyPost_ret (results_none rfl _ _ _) rfl ?_
                exact ⟨⟨_, rfl⟩, .inr ⟨_, hJx3⟩⟩
            · have dd : decide ((2 : Int) ≤ (m : Int)) = false := decide_eq_false (by omega)
              gi_wp2
              refine ⟨(fun _ _ => trivial), ?_⟩
              gi_wp2
              go_roundw
              case rel => exact ⟨d + 1, pre, by omega, by omega, by go_num, by omega, (DR.out _).1, (DR.out _).2.1, (DR.out _).2.2⟩
              case measure => simp [intOf]; omega
        · obtain rfl : m = M := by omega
          have d1 : decide ((m : Int) < (m : Int)) = false := decide_eq_false (by omega)
          gi_wp2_with fail
          refine wpIn_wide.2 ?_
          go_quiet (fail)
          by_cases h2 : 2 ≤ m
          · have dd : decide ((2 : Int) ≤ (m : Int)) = true := decide_eq_true (by omega)
            obtain ⟨p, fn, tmps, assign, body, hy', hR⟩ := hYc.out pre d m (wj.drewN nq) (DR.out nq).1 hpl' (OK.out h2)
            gi_wp2
            refine hR.mono ?_
            rintro e W3 (⟨rfl, hJ3, hk3⟩ | ⟨rfl, hJx3⟩)
            · clear hR hy'
              gi_wp2
              go_roundw
              case rel => exact ⟨d + 1, pre ++ [p], by omega, by omega, by go_num, by simp; omega, hJ3, (DR.out nq).2.1.trans hk3, by have := hk3.1.2; have := (DR.out nq).2.2; omega⟩
              case measure => simp [intOf]; omega
            · gi_wp2
              refine bodyPost_ret (results_none rfl _ _ _) rfl ?_
              exact ⟨⟨_, rfl⟩, .inr ⟨_, hJx3⟩⟩
          · have dd : decide ((2 : Int) ≤ (m : Int)) = false := decide_eq_false (by omega)
            gi_wp2
            refine ⟨(fun _ _ => trivial), ?_⟩
            gi_wp2
            go_roundw
            case rel => exact ⟨d + 1, pre, by omega, by omega, by go_num, by omega, (DR.out _).1, (DR.out _).2.1, (DR.out _).2.2⟩
            case measure => simp [intOf]; omega
    · have hlt' : ¬ (d : Int) ≤ (D : Int) := by omega
      gi_wp2
      go_end0
      exact ⟨⟨_, rfl⟩, .inl ⟨_, hJs⟩⟩
end Go.Proofs.Ytfahfbkkgcekgaa.H
