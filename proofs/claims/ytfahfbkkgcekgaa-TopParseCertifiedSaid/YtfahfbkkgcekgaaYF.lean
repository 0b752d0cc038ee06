/- lz: token. -/
import Derived.Test.YtfahfbkkgcekgaaYE
import Derived.Deep.RegionHeld3
namespace Go.Proofs.Ytfahfbkkgcekgaa.H
set_option linter.unusedVariables false
set_option linter.unusedSimpArgs false
open Go Go.RowKit Go.Proofs.Ytfahfbkkgcekgaa Go.Proofs.Ytfahfbkkgcekgaa.W Go.Proofs.Ytfahfbkkgcekgaa.M

theorem KT.trans {a b c : World} (h : KT a b) (k : KT b c) : KT a c := fun g cs hg => k g cs (h g cs hg)
theorem StW.drew {w : World} {S : Nat} {D : Bs} {B : List Bool} (h : StW w S D B) : StW w.drew S D B := by
  obtain ⟨A, c, h1, h2, h3⟩ := h
  exact ⟨A, c, h1, h2, h3⟩
theorem StW.alloc {w : World} {S : Nat} {D : Bs} {B : List Bool} (h : StW w S D B) (o : Obj) : StW (w.alloc o) S D B := by
  obtain ⟨A, c, h1, h2, h3⟩ := h
  exact ⟨A, c, h1.alloc o, World.ownsRow.alloc h2 o, h3⟩
set_option maxRecDepth 100000 in
set_option maxHeartbeats 2000000 in
theorem token_ok (t : Tok) (hR : Right t) (w : World) (S : Nat) (D : Bs) (B : List Bool) (hB6 : B.length ≤ 900000) (h : StW w S D B) :
    Calls Try.prog 20 #[.pointer (some ⟨S, 0, none⟩), tokV t] w fun e w' => (∃ v, e = .returned v) ∧ ∃ D', StW w' S D' (B ++ tokB t) ∧ Below S w w' ∧ KT w w' := by
  obtain ⟨n, d, x⟩ := t
  unfold tokV
  have hSz : S < w.heap.size := by obtain ⟨A, c, h1, _⟩ := h; exact h1.lt
  have hst := h.alloc (.cells #[.int .i64 (n : Int), .int .i64 (d : Int), .int .u8 (x.toNat : Int)] 46)
  have hB0 : Below S w (w.alloc (.cells #[.int .i64 (n : Int), .int .i64 (d : Int), .int .u8 (x.toNat : Int)] 46)) := (Below.refl _ _).alloc (by omega) _
  have hK0 : KT w (w.alloc (.cells #[.int .i64 (n : Int), .int .i64 (d : Int), .int .u8 (x.toNat : Int)] 46)) := fun g cs hg => hg.alloc _
  have hb : Blk (w.alloc (.cells #[.int .i64 (n : Int), .int .i64 (d : Int), .int .u8 (x.toNat : Int)] 46)) w.heap.size 46 #[.int .i64 (n : Int), .int .i64 (d : Int), .int .u8 (x.toNat : Int)] := Blk.new _ _ _
  have HK0 := Lib.hid hK0
  clear hK0
  rcases hR with ⟨h1, h2⟩ | ⟨h1, h2, h3, h4, h5⟩
  · obtain rfl : n = 0 := h1
    obtain rfl : d = 0 := h2
    have hx := x.toNat_lt
    have P := Lib.hid (put_ok x.toNat 9 (by omega) (by omega) _ S D B (by omega) hst)
    have hu : IntKind.i64.wrap (x.toNat : Int) = (x.toNat : Int) := by rw [IntKind.wrap_i64]; omega
    clear hst h
    go_enter Try.func20, Try.ntmps20
    go_wp2_with (go_at_call 35; refine P.out.mono ?_; rintro e w1 ⟨⟨v, rfl⟩, D1, hs1, hb1, hk1⟩)
    refine bodyPost_ret (results_none rfl _ _ _) rfl ?_
    exact ⟨⟨_, rfl⟩, D1, hs1, hB0.trans hb1, HK0.out.trans hk1⟩
  · obtain rfl : x = 0 := h1
    replace h2 : 2 ≤ n := h2
    replace h3 : n ≤ 255 := h3
    replace h4 : 1 ≤ d := h4
    replace h5 : d ≤ 4096 := h5
    have hn0 : ((n : Int) == 0) = false := by rw [beq_eq_false_iff_ne]; omega
    obtain ⟨m, hm⟩ : ∃ m, n - 1 = m := ⟨_, rfl⟩
    have hm1 : (n : Int) - 1 = (m : Int) := by omega
    have hm2 : IntKind.i64.wrap (m : Int) = (m : Int) := by rw [IntKind.wrap_i64]; omega
    have g1 := gb_le (n := m) (by omega)
    have g2 := gb_le (n := d) (by omega)
    have htb : Hid (tokB (n, d, 0) = true :: (numB (gb m) m ++ numB (gb d) d)) := Lib.hid (by unfold tokB; rw [if_neg (by show ¬ n = 0; omega), ← hm])
    have P1 := Lib.hid (put_ok 1 1 (by omega) (by omega) _ S D B (by omega) hst)
    have P2 := Lib.hid (fun W D1 (h : StW W S D1 (B ++ numB 1 1)) => put_ok m (gb m) (by omega) (by omega) W S D1 _ (by rw [List.length_append, numB_length]; omega) h)
    have P3 := Lib.hid (fun W D1 (h : StW W S D1 (B ++ numB 1 1 ++ numB (gb m) m)) => put_ok d (gb d) (by omega) (by omega) W S D1 _ (by rw [List.length_append, List.length_append, numB_length, numB_length]; omega) h)
    have G1 := Lib.hid (fun W => gammaBits_ok m (by omega) (by omega) W)
    have G2 := Lib.hid (fun W => gammaBits_ok d (by omega) (by omega) W)
    have KEEP : Hid (∀ W, Blk W w.heap.size 46 #[.int .i64 (n : Int), .int .i64 (d : Int), .int .u8 0] → W.cell? ⟨w.heap.size, 0, none⟩ = some (.int .i64 (n : Int)) ∧ W.cell? ⟨w.heap.size, 1, none⟩ = some (.int .i64 (d : Int))) := Lib.hid fun W hW => ⟨hW.cell 0, hW.cell 1⟩
    clear hst h hm
    go_enter Try.func20, Try.ntmps20
    go_wp2_with (go_at_call 35; refine P1.out.mono ?_; rintro e w1 ⟨⟨v, rfl⟩, D1, hs1, hb1, hk1⟩)
    have hH := (hk1 _ _ hb).drew
    have hZ := hs1.drew
    go_region_held3 (fun W => W.cell? ⟨w.heap.size, 0, none⟩ = some (.int .i64 (n : Int)) ∧ W.cell? ⟨w.heap.size, 1, none⟩ = some (.int .i64 (d : Int))) ((exact KEEP.out _ hH))
      (first
      | (go_at_call 34; refine (G1.out _).mono ?_; rintro e w2 ⟨rfl, rfl⟩)
      | (go_at_call 35; refine (P2.out _ _ hZ).mono ?_; rintro e w3 ⟨⟨v3, rfl⟩, D3, hs3, hb3, hk3⟩; have hH := hk3 _ _ hH))
    go_wp2_with fail
    have hH := hH.drew
    have hZ := hs3.drew
    go_region_held3 (fun W => W.cell? ⟨w.heap.size, 0, none⟩ = some (.int .i64 (n : Int)) ∧ W.cell? ⟨w.heap.size, 1, none⟩ = some (.int .i64 (d : Int))) ((exact KEEP.out _ hH))
      (first
      | (go_at_call 34; refine (G2.out _).mono ?_; rintro e w4 ⟨rfl, rfl⟩)
      | (go_at_call 35; refine (P3.out _ _ hZ).mono ?_; rintro e w5 ⟨⟨v5, rfl⟩, D5, hs5, hb5, hk5⟩; have hH := hk5 _ _ hH))
    go_wp2_with fail
    go_end0
    refine ⟨⟨_, rfl⟩, D5, ?_, (((hB0.trans hb1).drew.trans hb3).drew.trans hb5), fun g cs hg => hk5 _ _ (hk3 _ _ (hk1 _ _ (HK0.out _ _ hg)))⟩
    rw [htb.out, show B ++ true :: (numB (gb m) m ++ numB (gb d) d) = B ++ numB 1 1 ++ numB (gb m) m ++ numB (gb d) d by simp [show numB 1 1 = [true] from rfl]]
    exact hs5
end Go.Proofs.Ytfahfbkkgcekgaa.H
