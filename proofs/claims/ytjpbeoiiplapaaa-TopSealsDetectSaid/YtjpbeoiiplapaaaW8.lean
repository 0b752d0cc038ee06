/- volume.put: a sealed string. -/
import Derived.Test.YtjpbeoiiplapaaaW7
namespace Go.Proofs.Ytjpbeoiiplapaaa.C
set_option linter.unusedVariables false
set_option linter.unusedSimpArgs false
open Go Go.RowKit Go.Shelf Go.Proofs.Ytjpbeoiiplapaaa Go.Proofs.Ytjpbeoiiplapaaa.W Go.Proofs.Ytjpbeoiiplapaaa.M Go.Proofs.Ytjpbeoiiplapaaa.B

/-- A number as the model holds it. -/
def iv (n : Nat) : Value := .int .i64 (n : Int)
/-- An owned row of bytes below a base. -/
theorem OwnB.low {w : World} {base base' k : Nat} {v : Value} {l : Bs} (h : OwnB w base v k l) (hb : base' ≤ base) : OwnB w base' v k l := own_base h hb
set_option maxRecDepth 100000 in
set_option maxHeartbeats 2000000 in
theorem put_ok (n0 n1 n2 n3 n4 : Nat) (h0 : n0 ≤ 4294967295) (h1 : n1 ≤ 65536) (h2 : n2 ≤ 65536) (h3 : n3 ≤ 65536) (h4 : n4 ≤ 65536) (A : Option Addr) (s c : Nat) (l : Bs) (hl : l.length = s) (hs : s ≤ 1000) (w : World) (hS : Sl u8 w w.heap.size A l) :
    Calls Try.prog 15 #[.agg #[.int .u32 (n0 : Int), .int .i64 (n1 : Int), .int .i64 (n2 : Int), .int .i64 (n3 : Int), .int .i64 (n4 : Int)], .slice A s c] w fun e w' => ∃ (A' : Option Addr) (c' : Nat) (x : Bs) (m : Nat), e = .returned (.slice A' m c') ∧ (sealed x).length = m ∧ x.length ≤ 40 + s ∧ m ≤ c' ∧ c' ≤ maxLen ∧ TS w' A' (sealed x) ∧ Below w.heap.size w w' := by
  obtain ⟨i0, hi, hz0, hz1, hz2⟩ := info_parts info5
  have hw0 : IntKind.i64.wrap (n0 : Int) = (n0 : Int) := by rw [IntKind.wrap_i64]; omega
  have hB0 : Below w.heap.size w (w.alloc (.cells #[.int .u32 (n0 : Int), .int .i64 (n1 : Int), .int .i64 (n2 : Int), .int .i64 (n3 : Int), .int .i64 (n4 : Int)] 34)) := (Below.refl _ _).alloc (Nat.le_refl _) _
  have hb0 : Blk (w.alloc (.cells #[.int .u32 (n0 : Int), .int .i64 (n1 : Int), .int .i64 (n2 : Int), .int .i64 (n3 : Int), .int .i64 (n4 : Int)] 34)) w.heap.size 34 #[.int .u32 (n0 : Int), .int .i64 (n1 : Int), .int .i64 (n2 : Int), .int .i64 (n3 : Int), .int .i64 (n4 : Int)] := Blk.new _ _ _
  have c0 := hb0.cell 0
  have c1 := hb0.cell 1
  have c2 := hb0.cell 2
  have c3 := hb0.cell 3
  have c4 := hb0.cell 4
  have HL := Lib.hid hl
  clear hl hb0
  go_enter Try.func15, Try.ntmps15
  go_wp2_with fail
  have hB1 := hB0.alloc hB0.size (.cells #[.int .i64 (n0 : Int), .int .i64 (n1 : Int), .int .i64 (n2 : Int), .int .i64 (n3 : Int), .int .i64 (n4 : Int)] 3)
  have hv : Sl iv ((w.alloc (.cells #[.int .u32 (n0 : Int), .int .i64 (n1 : Int), .int .i64 (n2 : Int), .int .i64 (n3 : Int), .int .i64 (n4 : Int)] 34)).alloc (.cells #[.int .i64 (n0 : Int), .int .i64 (n1 : Int), .int .i64 (n2 : Int), .int .i64 (n3 : Int), .int .i64 (n4 : Int)] 3)) (w.heap.size + 2) (some ⟨w.heap.size + 1, 0, none⟩) [n0, n1, n2, n3, n4] := by
    have := Sl.of_new (enc := iv) (w := w.alloc (.cells #[.int .u32 (n0 : Int), .int .i64 (n1 : Int), .int .i64 (n2 : Int), .int .i64 (n3 : Int), .int .i64 (n4 : Int)] 34)) (t := 3) (l := [n0, n1, n2, n3, n4]) (g := w.heap.size + 1) (by simp) (cs := #[.int .i64 (n0 : Int), .int .i64 (n1 : Int), .int .i64 (n2 : Int), .int .i64 (n3 : Int), .int .i64 (n4 : Int)]) rfl
    rwa [World.size_alloc] at this
  have HV : Hid (∀ x ∈ [n0, n1, n2, n3, n4], x ≤ 9007199254740991) := Lib.hid fun x hx => by
    simp at hx; omega
  obtain ⟨w1, hw1⟩ : ∃ w1, (w.alloc (.cells #[.int .u32 (n0 : Int), .int .i64 (n1 : Int), .int .i64 (n2 : Int), .int .i64 (n3 : Int), .int .i64 (n4 : Int)] 34)).alloc (.cells #[.int .i64 (n0 : Int), .int .i64 (n1 : Int), .int .i64 (n2 : Int), .int .i64 (n3 : Int), .int .i64 (n4 : Int)] 3) = w1 := ⟨_, rfl⟩
  rw [hw1] at hB1 hv ⊢
  have hv1 := hv.lt
  obtain ⟨vs, hvs⟩ : ∃ vs : List Nat, [n0, n1, n2, n3, n4] = vs := ⟨_, rfl⟩
  have hvl : vs.length = 5 := by rw [← hvs]; rfl
  rw [hvs] at hv1 HV
  clear hw1 hv hB0 c0 c1 c2 c3 c4 hvs hw0
  go_loopw [5, 21] (fun bv iv wm => ∃ (i m : Nat) (x : Bs) (A' : Option Addr) (c' : Nat), i ≤ 5 ∧ iv = .int .i64 (i : Int) ∧ bv = .slice A' m c' ∧ m ≤ 8 * i ∧ Hid (x.length = m) ∧ OwnB wm w1.heap.size (.slice A' m c') m x ∧ Below w1.heap.size w1 wm) (fun _ iv _ => 5 - (intOf iv).toNat)
  case atStart => exact ⟨0, 0, [], none, 0, Nat.zero_le _, rfl, rfl, Nat.le_refl _, Lib.hid rfl, OwnB.nil, Below.refl _ _⟩
  case round =>
    obtain ⟨i, m, x, A', c', hi', rfl, rfl, hm, hx, ho, hB⟩ := hrel
    by_cases hlt : i < 5
    · obtain ⟨b, o, y, e, hb, hy, hc⟩ := hv1.at_ (j := i) (by omega)
      injection e with e
      injection e with e1 e2 _
      subst e1 e2
      replace hc : w1.cell? ⟨w.heap.size + 1, 0 + i, none⟩ = some (.int .i64 (y : Int)) := hc
      rw [Nat.zero_add] at hc
      have hy6 := HV.out y (List.mem_of_getElem? hy)
      have k1 : wr.cell? ⟨w.heap.size + 1, i, none⟩ = some (.int .i64 (y : Int)) := (hB.cell (p := ⟨w.heap.size + 1, i, none⟩) hb).trans hc
      have C := Lib.hid (putInt_ok m c' y x A' hx.out (by omega) hy6 wr _ ho.ts.sl)
      have hi5 : (i : Int) < 5 := by omega
      clear hc hy
      go_wp2_with (go_at_call 24; refine C.out.mono ?_; rintro e w3 ⟨A3, c3, x3, m3, hx3, hm3, rfl, o3, hb3⟩; have HX3 := Lib.hid hx3; clear hx3)
      go_roundw
      case rel => exact ⟨i + 1, m3, x3, A3, c3, by omega, by go_num, rfl, by omega, HX3, OwnB.low o3 hB.size, bsa' hB hb3⟩
      case measure => simp [intOf]; omega
    · obtain rfl : i = 5 := by omega
      have hSw := (hS.later hB1).later hB
      go_wp2_with (first
        | (at_builtin; refine wpList_append_sl _ u8_one' rfl _ _ 22 rfl w1.heap.size 5 i0 (.int .u8 0) 1 Try.underlying22 hi hz0 hz1 hz2 rfl (.slice A' m c') m _ rfl ho _ A c l s rfl hSw HL.out (by unfold maxLen; omega) (by omega) hB.size ?_; intro v4 w4 o4 g4; have hB4 := hB.grown g4 hB.size (fun j hj => (World.ownsRow.lt ho j hj).1); have o4' := OwnB.snoc o4; obtain ⟨A4, c4, rfl, _, _⟩ := own_form o4)
        | (go_at_call 4; refine (seal_ok A4 c4 (m + s) (x ++ l) (by rw [List.length_append, hx.out, HL.out]) (by omega) _ _ o4'.ts.sl).mono ?_; rintro e w5 ⟨A5, c5, rfl, o5, hb5⟩))
      go_ret
      obtain ⟨_, _, hsl, hnc, hcm⟩ := own_form o5
      obtain ⟨rfl, rfl⟩ : A5 = _ ∧ c5 = _ := by injection hsl with h1 _ h3; exact ⟨h1, h3⟩
      exact ⟨A5, c5, x ++ l, m + s + 4, rfl, by rw [sealed_length, List.length_append, hx.out, HL.out], by rw [List.length_append, hx.out, HL.out]; omega, hnc, hcm, TS.of_own o5, bsa' (bsa' hB1 hB4) hb5⟩
end Go.Proofs.Ytjpbeoiiplapaaa.C
