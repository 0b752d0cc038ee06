/- Clone; the reference's Roll. -/
import Derived.Test.YtlbghmocbklmdaaR4
import Derived.Test.YtlbghmocbklmdaaApNew
import Derived.PlainAid
namespace Go.Proofs.Ytlbghmocbklmdaa.H
set_option linter.unusedVariables false
open Go Go.RowKit Go.Proofs.Ytlbghmocbklmdaa Go.Proofs.Ytlbghmocbklmdaa.W Go.Proofs.Ytlbghmocbklmdaa.M

theorem info5 : (Try.prog.info? 5).map (fun i => (i.zero, i.size, i.bytes)) = some (some (.int .u8 0), 1, 1) := by kernel_rfl

theorem clone_any (A : Option Addr) (c n : Nat) (l : List UInt8) (hl : l.length = n) (w : World) (B : Nat) (h : Sl u8 w B A l) (hn : n ≤ 65536) :
    Calls Try.prog 30 #[.slice A n c] w fun e w' => ∃ A' c', e = .returned (.slice A' n c') ∧
      w'.ownsRow w.heap.size 5 1 (.slice A' n c') n (l.map u8) ∧ Below w.heap.size w w' := by
  subst hl
  obtain ⟨i0, hi, hz0, hz1, hz2⟩ := info_parts info5
  have q22 : ∀ (w : World) (a : Option Addr) (n c n' c' : Nat), (binOp .eql 22 (.slice a n c) (.slice none n' c')).run Try.prog w = .ok (.bool a.isNone) w := fun w a n c n' c' => Lib.run_eql_slice_nil w _ _ a n c n' c' Try.underlying22
  cases A with
  | none =>
    obtain rfl : l = [] := by
      rcases l with _ | ⟨x, r⟩
      · rfl
      · obtain ⟨b, o, e, _⟩ := h (by simp); cases e
    go_enter Try.func30, Try.ntmps30
    go_wp2
    go_ret
    exact ⟨none, 0, rfl, World.ownsRow_nil _ _ _ _, Below.refl _ _⟩
  | some ad =>
    go_enter Try.func30, Try.ntmps30
    go_wp2_with (at_builtin; refine wpList_append_own _ rfl _ _ 22 rfl w.heap.size 5 i0 (.int .u8 0) 1 1 Try.underlying22 hi hz0 hz1 hz2 rfl (by decide) _ 0 [] rfl (World.ownsRow_made _ #[] 0 (Nat.le_refl _) (by decide) rfl) ad l.length c (l.map u8) rfl (by simp) (h.lt.alloc (Nat.le_refl _) _).news u8_one (by unfold maxLen; omega) (by omega) (by simp) ?_; intro v' w1 hown hgrow _)
    go_ret
    have hb : Below w.heap.size w w1 := ((Below.refl _ w).alloc (Nat.le_refl _) _).grown hgrow (by simp) (fun k hk => by cases hk; exact Nat.le_refl _)
    simp only [Nat.zero_add, List.nil_append] at hown
    obtain ⟨A', c', rfl, _, _⟩ := own_form hown
    exact ⟨A', c', rfl, hown, hb⟩

/-- What a walk asks of a struct's block. -/
theorem three {w : World} {g : Nat} {x y z : Value} (h : Blk w g 26 #[x, y, z]) : w.cell? ⟨g, 0, none⟩ = some x ∧ w.cell? ⟨g, 1, none⟩ = some y ∧ w.cell? ⟨g, 2, none⟩ = some z ∧ w.frozen? ⟨g, 0, none⟩ = false ∧ w.frozen? ⟨g, 1, none⟩ = false ∧ w.frozen? ⟨g, 2, none⟩ = false :=
  ⟨h.cell 0, h.cell 1, h.cell 2, Blk.frozen h 0, Blk.frozen h 1, Blk.frozen h 2⟩
set_option maxRecDepth 100000 in
theorem result_st {fn : Func} {p u : Tmp} (h : fn.results = #[.cell p 26, .tmp u]) (tmps : Array Value) (W : World) (g : Nat) (hp : tmps.getD p undef = .pointer (some ⟨g, 0, none⟩)) {k : Int} {A : Option Addr} {n c : Nat} {hv : Int} (hB : Blk W g 26 #[.int .i64 k, .slice A n c, .int .u32 hv]) {er : Int} (hu : tmps.getD u undef = .int .i64 er) :
    (results fn tmps).run Try.prog W = .ok (.tuple #[.agg #[.int .i64 k, .slice A n c, .int .u32 hv], .int .i64 er]) W := by
  obtain ⟨c0, c1, c2, _, _, _⟩ := three hB
  rw [results_cell_tmp h, hp, hu]
  go_simp
theorem put3 {w : World} {g : Nat} {x y z : Value} (h : Blk w g 26 #[x, y, z]) (x' y' z' : Value) : Blk (((w.setCell ⟨g, 0, none⟩ x').setCell ⟨g, 1, none⟩ y').setCell ⟨g, 2, none⟩ z') g 26 #[x', y', z'] :=
  ((h.store 0 x').store 1 y').store 2 z'
theorem put3_below {B : Nat} {a w : World} (h : Below B a w) {g : Nat} (hg : B ≤ g) (x' y' z' : Value) : Below B a (((w.setCell ⟨g, 0, none⟩ x').setCell ⟨g, 1, none⟩ y').setCell ⟨g, 2, none⟩ z') :=
  ((h.setCell (p := ⟨g, 0, none⟩) hg x').setCell (p := ⟨g, 1, none⟩) hg y').setCell (p := ⟨g, 2, none⟩) hg z'
/-- The bytes behind a roll. -/
def rollL (k : Nat) (b : Bs) (x : UInt8) : Bs := if k < b.length + 1 then (b ++ [x]).drop 1 else b ++ [x]
theorem u8_one' (x : UInt8) : (u8 x).oneCell' = true := rfl

set_option maxRecDepth 100000 in
set_option maxHeartbeats 2000000 in
theorem rRoll_bad (k : Int) (A : Option Addr) (n c : Nat) (b : Bs) (hv : R) (x : UInt8) (er : Int) (he : chk k b hv = er) (h0 : er ≠ 0) (hl : b.length = n) (w : World) (B : Nat) (h : Sl u8 w B A b) :
    Calls Try.prog 19 #[.agg #[.int .i64 k, .slice A n c, .int .u32 (hv.toNat : Int)], .int .u8 (x.toNat : Int)] w fun e w' => e = .returned (.tuple #[.agg #[.int .i64 0, .slice none 0 0, .int .u32 0], .int .i64 er]) ∧ Below w.heap.size w w' := by
  have hS := h.lt
  clear h
  have h0' : (er == 0) = false := by rw [beq_eq_false_iff_ne]; exact h0
  have C : Hid (∀ W, Below w.heap.size w W → Calls Try.prog 21 #[.agg #[.int .i64 k, .slice A n c, .int .u32 (hv.toNat : Int)]] W fun e w' => e = .returned (.int .i64 er) ∧ Below W.heap.size W w') := Lib.hid fun W hW => by rw [← he]; exact rCheck_ok k A n c b hv hl W _ (hS.later hW)
  have hB0 : Below w.heap.size w ((w.alloc (.cells #[.int .i64 k, .slice A n c, .int .u32 (hv.toNat : Int)] 26)).alloc (.cells #[.int .i64 0, .slice none 0 0, .int .u32 0] 26)) := ((Below.refl _ _).alloc (Nat.le_refl _) _).alloc (by simp) _
  have hk0 : Blk ((w.alloc (.cells #[.int .i64 k, .slice A n c, .int .u32 (hv.toNat : Int)] 26)).alloc (.cells #[.int .i64 0, .slice none 0 0, .int .u32 0] 26)) (w.heap.size + 1) 26 #[.int .i64 0, .slice none 0 0, .int .u32 0] := Blk.new' (by simp) _ _
  clear he h0 hl hS
  go_enter Try.func19, Try.ntmps19
  go_wp2_with (go_at_call 21; refine (C.out _ hB0).mono ?_; rintro e w2 ⟨rfl, hb2⟩; have hk2 := hk0.later hb2; obtain ⟨c0, c1, c2, f0, f1, f2⟩ := three hk2)
  exact bodyPost_ret (result_st rfl _ _ (w.heap.size + 1) rfl (put3 hk2 _ _ _) rfl) rfl ⟨rfl, put3_below (hB0.trans (hb2.mono hB0.size)) (by omega) _ _ _⟩
end Go.Proofs.Ytlbghmocbklmdaa.H
