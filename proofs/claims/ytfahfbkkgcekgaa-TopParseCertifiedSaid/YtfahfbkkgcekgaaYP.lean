/- compactortop.caseParsed: the constant repetition. -/
import Derived.Test.YtfahfbkkgcekgaaYO
import Derived.Lib.SlBytesConst
namespace Go.Proofs.Ytfahfbkkgcekgaa.H
set_option linter.unusedVariables false
set_option linter.unusedSimpArgs false
open Go Go.RowKit Go.Proofs.Ytfahfbkkgcekgaa Go.Proofs.Ytfahfbkkgcekgaa.W Go.Proofs.Ytfahfbkkgcekgaa.M

theorem of_marked {w : World} {g : Nat} {t : TypeId} {fr : Nat × Nat} {l : List UInt8} (h : w.heap[g]? = some (.cells (l.map u8).toArray t fr)) : Sl u8 w w.heap.size (some ⟨g, 0, none⟩) l := fun _ =>
  ⟨g, 0, rfl, (Array.getElem?_eq_some_iff.1 h).1, fun j x hx => by rw [Nat.zero_add, cell_of_row w g j _ t fr h]; simp [hx]⟩
def abc : Bs := [97, 98, 99, 97, 98, 99, 97, 98, 99, 97, 98, 99]
theorem abc_four : (opt abc 0).length = 4 := by kernel_rfl
theorem abc_less : decide (pot abc 0 < 108) = true := by kernel_rfl
set_option maxRecDepth 100000 in
set_option maxHeartbeats 2000000 in
theorem parsed_ok (w : World) : Calls Try.prog 5 #[] w fun e w' => e = .returned (.bool true) ∧ Below w.heap.size w w' := by
  have hB0 : Below w.heap.size w (w.alloc (.cells (abc.map u8).toArray 5 (12, 13))) := (Below.refl _ _).alloc (Nat.le_refl _) _
  have hS0 : Sl u8 (w.alloc (.cells (abc.map u8).toArray 5 (12, 13))) (w.alloc (.cells (abc.map u8).toArray 5 (12, 13))).heap.size (some ⟨w.heap.size, 0, none⟩) abc := of_marked (heap_alloc_new _ _)
  have HS := Lib.hid hS0
  have HB := Lib.hid hB0
  have kc := fun (w : World) (C : Array Value) (n c : Nat) => Lib.run_convert_bytes_const (P := Try.prog) w 22 5 C n c Try.underlying22 Try.underlying5
  obtain ⟨n, hn⟩ : ∃ n, pot abc 0 = n := ⟨_, rfl⟩
  have hn1 : (n : Int) < 108 := by have := of_decide_eq_true abc_less; omega
  have O := Lib.hid (fun A c W h => Optimal_ok abc 12 rfl (by decide) A c (opt abc 0) 4 n rfl abc_four hn W h)
  have FW := Lib.hid (fun A c W h => Forward_ok abc 12 rfl (by decide) A c W h)
  have IV := Lib.hid (fun A c L D W h1 h2 h3 h4 => Inverse_ok abc 12 rfl (by decide) A c L D h1 h2 (opt abc 0) (opt_fac abc).1 h3 W h4)
  have EQ := Lib.hid (fun A A' c c' W B B' h h' => equal_same (A := A) (A' := A') (c := c) (c' := c') (n := 12) (l := abc) rfl (w := W) (B := B) (B' := B') h h')
  have hlen : Hid (∀ D, BR D (encB (opt abc 0)) → D.length ≤ 65536) := Lib.hid fun D h => by
    have h1 := h.1
    rw [encB_length, (opt_fac abc).2, hn] at h1
    omega
  clear hn hB0 hS0
  go_enter Try.func5, Try.ntmps5
  go_wp2_with (first
    | (go_at_call 10; refine (O.out _ _ _ HS.out).mono ?_; rintro e w1 ⟨A1, c1, rfl, hT1, _, _, hb1⟩; have hS1 := HS.out.later hb1; have hB1 := bsa HB.out hb1)
    | (go_at_call 11; refine (FW.out _ _ _ hS1).mono ?_; rintro e w2 ⟨A2, c2, D, rfl, hD, hBR, _, _, hb2⟩; have HBR := Lib.hid hBR; clear hBR; have hS2 := hS1.later hb2; have hB2 := bsa hB1 hb2)
    | (go_at_call 12; refine (IV.out _ _ _ _ _ rfl (hlen.out _ HBR.out) HBR.out hD).mono ?_; rintro e w3 ⟨A3, c3, rfl, hE, _, _, hb3⟩; have hS3 := hS2.later hb3; have hB3 := bsa hB2 hb3)
    | (go_at_call 13; refine (EQ.out _ _ _ _ _ _ _ hE hS3).mono ?_; rintro e w4 ⟨rfl, rfl⟩))
  go_ret
  exact ⟨rfl, hB3⟩
end Go.Proofs.Ytfahfbkkgcekgaa.H
