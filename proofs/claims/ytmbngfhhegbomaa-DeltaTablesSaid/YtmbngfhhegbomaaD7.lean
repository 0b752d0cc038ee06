import Derived.Test.YtmbngfhhegbomaaD6
namespace Go.Proofs.Ytmbngfhhegbomaa.D
set_option linter.unusedVariables false
open Go Go.RowKit Go.Proofs.Ytmbngfhhegbomaa Go.Proofs.Ytmbngfhhegbomaa.W Go.Proofs.Ytmbngfhhegbomaa.M

def ex0 : Bs := [10, 20, 12, 23, 14, 26]
def ex1 : Bs := [10, 20, 2, 3, 2, 3]
def ex2 : Bs := [10, 20, 248, 239, 0, 0]
def ex3 : Bs := [1, 0]
def ex4 : Bs := [1, 255]

theorem awake_any (w : World) : Calls Try.prog 10 #[] w fun e w' => e = .returned (.bool true) ∧ Below w.heap.size w w' := by
  go_enter Try.func10, Try.ntmps10
  go_wp2_with fail
  have s0 : Sl u8 (w.alloc (.cells #[.int .u8 10, .int .u8 20, .int .u8 12, .int .u8 23, .int .u8 14, .int .u8 26] 5)) (w.heap.size + 1) (some ⟨w.heap.size, 0, none⟩) ex0 := Sl.of_new rfl rfl
  refine (forward_ok _ _ 6 ex0 2 _ _ s0 rfl (by decide) ex1 6 0 (by decide) rfl (by decide)).mono ?_
  rintro e w1 ⟨A1, c1, rfl, h1, hc1, b1⟩
  have s1 := s0.lt.later b1
  have g1 : Below w.heap.size w w1 := ((Below.refl _ w).alloc (Nat.le_refl _) _).trans (b1.mono (by simp))
  clear b1
  go_wp2_with fail
  refine (order_ok _ _ 6 ex0 2 2 _ _ s1 rfl (by decide) ex2 6 0 (by decide) rfl (by decide)).mono ?_
  rintro e w2 ⟨A2, c2, rfl, h2, hc2, b2⟩
  have s2 := s1.later b2
  have h12 := h1.later b2
  have g2 : Below w.heap.size w w2 := g1.trans (b2.mono g1.size)
  clear b2 h1
  go_wp2_with fail
  have z0 : Sl u8 (w2.alloc (.cells #[.int .u8 1, .int .u8 0] 5)) (w2.heap.size + 1) (some ⟨w2.heap.size, 0, none⟩) ex3 := Sl.of_new rfl rfl
  refine (forward_ok _ _ 2 ex3 1 _ _ z0 rfl (by decide) ex4 2 0 (by decide) rfl (by decide)).mono ?_
  rintro e w3 ⟨A3, c3, rfl, h3, hc3, b3⟩
  have b3' : Below w2.heap.size w2 w3 := ((Below.refl _ w2).alloc (Nat.le_refl _) _).trans (b3.mono (by simp))
  have s3 := s2.later b3'
  have h13 := h12.later b3'
  have h23 := h2.later b3'
  have g3 : Below w.heap.size w w3 := g2.trans (b3'.mono g2.size)
  clear b3 b3' h12 h2 z0
  go_wp2_with fail
  refine (equal_ok _ _ _ _ 6 6 ex1 ex1 _ _ _ (h13.alloc (Nat.le_refl _) _) (Sl.of_new rfl rfl) rfl rfl true (by decide)).mono ?_
  rintro e w' ⟨rfl, rfl⟩
  go_wp2_with fail
  refine (equal_ok _ _ _ _ 6 6 ex2 ex2 _ _ _ ((h23.alloc (Nat.le_refl _) _).alloc (by simp) _) (Sl.of_new (by simp) rfl) rfl rfl true (by decide)).mono ?_
  rintro e w' ⟨rfl, rfl⟩
  go_wp2_with fail
  refine (equal_ok _ _ _ _ 2 2 ex4 ex4 _ _ _ (((h3.alloc (Nat.le_refl _) _).alloc (by simp) _).alloc (by simp; omega) _) (Sl.of_new (by simp) rfl) rfl rfl true (by decide)).mono ?_
  rintro e w' ⟨rfl, rfl⟩
  go_wp2_with fail
  refine (weight_ok _ _ 6 ex0 _ _ (((s3.alloc (Nat.le_refl _) _).alloc (by simp) _).alloc (by simp; omega) _) rfl (by decide) 105 (by decide)).mono ?_
  rintro e w' ⟨rfl, rfl⟩
  go_wp2_with fail
  refine (weight_ok _ _ 6 ex1 _ _ (((h13.alloc (Nat.le_refl _) _).alloc (by simp) _).alloc (by simp; omega) _) rfl (by decide) 40 (by decide)).mono ?_
  rintro e w' ⟨rfl, rfl⟩
  go_wp2_with fail
  refine (weight_ok _ _ 6 ex2 _ _ (((h23.alloc (Nat.le_refl _) _).alloc (by simp) _).alloc (by simp; omega) _) rfl (by decide) 55 (by decide)).mono ?_
  rintro e w' ⟨rfl, rfl⟩
  go_wp2_with fail
  refine (weight_ok _ _ 2 ex4 _ _ (((h3.alloc (Nat.le_refl _) _).alloc (by simp) _).alloc (by simp; omega) _) rfl (by decide) 2 (by decide)).mono ?_
  rintro e w' ⟨rfl, rfl⟩
  go_wp2_with fail
  go_ret
  exact ⟨rfl, ((g3.alloc g3.size _).alloc (by have := g3.size; simp; omega) _).alloc (by have := g3.size; simp; omega) _⟩
end Go.Proofs.Ytmbngfhhegbomaa.D
