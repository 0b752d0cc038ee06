import Derived.Test.YtjpbeoiiplapaaaV2
import Derived.Deep.WholeRow
namespace Go.Proofs.Ytjpbeoiiplapaaa.C
set_option linter.unusedVariables false
open Go Go.RowKit Go.Shelf Go.Proofs.Ytjpbeoiiplapaaa Go.Proofs.Ytjpbeoiiplapaaa.W Go.Proofs.Ytjpbeoiiplapaaa.M
attribute [local go_sem] Oper.semAt_some

theorem byte_of (r : R) : IntKind.u8.wrap (r.toNat : Int) = ((lo r).toNat : Int) := by
  have h1 : (lo r).toNat = r.toNat % 256 := by
    show (r.setWidth 8).toNat = _
    rw [BitVec.toNat_setWidth]
  rw [h1]
  simp [IntKind.wrap, IntKind.signed, IntKind.bits]
theorem xor_u8 (a b : UInt8) : bits .xor .u8 (a.toNat : Int) (b.toNat : Int) = ((a ^^^ b).toNat : Int) := by
  have key : ∀ x : UInt8, BitVec.ofInt 8 (x.toNat : Int) = x.toBitVec := fun x => by
    rw [BitVec.ofInt_natCast]
    apply BitVec.eq_of_toNat_eq
    rw [BitVec.toNat_ofNat]
    exact Nat.mod_eq_of_lt x.toNat_lt
  show IntKind.u8.wrap ((BitVec.ofInt 8 (a.toNat : Int) ^^^ BitVec.ofInt 8 (b.toNat : Int)).toNat : Int) = _
  rw [key, key]
  have : (a.toBitVec ^^^ b.toBitVec).toNat = (a ^^^ b).toNat := by rw [UInt8.toNat_xor, BitVec.toNat_xor]; rfl
  rw [this]
  have := (a ^^^ b).toNat_lt
  generalize (a ^^^ b).toNat = n at *
  simp [IntKind.wrap, IntKind.signed, IntKind.bits]; omega
theorem ofNat_u8 (x : UInt8) : BitVec.ofNat 32 x.toNat = ext x := by
  apply BitVec.eq_of_toNat_eq
  rw [ext_toNat, BitVec.toNat_ofNat]
  have := x.toNat_lt
  omega

set_option maxRecDepth 100000 in
set_option maxHeartbeats 2000000 in
theorem absorb_any (r : R) (gf : Nat) (lb : Array Value) (xs : List UInt8) (Sp : List UInt8 → Prop) (w : World)
    (eg : ∀ args w, (callFunc gf args).run Try.prog w = .ok (.enter gf args) w)
    (hseq : ∀ W, Below w.heap.size w W → SeqStopsK Fence.wide 2 Try.prog gf lb (fun x : UInt8 => #[Value.int .u8 (x.toNat : Int)]) (Below w.heap.size) (fun ys => ys = xs) Sp xs.length W) :
    Calls Try.prog 27 #[.int .u32 (r.toNat : Int), .func (.func gf) #[] lb] w fun e w' => e = .returned (.int .u32 ((F r xs).toNat : Int)) ∧ Below w.heap.size w w' := by
  obtain ⟨Z, hz, hZ⟩ := zero_table
  have HZ := Lib.hid hZ
  clear hZ
  refine (callsIn_wide (n := 3)).1 ?_
  refine callsIn_of_wp_marks Try.func27 rfl trivial ?_ rfl
  simp only [Try.ntmps27, List.size_toArray, List.length_cons, List.length_nil, Nat.reduceAdd, Nat.reduceSub, Array.replicate_succ, Array.replicate_zero, List.push_toArray, List.append_toArray, List.nil_append, List.cons_append]
  gi_wp2_with (refine ⟨trivial, ?_⟩; gi_at_call 36; refine (callsIn_wide.2 (table_any _)).mono ?_; rintro e w1 ⟨T, rfl, hT, hb1⟩; have hTs := hT.1; have hst := run_storeCells_new (P := Try.prog) w1 69 Z T (by rw [hTs]; exact table_info) (by rw [hTs, HZ.out, Array.size_replicate]) hT.2.2)
  have hz1 : w.heap.size + 1 ≤ w1.heap.size := by have := hb1.size; rwa [World.size_alloc] at this
  have hB0 : Below w.heap.size w (w1.alloc (.cells T 69)) := (((Below.refl _ w).alloc (Nat.le_refl _) _).trans (hb1.mono (by rw [World.size_alloc]; omega))).alloc (by omega) _
  have bR : Blk (w1.alloc (.cells T 69)) w.heap.size 32 #[.int .u32 (r.toNat : Int)] := ((Blk.new w _ _).later hb1).alloc _
  have bT : Blk (w1.alloc (.cells T 69)) w1.heap.size 69 T := Blk.new _ _ _
  have hTc : ∀ i, i < 256 → (w1.alloc (.cells T 69)).cell? ⟨w1.heap.size, i, none⟩ = some (.int .u32 ((S (BitVec.ofNat 32 i)).toNat : Int)) := fun i hi => by rw [bT.cell i]; exact hT.2.1 i hi
  clear hst hTs
  refine wpIn_rangeFunc_ownG rfl (by omega) (gf := gf) (lb := lb) rfl trivial eg (hseq _ hB0) belowK_t (belowK_b (by have := hB0.size; omega)) (Below.refl _ _) (fun _ => rfl)
    (fun pre W => (W.cell? ⟨w.heap.size, 0, none⟩ = some (.int .u32 ((F r pre).toNat : Int)) ∧ W.frozen? ⟨w.heap.size, 0, none⟩ = false ∧ ∀ i, i < 256 → W.cell? ⟨w1.heap.size, i, none⟩ = some (.int .u32 ((S (BitVec.ofNat 32 i)).toNat : Int))) ∧ Below w.heap.size w W)
    (fun _ _ _ => False)
    (OwnFrom.and (Own.from (fun s A B row hs hg hr => ⟨cell_kept hs.1 hg hr, (frozen_kept hs.1 hg hr).trans hs.2.1, fun i hi => cell_kept (hs.2.2 i hi) hg hr⟩) _) (ownFrom_below (Nat.le_refl _) (by have := hB0.size; omega)))
    (fun _ _ _ _ _ hs _ _ => hs)
    ⟨⟨bR.cell0, bR.frozen 0, hTc⟩, hB0⟩
    (fun x => { tmps := #[.int .u32 (r.toNat : Int), .func (.func gf) #[] lb, .pointer (some ⟨w.heap.size, 0, none⟩), undef, .int .u32 0, .pointer (some ⟨w1.heap.size, 0, none⟩), .int .u8 (x.toNat : Int), .agg T, .func (.func gf) #[] lb, .int .u8 (x.toNat : Int), undef, undef, undef, undef, undef, undef, undef, undef, undef, undef], defers := [] }) ?assign ?body ?done ?stop
  case assign =>
    intro l x W K hK
    gi_wp2
    exact hK
  case body =>
    rintro l pre x W ⟨⟨hc, hf, ht⟩, hB⟩ _
    obtain ⟨y, hy⟩ : ∃ y, F r pre = y := ⟨_, rfl⟩
    have hnext : Hid (F r (pre ++ [x]) = reg y x) := Lib.hid (by rw [F_snoc, hy])
    rw [hy] at hc
    have hcv := byte_of y
    have hx8 := xor_u8 (lo y) x
    have hi := ht _ (lo y ^^^ x).toNat_lt
    obtain ⟨z, hz'⟩ : ∃ z, z = lo y ^^^ x := ⟨_, rfl⟩
    rw [← hz'] at hx8 hi
    have hlt : ((z.toNat : Nat) : Int) < 256 := lt256 _
    obtain ⟨V, hV⟩ : ∃ V, V = S (BitVec.ofNat 32 z.toNat) := ⟨_, rfl⟩
    rw [← hV] at hi
    have hs8 := shr8 y
    have hx32 := bits_xor (y >>> 8) V
    have hfin : Hid ((y >>> 8) ^^^ V = reg y x) := Lib.hid (by rw [hV, hz', ofNat_u8, reg_table])
    obtain ⟨y8, hy8⟩ : ∃ y8, y8 = y >>> 8 := ⟨_, rfl⟩
    rw [← hy8] at hs8 hx32 hfin
    obtain ⟨q, hq⟩ : ∃ q, q = y8 ^^^ V := ⟨_, rfl⟩
    rw [← hq] at hx32 hfin
    obtain ⟨o, ho⟩ : ∃ o, o = lo y := ⟨_, rfl⟩
    rw [← ho] at hcv hx8
    have ht' := Lib.hid ht
    have hBh := Lib.hid hB
    clear hy hz' hV hq hy8 ho ht hB
    have hmx : Try.prog.follows .mixedOrders = true := by kernel_rfl
    gi_wp2
    gi_region_with_o fail
    all_goals gi_wp2
    all_goals exact ⟨((KeepsOthers.drew _).trans (KeepsOthers.setCell _ _ _)).from _, (Below.refl w.heap.size W).drew.setCell (p := ⟨w.heap.size, 0, none⟩) (Nat.le_refl _) _,
      ⟨by rw [hnext.out, ← hfin.out]; exact World.cell?_setCell_same' _ ⟨w.heap.size, 0, none⟩ _ (by show (W.cell? _).isSome = true; rw [hc]; rfl), by show (W.setCell _ _).frozen? _ = _; rw [World.frozen?_setCell]; exact hf,
        fun i hi => (World.cell?_setCell_other W.drew ⟨w.heap.size, 0, none⟩ ⟨w1.heap.size, i, none⟩ _ (fun e => by have : w.heap.size = w1.heap.size := congrArg Addr.block e; omega)).trans (ht'.out i hi)⟩, hBh.out.drew.setCell (p := ⟨w.heap.size, 0, none⟩) (Nat.le_refl _) _⟩
  case done =>
    rintro D ys W hD rfl ⟨⟨hc, _⟩, hB⟩ hK
    gi_wp2
    refine ⟨by simp, .inl ⟨_, _, rfl, run_takeDeferred hK, ?_⟩⟩
    exact ⟨_, results_tmp rfl _ _ _, rfl, hB.trans (belowK_b (w := w) (Nat.le_refl _) W D _ _ (by have := hB0.size; omega) hK rfl rfl)⟩
  case stop =>
    rintro D c pre W _ _ h _
    exact h.elim
end Go.Proofs.Ytjpbeoiiplapaaa.C
