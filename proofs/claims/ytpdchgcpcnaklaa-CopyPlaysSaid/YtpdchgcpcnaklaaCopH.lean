/- The chapter's example of copies, by a contract. -/
import Derived.Test.YtpdchgcpcnaklaaCopG
namespace Go.Proofs.Ytpdchgcpcnaklaa
open Go.RowKit Go.ChangeShapes Go.WideShapes
set_option linter.unusedVariables false

theorem holds_new (w : World) (xs : List Int) : Holds (w.alloc (.cells (bcells xs).toArray 5)) (some ⟨w.heap.size, 0, none⟩) xs := by
  intro h0
  refine ⟨_, 0, rfl, by simp, fun j hj => ?_⟩
  have := heap_alloc_new w (.cells (bcells xs).toArray 5)
  rw [Nat.zero_add]
  simp only [World.cell?, this]
  simp [bcells, List.getElem?_eq_getElem hj]

def B3 : List Int := pok B2 14 [1, 2, 3, 4]
def P3 : List Int := P1.set 1 1
theorem ex1 : tryS B3 P1 14 4 false true ⟨false, false, 0, 0, []⟩ = (B3, ⟨false, true, 1, 1, []⟩, 15) := by kernel_rfl
theorem ex2 : tryS B3 P1 14 4 false false ⟨false, false, 0, 0, []⟩ = (B3, ⟨true, false, 0, 1, [0, 0, 0, 0]⟩, 14) := by kernel_rfl
theorem ex3 : tryS B3 P3 14 4 false true ⟨false, true, 1, 1, []⟩ = (B3, ⟨true, false, 0, 2, [1, 2, 3, 4]⟩, 0) := by kernel_rfl
theorem lenB3 : B3.length = 32 := by decide

theorem Cpy.empty {w : World} {M D C : Nat} {addr n : Int} (h : IsCp w C addr n false false false none 0 0 0 0) (h1 : C ≠ M) (h2 : C ≠ D) : Cpy w M D C addr n false ⟨false, false, 0, 0, []⟩ := ⟨⟨none, 0, h, fun h => by simp at h⟩, h1, h2⟩
/-- a copy that has no bytes stands, where its block does -/
theorem Cpy.apartE {w w' : World} {M D C C' : Nat} {addr n : Int} {out : Bool} {o ws : Bool} {p t : Int} (h : Cpy w M D C addr n out ⟨o, ws, p, t, []⟩) (b : Apart3 M D C' w w') (hn : C ≠ C') : Cpy w' M D C addr n out ⟨o, ws, p, t, []⟩ := by
  obtain ⟨a, cap, h1, h2⟩ := h.is
  exact ⟨⟨a, cap, (b.block C (lt_of_block h1) h.nM h.nD hn).trans h1, fun h0 => by simp at h0⟩, h.nM, h.nD⟩

set_option maxHeartbeats 3200000 in
theorem knownCopy (w : World) : Calls Try.prog 30 #[] w fun e w' => e = .returned (.bool true) ∧ Below w.heap.size w w' := by
  have HNew := Lib.hid (memNew 2 w (by omega) (by omega))
  have hf : Fine B2 P0 := fine0 2 (by omega) (by omega)
  have hf1 : Fine B2 P1 := hf.setP 0 (by omega) (by omega)
  have hf3 : Fine B3 P1 := hf1.pok (by decide) (by decide)
  have hf4 : Fine B3 P3 := hf3.setP 1 (by omega) (by omega)
  have HBr := fun (w1 : World) (h : IsMem w1 (w.heap.size + 1) w.heap.size B2 P0) => memBring _ _ _ _ 0 w1 h hf (by decide) (by decide) (by omega)
  have HBr2 := fun (w1 : World) (h : IsMem w1 (w.heap.size + 1) w.heap.size B3 P1) => memBring _ _ _ _ 1 w1 h hf3 (by decide) (by decide) (by omega)
  rw [show turnE 0 (P0.getD 0 0) = 0 from by decide, show P0.set 0 (turnS 0 (P0.getD 0 0)) = P1 from rfl] at HBr
  rw [show turnE 0 (P1.getD 1 0) = 0 from by decide, show P1.set 1 (turnS 0 (P1.getD 1 0)) = P3 from rfl] at HBr2
  have HPk := fun (w1 : World) (a : Option Addr) (h : IsMem w1 (w.heap.size + 1) w.heap.size B2 P1) (hx : Holds w1 a [1, 2, 3, 4]) => memPoke _ _ _ _ 14 a 4 [1, 2, 3, 4] w1 4 rfl h (by decide) (by decide) (hx.kept (Below.refl _ _) (m := 4) (by decide))
  rw [show pok B2 14 [1, 2, 3, 4] = B3 from rfl] at HPk
  have HT1 := fun (w1 : World) (C : Nat) (h : Cpy w1 (w.heap.size + 1) w.heap.size C 14 4 false ⟨false, false, 0, 0, []⟩) (i : IsMem w1 (w.heap.size + 1) w.heap.size B3 P1) => cpTry _ _ C B3 P1 14 4 false true _ w1 h i hf3 (by decide) (by omega) (by omega) (by simp) (by simp) (by simp)
  rw [ex1] at HT1
  have HT2 := fun (w1 : World) (C : Nat) (h : Cpy w1 (w.heap.size + 1) w.heap.size C 14 4 false ⟨false, false, 0, 0, []⟩) (i : IsMem w1 (w.heap.size + 1) w.heap.size B3 P1) => cpTry _ _ C B3 P1 14 4 false false _ w1 h i hf3 (by decide) (by omega) (by omega) (by simp) (by simp) (by simp)
  rw [ex2] at HT2
  have HT3 := fun (w1 : World) (C : Nat) (h : Cpy w1 (w.heap.size + 1) w.heap.size C 14 4 false ⟨false, true, 1, 1, []⟩) (i : IsMem w1 (w.heap.size + 1) w.heap.size B3 P3) => cpTry _ _ C B3 P3 14 4 false true _ w1 h i hf4 (by decide) (by omega) (by omega) (by simp) (by simp) (by simp)
  rw [ex3] at HT3
  have HB2 := fun (w1 : World) (C : Nat) (h : Cpy w1 (w.heap.size + 1) w.heap.size C 14 4 false ⟨true, false, 0, 1, [0, 0, 0, 0]⟩) => cpBytes _ _ C 14 4 false _ w1 h (by decide)
  have HB3 := fun (w1 : World) (C : Nat) (h : Cpy w1 (w.heap.size + 1) w.heap.size C 14 4 false ⟨true, false, 0, 2, [1, 2, 3, 4]⟩) => cpBytes _ _ C 14 4 false _ w1 h (by decide)
  have HPg := fun (w1 : World) (C : Nat) (h : Cpy w1 (w.heap.size + 1) w.heap.size C 14 4 false ⟨false, true, 1, 1, []⟩) => cpPage _ _ C 14 4 false _ w1 h
  replace HBr := Lib.hid HBr
  replace HBr2 := Lib.hid HBr2
  replace HPk := Lib.hid HPk
  replace HT1 := Lib.hid HT1
  replace HT2 := Lib.hid HT2
  replace HT3 := Lib.hid HT3
  replace HB2 := Lib.hid HB2
  replace HB3 := Lib.hid HB3
  replace HPg := Lib.hid HPg
  clear hf hf1 hf3 hf4
  go_enter Try.func30, Try.ntmps30
  go_wp2_with fail
  refine HNew.out.mono ?_
  rintro e w1 ⟨rfl, b1, m1⟩
  have G1 := Lib.hid b1
  have M1 := Lib.hid m1
  clear b1 m1
  go_wp2_with fail
  refine (HBr.out _ M1.out).mono ?_
  rintro e w2 ⟨rfl, b2, m2⟩
  have G2 := Lib.hid (G1.out.grown b2 G1.out.size (fun k hk => by have h := Option.some.inj hk; omega))
  have M2 := Lib.hid m2
  have BA := Lib.hid (below_alloc w2 (.cells (bcells [1, 2, 3, 4]).toArray 5))
  have HN := Lib.hid (holds_new w2 [1, 2, 3, 4])
  clear b2 m2
  go_wp2_with fail
  refine (HPk.out _ _ (by exact M2.out.kept BA.out M2.out.ltM M2.out.ltD) (by exact HN.out)).mono ?_
  rintro e w3 ⟨rfl, b3, m3⟩
  have G3 := Lib.hid ((G2.out.trans (BA.out.mono G2.out.size)).grown b3 (Nat.le_trans G2.out.size BA.out.size) (fun k hk => by have h := Option.some.inj hk; omega))
  have M3 := Lib.hid m3
  clear b3 m3
  go_wp2_with fail
  refine (cpIn 14 4 _ (by omega) (by omega)).mono ?_
  rintro e w4 ⟨rfl, b4, c4⟩
  have G4 := Lib.hid (G3.out.trans (b4.mono G3.out.size))
  have M4 := Lib.hid (M3.out.kept b4 M3.out.ltM M3.out.ltD)
  have C4 := Lib.hid (Cpy.empty (M := w.heap.size + 1) (D := w.heap.size) c4 (Nat.ne_of_gt M3.out.ltM) (Nat.ne_of_gt M3.out.ltD))
  clear b4 c4
  obtain ⟨C1, hC1⟩ : ∃ C1, C1 = w3.heap.size := ⟨_, rfl⟩
  rw [← hC1] at C4 ⊢
  have HC1 := Lib.hid hC1
  clear hC1
  go_wp2_with fail
  refine (cpIn 14 4 _ (by omega) (by omega)).mono ?_
  rintro e w5 ⟨rfl, b5, c5⟩
  have G5 := Lib.hid (G4.out.trans (b5.mono G4.out.size))
  have M5 := Lib.hid (M4.out.kept b5 M4.out.ltM M4.out.ltD)
  have D5 := Lib.hid (C4.out.apart (.of b5))
  have C5 := Lib.hid (Cpy.empty (M := w.heap.size + 1) (D := w.heap.size) c5 (Nat.ne_of_gt M4.out.ltM) (Nat.ne_of_gt M4.out.ltD))
  have hlt : C1 < w4.heap.size := C4.out.lt
  clear b5 c5
  obtain ⟨C2, hC2⟩ : ∃ C2, C2 = w4.heap.size := ⟨_, rfl⟩
  rw [← hC2] at C5 hlt ⊢
  have hg1 := G3.out.size
  rw [← HC1.out] at hg1
  clear hC2
  go_wp2_with fail
  refine (HT1.out _ _ D5.out M5.out).mono ?_
  rintro e w6 ⟨rfl, a6, m6, c6⟩
  dsimp only at m6 c6 ⊢
  have G6 := Lib.hid (G5.out.trans (a6.below (by omega) (by omega) (by omega) G5.out.size))
  have M6 := Lib.hid m6
  have D6 := Lib.hid c6
  have C6 := Lib.hid (C5.out.apartE a6 (by omega))
  clear a6 m6 c6
  go_wp2_with fail
  refine (HT2.out _ _ C6.out M6.out).mono ?_
  rintro e w7 ⟨rfl, a7, m7, c7⟩
  dsimp only at m7 c7 ⊢
  have G7 := Lib.hid (G6.out.trans (a7.below (by omega) (by omega) (by omega) G6.out.size))
  have M7 := Lib.hid m7
  have C7 := Lib.hid c7
  have D7 := Lib.hid (D6.out.apartE a7 (by omega))
  clear a7 m7 c7
  go_wp2_with fail
  refine (HB2.out _ _ C7.out).mono ?_
  rintro e w8 ⟨a8, cap8, rfl, n8, b8⟩
  have B8 := Lib.hid (b8.trans ((below_alloc w8 (.cells (bcells [0, 0, 0, 0]).toArray 5)).mono b8.size))
  have H8 := Lib.hid (n8.holds.below (below_alloc w8 (.cells (bcells [0, 0, 0, 0]).toArray 5)))
  have N8 := Lib.hid (holds_new w8 [0, 0, 0, 0])
  clear n8 b8
  go_wp2_with fail
  refine (refSame _ _ _ _ [0, 0, 0, 0] _ 4 rfl (by omega) (by exact H8.out) (by exact N8.out)).mono ?_
  rintro e w9 ⟨rfl, b9⟩
  have B9 := Lib.hid (B8.out.trans (b9.mono B8.out.size))
  have G9 := Lib.hid (G7.out.trans (B9.out.mono G7.out.size))
  have M9 := Lib.hid (M7.out.kept B9.out M7.out.ltM M7.out.ltD)
  have D9 := Lib.hid (D7.out.apart (.of B9.out))
  clear b9
  go_wp2_with fail
  refine (HPg.out _ _ D9.out).mono ?_
  rintro e w10 ⟨rfl, b10⟩
  have G10 := Lib.hid (G9.out.trans (b10.mono G9.out.size))
  have M10 := Lib.hid (M9.out.kept b10 M9.out.ltM M9.out.ltD)
  have D10 := Lib.hid (D9.out.apart (.of b10))
  clear b10
  go_wp2_with fail
  refine (HBr2.out _ M10.out).mono ?_
  rintro e w11 ⟨rfl, b11, m11⟩
  have G11 := Lib.hid (G10.out.grown b11 G10.out.size (fun k hk => by have h := Option.some.inj hk; omega))
  have M11 := Lib.hid m11
  have D11 := Lib.hid (D10.out.apart (.grownM b11))
  clear b11 m11
  go_wp2_with fail
  refine (HT3.out _ _ D11.out M11.out).mono ?_
  rintro e w12 ⟨rfl, a12, m12, c12⟩
  dsimp only at m12 c12 ⊢
  have G12 := Lib.hid (G11.out.trans (a12.below (by omega) (by omega) (by omega) G11.out.size))
  have D12 := Lib.hid c12
  clear a12 m12 c12
  go_wp2_with fail
  refine (HB3.out _ _ D12.out).mono ?_
  rintro e w13 ⟨a13, cap13, rfl, n13, b13⟩
  have B13 := Lib.hid (b13.trans ((below_alloc w13 (.cells (bcells [1, 2, 3, 4]).toArray 5)).mono b13.size))
  have H13 := Lib.hid (n13.holds.below (below_alloc w13 (.cells (bcells [1, 2, 3, 4]).toArray 5)))
  have N13 := Lib.hid (holds_new w13 [1, 2, 3, 4])
  clear n13 b13
  go_wp2_with fail
  refine (refSame _ _ _ _ [1, 2, 3, 4] _ 4 rfl (by omega) (by exact H13.out) (by exact N13.out)).mono ?_
  rintro e w14 ⟨rfl, b14⟩
  have G14 := Lib.hid (G12.out.trans ((B13.out.trans (b14.mono B13.out.size)).mono G12.out.size))
  clear b14
  go_wp2_with fail
  go_ret
  exact ⟨rfl, G14.out⟩
end Go.Proofs.Ytpdchgcpcnaklaa
