/- The chapter's example, by a contract. -/
import Derived.Test.YtpdchgcpcnaklaaTouch
namespace Go.Proofs.Ytpdchgcpcnaklaa
open Go.RowKit
set_option linter.unusedVariables false

def P0 : List Int := List.replicate 16 0
def P1 : List Int := P0.set 0 1
def P2 : List Int := P1.set 1 2
def B2 : List Int := List.replicate (16 * 2) 0
theorem fine0 (p : Nat) (h1 : 1 ≤ p) (h2 : p ≤ 16) : Fine (List.replicate (16 * p) 0) (List.replicate 16 0) :=
  ⟨⟨p, h1, h2, by simp⟩, fun x hx => by rw [(List.mem_replicate.1 hx).2]; omega, fun x hx => by rw [(List.mem_replicate.1 hx).2]; omega⟩

set_option maxHeartbeats 1600000 in
theorem knownUser (w : World) : Calls Try.prog 15 #[] w fun e w' => e = .returned (.bool true) ∧ Below w.heap.size w w' := by
  have HNew := Lib.hid (memNew 2 w (by omega) (by omega))
  have hf : Fine B2 P0 := fine0 2 (by omega) (by omega)
  have hf1 : Fine B2 P1 := hf.setP 0 (by omega) (by omega)
  have hf2 : Fine B2 P2 := hf1.setP 1 (by omega) (by omega)
  have HBr := fun (w1 : World) (h : IsMem w1 (w.heap.size + 1) w.heap.size B2 P0) => memBring _ _ _ _ 0 w1 h hf (by decide) (by decide) (by omega)
  have HT1 := fun (w1 : World) (h : IsMem w1 (w.heap.size + 1) w.heap.size B2 P1) => memTouch _ _ _ _ 10 6 w1 h hf1 (by decide) (by decide)
  have HT2 := fun (w1 : World) (h : IsMem w1 (w.heap.size + 1) w.heap.size B2 P1) => memTouch _ _ _ _ 10 7 w1 h hf1 (by decide) (by decide)
  have HBk := fun (w1 : World) (h : IsMem w1 (w.heap.size + 1) w.heap.size B2 P1) => memBreak _ _ _ _ 1 w1 h hf1 (by decide) (by decide) (by omega)
  have HT3 := fun (w1 : World) (h : IsMem w1 (w.heap.size + 1) w.heap.size B2 P2) => memTouch _ _ _ _ 10 7 w1 h hf2 (by decide) (by decide)
  have HT4 := fun (w1 : World) (h : IsMem w1 (w.heap.size + 1) w.heap.size B2 P2) => memTouchBad _ _ _ _ 30 3 w1 h (by decide) (by decide)
  rw [show tch P1 10 6 = (0, 0) from by decide] at HT1
  rw [show tch P1 10 7 = (1, 15) from by decide] at HT2
  rw [show tch P2 10 7 = (1, 14) from by decide] at HT3
  rw [show turnE 0 (P0.getD 0 0) = 0 from by decide, show P0.set 0 (turnS 0 (P0.getD 0 0)) = P1 from rfl] at HBr
  rw [show turnE 2 (P1.getD 1 0) = 0 from by decide, show P1.set 1 (turnS 2 (P1.getD 1 0)) = P2 from rfl] at HBk
  replace HBr := Lib.hid HBr
  replace HT1 := Lib.hid HT1
  replace HT2 := Lib.hid HT2
  replace HBk := Lib.hid HBk
  replace HT3 := Lib.hid HT3
  replace HT4 := Lib.hid HT4
  clear hf hf1 hf2
  go_enter Try.func15, Try.ntmps15
  go_wp2_with fail
  refine HNew.out.mono ?_
  rintro e w1 ⟨rfl, b1, m1⟩
  have G1 := Lib.hid b1
  have M1 := Lib.hid m1
  clear b1 m1
  go_wp2_with fail
  refine (HBr.out _ M1.out).mono ?_
  rintro e w2 ⟨rfl, b2, m2⟩
  have G2 := Lib.hid (G1.out.grown b2 G1.out.size (fun k hk => by have h := Option.some.inj hk; omega))
  have M2 := Lib.hid m2
  clear b2 m2
  go_wp2_with fail
  refine (HT1.out _ M2.out).mono ?_
  rintro e w3 ⟨rfl, rfl⟩
  go_wp2_with fail
  refine (HT2.out _ M2.out).mono ?_
  rintro e w3 ⟨rfl, rfl⟩
  go_wp2_with fail
  refine (HBk.out _ M2.out).mono ?_
  rintro e w3 ⟨rfl, b3, m3⟩
  have G3 := Lib.hid (G2.out.grown b3 G2.out.size (fun k hk => by have h := Option.some.inj hk; omega))
  have M3 := Lib.hid m3
  clear b3 m3
  go_wp2_with fail
  refine (HT3.out _ M3.out).mono ?_
  rintro e w4 ⟨rfl, rfl⟩
  go_wp2_with fail
  refine (HT4.out _ M3.out).mono ?_
  rintro e w4 ⟨rfl, rfl⟩
  go_wp2_with fail
  go_ret
  exact ⟨rfl, G3.out⟩
end Go.Proofs.Ytpdchgcpcnaklaa
