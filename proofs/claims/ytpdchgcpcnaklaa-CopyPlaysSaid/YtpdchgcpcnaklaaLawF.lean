/- The law CopyNil, walked. -/
import Derived.Test.YtpdchgcpcnaklaaCopH
namespace Go.Proofs.Ytpdchgcpcnaklaa
open Go.RowKit Go.ChangeShapes Go.WideShapes
set_option linter.unusedVariables false

theorem cpTryNoMem (C : Nat) (addr : Int) (m : Nat) (wait : Bool) (w : World) (h : IsCp w C addr m false false false none 0 0 0 0) (hm : m ≤ 64) :
    Calls Try.prog 28 #[.pointer (some ⟨C, 0, none⟩), .pointer none, .bool wait] w fun e w' => e = .returned (.int .i64 14) ∧ w.grownBy w' (some C) := by
  have h7 := h.set7 (0 + 1)
  have HG := Lib.hid (grownBy_set w C 7 (.int .i64 (0 + 1)))
  have HT := Lib.hid (cpTouchNil addr m (w.setCell ⟨C, 7, none⟩ (.int .i64 (0 + 1))))
  have c3 := h.c3
  have c7 := h.c7
  have f7 := h.fr 7
  have c0 := h.c0
  have c1 := h.c1
  have H7 := Lib.hid h7
  clear h h7
  go_enter Try.func28, Try.ntmps28
  go_wp2_with fail
  refine HT.out.mono ?_
  rintro e w2 ⟨rfl, b2⟩
  have B2 := Lib.hid b2
  have I2 := Lib.hid (H7.out.kept b2)
  clear b2
  go_wp2_with fail
  refine (cpFail C addr 0 (0 + 1) m false false none 0 0 w2 I2.out hm).mono ?_
  rintro e w3 ⟨rfl, g3, a', cap', c3, n3⟩
  have A3 := Lib.hid g3
  clear g3 c3 n3
  go_wp2_with fail
  go_ret
  exact ⟨rfl, grownBy_trans HG.out (grownBy_trans ⟨B2.out.os, B2.out.tape, B2.out.output, B2.out.size, fun k hk _ => B2.out.block k hk⟩ A3.out)⟩

theorem nilPg (w : World) : Calls Try.prog 29 #[.pointer none] w fun e w' => e = .returned (.tuple #[.int .i64 0, .bool false]) ∧ w = w' := by
  go_enter Try.func29, Try.ntmps29
  go_wp2
  go_ret2
  exact ⟨rfl, rfl⟩
theorem nilBytes (w : World) : Calls Try.prog 31 #[.pointer none] w fun e w' => e = .returned (.slice none 0 0) ∧ w = w' := by
  go_enter Try.func31, Try.ntmps31
  go_wp2
  go_ret
  exact ⟨rfl, rfl⟩
theorem nilOver (w : World) : Calls Try.prog 33 #[.pointer none] w fun e w' => e = .returned (.bool false) ∧ w = w' := by
  go_enter Try.func33, Try.ntmps33
  go_wp2
  go_ret
  exact ⟨rfl, rfl⟩
theorem nilTries (w : World) : Calls Try.prog 32 #[.pointer none] w fun e w' => e = .returned (.int .i64 0) ∧ w = w' := by
  go_enter Try.func32, Try.ntmps32
  go_wp2
  go_ret
  exact ⟨rfl, rfl⟩

set_option maxHeartbeats 1600000 in
theorem copyNil_bad (addr n : Int) (wait : Bool) (w : World) (h : n < 0 ∨ 64 < n) : Calls Try.prog 8 #[.int .i64 addr, .int .i64 n, .bool wait] w fun e w' => e = .returned (.bool true) ∧ Below w.heap.size w w' := by
  have HI := Lib.hid (cpInBad addr n w h)
  by_cases h1 : n < 0
  · have d1 : decide (0 ≤ n) = false := decide_eq_false (by omega)
    clear h
    go_enter Try.func8, Try.ntmps8
    go_wp2_with fail
    refine (nilPg _).mono ?_; rintro e w' ⟨rfl, rfl⟩
    go_wp2_with fail
    refine HI.out.mono ?_; rintro e w1 ⟨rfl, b1⟩
    have B1 := Lib.hid b1
    clear b1
    go_wp2_with fail
    refine (knownCopy _).mono ?_; rintro e w2 ⟨rfl, b2⟩
    have B2 := Lib.hid (B1.out.trans (b2.mono B1.out.size))
    clear b2
    go_wp2_with fail
    refine (cpTryNil _ _ _).mono ?_; rintro e w' ⟨rfl, rfl⟩
    go_wp2_with fail
    refine (nilBytes _).mono ?_; rintro e w' ⟨rfl, rfl⟩
    go_wp2_with fail
    refine (nilOver _).mono ?_; rintro e w' ⟨rfl, rfl⟩
    go_wp2_with fail
    refine (nilTries _).mono ?_; rintro e w' ⟨rfl, rfl⟩
    go_wp2_with fail
    go_ret
    exact ⟨rfl, B2.out⟩
  · have d1 : decide (0 ≤ n) = true := decide_eq_true (by omega)
    have d2 : decide (n ≤ 64) = false := decide_eq_false (by omega)
    clear h
    go_enter Try.func8, Try.ntmps8
    go_wp2_with fail
    refine (nilPg _).mono ?_; rintro e w' ⟨rfl, rfl⟩
    go_wp2_with fail
    refine HI.out.mono ?_; rintro e w1 ⟨rfl, b1⟩
    have B1 := Lib.hid b1
    clear b1
    go_wp2_with fail
    refine (knownCopy _).mono ?_; rintro e w2 ⟨rfl, b2⟩
    have B2 := Lib.hid (B1.out.trans (b2.mono B1.out.size))
    clear b2
    go_wp2_with fail
    refine (cpTryNil _ _ _).mono ?_; rintro e w' ⟨rfl, rfl⟩
    go_wp2_with fail
    refine (nilBytes _).mono ?_; rintro e w' ⟨rfl, rfl⟩
    go_wp2_with fail
    refine (nilOver _).mono ?_; rintro e w' ⟨rfl, rfl⟩
    go_wp2_with fail
    refine (nilTries _).mono ?_; rintro e w' ⟨rfl, rfl⟩
    go_wp2_with fail
    go_ret
    exact ⟨rfl, B2.out⟩

set_option maxHeartbeats 1600000 in
theorem copyNil_good (addr : Int) (m : Nat) (wait : Bool) (w : World) (h : m ≤ 64) : Calls Try.prog 8 #[.int .i64 addr, .int .i64 m, .bool wait] w fun e w' => e = .returned (.bool true) ∧ Below w.heap.size w w' := by
  have HI := Lib.hid (cpIn addr m w (by omega) (by omega))
  have d1 : decide (0 ≤ (m : Int)) = true := decide_eq_true (by omega)
  have d2 : decide ((m : Int) ≤ 64) = true := decide_eq_true (by omega)
  go_enter Try.func8, Try.ntmps8
  go_wp2_with fail
  refine (nilPg _).mono ?_; rintro e w' ⟨rfl, rfl⟩
  go_wp2_with fail
  refine HI.out.mono ?_; rintro e w1 ⟨rfl, b1, c1⟩
  have B1 := Lib.hid b1
  have C1 := Lib.hid c1
  clear b1 c1
  go_wp2_with fail
  refine (cpTryNoMem _ addr m wait _ C1.out h).mono ?_; rintro e w2 ⟨rfl, g2⟩
  have B2 := Lib.hid (B1.out.grown g2 B1.out.size (fun k hk => by have h := Option.some.inj hk; omega))
  clear g2
  go_wp2_with fail
  refine (knownCopy _).mono ?_; rintro e w3 ⟨rfl, b3⟩
  have B3 := Lib.hid (B2.out.trans (b3.mono B2.out.size))
  clear b3
  go_wp2_with fail
  refine (cpTryNil _ _ _).mono ?_; rintro e w' ⟨rfl, rfl⟩
  go_wp2_with fail
  refine (nilBytes _).mono ?_; rintro e w' ⟨rfl, rfl⟩
  go_wp2_with fail
  refine (nilOver _).mono ?_; rintro e w' ⟨rfl, rfl⟩
  go_wp2_with fail
  refine (nilTries _).mono ?_; rintro e w' ⟨rfl, rfl⟩
  go_wp2_with fail
  go_ret
  exact ⟨rfl, B3.out⟩
theorem walk_CopyNil (addr n : Int) (wait : Bool) (w : World) : Calls Try.prog 8 #[.int .i64 addr, .int .i64 n, .bool wait] w fun e w' => e = .returned (.bool true) ∧ Below w.heap.size w w' := by
  by_cases h : n < 0 ∨ 64 < n
  · exact copyNil_bad addr n wait w h
  · obtain ⟨m, rfl⟩ := Int.eq_ofNat_of_zero_le (show 0 ≤ n by omega)
    exact copyNil_good addr m wait w (by omega)
end Go.Proofs.Ytpdchgcpcnaklaa
