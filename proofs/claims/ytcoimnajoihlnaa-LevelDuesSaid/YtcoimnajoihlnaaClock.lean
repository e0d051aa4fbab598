/- The functions of package clock and of its reference that hold no loop and no pointer, each by a contract; no condition but that the numbers are words. -/
import Derived.Test.YtcoimnajoihlnaaRows
import Derived.WalkKit
import Derived.ProofKit
import Derived.Handy
import Derived.Lib.Hide
namespace Go.Proofs.Ytcoimnajoihlnaa
open Go.RowKit
set_option linter.unusedVariables false

/-- the sum of two words, cut -/
def addV (a b : Int) : Int := if 18446744073709551615 - a < b then 18446744073709551615 else a + b
/-- is it whole? -/
def addB (a b : Int) : Bool := decide (b ≤ 18446744073709551615 - a)

theorem addV_cut {a b : Int} (h : 18446744073709551615 - a < b) : addV a b = 18446744073709551615 := by unfold addV; rw [if_pos h]
theorem addV_sum {a b : Int} (h : b ≤ 18446744073709551615 - a) : addV a b = a + b := by unfold addV; rw [if_neg (by omega)]
theorem addB_cut {a b : Int} (h : 18446744073709551615 - a < b) : addB a b = false := by unfold addB; exact decide_eq_false (by omega)
theorem addB_sum {a b : Int} (h : b ≤ 18446744073709551615 - a) : addB a b = true := by unfold addB; exact decide_eq_true h
theorem addV_bd {a b : Int} (ha : 0 ≤ a) (ha' : a ≤ 18446744073709551615) (hb : 0 ≤ b) : a ≤ addV a b ∧ 0 ≤ addV a b ∧ addV a b ≤ 18446744073709551615 := by
  unfold addV; split <;> omega

theorem ret_ub {x y : Int} {b : Bool} (h : x = y) : Ending.returned (.tuple #[.int .u64 x, .bool b]) = .returned (.tuple #[.int .u64 y, .bool b]) := by rw [h]
theorem ret_u {x y : Int} (h : x = y) : Ending.returned (.int .u64 x) = .returned (.int .u64 y) := by rw [h]

theorem clkAdd (a b : Int) (w : World) (ha : 0 ≤ a) (ha' : a ≤ 18446744073709551615) (hb : 0 ≤ b) (hb' : b ≤ 18446744073709551615) :
    Calls Try.prog 18 #[.int .u64 a, .int .u64 b] w fun e w' => e = .returned (.tuple #[.int .u64 (addV a b), .bool (addB a b)]) ∧ w = w' := by
  by_cases h : 18446744073709551615 - a < b
  · rw [addV_cut h, addB_cut h]
    go_enter Try.func18, Try.ntmps18
    go_wp2
    go_ret2
    exact ⟨rfl, rfl⟩
  · have h' : b ≤ 18446744073709551615 - a := by omega
    rw [addV_sum h', addB_sum h']
    go_enter Try.func18, Try.ntmps18
    go_wp2
    go_ret2
    exact ⟨rfl, rfl⟩

theorem refAdd (a b : Int) (w : World) (ha : 0 ≤ a) (ha' : a ≤ 18446744073709551615) (hb : 0 ≤ b) (hb' : b ≤ 18446744073709551615) :
    Calls Try.prog 19 #[.int .u64 a, .int .u64 b] w fun e w' => e = .returned (.tuple #[.int .u64 (addV a b), .bool (addB a b)]) ∧ w = w' := by
  by_cases h : 18446744073709551615 - a < b
  · rw [addV_cut h, addB_cut h]
    go_enter Try.func19, Try.ntmps19
    go_wp2
    go_ret2
    exact ⟨rfl, rfl⟩
  · have h' : b ≤ 18446744073709551615 - a := by omega
    rw [addV_sum h', addB_sum h']
    go_enter Try.func19, Try.ntmps19
    go_wp2
    go_ret2
    exact ⟨ret_ub (by omega), rfl⟩

/-- what is left -/
def leftV (a b : Int) : Int := if b ≤ a then 0 else b - a
theorem leftV_no {a b : Int} (h : b ≤ a) : leftV a b = 0 := by unfold leftV; rw [if_pos h]
theorem leftV_yes {a b : Int} (h : ¬ b ≤ a) : leftV a b = b - a := by unfold leftV; rw [if_neg h]

theorem clkLeft (a b : Int) (w : World) (ha : 0 ≤ a) (ha' : a ≤ 18446744073709551615) (hb : 0 ≤ b) (hb' : b ≤ 18446744073709551615) :
    Calls Try.prog 20 #[.int .u64 a, .int .u64 b] w fun e w' => e = .returned (.int .u64 (leftV a b)) ∧ w = w' := by
  by_cases h : b ≤ a
  · rw [leftV_no h]
    go_enter Try.func20, Try.ntmps20
    go_wp2
    go_ret
    exact ⟨rfl, rfl⟩
  · rw [leftV_yes h]
    go_enter Try.func20, Try.ntmps20
    go_wp2
    go_ret
    exact ⟨rfl, rfl⟩

theorem refLeft (a b : Int) (w : World) (ha : 0 ≤ a) (ha' : a ≤ 18446744073709551615) (hb : 0 ≤ b) (hb' : b ≤ 18446744073709551615) :
    Calls Try.prog 21 #[.int .u64 a, .int .u64 b] w fun e w' => e = .returned (.int .u64 (leftV a b)) ∧ w = w' := by
  by_cases h : b ≤ a
  · rw [leftV_no h]
    go_enter Try.func21, Try.ntmps21
    go_wp2
    go_ret
    exact ⟨rfl, rfl⟩
  · rw [leftV_yes h]
    go_enter Try.func21, Try.ntmps21
    go_wp2
    go_ret
    exact ⟨rfl, rfl⟩

/-- a tick within a horizon -/
def clampV (a b h : Int) : Int := if addV a h < (if b < addV a 1 then addV a 1 else b) then addV a h else (if b < addV a 1 then addV a 1 else b)

theorem clkClamp (a b h : Int) (w : World) (ha : 0 ≤ a) (ha' : a ≤ 18446744073709551615) (hb : 0 ≤ b) (hb' : b ≤ 18446744073709551615) (hh : 0 ≤ h) (hh' : h ≤ 18446744073709551615) :
    Calls Try.prog 22 #[.int .u64 a, .int .u64 b, .int .u64 h] w fun e w' => e = .returned (.int .u64 (clampV a b h)) ∧ w = w' := by
  have b1 := addV_bd ha ha' (show (0 : Int) ≤ 1 by omega)
  have b2 := addV_bd ha ha' hh
  have hv : clampV a b h = if addV a h < (if b < addV a 1 then addV a 1 else b) then addV a h else (if b < addV a 1 then addV a 1 else b) := rfl
  by_cases c1 : b < addV a 1
  · by_cases c2 : addV a h < addV a 1
    · rw [show clampV a b h = addV a h from by rw [hv, if_pos c1, if_pos c2]]
      clear hv
      go_enter Try.func22, Try.ntmps22
      go_wp2_with fail
      refine (clkAdd a 1 w ha ha' (by omega) (by omega)).mono ?_; rintro e w' ⟨rfl, rfl⟩
      go_wp2_with fail
      refine (clkAdd a h w ha ha' hh hh').mono ?_; rintro e w' ⟨rfl, rfl⟩
      go_wp2_with fail
      go_ret
      exact ⟨rfl, rfl⟩
    · rw [show clampV a b h = addV a 1 from by rw [hv, if_pos c1, if_neg c2]]
      clear hv
      go_enter Try.func22, Try.ntmps22
      go_wp2_with fail
      refine (clkAdd a 1 w ha ha' (by omega) (by omega)).mono ?_; rintro e w' ⟨rfl, rfl⟩
      go_wp2_with fail
      refine (clkAdd a h w ha ha' hh hh').mono ?_; rintro e w' ⟨rfl, rfl⟩
      go_wp2_with fail
      go_ret
      exact ⟨rfl, rfl⟩
  · by_cases c2 : addV a h < b
    · rw [show clampV a b h = addV a h from by rw [hv, if_neg c1, if_pos c2]]
      clear hv
      go_enter Try.func22, Try.ntmps22
      go_wp2_with fail
      refine (clkAdd a 1 w ha ha' (by omega) (by omega)).mono ?_; rintro e w' ⟨rfl, rfl⟩
      go_wp2_with fail
      refine (clkAdd a h w ha ha' hh hh').mono ?_; rintro e w' ⟨rfl, rfl⟩
      go_wp2_with fail
      go_ret
      exact ⟨rfl, rfl⟩
    · rw [show clampV a b h = b from by rw [hv, if_neg c1, if_neg c2]]
      clear hv
      go_enter Try.func22, Try.ntmps22
      go_wp2_with fail
      refine (clkAdd a 1 w ha ha' (by omega) (by omega)).mono ?_; rintro e w' ⟨rfl, rfl⟩
      go_wp2_with fail
      refine (clkAdd a h w ha ha' hh hh').mono ?_; rintro e w' ⟨rfl, rfl⟩
      go_wp2_with fail
      go_ret
      exact ⟨rfl, rfl⟩

theorem refClamp (a b h : Int) (w : World) (ha : 0 ≤ a) (ha' : a ≤ 18446744073709551615) (hb : 0 ≤ b) (hb' : b ≤ 18446744073709551615) (hh : 0 ≤ h) (hh' : h ≤ 18446744073709551615) :
    Calls Try.prog 23 #[.int .u64 a, .int .u64 b, .int .u64 h] w fun e w' => e = .returned (.int .u64 (clampV a b h)) ∧ w = w' := by
  have b1 := addV_bd ha ha' (show (0 : Int) ≤ 1 by omega)
  have b2 := addV_bd ha ha' hh
  have hv : clampV a b h = if addV a h < (if b < addV a 1 then addV a 1 else b) then addV a h else (if b < addV a 1 then addV a 1 else b) := rfl
  by_cases c1 : b < addV a 1
  · by_cases c2 : addV a h < addV a 1
    · rw [show clampV a b h = addV a h from by rw [hv, if_pos c1, if_pos c2]]
      clear hv
      go_enter Try.func23, Try.ntmps23
      go_wp2_with fail
      refine (refAdd a 1 w ha ha' (by omega) (by omega)).mono ?_; rintro e w' ⟨rfl, rfl⟩
      go_wp2_with fail
      refine (refAdd a h w ha ha' hh hh').mono ?_; rintro e w' ⟨rfl, rfl⟩
      go_wp2_with fail
      go_ret
      exact ⟨rfl, rfl⟩
    · rw [show clampV a b h = addV a 1 from by rw [hv, if_pos c1, if_neg c2]]
      clear hv
      go_enter Try.func23, Try.ntmps23
      go_wp2_with fail
      refine (refAdd a 1 w ha ha' (by omega) (by omega)).mono ?_; rintro e w' ⟨rfl, rfl⟩
      go_wp2_with fail
      refine (refAdd a h w ha ha' hh hh').mono ?_; rintro e w' ⟨rfl, rfl⟩
      go_wp2_with fail
      go_ret
      exact ⟨rfl, rfl⟩
  · by_cases c2 : addV a h < b
    · rw [show clampV a b h = addV a h from by rw [hv, if_neg c1, if_pos c2]]
      clear hv
      go_enter Try.func23, Try.ntmps23
      go_wp2_with fail
      refine (refAdd a 1 w ha ha' (by omega) (by omega)).mono ?_; rintro e w' ⟨rfl, rfl⟩
      go_wp2_with fail
      refine (refAdd a h w ha ha' hh hh').mono ?_; rintro e w' ⟨rfl, rfl⟩
      go_wp2_with fail
      go_ret
      exact ⟨rfl, rfl⟩
    · rw [show clampV a b h = b from by rw [hv, if_neg c1, if_neg c2]]
      clear hv
      go_enter Try.func23, Try.ntmps23
      go_wp2_with fail
      refine (refAdd a 1 w ha ha' (by omega) (by omega)).mono ?_; rintro e w' ⟨rfl, rfl⟩
      go_wp2_with fail
      refine (refAdd a h w ha ha' hh hh').mono ?_; rintro e w' ⟨rfl, rfl⟩
      go_wp2_with fail
      go_ret
      exact ⟨rfl, rfl⟩


/-- a deadline, and its error -/
def dueB (a b : Int) (s : Bool) : Bool := decide (18446744073709551615 ≤ a) || (if s = true then decide (18446744073709551615 ≤ b) else decide (18446744073709551615 ≤ a + b))
def dueV (a b : Int) (s : Bool) : Int := if dueB a b s = true then 0 else if s = true then (if b < a then a else b) else a + b
def dueE (a b : Int) (s : Bool) : Int := if dueB a b s = true then 12 else 0
theorem due_last (a b : Int) (s : Bool) (h : dueB a b s = true) : dueV a b s = 0 ∧ dueE a b s = 12 := by unfold dueV dueE; simp [h]
theorem due_abs_lo (a b : Int) (h : dueB a b true = false) (g : b < a) : dueV a b true = a ∧ dueE a b true = 0 := by unfold dueV dueE; simp [h, g]
theorem due_abs_hi (a b : Int) (h : dueB a b true = false) (g : ¬ b < a) : dueV a b true = b ∧ dueE a b true = 0 := by unfold dueV dueE; rw [h]; simp [g]
theorem due_sum (a b : Int) (h : dueB a b false = false) : dueV a b false = a + b ∧ dueE a b false = 0 := by unfold dueV dueE; simp [h]

theorem ret_uv {k : IntKind} {x y p q : Int} (h : x = y ∧ p = q) : Ending.returned (.tuple #[.int .u64 x, .int k p]) = .returned (.tuple #[.int .u64 y, .int k q]) := by rw [h.1, h.2]

theorem clkDeadline (a b : Int) (s : Bool) (w : World) (ha : 0 ≤ a) (ha' : a ≤ 18446744073709551615) (hb : 0 ≤ b) (hb' : b ≤ 18446744073709551615) :
    Calls Try.prog 15 #[.int .u64 a, .int .u64 b, .bool s] w fun e w' => e = .returned (.tuple #[.int .u64 (dueV a b s), .int .i64 (dueE a b s)]) ∧ w = w' := by
  by_cases c0 : 18446744073709551615 ≤ a
  · rw [(due_last a b s (by unfold dueB; simp [c0])).1, (due_last a b s (by unfold dueB; simp [c0])).2]
    obtain rfl : a = 18446744073709551615 := by omega
    cases s
    · go_enter Try.func15, Try.ntmps15
      go_wp2_with (go_at_call 18; refine (clkAdd _ _ w ha ha' hb hb').mono ?_; rintro e w' ⟨rfl, rfl⟩)
      all_goals (go_ret2; exact ⟨rfl, rfl⟩)
    · go_enter Try.func15, Try.ntmps15
      go_wp2_with fail
      all_goals (go_ret2; exact ⟨rfl, rfl⟩)
  · have e0 : (a == 18446744073709551615) = false := by rw [beq_eq_false_iff_ne]; omega
    cases s
    · by_cases c1 : 18446744073709551615 ≤ a + b
      · rw [(due_last a b false (by unfold dueB; simp [c1])).1, (due_last a b false (by unfold dueB; simp [c1])).2]
        have hv : 18446744073709551615 ≤ addV a b := by unfold addV; split <;> omega
        have hv' := (addV_bd ha ha' hb).2.2
        have e1 : (addV a b == 18446744073709551615) = true := by rw [beq_iff_eq]; omega
        go_enter Try.func15, Try.ntmps15
        go_wp2_with (go_at_call 18; refine (clkAdd _ _ w ha ha' hb hb').mono ?_; rintro e w' ⟨rfl, rfl⟩)
        all_goals (go_ret2; exact ⟨rfl, rfl⟩)
      · have hd := due_sum a b (by unfold dueB; simp [c0, c1])
        rw [hd.1, hd.2]
        have hv := addV_sum (a := a) (b := b) (by omega)
        have e1 : (a + b == 18446744073709551615) = false := by rw [beq_eq_false_iff_ne]; omega
        clear hd
        go_enter Try.func15, Try.ntmps15
        go_wp2_with (go_at_call 18; refine (clkAdd _ _ w ha ha' hb hb').mono ?_; rintro e w' ⟨rfl, rfl⟩)
        all_goals (go_ret2; exact ⟨rfl, rfl⟩)
    · by_cases c1 : 18446744073709551615 ≤ b
      · rw [(due_last a b true (by unfold dueB; simp [c1])).1, (due_last a b true (by unfold dueB; simp [c1])).2]
        obtain rfl : b = 18446744073709551615 := by omega
        go_enter Try.func15, Try.ntmps15
        go_wp2_with fail
        all_goals (go_ret2; exact ⟨rfl, rfl⟩)
      · have e2 : (b == 18446744073709551615) = false := by rw [beq_eq_false_iff_ne]; omega
        by_cases c2 : b < a
        · have hd := due_abs_lo a b (by unfold dueB; simp [c0, c1]) c2
          rw [hd.1, hd.2]
          clear hd
          go_enter Try.func15, Try.ntmps15
          go_wp2_with fail
          all_goals (go_ret2; exact ⟨rfl, rfl⟩)
        · have hd := due_abs_hi a b (by unfold dueB; simp [c0, c1]) c2
          rw [hd.1, hd.2]
          clear hd
          go_enter Try.func15, Try.ntmps15
          go_wp2_with fail
          all_goals (go_ret2; first | exact ⟨rfl, rfl⟩ | exact ⟨ret_uv ⟨by omega, rfl⟩, rfl⟩)

theorem refDeadline (a b : Int) (s : Bool) (w : World) (ha : 0 ≤ a) (ha' : a ≤ 18446744073709551615) (hb : 0 ≤ b) (hb' : b ≤ 18446744073709551615) :
    Calls Try.prog 16 #[.int .u64 a, .int .u64 b, .bool s] w fun e w' => e = .returned (.tuple #[.int .u64 (dueV a b s), .int .i64 (dueE a b s)]) ∧ w = w' := by
  by_cases c0 : 18446744073709551615 ≤ a
  · rw [(due_last a b s (by unfold dueB; simp [c0])).1, (due_last a b s (by unfold dueB; simp [c0])).2]
    obtain rfl : a = 18446744073709551615 := by omega
    go_enter Try.func16, Try.ntmps16
    go_wp2_with fail
    go_ret2; exact ⟨rfl, rfl⟩
  · have e0 : (a == 18446744073709551615) = false := by rw [beq_eq_false_iff_ne]; omega
    cases s
    · by_cases c1 : 18446744073709551615 ≤ a + b
      · rw [(due_last a b false (by unfold dueB; simp [c1])).1, (due_last a b false (by unfold dueB; simp [c1])).2]
        have hv : 18446744073709551615 ≤ addV a b := by unfold addV; split <;> omega
        have hv' := (addV_bd ha ha' hb).2.2
        have e1 : (addV a b == 18446744073709551615) = true := by rw [beq_iff_eq]; omega
        go_enter Try.func16, Try.ntmps16
        go_wp2_with (go_at_call 19; refine (refAdd _ _ w ha ha' hb hb').mono ?_; rintro e w' ⟨rfl, rfl⟩)
        all_goals (go_ret2; exact ⟨rfl, rfl⟩)
      · have hd := due_sum a b (by unfold dueB; simp [c0, c1])
        rw [hd.1, hd.2]
        have hv := addV_sum (a := a) (b := b) (by omega)
        have e1 : (a + b == 18446744073709551615) = false := by rw [beq_eq_false_iff_ne]; omega
        have hw := addB_sum (a := a) (b := b) (by omega)
        clear hd
        go_enter Try.func16, Try.ntmps16
        go_wp2_with (go_at_call 19; refine (refAdd _ _ w ha ha' hb hb').mono ?_; rintro e w' ⟨rfl, rfl⟩)
        all_goals (go_ret2; exact ⟨rfl, rfl⟩)
    · by_cases c1 : 18446744073709551615 ≤ b
      · rw [(due_last a b true (by unfold dueB; simp [c1])).1, (due_last a b true (by unfold dueB; simp [c1])).2]
        obtain rfl : b = 18446744073709551615 := by omega
        go_enter Try.func16, Try.ntmps16
        go_wp2_with (go_at_call 19; refine (refAdd _ _ w ha ha' hb hb').mono ?_; rintro e w' ⟨rfl, rfl⟩)
        all_goals (go_ret2; exact ⟨rfl, rfl⟩)
      · have e2 : (b == 18446744073709551615) = false := by rw [beq_eq_false_iff_ne]; omega
        by_cases c2 : b < a
        · have hd := due_abs_lo a b (by unfold dueB; simp [c0, c1]) c2
          rw [hd.1, hd.2]
          clear hd
          go_enter Try.func16, Try.ntmps16
          go_wp2_with (go_at_call 19; refine (refAdd _ _ w ha ha' hb hb').mono ?_; rintro e w' ⟨rfl, rfl⟩)
          all_goals (go_ret2; exact ⟨rfl, rfl⟩)
        · have hd := due_abs_hi a b (by unfold dueB; simp [c0, c1]) c2
          rw [hd.1, hd.2]
          clear hd
          go_enter Try.func16, Try.ntmps16
          go_wp2_with (go_at_call 19; refine (refAdd _ _ w ha ha' hb hb').mono ?_; rintro e w' ⟨rfl, rfl⟩)
          all_goals (go_ret2; exact ⟨rfl, rfl⟩)

theorem clkKnown (w : World) : Calls Try.prog 17 #[] w fun e w' => e = .returned (.bool true) ∧ w = w' := by
  go_enter Try.func17, Try.ntmps17
  go_wp2
  go_ret
  exact ⟨rfl, rfl⟩
end Go.Proofs.Ytcoimnajoihlnaa
