/- A deadline's spot: both texts by one contract. -/
import Derived.Test.YtcoimnajoihlnaaLevTime
namespace Go.Proofs.Ytcoimnajoihlnaa
open Go.RowKit
set_option linter.unusedVariables false

/-- the tick of a deadline within the horizon -/
def atV (a b : Int) : Int := clampV a b 132120575
/-- its level's number of multiples -/
def numV (c g : Int) : Int := if c % g = 0 then c / g else c / g + 1
theorem numV_0 {c g : Int} (h : c % g = 0) : numV c g = c / g := by unfold numV; rw [if_pos h]
theorem numV_1 {c g : Int} (h : ¬ c % g = 0) : numV c g = c / g + 1 := by unfold numV; rw [if_neg h]
/-- its level -/
def lvP (a b : Int) : Int := lvl (atV a b - a)
theorem atV_bd {a b : Int} (a0 : 0 ≤ a) (a1 : a < 18446744073709551615) (b0 : 0 ≤ b) : a + 1 ≤ atV a b ∧ atV a b ≤ 18446744073709551615 ∧ atV a b - a ≤ 132120575 := by
  unfold atV clampV addV
  repeat' split
  all_goals omega
theorem atV_is {a b : Int} (a0 : 0 ≤ a) (a1 : a < 18446744073709551615) (b0 : 0 ≤ b) (b1 : b ≤ 18446744073709551615) :
    (b ≤ a → atV a b = a + 1) ∧ (a + 132120575 < b → atV a b = a + 132120575) ∧ (a < b → b ≤ a + 132120575 → atV a b = b) := by
  unfold atV clampV addV
  repeat' split
  all_goals omega
theorem lvP_bd {a b : Int} (a0 : 0 ≤ a) (a1 : a < 18446744073709551615) (b0 : 0 ≤ b) : 0 ≤ lvP a b ∧ lvP a b ≤ 7 ∧ lvlIs (atV a b - a) = true := by
  have h := atV_bd a0 a1 b0
  have n := nine (atV a b - a)
  unfold lvP
  rcases n with n | n | n | n | n | n | n | n | n
  all_goals first | (exfalso; omega) | exact ⟨by omega, by omega, n.2.2⟩ | exact ⟨by omega, by omega, n.2.2.2⟩
theorem num_fits {c g : Int} (c0 : 0 ≤ c) (g1 : 1 ≤ g) (h : ¬ c % g = 0) : c / g + 1 ≤ c := by
  have e := Int.mul_ediv_add_emod c g
  have q := Int.ediv_nonneg c0 (show 0 ≤ g by omega)
  have r := Int.emod_nonneg c (show g ≠ 0 by omega)
  have m : c / g ≤ g * (c / g) := by
    have := Int.mul_le_mul_of_nonneg_right g1 q
    omega
  omega

/-- the spot as a value -/
def spotVal (a b : Int) : Array Value := #[.int .i64 (lvP a b), .int .i64 (numV (atV a b) (gr (lvP a b)) % 64), .int .u64 (atV a b), .int .u64 (tickV (numV (atV a b) (gr (lvP a b))) (gr (lvP a b)))]

theorem levPlaceEnd (b : Int) (w : World) : Calls Try.prog 34 #[.int .u64 18446744073709551615, .int .u64 b] w fun e w' => e = .returned (.tuple #[.agg #[.int .i64 0, .int .i64 0, .int .u64 0, .int .u64 0], .int .i64 12]) ∧ Below w.heap.size w w' := by
  go_enter Try.func34, Try.ntmps34
  go_wp2
  refine bodyPost_ret (v := .tuple #[.agg #[.int .i64 0, .int .i64 0, .int .u64 0, .int .u64 0], .int .i64 12]) (by simp [results, Try.results34, go_sem]) rfl ⟨rfl, ?_⟩
  go_grown
theorem refPlaceEnd (b : Int) (w : World) : Calls Try.prog 35 #[.int .u64 18446744073709551615, .int .u64 b] w fun e w' => e = .returned (.tuple #[.agg #[.int .i64 0, .int .i64 0, .int .u64 0, .int .u64 0], .int .i64 12]) ∧ Below w.heap.size w w' := by
  go_enter Try.func35, Try.ntmps35
  go_wp2
  refine bodyPost_ret (v := .tuple #[.agg #[.int .i64 0, .int .i64 0, .int .u64 0, .int .u64 0], .int .i64 12]) (by simp [results, Try.results35, go_sem]) rfl ⟨rfl, ?_⟩
  go_grown

set_option maxHeartbeats 1600000 in
theorem levPlace0 (a b c : Int) (w : World) (a0 : 0 ≤ a) (a1 : a < 18446744073709551615) (b0 : 0 ≤ b) (b1 : b ≤ 18446744073709551615) (hat : atV a b = c) (hl : lvl (c - a) = 0) (hc0 : a + 1 ≤ c) (hc1 : c ≤ 18446744073709551615) :
    Calls Try.prog 34 #[.int .u64 a, .int .u64 b] w fun e w' => e = .returned (.tuple #[.agg #[.int .i64 0, .int .i64 (numV c 1 % 64), .int .u64 c, .int .u64 (tickV (numV c 1) 1)], .int .i64 0]) ∧ Below w.heap.size w w' := by
  have HAT := Lib.hid hat
  have HL := Lib.hid hl
  clear hat hl
  have e0 : (a == 18446744073709551615) = false := by rw [beq_eq_false_iff_ne]; omega
  · rw [numV_0 (show c % 1 = 0 by omega), Int.ediv_one]
    have hm : (c != c) = false := by simp
    go_enter Try.func34, Try.ntmps34
    go_wp2_with (first
      | (go_at_call 22; refine (clkClamp a b 132120575 _ a0 (by omega) b0 b1 (by omega) (by omega)).mono ?_; rintro e w' ⟨rfl, rfl⟩; rw [show clampV a b 132120575 = c from HAT.out])
      | (go_at_call 29; refine (levOf (c - a) _ (by omega) (by omega)).mono ?_; rintro e w' ⟨rfl, rfl⟩; rw [HL.out])
      | (go_at_call 44; refine (levTick _ 0 _ (by omega) (by omega) (by omega) (by omega)).mono ?_; rintro e w' ⟨rfl, rfl⟩)
      | go_in)
    refine bodyPost_ret (v := .tuple #[.agg #[.int .i64 0, .int .i64 (c % 64), .int .u64 c, .int .u64 (tickV (c) (gr 0))], .int .i64 0]) (by simp [results, Try.results34, go_sem]) rfl ⟨rfl, ?_⟩
    go_grown

set_option maxHeartbeats 1600000 in
theorem levPlace1 (a b c : Int) (w : World) (a0 : 0 ≤ a) (a1 : a < 18446744073709551615) (b0 : 0 ≤ b) (b1 : b ≤ 18446744073709551615) (hat : atV a b = c) (hl : lvl (c - a) = 1) (hc0 : a + 1 ≤ c) (hc1 : c ≤ 18446744073709551615) :
    Calls Try.prog 34 #[.int .u64 a, .int .u64 b] w fun e w' => e = .returned (.tuple #[.agg #[.int .i64 1, .int .i64 (numV c 8 % 64), .int .u64 c, .int .u64 (tickV (numV c 8) 8)], .int .i64 0]) ∧ Below w.heap.size w w' := by
  have HAT := Lib.hid hat
  have HL := Lib.hid hl
  clear hat hl
  have e0 : (a == 18446744073709551615) = false := by rw [beq_eq_false_iff_ne]; omega
  by_cases h : c % 8 = 0
  · rw [numV_0 h]
    have hm : (c / 8 * 8 != c) = false := by simp; omega
    clear h
    go_enter Try.func34, Try.ntmps34
    go_wp2_with (first
      | (go_at_call 22; refine (clkClamp a b 132120575 _ a0 (by omega) b0 b1 (by omega) (by omega)).mono ?_; rintro e w' ⟨rfl, rfl⟩; rw [show clampV a b 132120575 = c from HAT.out])
      | (go_at_call 29; refine (levOf (c - a) _ (by omega) (by omega)).mono ?_; rintro e w' ⟨rfl, rfl⟩; rw [HL.out])
      | (go_at_call 44; refine (levTick _ 1 _ (by omega) (by omega) (by omega) (by omega)).mono ?_; rintro e w' ⟨rfl, rfl⟩)
      | go_in)
    refine bodyPost_ret (v := .tuple #[.agg #[.int .i64 1, .int .i64 (c / 8 % 64), .int .u64 c, .int .u64 (tickV (c / 8) (gr 1))], .int .i64 0]) (by simp [results, Try.results34, go_sem]) rfl ⟨rfl, ?_⟩
    go_grown
  · rw [numV_1 h]
    have hm : (c / 8 * 8 != c) = true := by simp; omega
    clear h
    go_enter Try.func34, Try.ntmps34
    go_wp2_with (first
      | (go_at_call 22; refine (clkClamp a b 132120575 _ a0 (by omega) b0 b1 (by omega) (by omega)).mono ?_; rintro e w' ⟨rfl, rfl⟩; rw [show clampV a b 132120575 = c from HAT.out])
      | (go_at_call 29; refine (levOf (c - a) _ (by omega) (by omega)).mono ?_; rintro e w' ⟨rfl, rfl⟩; rw [HL.out])
      | (go_at_call 44; refine (levTick _ 1 _ (by omega) (by omega) (by omega) (by omega)).mono ?_; rintro e w' ⟨rfl, rfl⟩)
      | go_in)
    refine bodyPost_ret (v := .tuple #[.agg #[.int .i64 1, .int .i64 ((c / 8 + 1) % 64), .int .u64 c, .int .u64 (tickV ((c / 8 + 1)) (gr 1))], .int .i64 0]) (by simp [results, Try.results34, go_sem]) rfl ⟨rfl, ?_⟩
    go_grown

set_option maxHeartbeats 1600000 in
theorem levPlace2 (a b c : Int) (w : World) (a0 : 0 ≤ a) (a1 : a < 18446744073709551615) (b0 : 0 ≤ b) (b1 : b ≤ 18446744073709551615) (hat : atV a b = c) (hl : lvl (c - a) = 2) (hc0 : a + 1 ≤ c) (hc1 : c ≤ 18446744073709551615) :
    Calls Try.prog 34 #[.int .u64 a, .int .u64 b] w fun e w' => e = .returned (.tuple #[.agg #[.int .i64 2, .int .i64 (numV c 64 % 64), .int .u64 c, .int .u64 (tickV (numV c 64) 64)], .int .i64 0]) ∧ Below w.heap.size w w' := by
  have HAT := Lib.hid hat
  have HL := Lib.hid hl
  clear hat hl
  have e0 : (a == 18446744073709551615) = false := by rw [beq_eq_false_iff_ne]; omega
  by_cases h : c % 64 = 0
  · rw [numV_0 h]
    have hm : (c / 64 * 64 != c) = false := by simp; omega
    clear h
    go_enter Try.func34, Try.ntmps34
    go_wp2_with (first
      | (go_at_call 22; refine (clkClamp a b 132120575 _ a0 (by omega) b0 b1 (by omega) (by omega)).mono ?_; rintro e w' ⟨rfl, rfl⟩; rw [show clampV a b 132120575 = c from HAT.out])
      | (go_at_call 29; refine (levOf (c - a) _ (by omega) (by omega)).mono ?_; rintro e w' ⟨rfl, rfl⟩; rw [HL.out])
      | (go_at_call 44; refine (levTick _ 2 _ (by omega) (by omega) (by omega) (by omega)).mono ?_; rintro e w' ⟨rfl, rfl⟩)
      | go_in)
    refine bodyPost_ret (v := .tuple #[.agg #[.int .i64 2, .int .i64 (c / 64 % 64), .int .u64 c, .int .u64 (tickV (c / 64) (gr 2))], .int .i64 0]) (by simp [results, Try.results34, go_sem]) rfl ⟨rfl, ?_⟩
    go_grown
  · rw [numV_1 h]
    have hm : (c / 64 * 64 != c) = true := by simp; omega
    clear h
    go_enter Try.func34, Try.ntmps34
    go_wp2_with (first
      | (go_at_call 22; refine (clkClamp a b 132120575 _ a0 (by omega) b0 b1 (by omega) (by omega)).mono ?_; rintro e w' ⟨rfl, rfl⟩; rw [show clampV a b 132120575 = c from HAT.out])
      | (go_at_call 29; refine (levOf (c - a) _ (by omega) (by omega)).mono ?_; rintro e w' ⟨rfl, rfl⟩; rw [HL.out])
      | (go_at_call 44; refine (levTick _ 2 _ (by omega) (by omega) (by omega) (by omega)).mono ?_; rintro e w' ⟨rfl, rfl⟩)
      | go_in)
    refine bodyPost_ret (v := .tuple #[.agg #[.int .i64 2, .int .i64 ((c / 64 + 1) % 64), .int .u64 c, .int .u64 (tickV ((c / 64 + 1)) (gr 2))], .int .i64 0]) (by simp [results, Try.results34, go_sem]) rfl ⟨rfl, ?_⟩
    go_grown

set_option maxHeartbeats 1600000 in
theorem levPlace3 (a b c : Int) (w : World) (a0 : 0 ≤ a) (a1 : a < 18446744073709551615) (b0 : 0 ≤ b) (b1 : b ≤ 18446744073709551615) (hat : atV a b = c) (hl : lvl (c - a) = 3) (hc0 : a + 1 ≤ c) (hc1 : c ≤ 18446744073709551615) :
    Calls Try.prog 34 #[.int .u64 a, .int .u64 b] w fun e w' => e = .returned (.tuple #[.agg #[.int .i64 3, .int .i64 (numV c 512 % 64), .int .u64 c, .int .u64 (tickV (numV c 512) 512)], .int .i64 0]) ∧ Below w.heap.size w w' := by
  have HAT := Lib.hid hat
  have HL := Lib.hid hl
  clear hat hl
  have e0 : (a == 18446744073709551615) = false := by rw [beq_eq_false_iff_ne]; omega
  by_cases h : c % 512 = 0
  · rw [numV_0 h]
    have hm : (c / 512 * 512 != c) = false := by simp; omega
    clear h
    go_enter Try.func34, Try.ntmps34
    go_wp2_with (first
      | (go_at_call 22; refine (clkClamp a b 132120575 _ a0 (by omega) b0 b1 (by omega) (by omega)).mono ?_; rintro e w' ⟨rfl, rfl⟩; rw [show clampV a b 132120575 = c from HAT.out])
      | (go_at_call 29; refine (levOf (c - a) _ (by omega) (by omega)).mono ?_; rintro e w' ⟨rfl, rfl⟩; rw [HL.out])
      | (go_at_call 44; refine (levTick _ 3 _ (by omega) (by omega) (by omega) (by omega)).mono ?_; rintro e w' ⟨rfl, rfl⟩)
      | go_in)
    refine bodyPost_ret (v := .tuple #[.agg #[.int .i64 3, .int .i64 (c / 512 % 64), .int .u64 c, .int .u64 (tickV (c / 512) (gr 3))], .int .i64 0]) (by simp [results, Try.results34, go_sem]) rfl ⟨rfl, ?_⟩
    go_grown
  · rw [numV_1 h]
    have hm : (c / 512 * 512 != c) = true := by simp; omega
    clear h
    go_enter Try.func34, Try.ntmps34
    go_wp2_with (first
      | (go_at_call 22; refine (clkClamp a b 132120575 _ a0 (by omega) b0 b1 (by omega) (by omega)).mono ?_; rintro e w' ⟨rfl, rfl⟩; rw [show clampV a b 132120575 = c from HAT.out])
      | (go_at_call 29; refine (levOf (c - a) _ (by omega) (by omega)).mono ?_; rintro e w' ⟨rfl, rfl⟩; rw [HL.out])
      | (go_at_call 44; refine (levTick _ 3 _ (by omega) (by omega) (by omega) (by omega)).mono ?_; rintro e w' ⟨rfl, rfl⟩)
      | go_in)
    refine bodyPost_ret (v := .tuple #[.agg #[.int .i64 3, .int .i64 ((c / 512 + 1) % 64), .int .u64 c, .int .u64 (tickV ((c / 512 + 1)) (gr 3))], .int .i64 0]) (by simp [results, Try.results34, go_sem]) rfl ⟨rfl, ?_⟩
    go_grown

set_option maxHeartbeats 1600000 in
theorem levPlace4 (a b c : Int) (w : World) (a0 : 0 ≤ a) (a1 : a < 18446744073709551615) (b0 : 0 ≤ b) (b1 : b ≤ 18446744073709551615) (hat : atV a b = c) (hl : lvl (c - a) = 4) (hc0 : a + 1 ≤ c) (hc1 : c ≤ 18446744073709551615) :
    Calls Try.prog 34 #[.int .u64 a, .int .u64 b] w fun e w' => e = .returned (.tuple #[.agg #[.int .i64 4, .int .i64 (numV c 4096 % 64), .int .u64 c, .int .u64 (tickV (numV c 4096) 4096)], .int .i64 0]) ∧ Below w.heap.size w w' := by
  have HAT := Lib.hid hat
  have HL := Lib.hid hl
  clear hat hl
  have e0 : (a == 18446744073709551615) = false := by rw [beq_eq_false_iff_ne]; omega
  by_cases h : c % 4096 = 0
  · rw [numV_0 h]
    have hm : (c / 4096 * 4096 != c) = false := by simp; omega
    clear h
    go_enter Try.func34, Try.ntmps34
    go_wp2_with (first
      | (go_at_call 22; refine (clkClamp a b 132120575 _ a0 (by omega) b0 b1 (by omega) (by omega)).mono ?_; rintro e w' ⟨rfl, rfl⟩; rw [show clampV a b 132120575 = c from HAT.out])
      | (go_at_call 29; refine (levOf (c - a) _ (by omega) (by omega)).mono ?_; rintro e w' ⟨rfl, rfl⟩; rw [HL.out])
      | (go_at_call 44; refine (levTick _ 4 _ (by omega) (by omega) (by omega) (by omega)).mono ?_; rintro e w' ⟨rfl, rfl⟩)
      | go_in)
    refine bodyPost_ret (v := .tuple #[.agg #[.int .i64 4, .int .i64 (c / 4096 % 64), .int .u64 c, .int .u64 (tickV (c / 4096) (gr 4))], .int .i64 0]) (by simp [results, Try.results34, go_sem]) rfl ⟨rfl, ?_⟩
    go_grown
  · rw [numV_1 h]
    have hm : (c / 4096 * 4096 != c) = true := by simp; omega
    clear h
    go_enter Try.func34, Try.ntmps34
    go_wp2_with (first
      | (go_at_call 22; refine (clkClamp a b 132120575 _ a0 (by omega) b0 b1 (by omega) (by omega)).mono ?_; rintro e w' ⟨rfl, rfl⟩; rw [show clampV a b 132120575 = c from HAT.out])
      | (go_at_call 29; refine (levOf (c - a) _ (by omega) (by omega)).mono ?_; rintro e w' ⟨rfl, rfl⟩; rw [HL.out])
      | (go_at_call 44; refine (levTick _ 4 _ (by omega) (by omega) (by omega) (by omega)).mono ?_; rintro e w' ⟨rfl, rfl⟩)
      | go_in)
    refine bodyPost_ret (v := .tuple #[.agg #[.int .i64 4, .int .i64 ((c / 4096 + 1) % 64), .int .u64 c, .int .u64 (tickV ((c / 4096 + 1)) (gr 4))], .int .i64 0]) (by simp [results, Try.results34, go_sem]) rfl ⟨rfl, ?_⟩
    go_grown

set_option maxHeartbeats 1600000 in
theorem levPlace5 (a b c : Int) (w : World) (a0 : 0 ≤ a) (a1 : a < 18446744073709551615) (b0 : 0 ≤ b) (b1 : b ≤ 18446744073709551615) (hat : atV a b = c) (hl : lvl (c - a) = 5) (hc0 : a + 1 ≤ c) (hc1 : c ≤ 18446744073709551615) :
    Calls Try.prog 34 #[.int .u64 a, .int .u64 b] w fun e w' => e = .returned (.tuple #[.agg #[.int .i64 5, .int .i64 (numV c 32768 % 64), .int .u64 c, .int .u64 (tickV (numV c 32768) 32768)], .int .i64 0]) ∧ Below w.heap.size w w' := by
  have HAT := Lib.hid hat
  have HL := Lib.hid hl
  clear hat hl
  have e0 : (a == 18446744073709551615) = false := by rw [beq_eq_false_iff_ne]; omega
  by_cases h : c % 32768 = 0
  · rw [numV_0 h]
    have hm : (c / 32768 * 32768 != c) = false := by simp; omega
    clear h
    go_enter Try.func34, Try.ntmps34
    go_wp2_with (first
      | (go_at_call 22; refine (clkClamp a b 132120575 _ a0 (by omega) b0 b1 (by omega) (by omega)).mono ?_; rintro e w' ⟨rfl, rfl⟩; rw [show clampV a b 132120575 = c from HAT.out])
      | (go_at_call 29; refine (levOf (c - a) _ (by omega) (by omega)).mono ?_; rintro e w' ⟨rfl, rfl⟩; rw [HL.out])
      | (go_at_call 44; refine (levTick _ 5 _ (by omega) (by omega) (by omega) (by omega)).mono ?_; rintro e w' ⟨rfl, rfl⟩)
      | go_in)
    refine bodyPost_ret (v := .tuple #[.agg #[.int .i64 5, .int .i64 (c / 32768 % 64), .int .u64 c, .int .u64 (tickV (c / 32768) (gr 5))], .int .i64 0]) (by simp [results, Try.results34, go_sem]) rfl ⟨rfl, ?_⟩
    go_grown
  · rw [numV_1 h]
    have hm : (c / 32768 * 32768 != c) = true := by simp; omega
    clear h
    go_enter Try.func34, Try.ntmps34
    go_wp2_with (first
      | (go_at_call 22; refine (clkClamp a b 132120575 _ a0 (by omega) b0 b1 (by omega) (by omega)).mono ?_; rintro e w' ⟨rfl, rfl⟩; rw [show clampV a b 132120575 = c from HAT.out])
      | (go_at_call 29; refine (levOf (c - a) _ (by omega) (by omega)).mono ?_; rintro e w' ⟨rfl, rfl⟩; rw [HL.out])
      | (go_at_call 44; refine (levTick _ 5 _ (by omega) (by omega) (by omega) (by omega)).mono ?_; rintro e w' ⟨rfl, rfl⟩)
      | go_in)
    refine bodyPost_ret (v := .tuple #[.agg #[.int .i64 5, .int .i64 ((c / 32768 + 1) % 64), .int .u64 c, .int .u64 (tickV ((c / 32768 + 1)) (gr 5))], .int .i64 0]) (by simp [results, Try.results34, go_sem]) rfl ⟨rfl, ?_⟩
    go_grown

set_option maxHeartbeats 1600000 in
theorem levPlace6 (a b c : Int) (w : World) (a0 : 0 ≤ a) (a1 : a < 18446744073709551615) (b0 : 0 ≤ b) (b1 : b ≤ 18446744073709551615) (hat : atV a b = c) (hl : lvl (c - a) = 6) (hc0 : a + 1 ≤ c) (hc1 : c ≤ 18446744073709551615) :
    Calls Try.prog 34 #[.int .u64 a, .int .u64 b] w fun e w' => e = .returned (.tuple #[.agg #[.int .i64 6, .int .i64 (numV c 262144 % 64), .int .u64 c, .int .u64 (tickV (numV c 262144) 262144)], .int .i64 0]) ∧ Below w.heap.size w w' := by
  have HAT := Lib.hid hat
  have HL := Lib.hid hl
  clear hat hl
  have e0 : (a == 18446744073709551615) = false := by rw [beq_eq_false_iff_ne]; omega
  by_cases h : c % 262144 = 0
  · rw [numV_0 h]
    have hm : (c / 262144 * 262144 != c) = false := by simp; omega
    clear h
    go_enter Try.func34, Try.ntmps34
    go_wp2_with (first
      | (go_at_call 22; refine (clkClamp a b 132120575 _ a0 (by omega) b0 b1 (by omega) (by omega)).mono ?_; rintro e w' ⟨rfl, rfl⟩; rw [show clampV a b 132120575 = c from HAT.out])
      | (go_at_call 29; refine (levOf (c - a) _ (by omega) (by omega)).mono ?_; rintro e w' ⟨rfl, rfl⟩; rw [HL.out])
      | (go_at_call 44; refine (levTick _ 6 _ (by omega) (by omega) (by omega) (by omega)).mono ?_; rintro e w' ⟨rfl, rfl⟩)
      | go_in)
    refine bodyPost_ret (v := .tuple #[.agg #[.int .i64 6, .int .i64 (c / 262144 % 64), .int .u64 c, .int .u64 (tickV (c / 262144) (gr 6))], .int .i64 0]) (by simp [results, Try.results34, go_sem]) rfl ⟨rfl, ?_⟩
    go_grown
  · rw [numV_1 h]
    have hm : (c / 262144 * 262144 != c) = true := by simp; omega
    clear h
    go_enter Try.func34, Try.ntmps34
    go_wp2_with (first
      | (go_at_call 22; refine (clkClamp a b 132120575 _ a0 (by omega) b0 b1 (by omega) (by omega)).mono ?_; rintro e w' ⟨rfl, rfl⟩; rw [show clampV a b 132120575 = c from HAT.out])
      | (go_at_call 29; refine (levOf (c - a) _ (by omega) (by omega)).mono ?_; rintro e w' ⟨rfl, rfl⟩; rw [HL.out])
      | (go_at_call 44; refine (levTick _ 6 _ (by omega) (by omega) (by omega) (by omega)).mono ?_; rintro e w' ⟨rfl, rfl⟩)
      | go_in)
    refine bodyPost_ret (v := .tuple #[.agg #[.int .i64 6, .int .i64 ((c / 262144 + 1) % 64), .int .u64 c, .int .u64 (tickV ((c / 262144 + 1)) (gr 6))], .int .i64 0]) (by simp [results, Try.results34, go_sem]) rfl ⟨rfl, ?_⟩
    go_grown

set_option maxHeartbeats 1600000 in
theorem levPlace7 (a b c : Int) (w : World) (a0 : 0 ≤ a) (a1 : a < 18446744073709551615) (b0 : 0 ≤ b) (b1 : b ≤ 18446744073709551615) (hat : atV a b = c) (hl : lvl (c - a) = 7) (hc0 : a + 1 ≤ c) (hc1 : c ≤ 18446744073709551615) :
    Calls Try.prog 34 #[.int .u64 a, .int .u64 b] w fun e w' => e = .returned (.tuple #[.agg #[.int .i64 7, .int .i64 (numV c 2097152 % 64), .int .u64 c, .int .u64 (tickV (numV c 2097152) 2097152)], .int .i64 0]) ∧ Below w.heap.size w w' := by
  have HAT := Lib.hid hat
  have HL := Lib.hid hl
  clear hat hl
  have e0 : (a == 18446744073709551615) = false := by rw [beq_eq_false_iff_ne]; omega
  by_cases h : c % 2097152 = 0
  · rw [numV_0 h]
    have hm : (c / 2097152 * 2097152 != c) = false := by simp; omega
    clear h
    go_enter Try.func34, Try.ntmps34
    go_wp2_with (first
      | (go_at_call 22; refine (clkClamp a b 132120575 _ a0 (by omega) b0 b1 (by omega) (by omega)).mono ?_; rintro e w' ⟨rfl, rfl⟩; rw [show clampV a b 132120575 = c from HAT.out])
      | (go_at_call 29; refine (levOf (c - a) _ (by omega) (by omega)).mono ?_; rintro e w' ⟨rfl, rfl⟩; rw [HL.out])
      | (go_at_call 44; refine (levTick _ 7 _ (by omega) (by omega) (by omega) (by omega)).mono ?_; rintro e w' ⟨rfl, rfl⟩)
      | go_in)
    refine bodyPost_ret (v := .tuple #[.agg #[.int .i64 7, .int .i64 (c / 2097152 % 64), .int .u64 c, .int .u64 (tickV (c / 2097152) (gr 7))], .int .i64 0]) (by simp [results, Try.results34, go_sem]) rfl ⟨rfl, ?_⟩
    go_grown
  · rw [numV_1 h]
    have hm : (c / 2097152 * 2097152 != c) = true := by simp; omega
    clear h
    go_enter Try.func34, Try.ntmps34
    go_wp2_with (first
      | (go_at_call 22; refine (clkClamp a b 132120575 _ a0 (by omega) b0 b1 (by omega) (by omega)).mono ?_; rintro e w' ⟨rfl, rfl⟩; rw [show clampV a b 132120575 = c from HAT.out])
      | (go_at_call 29; refine (levOf (c - a) _ (by omega) (by omega)).mono ?_; rintro e w' ⟨rfl, rfl⟩; rw [HL.out])
      | (go_at_call 44; refine (levTick _ 7 _ (by omega) (by omega) (by omega) (by omega)).mono ?_; rintro e w' ⟨rfl, rfl⟩)
      | go_in)
    refine bodyPost_ret (v := .tuple #[.agg #[.int .i64 7, .int .i64 ((c / 2097152 + 1) % 64), .int .u64 c, .int .u64 (tickV ((c / 2097152 + 1)) (gr 7))], .int .i64 0]) (by simp [results, Try.results34, go_sem]) rfl ⟨rfl, ?_⟩
    go_grown

theorem levPlace (a b : Int) (w : World) (a0 : 0 ≤ a) (a1 : a < 18446744073709551615) (b0 : 0 ≤ b) (b1 : b ≤ 18446744073709551615) :
    Calls Try.prog 34 #[.int .u64 a, .int .u64 b] w fun e w' => e = .returned (.tuple #[.agg (spotVal a b), .int .i64 0]) ∧ Below w.heap.size w w' := by
  have hb := atV_bd a0 a1 b0
  have hl := lvP_bd a0 a1 b0
  unfold spotVal
  have hll : lvl (atV a b - a) = lvP a b := rfl
  rcases eight hl.1 hl.2.1 with h | h | h | h | h | h | h | h
  all_goals rw [h] at hll ⊢
  · exact levPlace0 a b _ w a0 a1 b0 b1 rfl hll hb.1 hb.2.1
  · exact levPlace1 a b _ w a0 a1 b0 b1 rfl hll hb.1 hb.2.1
  · exact levPlace2 a b _ w a0 a1 b0 b1 rfl hll hb.1 hb.2.1
  · exact levPlace3 a b _ w a0 a1 b0 b1 rfl hll hb.1 hb.2.1
  · exact levPlace4 a b _ w a0 a1 b0 b1 rfl hll hb.1 hb.2.1
  · exact levPlace5 a b _ w a0 a1 b0 b1 rfl hll hb.1 hb.2.1
  · exact levPlace6 a b _ w a0 a1 b0 b1 rfl hll hb.1 hb.2.1
  · exact levPlace7 a b _ w a0 a1 b0 b1 rfl hll hb.1 hb.2.1

set_option maxHeartbeats 1600000 in
theorem refPlace (a b : Int) (w : World) (a0 : 0 ≤ a) (a1 : a < 18446744073709551615) (b0 : 0 ≤ b) (b1 : b ≤ 18446744073709551615) :
    Calls Try.prog 35 #[.int .u64 a, .int .u64 b] w fun e w' => e = .returned (.tuple #[.agg (spotVal a b), .int .i64 0]) ∧ Below w.heap.size w w' := by
  have hb := atV_bd a0 a1 b0
  have hl := lvP_bd a0 a1 b0
  have HL := Lib.hid (show lvl (atV a b - a) = lvP a b from rfl)
  have HAT := Lib.hid (show clampV a b 132120575 = atV a b from rfl)
  have hg := gr_bd hl.1 hl.2.1
  have e0 : (a == 18446744073709551615) = false := by rw [beq_eq_false_iff_ne]; omega
  unfold spotVal
  have HG := Lib.hid (refGran (lvP a b))
  generalize gr (lvP a b) = g at *
  generalize lvP a b = n at *
  generalize atV a b = c at *
  have hq := div_word (g := g) (show 0 ≤ c by omega) hb.2.1 hg.1
  have hr := Int.emod_nonneg c (show g ≠ 0 by omega)
  by_cases h : c % g = 0
  · rw [numV_0 h]
    have hm : ¬ 0 < c % g := by omega
    clear h
    go_enter Try.func35, Try.ntmps35
    go_wp2_with (first
      | (go_at_call 23; refine (refClamp a b 132120575 _ a0 (by omega) b0 b1 (by omega) (by omega)).mono ?_; rintro e w' ⟨rfl, rfl⟩; rw [HAT.out])
      | (go_at_call 30; refine (refOf (c - a) _ (by omega) (by omega)).mono ?_; rintro e w' ⟨rfl, rfl⟩; rw [HL.out])
      | (go_at_call 33; refine (HG.out _).mono ?_; rintro e w' ⟨rfl, rfl⟩)
      | (go_at_call 45; refine (refTick _ g _ (by omega) (by omega) hg.1 hg.2).mono ?_; rintro e w' ⟨rfl, rfl⟩))
    refine bodyPost_ret (v := .tuple #[.agg #[.int .i64 n, .int .i64 (c / g % 64), .int .u64 c, .int .u64 (tickV (c / g) g)], .int .i64 0]) (by simp [results, Try.results35, go_sem]) rfl ⟨rfl, ?_⟩
    go_grown
  · rw [numV_1 h]
    have hm : 0 < c % g := by omega
    have hf := num_fits (show 0 ≤ c by omega) hg.1 h
    clear h
    go_enter Try.func35, Try.ntmps35
    go_wp2_with (first
      | (go_at_call 23; refine (refClamp a b 132120575 _ a0 (by omega) b0 b1 (by omega) (by omega)).mono ?_; rintro e w' ⟨rfl, rfl⟩; rw [HAT.out])
      | (go_at_call 30; refine (refOf (c - a) _ (by omega) (by omega)).mono ?_; rintro e w' ⟨rfl, rfl⟩; rw [HL.out])
      | (go_at_call 33; refine (HG.out _).mono ?_; rintro e w' ⟨rfl, rfl⟩)
      | (go_at_call 45; refine (refTick _ g _ (by omega) (by omega) hg.1 hg.2).mono ?_; rintro e w' ⟨rfl, rfl⟩))
    refine bodyPost_ret (v := .tuple #[.agg #[.int .i64 n, .int .i64 ((c / g + 1) % 64), .int .u64 c, .int .u64 (tickV (c / g + 1) g)], .int .i64 0]) (by simp [results, Try.results35, go_sem]) rfl ⟨rfl, ?_⟩
    go_grown
end Go.Proofs.Ytcoimnajoihlnaa
