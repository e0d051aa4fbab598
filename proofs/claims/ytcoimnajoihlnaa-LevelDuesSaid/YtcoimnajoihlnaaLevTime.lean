/- When a slot is due: both texts by one contract. -/
import Derived.Test.YtcoimnajoihlnaaLevTick
namespace Go.Proofs.Ytcoimnajoihlnaa
open Go.RowKit
set_option linter.unusedVariables false

/-- how many multiples on the slot is due -/
def moreV (a g s : Int) : Int := if (s - a / g) % 64 = 0 then 64 else (s - a / g) % 64
/-- when it is due -/
def timeV (a g s : Int) : Int := if 18446744073709551615 - a / g < moreV a g s then 18446744073709551615 else tickV (a / g + moreV a g s) g
/-- is there no such slot? -/
def wrongB (n s : Int) : Bool := decide (n < 0 ∨ 7 < n ∨ s < 0 ∨ 63 < s)
theorem moreV_bd (a g s : Int) : 1 ≤ moreV a g s ∧ moreV a g s ≤ 64 := by unfold moreV; split <;> omega
theorem moreV_0 {a g s : Int} (h : (s - a / g) % 64 = 0) : moreV a g s = 64 := by unfold moreV; rw [if_pos h]
theorem moreV_1 {a g s : Int} (h : ¬ (s - a / g) % 64 = 0) : moreV a g s = (s - a / g) % 64 := by unfold moreV; rw [if_neg h]
theorem timeV_cut {a g s : Int} (h : 18446744073709551615 - a / g < moreV a g s) : timeV a g s = 18446744073709551615 := by unfold timeV; rw [if_pos h]
theorem timeV_is {a g s : Int} (h : ¬ 18446744073709551615 - a / g < moreV a g s) : timeV a g s = tickV (a / g + moreV a g s) g := by unfold timeV; rw [if_neg h]
theorem gr_bd {n : Int} (h0 : 0 ≤ n) (h1 : n ≤ 7) : 1 ≤ gr n ∧ gr n ≤ 2097152 := by
  rcases eight h0 h1 with rfl | rfl | rfl | rfl | rfl | rfl | rfl | rfl <;> decide

theorem sub_word (s q : Int) : ∃ z, IntKind.u64.wrap (s - q) = z ∧ 0 ≤ z ∧ z ≤ 18446744073709551615 ∧ z % 64 = (s - q) % 64 := by
  refine ⟨_, rfl, ?_⟩
  rw [IntKind.wrap_u64]
  omega
theorem div_word {a g : Int} (h0 : 0 ≤ a) (h1 : a ≤ 18446744073709551615) (g1 : 1 ≤ g) : 0 ≤ a / g ∧ a / g ≤ 18446744073709551615 :=
  ⟨Int.ediv_nonneg h0 (by omega), Int.le_trans (Int.ediv_le_self _ h0) h1⟩

theorem ret_ue {x y p q : Int} (h : x = y ∧ p = q) : Ending.returned (.tuple #[.int .u64 x, .int .i64 p]) = .returned (.tuple #[.int .u64 y, .int .i64 q]) := by rw [h.1, h.2]

theorem levTimeWrong (a n s : Int) (w : World) (h : wrongB n s = true) : Calls Try.prog 37 #[.int .u64 a, .int .i64 n, .int .i64 s] w fun e w' => e = .returned (.tuple #[.int .u64 0, .int .i64 2]) ∧ w = w' := by
  have h' := of_decide_eq_true h
  clear h
  by_cases c1 : n < 0
  · have d1 : decide (0 ≤ n) = false := decide_eq_false (by omega)
    go_enter Try.func37, Try.ntmps37
    go_wp2
    go_ret2
    exact ⟨rfl, rfl⟩
  · by_cases c2 : 7 < n
    · have d2 : decide (n < 8) = false := decide_eq_false (by omega)
      have d3 : decide (0 ≤ n) = true := decide_eq_true (by omega)
      clear h'
      go_enter Try.func37, Try.ntmps37
      go_wp2
      go_ret2
      exact ⟨rfl, rfl⟩
    · have d2 : decide (n < 8) = true := decide_eq_true (by omega)
      have d3 : decide (0 ≤ n) = true := decide_eq_true (by omega)
      by_cases c3 : s < 0
      · have d4 : decide (s < 0) = true := decide_eq_true c3
        clear h'
        go_enter Try.func37, Try.ntmps37
        go_wp2
        go_ret2
        exact ⟨rfl, rfl⟩
      · have d4 : decide (s < 0) = false := decide_eq_false c3
        have c4 : 63 < s := by omega
        have d5 : decide (64 ≤ s) = true := decide_eq_true (by omega)
        clear h'
        go_enter Try.func37, Try.ntmps37
        go_wp2
        go_ret2
        exact ⟨rfl, rfl⟩

theorem refTimeWrong (a n s : Int) (w : World) (h : wrongB n s = true) : Calls Try.prog 38 #[.int .u64 a, .int .i64 n, .int .i64 s] w fun e w' => e = .returned (.tuple #[.int .u64 0, .int .i64 2]) ∧ w = w' := by
  have h' := of_decide_eq_true h
  clear h
  by_cases c1 : n < 0 ∨ 7 < n
  · have d1 := gr_no c1
    clear h' c1
    go_enter Try.func38, Try.ntmps38
    go_wp2_with (go_at_call 33; refine (refGran _ _).mono ?_; rintro e w' ⟨rfl, rfl⟩)
    go_ret2
    exact ⟨rfl, rfl⟩
  · have hg := gr_bd (n := n) (by omega) (by omega)
    have d1 : (gr n == 0) = false := by rw [beq_eq_false_iff_ne]; omega
    by_cases c3 : s < 0
    · have d4 : decide (s < 0) = true := decide_eq_true c3
      clear h' c1
      go_enter Try.func38, Try.ntmps38
      go_wp2_with (go_at_call 33; refine (refGran _ _).mono ?_; rintro e w' ⟨rfl, rfl⟩)
      go_ret2
      exact ⟨rfl, rfl⟩
    · have d4 : decide (s < 0) = false := decide_eq_false c3
      have d5 : decide (63 < s) = true := decide_eq_true (by omega)
      clear h' c1
      go_enter Try.func38, Try.ntmps38
      go_wp2_with (go_at_call 33; refine (refGran _ _).mono ?_; rintro e w' ⟨rfl, rfl⟩)
      go_ret2
      exact ⟨rfl, rfl⟩

set_option maxHeartbeats 800000 in
theorem levTime0 (a s : Int) (w : World) (a0 : 0 ≤ a) (a1 : a ≤ 18446744073709551615) (s0 : 0 ≤ s) (s1 : s ≤ 63) :
    Calls Try.prog 37 #[.int .u64 a, .int .i64 0, .int .i64 s] w fun e w' => e = .returned (.tuple #[.int .u64 (timeV a 1 s), .int .i64 0]) ∧ w = w' := by
  have d4 : decide (s < 0) = false := decide_eq_false (by omega)
  have d5 : decide (64 ≤ s) = false := decide_eq_false (by omega)
  obtain ⟨z, hz, z0, z1, hm⟩ := sub_word s (a / 1)
  have hq := div_word (g := 1) a0 a1 (by omega)
  skip
  by_cases c : (s - a / 1) % 64 = 0
  · have hz0 : z % 64 = 0 := by rw [hm]; exact c
    have hv := moreV_0 c
    clear hm
    by_cases h : 18446744073709551615 - a / 1 < 64
    · rw [timeV_cut (by rw [hv]; exact h)]
      clear hv c
      rw [Int.ediv_one] at *
      go_enter Try.func37, Try.ntmps37
      go_wp2
      go_ret2
      exact ⟨rfl, rfl⟩
    · rw [timeV_is (by rw [hv]; exact h), hv]
      clear hv c
      rw [Int.ediv_one] at *
      go_enter Try.func37, Try.ntmps37
      go_wp2_with (first | (go_at_call 44; refine (levTick _ 0 _ (by omega) (by omega) (by omega) (by omega)).mono ?_; rintro e w' ⟨rfl, rfl⟩) | go_in)
      go_ret2
      exact ⟨rfl, rfl⟩
  · have hv := moreV_1 c
    have hm0 : 1 ≤ (s - a / 1) % 64 ∧ (s - a / 1) % 64 ≤ 63 := by omega
    rw [← hm] at hm0 hv
    clear hm c
    generalize hmm : z % 64 = m at hv hm0
    have e0 : (m == 0) = false := by rw [beq_eq_false_iff_ne]; omega
    by_cases h : 18446744073709551615 - a / 1 < m
    · rw [timeV_cut (by rw [hv]; exact h)]
      clear hv
      rw [Int.ediv_one] at *
      go_enter Try.func37, Try.ntmps37
      go_wp2
      go_ret2
      exact ⟨rfl, rfl⟩
    · rw [timeV_is (by rw [hv]; exact h), hv]
      clear hv
      rw [Int.ediv_one] at *
      go_enter Try.func37, Try.ntmps37
      go_wp2_with (first | (go_at_call 44; refine (levTick _ 0 _ (by omega) (by omega) (by omega) (by omega)).mono ?_; rintro e w' ⟨rfl, rfl⟩) | go_in)
      go_ret2
      exact ⟨rfl, rfl⟩

set_option maxHeartbeats 800000 in
theorem levTime1 (a s : Int) (w : World) (a0 : 0 ≤ a) (a1 : a ≤ 18446744073709551615) (s0 : 0 ≤ s) (s1 : s ≤ 63) :
    Calls Try.prog 37 #[.int .u64 a, .int .i64 1, .int .i64 s] w fun e w' => e = .returned (.tuple #[.int .u64 (timeV a 8 s), .int .i64 0]) ∧ w = w' := by
  have d4 : decide (s < 0) = false := decide_eq_false (by omega)
  have d5 : decide (64 ≤ s) = false := decide_eq_false (by omega)
  obtain ⟨z, hz, z0, z1, hm⟩ := sub_word s (a / 8)
  have hq := div_word (g := 8) a0 a1 (by omega)
  skip
  by_cases c : (s - a / 8) % 64 = 0
  · have hz0 : z % 64 = 0 := by rw [hm]; exact c
    have hv := moreV_0 c
    clear hm
    by_cases h : 18446744073709551615 - a / 8 < 64
    · rw [timeV_cut (by rw [hv]; exact h)]
      clear hv c
      go_enter Try.func37, Try.ntmps37
      go_wp2
      go_ret2
      exact ⟨rfl, rfl⟩
    · rw [timeV_is (by rw [hv]; exact h), hv]
      clear hv c
      go_enter Try.func37, Try.ntmps37
      go_wp2_with (first | (go_at_call 44; refine (levTick _ 1 _ (by omega) (by omega) (by omega) (by omega)).mono ?_; rintro e w' ⟨rfl, rfl⟩) | go_in)
      go_ret2
      exact ⟨rfl, rfl⟩
  · have hv := moreV_1 c
    have hm0 : 1 ≤ (s - a / 8) % 64 ∧ (s - a / 8) % 64 ≤ 63 := by omega
    rw [← hm] at hm0 hv
    clear hm c
    generalize hmm : z % 64 = m at hv hm0
    have e0 : (m == 0) = false := by rw [beq_eq_false_iff_ne]; omega
    by_cases h : 18446744073709551615 - a / 8 < m
    · rw [timeV_cut (by rw [hv]; exact h)]
      clear hv
      go_enter Try.func37, Try.ntmps37
      go_wp2
      go_ret2
      exact ⟨rfl, rfl⟩
    · rw [timeV_is (by rw [hv]; exact h), hv]
      clear hv
      go_enter Try.func37, Try.ntmps37
      go_wp2_with (first | (go_at_call 44; refine (levTick _ 1 _ (by omega) (by omega) (by omega) (by omega)).mono ?_; rintro e w' ⟨rfl, rfl⟩) | go_in)
      go_ret2
      exact ⟨rfl, rfl⟩

set_option maxHeartbeats 800000 in
theorem levTime2 (a s : Int) (w : World) (a0 : 0 ≤ a) (a1 : a ≤ 18446744073709551615) (s0 : 0 ≤ s) (s1 : s ≤ 63) :
    Calls Try.prog 37 #[.int .u64 a, .int .i64 2, .int .i64 s] w fun e w' => e = .returned (.tuple #[.int .u64 (timeV a 64 s), .int .i64 0]) ∧ w = w' := by
  have d4 : decide (s < 0) = false := decide_eq_false (by omega)
  have d5 : decide (64 ≤ s) = false := decide_eq_false (by omega)
  obtain ⟨z, hz, z0, z1, hm⟩ := sub_word s (a / 64)
  have hq := div_word (g := 64) a0 a1 (by omega)
  skip
  by_cases c : (s - a / 64) % 64 = 0
  · have hz0 : z % 64 = 0 := by rw [hm]; exact c
    have hv := moreV_0 c
    clear hm
    by_cases h : 18446744073709551615 - a / 64 < 64
    · rw [timeV_cut (by rw [hv]; exact h)]
      clear hv c
      go_enter Try.func37, Try.ntmps37
      go_wp2
      go_ret2
      exact ⟨rfl, rfl⟩
    · rw [timeV_is (by rw [hv]; exact h), hv]
      clear hv c
      go_enter Try.func37, Try.ntmps37
      go_wp2_with (first | (go_at_call 44; refine (levTick _ 2 _ (by omega) (by omega) (by omega) (by omega)).mono ?_; rintro e w' ⟨rfl, rfl⟩) | go_in)
      go_ret2
      exact ⟨rfl, rfl⟩
  · have hv := moreV_1 c
    have hm0 : 1 ≤ (s - a / 64) % 64 ∧ (s - a / 64) % 64 ≤ 63 := by omega
    rw [← hm] at hm0 hv
    clear hm c
    generalize hmm : z % 64 = m at hv hm0
    have e0 : (m == 0) = false := by rw [beq_eq_false_iff_ne]; omega
    by_cases h : 18446744073709551615 - a / 64 < m
    · rw [timeV_cut (by rw [hv]; exact h)]
      clear hv
      go_enter Try.func37, Try.ntmps37
      go_wp2
      go_ret2
      exact ⟨rfl, rfl⟩
    · rw [timeV_is (by rw [hv]; exact h), hv]
      clear hv
      go_enter Try.func37, Try.ntmps37
      go_wp2_with (first | (go_at_call 44; refine (levTick _ 2 _ (by omega) (by omega) (by omega) (by omega)).mono ?_; rintro e w' ⟨rfl, rfl⟩) | go_in)
      go_ret2
      exact ⟨rfl, rfl⟩

set_option maxHeartbeats 800000 in
theorem levTime3 (a s : Int) (w : World) (a0 : 0 ≤ a) (a1 : a ≤ 18446744073709551615) (s0 : 0 ≤ s) (s1 : s ≤ 63) :
    Calls Try.prog 37 #[.int .u64 a, .int .i64 3, .int .i64 s] w fun e w' => e = .returned (.tuple #[.int .u64 (timeV a 512 s), .int .i64 0]) ∧ w = w' := by
  have d4 : decide (s < 0) = false := decide_eq_false (by omega)
  have d5 : decide (64 ≤ s) = false := decide_eq_false (by omega)
  obtain ⟨z, hz, z0, z1, hm⟩ := sub_word s (a / 512)
  have hq := div_word (g := 512) a0 a1 (by omega)
  skip
  by_cases c : (s - a / 512) % 64 = 0
  · have hz0 : z % 64 = 0 := by rw [hm]; exact c
    have hv := moreV_0 c
    clear hm
    by_cases h : 18446744073709551615 - a / 512 < 64
    · rw [timeV_cut (by rw [hv]; exact h)]
      clear hv c
      go_enter Try.func37, Try.ntmps37
      go_wp2
      go_ret2
      exact ⟨rfl, rfl⟩
    · rw [timeV_is (by rw [hv]; exact h), hv]
      clear hv c
      go_enter Try.func37, Try.ntmps37
      go_wp2_with (first | (go_at_call 44; refine (levTick _ 3 _ (by omega) (by omega) (by omega) (by omega)).mono ?_; rintro e w' ⟨rfl, rfl⟩) | go_in)
      go_ret2
      exact ⟨rfl, rfl⟩
  · have hv := moreV_1 c
    have hm0 : 1 ≤ (s - a / 512) % 64 ∧ (s - a / 512) % 64 ≤ 63 := by omega
    rw [← hm] at hm0 hv
    clear hm c
    generalize hmm : z % 64 = m at hv hm0
    have e0 : (m == 0) = false := by rw [beq_eq_false_iff_ne]; omega
    by_cases h : 18446744073709551615 - a / 512 < m
    · rw [timeV_cut (by rw [hv]; exact h)]
      clear hv
      go_enter Try.func37, Try.ntmps37
      go_wp2
      go_ret2
      exact ⟨rfl, rfl⟩
    · rw [timeV_is (by rw [hv]; exact h), hv]
      clear hv
      go_enter Try.func37, Try.ntmps37
      go_wp2_with (first | (go_at_call 44; refine (levTick _ 3 _ (by omega) (by omega) (by omega) (by omega)).mono ?_; rintro e w' ⟨rfl, rfl⟩) | go_in)
      go_ret2
      exact ⟨rfl, rfl⟩

set_option maxHeartbeats 800000 in
theorem levTime4 (a s : Int) (w : World) (a0 : 0 ≤ a) (a1 : a ≤ 18446744073709551615) (s0 : 0 ≤ s) (s1 : s ≤ 63) :
    Calls Try.prog 37 #[.int .u64 a, .int .i64 4, .int .i64 s] w fun e w' => e = .returned (.tuple #[.int .u64 (timeV a 4096 s), .int .i64 0]) ∧ w = w' := by
  have d4 : decide (s < 0) = false := decide_eq_false (by omega)
  have d5 : decide (64 ≤ s) = false := decide_eq_false (by omega)
  obtain ⟨z, hz, z0, z1, hm⟩ := sub_word s (a / 4096)
  have hq := div_word (g := 4096) a0 a1 (by omega)
  skip
  by_cases c : (s - a / 4096) % 64 = 0
  · have hz0 : z % 64 = 0 := by rw [hm]; exact c
    have hv := moreV_0 c
    clear hm
    by_cases h : 18446744073709551615 - a / 4096 < 64
    · rw [timeV_cut (by rw [hv]; exact h)]
      clear hv c
      go_enter Try.func37, Try.ntmps37
      go_wp2
      go_ret2
      exact ⟨rfl, rfl⟩
    · rw [timeV_is (by rw [hv]; exact h), hv]
      clear hv c
      go_enter Try.func37, Try.ntmps37
      go_wp2_with (first | (go_at_call 44; refine (levTick _ 4 _ (by omega) (by omega) (by omega) (by omega)).mono ?_; rintro e w' ⟨rfl, rfl⟩) | go_in)
      go_ret2
      exact ⟨rfl, rfl⟩
  · have hv := moreV_1 c
    have hm0 : 1 ≤ (s - a / 4096) % 64 ∧ (s - a / 4096) % 64 ≤ 63 := by omega
    rw [← hm] at hm0 hv
    clear hm c
    generalize hmm : z % 64 = m at hv hm0
    have e0 : (m == 0) = false := by rw [beq_eq_false_iff_ne]; omega
    by_cases h : 18446744073709551615 - a / 4096 < m
    · rw [timeV_cut (by rw [hv]; exact h)]
      clear hv
      go_enter Try.func37, Try.ntmps37
      go_wp2
      go_ret2
      exact ⟨rfl, rfl⟩
    · rw [timeV_is (by rw [hv]; exact h), hv]
      clear hv
      go_enter Try.func37, Try.ntmps37
      go_wp2_with (first | (go_at_call 44; refine (levTick _ 4 _ (by omega) (by omega) (by omega) (by omega)).mono ?_; rintro e w' ⟨rfl, rfl⟩) | go_in)
      go_ret2
      exact ⟨rfl, rfl⟩

set_option maxHeartbeats 800000 in
theorem levTime5 (a s : Int) (w : World) (a0 : 0 ≤ a) (a1 : a ≤ 18446744073709551615) (s0 : 0 ≤ s) (s1 : s ≤ 63) :
    Calls Try.prog 37 #[.int .u64 a, .int .i64 5, .int .i64 s] w fun e w' => e = .returned (.tuple #[.int .u64 (timeV a 32768 s), .int .i64 0]) ∧ w = w' := by
  have d4 : decide (s < 0) = false := decide_eq_false (by omega)
  have d5 : decide (64 ≤ s) = false := decide_eq_false (by omega)
  obtain ⟨z, hz, z0, z1, hm⟩ := sub_word s (a / 32768)
  have hq := div_word (g := 32768) a0 a1 (by omega)
  skip
  by_cases c : (s - a / 32768) % 64 = 0
  · have hz0 : z % 64 = 0 := by rw [hm]; exact c
    have hv := moreV_0 c
    clear hm
    by_cases h : 18446744073709551615 - a / 32768 < 64
    · rw [timeV_cut (by rw [hv]; exact h)]
      clear hv c
      go_enter Try.func37, Try.ntmps37
      go_wp2
      go_ret2
      exact ⟨rfl, rfl⟩
    · rw [timeV_is (by rw [hv]; exact h), hv]
      clear hv c
      go_enter Try.func37, Try.ntmps37
      go_wp2_with (first | (go_at_call 44; refine (levTick _ 5 _ (by omega) (by omega) (by omega) (by omega)).mono ?_; rintro e w' ⟨rfl, rfl⟩) | go_in)
      go_ret2
      exact ⟨rfl, rfl⟩
  · have hv := moreV_1 c
    have hm0 : 1 ≤ (s - a / 32768) % 64 ∧ (s - a / 32768) % 64 ≤ 63 := by omega
    rw [← hm] at hm0 hv
    clear hm c
    generalize hmm : z % 64 = m at hv hm0
    have e0 : (m == 0) = false := by rw [beq_eq_false_iff_ne]; omega
    by_cases h : 18446744073709551615 - a / 32768 < m
    · rw [timeV_cut (by rw [hv]; exact h)]
      clear hv
      go_enter Try.func37, Try.ntmps37
      go_wp2
      go_ret2
      exact ⟨rfl, rfl⟩
    · rw [timeV_is (by rw [hv]; exact h), hv]
      clear hv
      go_enter Try.func37, Try.ntmps37
      go_wp2_with (first | (go_at_call 44; refine (levTick _ 5 _ (by omega) (by omega) (by omega) (by omega)).mono ?_; rintro e w' ⟨rfl, rfl⟩) | go_in)
      go_ret2
      exact ⟨rfl, rfl⟩

set_option maxHeartbeats 800000 in
theorem levTime6 (a s : Int) (w : World) (a0 : 0 ≤ a) (a1 : a ≤ 18446744073709551615) (s0 : 0 ≤ s) (s1 : s ≤ 63) :
    Calls Try.prog 37 #[.int .u64 a, .int .i64 6, .int .i64 s] w fun e w' => e = .returned (.tuple #[.int .u64 (timeV a 262144 s), .int .i64 0]) ∧ w = w' := by
  have d4 : decide (s < 0) = false := decide_eq_false (by omega)
  have d5 : decide (64 ≤ s) = false := decide_eq_false (by omega)
  obtain ⟨z, hz, z0, z1, hm⟩ := sub_word s (a / 262144)
  have hq := div_word (g := 262144) a0 a1 (by omega)
  skip
  by_cases c : (s - a / 262144) % 64 = 0
  · have hz0 : z % 64 = 0 := by rw [hm]; exact c
    have hv := moreV_0 c
    clear hm
    by_cases h : 18446744073709551615 - a / 262144 < 64
    · rw [timeV_cut (by rw [hv]; exact h)]
      clear hv c
      go_enter Try.func37, Try.ntmps37
      go_wp2
      go_ret2
      exact ⟨rfl, rfl⟩
    · rw [timeV_is (by rw [hv]; exact h), hv]
      clear hv c
      go_enter Try.func37, Try.ntmps37
      go_wp2_with (first | (go_at_call 44; refine (levTick _ 6 _ (by omega) (by omega) (by omega) (by omega)).mono ?_; rintro e w' ⟨rfl, rfl⟩) | go_in)
      go_ret2
      exact ⟨rfl, rfl⟩
  · have hv := moreV_1 c
    have hm0 : 1 ≤ (s - a / 262144) % 64 ∧ (s - a / 262144) % 64 ≤ 63 := by omega
    rw [← hm] at hm0 hv
    clear hm c
    generalize hmm : z % 64 = m at hv hm0
    have e0 : (m == 0) = false := by rw [beq_eq_false_iff_ne]; omega
    by_cases h : 18446744073709551615 - a / 262144 < m
    · rw [timeV_cut (by rw [hv]; exact h)]
      clear hv
      go_enter Try.func37, Try.ntmps37
      go_wp2
      go_ret2
      exact ⟨rfl, rfl⟩
    · rw [timeV_is (by rw [hv]; exact h), hv]
      clear hv
      go_enter Try.func37, Try.ntmps37
      go_wp2_with (first | (go_at_call 44; refine (levTick _ 6 _ (by omega) (by omega) (by omega) (by omega)).mono ?_; rintro e w' ⟨rfl, rfl⟩) | go_in)
      go_ret2
      exact ⟨rfl, rfl⟩

set_option maxHeartbeats 800000 in
theorem levTime7 (a s : Int) (w : World) (a0 : 0 ≤ a) (a1 : a ≤ 18446744073709551615) (s0 : 0 ≤ s) (s1 : s ≤ 63) :
    Calls Try.prog 37 #[.int .u64 a, .int .i64 7, .int .i64 s] w fun e w' => e = .returned (.tuple #[.int .u64 (timeV a 2097152 s), .int .i64 0]) ∧ w = w' := by
  have d4 : decide (s < 0) = false := decide_eq_false (by omega)
  have d5 : decide (64 ≤ s) = false := decide_eq_false (by omega)
  obtain ⟨z, hz, z0, z1, hm⟩ := sub_word s (a / 2097152)
  have hq := div_word (g := 2097152) a0 a1 (by omega)
  skip
  by_cases c : (s - a / 2097152) % 64 = 0
  · have hz0 : z % 64 = 0 := by rw [hm]; exact c
    have hv := moreV_0 c
    clear hm
    by_cases h : 18446744073709551615 - a / 2097152 < 64
    · rw [timeV_cut (by rw [hv]; exact h)]
      clear hv c
      go_enter Try.func37, Try.ntmps37
      go_wp2
      go_ret2
      exact ⟨rfl, rfl⟩
    · rw [timeV_is (by rw [hv]; exact h), hv]
      clear hv c
      go_enter Try.func37, Try.ntmps37
      go_wp2_with (first | (go_at_call 44; refine (levTick _ 7 _ (by omega) (by omega) (by omega) (by omega)).mono ?_; rintro e w' ⟨rfl, rfl⟩) | go_in)
      go_ret2
      exact ⟨rfl, rfl⟩
  · have hv := moreV_1 c
    have hm0 : 1 ≤ (s - a / 2097152) % 64 ∧ (s - a / 2097152) % 64 ≤ 63 := by omega
    rw [← hm] at hm0 hv
    clear hm c
    generalize hmm : z % 64 = m at hv hm0
    have e0 : (m == 0) = false := by rw [beq_eq_false_iff_ne]; omega
    by_cases h : 18446744073709551615 - a / 2097152 < m
    · rw [timeV_cut (by rw [hv]; exact h)]
      clear hv
      go_enter Try.func37, Try.ntmps37
      go_wp2
      go_ret2
      exact ⟨rfl, rfl⟩
    · rw [timeV_is (by rw [hv]; exact h), hv]
      clear hv
      go_enter Try.func37, Try.ntmps37
      go_wp2_with (first | (go_at_call 44; refine (levTick _ 7 _ (by omega) (by omega) (by omega) (by omega)).mono ?_; rintro e w' ⟨rfl, rfl⟩) | go_in)
      go_ret2
      exact ⟨rfl, rfl⟩

theorem levTime (a n s : Int) (w : World) (a0 : 0 ≤ a) (a1 : a ≤ 18446744073709551615) (n0 : 0 ≤ n) (n1 : n ≤ 7) (s0 : 0 ≤ s) (s1 : s ≤ 63) :
    Calls Try.prog 37 #[.int .u64 a, .int .i64 n, .int .i64 s] w fun e w' => e = .returned (.tuple #[.int .u64 (timeV a (gr n) s), .int .i64 0]) ∧ w = w' := by
  rcases eight n0 n1 with rfl | rfl | rfl | rfl | rfl | rfl | rfl | rfl
  · exact levTime0 a s w a0 a1 s0 s1
  · exact levTime1 a s w a0 a1 s0 s1
  · exact levTime2 a s w a0 a1 s0 s1
  · exact levTime3 a s w a0 a1 s0 s1
  · exact levTime4 a s w a0 a1 s0 s1
  · exact levTime5 a s w a0 a1 s0 s1
  · exact levTime6 a s w a0 a1 s0 s1
  · exact levTime7 a s w a0 a1 s0 s1

set_option maxHeartbeats 800000 in
theorem refTime (a n s : Int) (w : World) (a0 : 0 ≤ a) (a1 : a ≤ 18446744073709551615) (n0 : 0 ≤ n) (n1 : n ≤ 7) (s0 : 0 ≤ s) (s1 : s ≤ 63) :
    Calls Try.prog 38 #[.int .u64 a, .int .i64 n, .int .i64 s] w fun e w' => e = .returned (.tuple #[.int .u64 (timeV a (gr n) s), .int .i64 0]) ∧ w = w' := by
  have hg := gr_bd n0 n1
  have HG := refGran n w
  generalize gr n = g at *
  have d1 : (g == 0) = false := by rw [beq_eq_false_iff_ne]; omega
  have d4 : decide (s < 0) = false := decide_eq_false (by omega)
  have d5 : decide (63 < s) = false := decide_eq_false (by omega)
  have hq := div_word (g := g) a0 a1 hg.1
  have hmb := moreV_bd a g s
  have hmo : (a / g + moreV a g s) % 64 = s ∧ ∀ j, 1 ≤ j → j < moreV a g s → ¬ (a / g + j) % 64 = s := by
    unfold moreV
    split
    · exact ⟨by omega, fun j h1 h2 => by omega⟩
    · exact ⟨by omega, fun j h1 h2 => by omega⟩
  have HM := Lib.hid hmo
  clear hmo
  have HT := Lib.hid HG
  clear HG
  have HC := Lib.hid (@timeV_cut a g s)
  have HI := Lib.hid (@timeV_is a g s)
  generalize timeV a g s = t at *
  generalize moreV a g s = mo at *
  go_enter Try.func38, Try.ntmps38
  go_wp2_with (go_at_call 33; refine HT.out.mono ?_; rintro e w' ⟨rfl, rfl⟩)
  go_loop [9] (fun i => ∃ k : Int, 1 ≤ k ∧ k ≤ mo ∧ i = .int .u64 k) (fun i => (65 - intOf i).toNat)
  case atStart => exact ⟨1, by omega, by omega, rfl⟩
  case round =>
    obtain ⟨k, k0, k1, rfl⟩ := hrel
    by_cases h : 18446744073709551615 - k < a / g
    · have hfin := Lib.hid (HC.out (by omega))
      go_wp2
      go_ret2
      exact ⟨ret_ue ⟨hfin.out.symm, rfl⟩, rfl⟩
    · by_cases hk : k = mo
      · subst hk
        have e1 : ((a / g + k) % 64 == s) = true := by rw [beq_iff_eq]; exact HM.out.1
        have hfin := Lib.hid (HI.out (by omega))
        go_wp2_with (go_at_call 45; refine (refTick _ g _ (by omega) (by omega) hg.1 hg.2).mono ?_; rintro e w' ⟨rfl, rfl⟩)
        go_ret2
        exact ⟨ret_ue ⟨hfin.out.symm, rfl⟩, rfl⟩
      · have e1 : ((a / g + k) % 64 == s) = false := by rw [beq_eq_false_iff_ne]; exact HM.out.2 k k0 (by omega)
        go_wp2
        go_round
        case rel => exact ⟨k + 1, by omega, by omega, rfl⟩
        case measure => simp [intOf]; omega
end Go.Proofs.Ytcoimnajoihlnaa
