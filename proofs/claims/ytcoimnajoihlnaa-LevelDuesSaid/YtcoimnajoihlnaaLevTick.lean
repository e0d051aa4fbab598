/- A multiple's tick, cut: both texts by one contract. -/
import Derived.Test.YtcoimnajoihlnaaLev
namespace Go.Proofs.Ytcoimnajoihlnaa
open Go.RowKit
set_option linter.unusedVariables false

/-- a multiple's tick, cut -/
def tickV (x g : Int) : Int := if 18446744073709551615 / g < x then 18446744073709551615 else x * g
theorem tickV_cut {x g : Int} (h : 18446744073709551615 / g < x) : tickV x g = 18446744073709551615 := by unfold tickV; rw [if_pos h]
theorem tickV_mul {x g : Int} (h : ¬ 18446744073709551615 / g < x) : tickV x g = x * g := by unfold tickV; rw [if_neg h]

set_option maxHeartbeats 1600000 in
theorem levTick (x n : Int) (w : World) (h0 : 0 ≤ x) (h1 : x ≤ 18446744073709551615) (n0 : 0 ≤ n) (n1 : n ≤ 7) : Calls Try.prog 44 #[.int .u64 x, .int .i64 n] w fun e w' => e = .returned (.int .u64 (tickV x (gr n))) ∧ w = w' := by
  rcases eight n0 n1 with rfl | rfl | rfl | rfl | rfl | rfl | rfl | rfl
  · by_cases h : (18446744073709551615 : Int) < x
    · omega
    · rw [tickV_mul (by show ¬ (18446744073709551615 / 1 : Int) < x; omega)]
      go_enter Try.func44, Try.ntmps44
      go_wp2
      go_ret
      exact ⟨ret_u (by show _ = x * 1; omega), rfl⟩
  · by_cases h : (2305843009213693951 : Int) < x
    · rw [tickV_cut (by show (18446744073709551615 / 8 : Int) < x; omega)]
      go_enter Try.func44, Try.ntmps44
      go_wp2
      go_ret
      exact ⟨rfl, rfl⟩
    · rw [tickV_mul (by show ¬ (18446744073709551615 / 8 : Int) < x; omega)]
      go_enter Try.func44, Try.ntmps44
      go_wp2
      go_ret
      exact ⟨ret_u (by show _ = x * 8; omega), rfl⟩
  · by_cases h : (288230376151711743 : Int) < x
    · rw [tickV_cut (by show (18446744073709551615 / 64 : Int) < x; omega)]
      go_enter Try.func44, Try.ntmps44
      go_wp2
      go_ret
      exact ⟨rfl, rfl⟩
    · rw [tickV_mul (by show ¬ (18446744073709551615 / 64 : Int) < x; omega)]
      go_enter Try.func44, Try.ntmps44
      go_wp2
      go_ret
      exact ⟨ret_u (by show _ = x * 64; omega), rfl⟩
  · by_cases h : (36028797018963967 : Int) < x
    · rw [tickV_cut (by show (18446744073709551615 / 512 : Int) < x; omega)]
      go_enter Try.func44, Try.ntmps44
      go_wp2
      go_ret
      exact ⟨rfl, rfl⟩
    · rw [tickV_mul (by show ¬ (18446744073709551615 / 512 : Int) < x; omega)]
      go_enter Try.func44, Try.ntmps44
      go_wp2
      go_ret
      exact ⟨ret_u (by show _ = x * 512; omega), rfl⟩
  · by_cases h : (4503599627370495 : Int) < x
    · rw [tickV_cut (by show (18446744073709551615 / 4096 : Int) < x; omega)]
      go_enter Try.func44, Try.ntmps44
      go_wp2
      go_ret
      exact ⟨rfl, rfl⟩
    · rw [tickV_mul (by show ¬ (18446744073709551615 / 4096 : Int) < x; omega)]
      go_enter Try.func44, Try.ntmps44
      go_wp2
      go_ret
      exact ⟨ret_u (by show _ = x * 4096; omega), rfl⟩
  · by_cases h : (562949953421311 : Int) < x
    · rw [tickV_cut (by show (18446744073709551615 / 32768 : Int) < x; omega)]
      go_enter Try.func44, Try.ntmps44
      go_wp2
      go_ret
      exact ⟨rfl, rfl⟩
    · rw [tickV_mul (by show ¬ (18446744073709551615 / 32768 : Int) < x; omega)]
      go_enter Try.func44, Try.ntmps44
      go_wp2
      go_ret
      exact ⟨ret_u (by show _ = x * 32768; omega), rfl⟩
  · by_cases h : (70368744177663 : Int) < x
    · rw [tickV_cut (by show (18446744073709551615 / 262144 : Int) < x; omega)]
      go_enter Try.func44, Try.ntmps44
      go_wp2
      go_ret
      exact ⟨rfl, rfl⟩
    · rw [tickV_mul (by show ¬ (18446744073709551615 / 262144 : Int) < x; omega)]
      go_enter Try.func44, Try.ntmps44
      go_wp2
      go_ret
      exact ⟨ret_u (by show _ = x * 262144; omega), rfl⟩
  · by_cases h : (8796093022207 : Int) < x
    · rw [tickV_cut (by show (18446744073709551615 / 2097152 : Int) < x; omega)]
      go_enter Try.func44, Try.ntmps44
      go_wp2
      go_ret
      exact ⟨rfl, rfl⟩
    · rw [tickV_mul (by show ¬ (18446744073709551615 / 2097152 : Int) < x; omega)]
      go_enter Try.func44, Try.ntmps44
      go_wp2
      go_ret
      exact ⟨ret_u (by show _ = x * 2097152; omega), rfl⟩

theorem refTick (x g : Int) (w : World) (h0 : 0 ≤ x) (h1 : x ≤ 18446744073709551615) (g0 : 1 ≤ g) (g1 : g ≤ 2097152) : Calls Try.prog 45 #[.int .u64 x, .int .u64 g] w fun e w' => e = .returned (.int .u64 (tickV x g)) ∧ w = w' := by
  have hq : 0 ≤ 18446744073709551615 / g ∧ 18446744073709551615 / g ≤ 18446744073709551615 := ⟨Int.ediv_nonneg (by omega) (by omega), Int.ediv_le_self _ (by omega)⟩
  by_cases h : 18446744073709551615 / g < x
  · rw [tickV_cut h]
    go_enter Try.func45, Try.ntmps45
    go_wp2
    go_ret
    exact ⟨rfl, rfl⟩
  · rw [tickV_mul h]
    have hm : x * g ≤ 18446744073709551615 := by
      have h2 : x * g ≤ (18446744073709551615 / g) * g := Int.mul_le_mul_of_nonneg_right (by omega) (by omega)
      have h3 := Int.ediv_mul_le 18446744073709551615 (show g ≠ 0 by omega)
      omega
    have hm0 : 0 ≤ x * g := Int.mul_nonneg h0 (by omega)
    go_enter Try.func45, Try.ntmps45
    go_wp2
    go_ret
    exact ⟨rfl, rfl⟩
end Go.Proofs.Ytcoimnajoihlnaa
