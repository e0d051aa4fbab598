/- The functions of package level and of its reference on numbers alone, each by a contract. -/
import Derived.Test.YtcoimnajoihlnaaClock
import Derived.OpenShut
import Derived.WalkMore
namespace Go.Proofs.Ytcoimnajoihlnaa
open Go.RowKit
set_option linter.unusedVariables false

/-- a level's granularity -/
def gr (n : Int) : Int := if n = 0 then 1 else if n = 1 then 8 else if n = 2 then 64 else if n = 3 then 512 else if n = 4 then 4096 else if n = 5 then 32768 else if n = 6 then 262144 else if n = 7 then 2097152 else 0
theorem gr_no {n : Int} (h : n < 0 ∨ 7 < n) : gr n = 0 := by unfold gr; repeat (rw [if_neg (by omega)])
theorem eight {n : Int} (h0 : 0 ≤ n) (h1 : n ≤ 7) : n = 0 ∨ n = 1 ∨ n = 2 ∨ n = 3 ∨ n = 4 ∨ n = 5 ∨ n = 6 ∨ n = 7 := by omega

/-- a distance's level, and whether there is one -/
def lvl (d : Int) : Int := if d < 63 then 0 else if d < 504 then 1 else if d < 4032 then 2 else if d < 32256 then 3 else if d < 258048 then 4 else if d < 2064384 then 5 else if d < 16515072 then 6 else if d < 132120576 then 7 else 0
def lvlIs (d : Int) : Bool := decide (d < 132120576)

theorem nine (d : Int) : (d < 63 ∧ lvl d = 0 ∧ lvlIs d = true) ∨ (63 ≤ d ∧ d < 504 ∧ lvl d = 1 ∧ lvlIs d = true) ∨ (504 ≤ d ∧ d < 4032 ∧ lvl d = 2 ∧ lvlIs d = true) ∨ (4032 ≤ d ∧ d < 32256 ∧ lvl d = 3 ∧ lvlIs d = true) ∨
    (32256 ≤ d ∧ d < 258048 ∧ lvl d = 4 ∧ lvlIs d = true) ∨ (258048 ≤ d ∧ d < 2064384 ∧ lvl d = 5 ∧ lvlIs d = true) ∨ (2064384 ≤ d ∧ d < 16515072 ∧ lvl d = 6 ∧ lvlIs d = true) ∨ (16515072 ≤ d ∧ d < 132120576 ∧ lvl d = 7 ∧ lvlIs d = true) ∨ (132120576 ≤ d ∧ lvl d = 0 ∧ lvlIs d = false) := by
  unfold lvl lvlIs
  simp only [decide_eq_true_eq, decide_eq_false_iff_not]
  repeat' split
  all_goals omega

theorem levBits (n : Int) (w : World) (h0 : 0 ≤ n) (h1 : n ≤ 7) : Calls Try.prog 42 #[.int .i64 n] w fun e w' => e = .returned (.int .u64 (n * 3)) ∧ w = w' := by
  go_enter Try.func42, Try.ntmps42
  go_wp2
  go_ret
  exact ⟨rfl, rfl⟩

theorem levGran (n : Int) (w : World) : Calls Try.prog 32 #[.int .i64 n] w fun e w' => e = .returned (.int .u64 (gr n)) ∧ w = w' := by
  by_cases h : n < 0 ∨ 7 < n
  · rw [gr_no h]
    rcases h with h | h
    · go_enter Try.func32, Try.ntmps32
      go_wp2
      go_ret
      exact ⟨rfl, rfl⟩
    · have hd : decide (n < 8) = false := decide_eq_false (by omega)
      go_enter Try.func32, Try.ntmps32
      go_wp2
      go_ret
      exact ⟨rfl, rfl⟩
  · rcases eight (n := n) (by omega) (by omega) with rfl | rfl | rfl | rfl | rfl | rfl | rfl | rfl
    all_goals
      go_enter Try.func32, Try.ntmps32
      go_wp2
      go_ret
      exact ⟨rfl, rfl⟩

theorem refGran (n : Int) (w : World) : Calls Try.prog 33 #[.int .i64 n] w fun e w' => e = .returned (.int .u64 (gr n)) ∧ w = w' := by
  by_cases h : n < 0 ∨ 7 < n
  · rw [gr_no h]
    rcases h with h | h
    · go_enter Try.func33, Try.ntmps33
      go_wp2
      go_ret
      exact ⟨rfl, rfl⟩
    · have hd : decide (n < 0) = false := decide_eq_false (by omega)
      go_enter Try.func33, Try.ntmps33
      go_wp2
      go_ret
      exact ⟨rfl, rfl⟩
  · rcases eight (n := n) (by omega) (by omega) with rfl | rfl | rfl | rfl | rfl | rfl | rfl | rfl
    all_goals
      go_enter Try.func33, Try.ntmps33
      go_wp2
      go_rounds 9
      go_ret
      exact ⟨rfl, rfl⟩

set_option maxHeartbeats 1600000 in
theorem levOf (d : Int) (w : World) (h0 : 0 ≤ d) (h1 : d ≤ 18446744073709551615) : Calls Try.prog 29 #[.int .u64 d] w fun e w' => e = .returned (.tuple #[.int .i64 (lvl d), .bool (lvlIs d)]) ∧ w = w' := by
  rcases nine d with ⟨a, b, c⟩ | ⟨a, a', b, c⟩ | ⟨a, a', b, c⟩ | ⟨a, a', b, c⟩ | ⟨a, a', b, c⟩ | ⟨a, a', b, c⟩ | ⟨a, a', b, c⟩ | ⟨a, a', b, c⟩ | ⟨a, b, c⟩
  all_goals
    rw [b, c]
    clear b c
    go_enter Try.func29, Try.ntmps29
    go_wp2
    go_step3
    go_wp2
    go_step3
    go_wp2
    go_rounds 9
    rw [Exit.noGoto_ret]
    go_ret2
    exact ⟨rfl, rfl⟩

set_option maxHeartbeats 1600000 in
theorem refOf (d : Int) (w : World) (h0 : 0 ≤ d) (h1 : d ≤ 18446744073709551615) : Calls Try.prog 30 #[.int .u64 d] w fun e w' => e = .returned (.tuple #[.int .i64 (lvl d), .bool (lvlIs d)]) ∧ w = w' := by
  rcases nine d with ⟨a, b, c⟩ | ⟨a, a', b, c⟩ | ⟨a, a', b, c⟩ | ⟨a, a', b, c⟩ | ⟨a, a', b, c⟩ | ⟨a, a', b, c⟩ | ⟨a, a', b, c⟩ | ⟨a, a', b, c⟩ | ⟨a, b, c⟩
  all_goals
    rw [b, c]
    clear b c
    have g0 : gr 0 = 1 := rfl
    have g1 : gr 1 = 8 := rfl
    have g2 : gr 2 = 64 := rfl
    have g3 : gr 3 = 512 := rfl
    have g4 : gr 4 = 4096 := rfl
    have g5 : gr 5 = 32768 := rfl
    have g6 : gr 6 = 262144 := rfl
    have g7 : gr 7 = 2097152 := rfl
    go_enter Try.func30, Try.ntmps30
    go_wp2
    refine wp_loop_rounds 9 ?_
    repeat any_goals (rw [rounds_succ]; go_wp2_with (go_at_call 33; refine (refGran _ _).mono ?_; rintro e w' ⟨rfl, rfl⟩))
    go_ret2
    exact ⟨rfl, rfl⟩

end Go.Proofs.Ytcoimnajoihlnaa
