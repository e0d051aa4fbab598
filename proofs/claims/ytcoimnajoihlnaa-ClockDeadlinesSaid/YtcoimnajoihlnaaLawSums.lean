/- The laws ClockDeadlines and ClockSums, walked: they return true at every three words, and change no memory. -/
import Derived.Test.YtcoimnajoihlnaaClock
import Derived.OpenShut
namespace Go.Proofs.Ytcoimnajoihlnaa
open Go.RowKit
set_option linter.unusedVariables false

theorem word_bd {a : Int} (h : (Lit.int .u64 a).wf = true) : 0 ≤ a ∧ a ≤ 18446744073709551615 := bounds_u64 h

theorem due_fine (a b : Int) (s : Bool) (hb : 0 ≤ b) (h : dueB a b s = false) : a ≤ dueV a b s ∧ dueV a b s < 18446744073709551615 ∧ dueE a b s = 0 := by
  have h' := h
  unfold dueB at h'
  simp only [Bool.or_eq_false_iff, decide_eq_false_iff_not] at h'
  obtain ⟨h1, h2⟩ := h'
  cases s
  · simp at h2
    rw [(due_sum a b h).1, (due_sum a b h).2]; omega
  · simp at h2
    by_cases c : b < a
    · rw [(due_abs_lo a b h c).1, (due_abs_lo a b h c).2]; omega
    · rw [(due_abs_hi a b h c).1, (due_abs_hi a b h c).2]; omega

theorem walk_ClockDeadlines (a b : Int) (s : Bool) (w : World) (ha : 0 ≤ a) (ha' : a ≤ 18446744073709551615) (hb : 0 ≤ b) (hb' : b ≤ 18446744073709551615) :
    Calls Try.prog 3 #[.int .u64 a, .int .u64 b, .bool s] w fun e w' => e = .returned (.bool true) ∧ w = w' := by
  cases hd : dueB a b s
  · obtain ⟨f1, f2, f3⟩ := due_fine a b s hb hd
    have g1 : (dueV a b s != 18446744073709551615) = true := by rw [bne_iff_ne]; omega
    clear hd
    go_enter Try.func3, Try.ntmps3
    go_wp2_with (first
      | (go_at_call 15; refine (clkDeadline a b s _ ha ha' hb hb').mono ?_; rintro e w' ⟨rfl, rfl⟩)
      | (go_at_call 16; refine (refDeadline a b s _ ha ha' hb hb').mono ?_; rintro e w' ⟨rfl, rfl⟩)
      | (go_at_call 17; refine (clkKnown _).mono ?_; rintro e w' ⟨rfl, rfl⟩))
    go_ret
    exact ⟨rfl, rfl⟩
  · obtain ⟨f1, f2⟩ := due_last a b s hd
    clear hd
    go_enter Try.func3, Try.ntmps3
    go_wp2_with (first
      | (go_at_call 15; refine (clkDeadline a b s _ ha ha' hb hb').mono ?_; rintro e w' ⟨rfl, rfl⟩)
      | (go_at_call 16; refine (refDeadline a b s _ ha ha' hb hb').mono ?_; rintro e w' ⟨rfl, rfl⟩)
      | (go_at_call 17; refine (clkKnown _).mono ?_; rintro e w' ⟨rfl, rfl⟩))
    go_ret
    exact ⟨rfl, rfl⟩

theorem walk_ClockSums (a b h : Int) (w : World) (ha : 0 ≤ a) (ha' : a ≤ 18446744073709551615) (hb : 0 ≤ b) (hb' : b ≤ 18446744073709551615) (hh : 0 ≤ h) (hh' : h ≤ 18446744073709551615) :
    Calls Try.prog 4 #[.int .u64 a, .int .u64 b, .int .u64 h] w fun e w' => e = .returned (.bool true) ∧ w = w' := by
  go_enter Try.func4, Try.ntmps4
  go_wp2_with (first
    | (go_at_call 18; refine (clkAdd a b _ ha ha' hb hb').mono ?_; rintro e w' ⟨rfl, rfl⟩)
    | (go_at_call 19; refine (refAdd a b _ ha ha' hb hb').mono ?_; rintro e w' ⟨rfl, rfl⟩)
    | (go_at_call 20; refine (clkLeft a b _ ha ha' hb hb').mono ?_; rintro e w' ⟨rfl, rfl⟩)
    | (go_at_call 21; refine (refLeft a b _ ha ha' hb hb').mono ?_; rintro e w' ⟨rfl, rfl⟩)
    | (go_at_call 22; refine (clkClamp a b h _ ha ha' hb hb' hh hh').mono ?_; rintro e w' ⟨rfl, rfl⟩)
    | (go_at_call 23; refine (refClamp a b h _ ha ha' hb hb' hh hh').mono ?_; rintro e w' ⟨rfl, rfl⟩)
    | (go_at_call 17; refine (clkKnown _).mono ?_; rintro e w' ⟨rfl, rfl⟩))
  go_ret
  exact ⟨rfl, rfl⟩
end Go.Proofs.Ytcoimnajoihlnaa
