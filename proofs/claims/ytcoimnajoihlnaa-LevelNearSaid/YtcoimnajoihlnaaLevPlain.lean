/- The plain law of spots: no program in sight. -/
import Derived.Test.YtcoimnajoihlnaaLevPlace
namespace Go.Proofs.Ytcoimnajoihlnaa
set_option linter.unusedVariables false

theorem lvl_dist {d : Int} {n : Int} (h : lvl d = n) (hd : d ≤ 132120575) : d < 63 * gr n := by
  have h9 := nine d
  rcases h9 with x | x | x | x | x | x | x | x | x
  all_goals first
    | (exfalso; omega)
    | (obtain ⟨x1, x2, _⟩ := x; rw [x2] at h; subst h; show d < 63 * 1; omega)
    | (obtain ⟨_, x1, x2, _⟩ := x; rw [x2] at h; subst h; first | (show d < 63 * 8; omega) | (show d < 63 * 64; omega) | (show d < 63 * 512; omega) | (show d < 63 * 4096; omega) | (show d < 63 * 32768; omega) | (show d < 63 * 262144; omega) | (show d < 63 * 2097152; omega))

/-- due no sooner, and later by less than a granularity -/
theorem near_fine {c n : Int} (c0 : 0 ≤ c) (c1 : c ≤ 18446744073709551615) (n0 : 0 ≤ n) (n1 : n ≤ 7) :
    c ≤ tickV (numV c (gr n)) (gr n) ∧ tickV (numV c (gr n)) (gr n) - c < gr n ∧ tickV (numV c (gr n)) (gr n) ≤ 18446744073709551615 := by
  rcases eight n0 n1 with rfl | rfl | rfl | rfl | rfl | rfl | rfl | rfl
  · rw [show gr 0 = 1 from rfl]; unfold tickV numV; repeat' split <;> omega
  · rw [show gr 1 = 8 from rfl]; unfold tickV numV; repeat' split <;> omega
  · rw [show gr 2 = 64 from rfl]; unfold tickV numV; repeat' split <;> omega
  · rw [show gr 3 = 512 from rfl]; unfold tickV numV; repeat' split <;> omega
  · rw [show gr 4 = 4096 from rfl]; unfold tickV numV; repeat' split <;> omega
  · rw [show gr 5 = 32768 from rfl]; unfold tickV numV; repeat' split <;> omega
  · rw [show gr 6 = 262144 from rfl]; unfold tickV numV; repeat' split <;> omega
  · rw [show gr 7 = 2097152 from rfl]; unfold tickV numV; repeat' split <;> omega

/-- whoever looks at the slot ahead of its being due finds when it is due -/
theorem meets_g (g : Int) (hg : g = 1 ∨ g = 8 ∨ g = 64 ∨ g = 512 ∨ g = 4096 ∨ g = 32768 ∨ g = 262144 ∨ g = 2097152) {a c f : Int} (a0 : 0 ≤ a) (hc : a + 1 ≤ c) (c1 : c ≤ 18446744073709551615) (hd : c - a < 63 * g)
    (hf : a ≤ f) (hfd : f < tickV (numV c g) g) : timeV f g (numV c g % 64) = tickV (numV c g) g := by
  have key : 1 ≤ numV c g - f / g ∧ numV c g - f / g ≤ 64 := by
    rcases hg with rfl | rfl | rfl | rfl | rfl | rfl | rfl | rfl
    all_goals (revert hfd; unfold tickV numV; (repeat' split) <;> intro hfd <;> omega)
  have hm : moreV f g (numV c g % 64) = numV c g - f / g := by
    unfold moreV
    split <;> omega
  unfold timeV
  rw [hm, show f / g + (numV c g - f / g) = numV c g by omega]
  have hn : numV c g ≤ 18446744073709551615 := by
    rcases hg with rfl | rfl | rfl | rfl | rfl | rfl | rfl | rfl
    all_goals (unfold numV; split <;> omega)
  rw [if_neg (by omega)]

/-- deadlines of one level that meet in a slot are due at one tick -/
theorem apart_g (g : Int) (hg : g = 1 ∨ g = 8 ∨ g = 64 ∨ g = 512 ∨ g = 4096 ∨ g = 32768 ∨ g = 262144 ∨ g = 2097152) {a c f c' : Int} (a0 : 0 ≤ a) (hc : a + 1 ≤ c) (c1 : c ≤ 18446744073709551615) (hd : c - a < 63 * g)
    (hf : a ≤ f) (hfd : f < tickV (numV c g) g) (hc' : f + 1 ≤ c') (c1' : c' ≤ 18446744073709551615) (hd' : c' - f < 63 * g) (hs : numV c g % 64 = numV c' g % 64) : numV c g = numV c' g := by
  have key : 1 ≤ numV c g - f / g ∧ numV c g - f / g ≤ 64 := by
    rcases hg with rfl | rfl | rfl | rfl | rfl | rfl | rfl | rfl
    all_goals (revert hfd; unfold tickV numV; (repeat' split) <;> intro hfd <;> omega)
  have key' : 1 ≤ numV c' g - f / g ∧ numV c' g - f / g ≤ 64 := by
    clear hs key hfd
    rcases hg with rfl | rfl | rfl | rfl | rfl | rfl | rfl | rfl
    all_goals (unfold numV; split <;> omega)
  omega
theorem gr_is {n : Int} (n0 : 0 ≤ n) (n1 : n ≤ 7) : gr n = 1 ∨ gr n = 8 ∨ gr n = 64 ∨ gr n = 512 ∨ gr n = 4096 ∨ gr n = 32768 ∨ gr n = 262144 ∨ gr n = 2097152 := by
  rcases eight n0 n1 with rfl | rfl | rfl | rfl | rfl | rfl | rfl | rfl
  all_goals decide
end Go.Proofs.Ytcoimnajoihlnaa
