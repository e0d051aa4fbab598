/- A spot in memory, what is known of it, and the laws at the last tick. -/
import Derived.Test.YtcoimnajoihlnaaLevLaw
import Derived.Test.YtcoimnajoihlnaaLevPlain
namespace Go.Proofs.Ytcoimnajoihlnaa
open Go.RowKit
set_option linter.unusedVariables false

/-- block B is a spot -/
def IsSpot (w : World) (B : Nat) (n s c d : Int) : Prop := w.heap[B]? = some (.cells #[.int .i64 n, .int .i64 s, .int .u64 c, .int .u64 d] 49 (0, 0))
theorem IsSpot.x0 {w : World} {B : Nat} {n s c d : Int} (h : IsSpot w B n s c d) : w.cell? ⟨B, 0, none⟩ = some (.int .i64 n) := by unfold IsSpot at h; simp [World.cell?, h]
theorem IsSpot.x1 {w : World} {B : Nat} {n s c d : Int} (h : IsSpot w B n s c d) : w.cell? ⟨B, 1, none⟩ = some (.int .i64 s) := by unfold IsSpot at h; simp [World.cell?, h]
theorem IsSpot.x2 {w : World} {B : Nat} {n s c d : Int} (h : IsSpot w B n s c d) : w.cell? ⟨B, 2, none⟩ = some (.int .u64 c) := by unfold IsSpot at h; simp [World.cell?, h]
theorem IsSpot.x3 {w : World} {B : Nat} {n s c d : Int} (h : IsSpot w B n s c d) : w.cell? ⟨B, 3, none⟩ = some (.int .u64 d) := by unfold IsSpot at h; simp [World.cell?, h]
theorem IsSpot.kept {w w' : World} {B k : Nat} {n s c d : Int} (h : IsSpot w B n s c d) (b : Below k w w') (hk : B < k) : IsSpot w' B n s c d := (b.block B hk).trans h
theorem isSpot_new (w : World) (n s c d : Int) : IsSpot (w.alloc (.cells #[.int .i64 n, .int .i64 s, .int .u64 c, .int .u64 d] 49)) w.heap.size n s c d := heap_alloc_new w _
theorem spot_facts {a b : Int} (a0 : 0 ≤ a) (a1 : a < 18446744073709551615) (b0 : 0 ≤ b) (b1 : b ≤ 18446744073709551615) : ∃ n s c d, spotVal a b = #[.int .i64 n, .int .i64 s, .int .u64 c, .int .u64 d] ∧
    0 ≤ n ∧ n ≤ 7 ∧ 0 ≤ s ∧ s ≤ 63 ∧ a + 1 ≤ c ∧ c ≤ d ∧ d ≤ 18446744073709551615 ∧ d - c < gr n ∧ c - a < 63 * gr n ∧ s = numV c (gr n) % 64 ∧ d = tickV (numV c (gr n)) (gr n) ∧
    (b ≤ a → c = a + 1) ∧ (a + 132120575 < b → c = a + 132120575) ∧ (a < b → b ≤ a + 132120575 → c = b) := by
  have hb := atV_bd a0 a1 b0
  have hl := lvP_bd a0 a1 b0
  have hn := near_fine (c := atV a b) (by omega) hb.2.1 hl.1 hl.2.1
  have hd := lvl_dist (d := atV a b - a) (n := lvP a b) rfl hb.2.2
  have hi := atV_is a0 a1 b0 b1
  exact ⟨_, _, _, _, rfl, hl.1, hl.2.1, by omega, by omega, hb.1, hn.1, hn.2.2, hn.2.1, hd, rfl, rfl, hi.1, hi.2.1, hi.2.2⟩

theorem near_end (b : Int) (w : World) : Calls Try.prog 11 #[.int .u64 18446744073709551615, .int .u64 b] w fun e w' => e = .returned (.bool true) ∧ Below w.heap.size w w' := by
  go_enter Try.func11, Try.ntmps11
  go_wp2_with fail
  refine (levPlaceEnd b _).mono ?_; rintro e w1 ⟨rfl, hb1⟩
  have HB1 := Lib.hid hb1
  clear hb1
  go_wp2_with fail
  refine (levKnown _).mono ?_; rintro e w2 ⟨rfl, hb2⟩
  have HB2 := Lib.hid ((HB1.out.alloc HB1.out.size _).trans (hb2.mono (by have := HB1.out.size; simp; omega)))
  clear hb2
  go_wp2_with fail
  go_ret
  exact ⟨rfl, HB2.out⟩
theorem meets_end (b y : Int) (w : World) : Calls Try.prog 12 #[.int .u64 18446744073709551615, .int .u64 b, .int .u64 y] w fun e w' => e = .returned (.bool true) ∧ Below w.heap.size w w' := by
  go_enter Try.func12, Try.ntmps12
  go_wp2_with fail
  refine (levPlaceEnd b _).mono ?_; rintro e w1 ⟨rfl, hb1⟩
  have HB1 := Lib.hid hb1
  clear hb1
  go_wp2_with fail
  refine (levKnown _).mono ?_; rintro e w2 ⟨rfl, hb2⟩
  have HB2 := Lib.hid ((HB1.out.alloc HB1.out.size _).trans (hb2.mono (by have := HB1.out.size; simp; omega)))
  clear hb2
  go_wp2_with fail
  go_ret
  exact ⟨rfl, HB2.out⟩
theorem apart_end (b y z : Int) (w : World) : Calls Try.prog 13 #[.int .u64 18446744073709551615, .int .u64 b, .int .u64 y, .int .u64 z] w fun e w' => e = .returned (.bool true) ∧ Below w.heap.size w w' := by
  go_enter Try.func13, Try.ntmps13
  go_wp2_with fail
  refine (levPlaceEnd b _).mono ?_; rintro e w1 ⟨rfl, hb1⟩
  have HB1 := Lib.hid hb1
  clear hb1
  go_wp2_with fail
  refine (levKnown _).mono ?_; rintro e w2 ⟨rfl, hb2⟩
  have HB2 := Lib.hid ((HB1.out.alloc HB1.out.size _).trans (hb2.mono (by have := HB1.out.size; simp; omega)))
  clear hb2
  go_wp2_with fail
  go_ret
  exact ⟨rfl, HB2.out⟩
end Go.Proofs.Ytcoimnajoihlnaa
