/- The law BucketsNil, walked. -/
import Derived.Test.YtkkaogdcodmpcaaKno
namespace Go.Proofs.Ytkkaogdcodmpcaa
open Go.RowKit
set_option linter.unusedVariables false

theorem words_len {w : World} {base : Nat} {v : Value} {l : List Int} (h : w.ownsRow base 29 1 v l.length (l.map (Value.int .u64))) : ∃ a cap, v = .slice a l.length cap := by
  rcases words_cells h with ⟨rfl, rfl⟩ | ⟨g, cap, rfl, _⟩
  · exact ⟨_, _, rfl⟩
  · exact ⟨_, _, rfl⟩
set_option maxHeartbeats 2000000 in
theorem IdelNil (k : Int) (kb : Nat) (w : World) (hc : w.cell? ⟨kb, 0, none⟩ = some (.int .u64 k)) : Calls Try.prog 16 #[.pointer none, .slice (some ⟨kb, 0, none⟩) 1 1] w fun e w' => e = .returned (.int .i64 0) ∧ Below w.heap.size w w' := by
  go_enter Try.func16, Try.ntmps16
  go_wp2_with fail
  go_loopw [5, 12] (fun n i wr => ∃ j : Nat, j ≤ 1 ∧ i = .int .i64 j ∧ n = .int .i64 0 ∧ Hid (Below w.heap.size w wr)) (fun _ i _ => 1 - (intOf i).toNat)
  case atStart => exact ⟨0, by omega, rfl, rfl, Lib.hid (Below.refl _ _)⟩
  case round =>
    obtain ⟨j, hj, rfl, rfl, HB⟩ := hrel
    by_cases hlt : j < 1
    · obtain rfl : j = 0 := by omega
      have c1 := (HB.out.cell (p := ⟨kb, 0, none⟩) (w.block_lt_of_cell? _ hc)).trans hc
      go_wp2_with fail
      refine (IfindNil k wr).mono ?_
      rintro e w1 ⟨rfl, b1⟩
      have B1 := Lib.hid (HB.out.trans (b1.mono HB.out.size))
      clear b1 c1
      go_wp2_with fail
      go_roundw
      case rel => exact ⟨1, by omega, by go_num, rfl, B1⟩
      case measure => simp [intOf]
    · obtain rfl : j = 1 := by omega
      go_wp2_with fail
      go_ret
      exact ⟨rfl, HB.out⟩
set_option maxRecDepth 100000 in
set_option maxHeartbeats 4000000 in
theorem walk_BucketsNil (k n : Int) (w : World) : Calls Try.prog 6 #[.int .u64 k, .int .i64 n] w fun e w' => e = .returned (.bool true) ∧ Below w.heap.size w w' := by
  go_enter Try.func6, Try.ntmps6
  go_wp2_with fail
  refine (IputNil k n w).mono ?_
  rintro e w' ⟨rfl, rfl⟩
  go_wp2_with fail
  refine (IgetNil k w).mono ?_
  rintro e w1 ⟨rfl, b1⟩
  have B1 := Lib.hid b1
  clear b1
  go_wp2_with fail
  refine (known w1).mono ?_
  rintro e w2 ⟨rfl, b2⟩
  have B2 := Lib.hid (B1.out.trans (b2.mono B1.out.size))
  clear b2
  go_wp2_with fail
  refine (IdelNil k w2.heap.size _ (by simp)).mono ?_
  rintro e w3 ⟨rfl, b3⟩
  have B3 := Lib.hid ((B2.out.alloc B2.out.size _).trans (b3.mono (Nat.le_trans B2.out.size (by simp))))
  clear b3
  go_wp2_with fail
  refine (IbucketNil k w3).mono ?_
  rintro e w' ⟨rfl, rfl⟩
  go_wp2_with fail
  refine (IchainNil n w3).mono ?_
  rintro e w4 ⟨v4, rfl, hv4, b4⟩
  obtain ⟨a4, c4, rfl⟩ := words_len hv4
  have B4 := Lib.hid (B3.out.trans (b4.mono B3.out.size))
  clear b4 hv4
  go_wp2_with fail
  refine (IkeysNil w4).mono ?_
  rintro e w' ⟨rfl, rfl⟩
  go_wp2_with fail
  refine (IlenNil w4).mono ?_
  rintro e w' ⟨rfl, rfl⟩
  go_wp2_with fail
  go_ret
  exact ⟨rfl, B4.out⟩
end Go.Proofs.Ytkkaogdcodmpcaa
