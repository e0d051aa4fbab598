/- Buckets: all keys, how many; a new table. (ByteArray) -/
import Derived.Test.YtkkaogdcodmpcaaFdS
import Derived.Test.YtkkaogdcodmpcaaApp
namespace Go.Proofs.Ytkkaogdcodmpcaa
open Go.RowKit
set_option linter.unusedVariables false

set_option maxHeartbeats 2000000 in
theorem Snew (n r : Int) (w : World) (h1 : 1 ≤ n) (h2 : n ≤ 64) (h3 : 1 ≤ r) (h4 : r ≤ 64) :
    Calls Try.prog 7 #[.int .i64 n, .int .i64 r] w fun e w' => ∃ T G ch, e = .returned (.tuple #[.pointer (some ⟨T, 0, none⟩), .int .i64 0]) ∧ Below w.heap.size w w' ∧ Tab Value.string 73 75 76 w' T G n.toNat r.toNat [] ch ∧ (∀ k, Mine T G n.toNat ch k → w.heap.size ≤ k) := by
  obtain ⟨nb, rfl⟩ := Int.eq_ofNat_of_zero_le (show 0 ≤ n by omega)
  obtain ⟨room, rfl⟩ := Int.eq_ofNat_of_zero_le (show 0 ≤ r by omega)
  rw [Int.toNat_natCast, Int.toNat_natCast]
  have hmk := fun w => run_make_row' (P := Try.prog) 71 76 (.slice none 0 0) 24 Try.underlying71 info76 rfl .i64 .i64 nb (by omega) (by omega) w
  have hd : (nb : Int) ≤ 64 := h2
  go_enter Try.func7, Try.ntmps7
  go_wp2_with fail
  exact bodyPost_ret (v := .tuple #[.pointer (some ⟨w.heap.size + 1, 0, none⟩), .int .i64 0]) (by simp [results, Try.results7, go_sem]) rfl
    ⟨w.heap.size + 1, w.heap.size, fun _ => .slice none 0 0, rfl, by go_grown, tab_new h1 hd h3 h4, fun k => mine_new nb _ k⟩
theorem SnewBad (n r : Int) (w : World) (h : n < 1 ∨ 64 < n ∨ r < 1 ∨ 64 < r) : Calls Try.prog 7 #[.int .i64 n, .int .i64 r] w fun e w' => e = .returned (.tuple #[.pointer none, .int .i64 2]) ∧ w = w' := by
  by_cases h1 : n < 1
  · have d1 : decide (n < 1) = true := decide_eq_true h1
    go_enter Try.func7, Try.ntmps7
    go_wp2
    go_ret2
    exact ⟨rfl, rfl⟩
  · have d1 : decide (n < 1) = false := decide_eq_false h1
    by_cases h2 : 64 < n
    · have d2 : decide (64 < n) = true := decide_eq_true h2
      go_enter Try.func7, Try.ntmps7
      go_wp2
      go_ret2
      exact ⟨rfl, rfl⟩
    · have d2 : decide (64 < n) = false := decide_eq_false h2
      by_cases h3 : r < 1
      · have d3 : decide (r < 1) = true := decide_eq_true h3
        go_enter Try.func7, Try.ntmps7
        go_wp2
        go_ret2
        exact ⟨rfl, rfl⟩
      · have d3 : decide (r < 1) = false := decide_eq_false h3
        have h4 : 64 < r := by omega
        have d4 : decide (64 < r) = true := decide_eq_true h4
        go_enter Try.func7, Try.ntmps7
        go_wp2
        go_ret2
        exact ⟨rfl, rfl⟩

end Go.Proofs.Ytkkaogdcodmpcaa
