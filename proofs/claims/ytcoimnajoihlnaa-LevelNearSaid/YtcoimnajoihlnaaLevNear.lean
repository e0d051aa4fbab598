/- The law LevelNear, walked. -/
import Derived.Test.YtcoimnajoihlnaaLevSpot
namespace Go.Proofs.Ytcoimnajoihlnaa
open Go.RowKit
set_option linter.unusedVariables false

set_option maxHeartbeats 3200000 in
theorem near_lo (a b : Int) (w : World) (a0 : 0 ≤ a) (a1 : a < 18446744073709551615) (b0 : 0 ≤ b) (b1 : b ≤ 18446744073709551615) (hba : b ≤ a) : Calls Try.prog 11 #[.int .u64 a, .int .u64 b] w fun e w' => e = .returned (.bool true) ∧ Below w.heap.size w w' := by
  obtain ⟨n, s, c, d, hs, n0, n1, s0, s1, hc, hcd, hd, hdg, hcg, q1, q2, e1, e2, e3⟩ := spot_facts a0 a1 b0 b1
  have q := e1 hba
  have HS := Lib.hid hs
  clear hs e1 e2 e3 hcg q1 q2
  have HG := Lib.hid (levGran n)
  have g0 := gr_bd n0 n1
  generalize gr n = g at *
  have e0 : (a == 18446744073709551615) = false := by rw [beq_eq_false_iff_ne]; omega
  have f1 : decide (a < b) = false := decide_eq_false (by omega)
  have f2 : decide (b ≤ a) = true := decide_eq_true hba
  have f3 : (c != a + 1) = false := by rw [q]; simp
  clear q
  have tw : IntKind.u64.wrap (d - c) = d - c := IntWalk.u64_in _ (by omega)
  have t1 : decide (c ≤ d) = true := decide_eq_true hcd
  have t2 : decide (d - c < g) = true := decide_eq_true hdg
  have t3 : decide (0 ≤ s) = true := decide_eq_true s0
  have t4 : decide (s < 64) = true := decide_eq_true (by omega)
  have t5 : decide (0 ≤ n) = true := decide_eq_true n0
  have t6 : decide (n < 8) = true := decide_eq_true (by omega)
  go_enter Try.func11, Try.ntmps11
  go_wp2_with fail
  refine (levPlace a b _ a0 a1 b0 b1).mono ?_; rintro e w1 ⟨rfl, hb1⟩
  rw [HS.out]
  have hsp := isSpot_new w1 n s c d
  have x0 := hsp.x0
  have x1 := hsp.x1
  have x2 := hsp.x2
  have x3 := hsp.x3
  have HB1 := Lib.hid (hb1.alloc hb1.size (.cells #[.int .i64 n, .int .i64 s, .int .u64 c, .int .u64 d] 49))
  have HB0 := Lib.hid hb1
  clear hb1 hsp
  go_wp2_with fail
  generalize hW : w1.alloc (.cells #[.int .i64 n, .int .i64 s, .int .u64 c, .int .u64 d] 49) = w2 at *
  have l1 : w1.heap.size < w2.heap.size := World.block_lt_of_cell? w2 _ x0
  clear hW
  go_region_held3 (fun w' => w'.cell? ⟨w1.heap.size, 0, none⟩ = some (.int .i64 n) ∧ w'.cell? ⟨w1.heap.size, 1, none⟩ = some (.int .i64 s) ∧ w'.cell? ⟨w1.heap.size, 2, none⟩ = some (.int .u64 c) ∧ w'.cell? ⟨w1.heap.size, 3, none⟩ = some (.int .u64 d))
    (first
      | go_keep
      | (go_split_ands
         refine ⟨?_, ?_, ?_, ?_⟩ <;> (rw [hb.cell (by simp; omega)]; assumption)))
    (first
      | (go_at_call 31; refine (levKnown _).mono ?_; rintro e w4 ⟨rfl, hb⟩; have hbK := hb; have hz4 : w2.heap.size ≤ w4.heap.size := hb.size)
      | (go_at_call 32; refine (HG.out _).mono ?_; rintro e w5 ⟨rfl, rfl⟩))
  go_wp2
  go_ret
  exact ⟨rfl, HB1.out.drew.trans (hbK.mono (Nat.le_trans HB0.out.size (Nat.le_of_lt l1)))⟩

set_option maxHeartbeats 3200000 in
theorem near_hi (a b : Int) (w : World) (a0 : 0 ≤ a) (a1 : a < 18446744073709551615) (b0 : 0 ≤ b) (b1 : b ≤ 18446744073709551615) (hba : a + 132120575 < b) : Calls Try.prog 11 #[.int .u64 a, .int .u64 b] w fun e w' => e = .returned (.bool true) ∧ Below w.heap.size w w' := by
  obtain ⟨n, s, c, d, hs, n0, n1, s0, s1, hc, hcd, hd, hdg, hcg, q1, q2, e1, e2, e3⟩ := spot_facts a0 a1 b0 b1
  have q := e2 hba
  have HS := Lib.hid hs
  clear hs e1 e2 e3 hcg q1 q2
  have HG := Lib.hid (levGran n)
  have g0 := gr_bd n0 n1
  generalize gr n = g at *
  have e0 : (a == 18446744073709551615) = false := by rw [beq_eq_false_iff_ne]; omega
  have f1 : decide (a < b) = true := decide_eq_true (by omega)
  have f2 : decide (b ≤ a) = false := decide_eq_false (by omega)
  have f3 : decide (132120575 < b - a) = true := decide_eq_true (by omega)
  have f4 : (c != a + 132120575) = false := by rw [q]; simp
  clear q
  have tw : IntKind.u64.wrap (d - c) = d - c := IntWalk.u64_in _ (by omega)
  have t1 : decide (c ≤ d) = true := decide_eq_true hcd
  have t2 : decide (d - c < g) = true := decide_eq_true hdg
  have t3 : decide (0 ≤ s) = true := decide_eq_true s0
  have t4 : decide (s < 64) = true := decide_eq_true (by omega)
  have t5 : decide (0 ≤ n) = true := decide_eq_true n0
  have t6 : decide (n < 8) = true := decide_eq_true (by omega)
  go_enter Try.func11, Try.ntmps11
  go_wp2_with fail
  refine (levPlace a b _ a0 a1 b0 b1).mono ?_; rintro e w1 ⟨rfl, hb1⟩
  rw [HS.out]
  have hsp := isSpot_new w1 n s c d
  have x0 := hsp.x0
  have x1 := hsp.x1
  have x2 := hsp.x2
  have x3 := hsp.x3
  have HB1 := Lib.hid (hb1.alloc hb1.size (.cells #[.int .i64 n, .int .i64 s, .int .u64 c, .int .u64 d] 49))
  have HB0 := Lib.hid hb1
  clear hb1 hsp
  go_wp2_with fail
  generalize hW : w1.alloc (.cells #[.int .i64 n, .int .i64 s, .int .u64 c, .int .u64 d] 49) = w2 at *
  have l1 : w1.heap.size < w2.heap.size := World.block_lt_of_cell? w2 _ x0
  clear hW
  go_region_held3 (fun w' => w'.cell? ⟨w1.heap.size, 0, none⟩ = some (.int .i64 n) ∧ w'.cell? ⟨w1.heap.size, 1, none⟩ = some (.int .i64 s) ∧ w'.cell? ⟨w1.heap.size, 2, none⟩ = some (.int .u64 c) ∧ w'.cell? ⟨w1.heap.size, 3, none⟩ = some (.int .u64 d))
    (first
      | go_keep
      | (go_split_ands
         refine ⟨?_, ?_, ?_, ?_⟩ <;> (rw [hb.cell (by simp; omega)]; assumption)))
    (first
      | (go_at_call 31; refine (levKnown _).mono ?_; rintro e w4 ⟨rfl, hb⟩; have hbK := hb; have hz4 : w2.heap.size ≤ w4.heap.size := hb.size)
      | (go_at_call 32; refine (HG.out _).mono ?_; rintro e w5 ⟨rfl, rfl⟩))
  go_wp2
  go_ret
  exact ⟨rfl, HB1.out.drew.trans (hbK.mono (Nat.le_trans HB0.out.size (Nat.le_of_lt l1)))⟩

set_option maxHeartbeats 3200000 in
theorem near_mid (a b : Int) (w : World) (a0 : 0 ≤ a) (a1 : a < 18446744073709551615) (b0 : 0 ≤ b) (b1 : b ≤ 18446744073709551615) (hab : a < b) (hba : b ≤ a + 132120575) : Calls Try.prog 11 #[.int .u64 a, .int .u64 b] w fun e w' => e = .returned (.bool true) ∧ Below w.heap.size w w' := by
  obtain ⟨n, s, c, d, hs, n0, n1, s0, s1, hc, hcd, hd, hdg, hcg, q1, q2, e1, e2, e3⟩ := spot_facts a0 a1 b0 b1
  have q := e3 hab hba
  have HS := Lib.hid hs
  clear hs e1 e2 e3 hcg q1 q2
  have HG := Lib.hid (levGran n)
  have g0 := gr_bd n0 n1
  generalize gr n = g at *
  have e0 : (a == 18446744073709551615) = false := by rw [beq_eq_false_iff_ne]; omega
  have f1 : decide (a < b) = true := decide_eq_true (by omega)
  have f2 : decide (b ≤ a) = false := decide_eq_false (by omega)
  have f3 : decide (132120575 < b - a) = false := decide_eq_false (by omega)
  have f4 : (c != b) = false := by rw [q]; simp
  clear q
  have tw : IntKind.u64.wrap (d - c) = d - c := IntWalk.u64_in _ (by omega)
  have t1 : decide (c ≤ d) = true := decide_eq_true hcd
  have t2 : decide (d - c < g) = true := decide_eq_true hdg
  have t3 : decide (0 ≤ s) = true := decide_eq_true s0
  have t4 : decide (s < 64) = true := decide_eq_true (by omega)
  have t5 : decide (0 ≤ n) = true := decide_eq_true n0
  have t6 : decide (n < 8) = true := decide_eq_true (by omega)
  go_enter Try.func11, Try.ntmps11
  go_wp2_with fail
  refine (levPlace a b _ a0 a1 b0 b1).mono ?_; rintro e w1 ⟨rfl, hb1⟩
  rw [HS.out]
  have hsp := isSpot_new w1 n s c d
  have x0 := hsp.x0
  have x1 := hsp.x1
  have x2 := hsp.x2
  have x3 := hsp.x3
  have HB1 := Lib.hid (hb1.alloc hb1.size (.cells #[.int .i64 n, .int .i64 s, .int .u64 c, .int .u64 d] 49))
  have HB0 := Lib.hid hb1
  clear hb1 hsp
  go_wp2_with fail
  generalize hW : w1.alloc (.cells #[.int .i64 n, .int .i64 s, .int .u64 c, .int .u64 d] 49) = w2 at *
  have l1 : w1.heap.size < w2.heap.size := World.block_lt_of_cell? w2 _ x0
  clear hW
  go_region_held3 (fun w' => w'.cell? ⟨w1.heap.size, 0, none⟩ = some (.int .i64 n) ∧ w'.cell? ⟨w1.heap.size, 1, none⟩ = some (.int .i64 s) ∧ w'.cell? ⟨w1.heap.size, 2, none⟩ = some (.int .u64 c) ∧ w'.cell? ⟨w1.heap.size, 3, none⟩ = some (.int .u64 d))
    (first
      | go_keep
      | (go_split_ands
         refine ⟨?_, ?_, ?_, ?_⟩ <;> (rw [hb.cell (by simp; omega)]; assumption)))
    (first
      | (go_at_call 31; refine (levKnown _).mono ?_; rintro e w4 ⟨rfl, hb⟩; have hbK := hb; have hz4 : w2.heap.size ≤ w4.heap.size := hb.size)
      | (go_at_call 32; refine (HG.out _).mono ?_; rintro e w5 ⟨rfl, rfl⟩))
  go_wp2
  go_ret
  exact ⟨rfl, HB1.out.drew.trans (hbK.mono (Nat.le_trans HB0.out.size (Nat.le_of_lt l1)))⟩

theorem walk_LevelNear (a b : Int) (w : World) (a0 : 0 ≤ a) (a1 : a ≤ 18446744073709551615) (b0 : 0 ≤ b) (b1 : b ≤ 18446744073709551615) : Calls Try.prog 11 #[.int .u64 a, .int .u64 b] w fun e w' => e = .returned (.bool true) ∧ Below w.heap.size w w' := by
  by_cases c : a < 18446744073709551615
  · by_cases h : b ≤ a
    · exact near_lo a b w a0 c b0 b1 h
    · by_cases h2 : a + 132120575 < b
      · exact near_hi a b w a0 c b0 b1 h2
      · exact near_mid a b w a0 c b0 b1 (by omega) (by omega)
  · obtain rfl : a = 18446744073709551615 := by omega
    exact near_end b w
end Go.Proofs.Ytcoimnajoihlnaa
