/- The chapter's examples for levels, and the laws LevelGrans, LevelPlaces and LevelTimes, walked. -/
import Derived.Test.YtcoimnajoihlnaaLevPlace
import Derived.Deep.RegionHeld3
import Derived.BigQuiet
import Derived.Deep.QuietTactic
namespace Go.Proofs.Ytcoimnajoihlnaa
open Go.RowKit
set_option linter.unusedVariables false

theorem spot_a : spotVal 0 100 = #[.int .i64 1, .int .i64 13, .int .u64 100, .int .u64 104] := by kernel_rfl
theorem spot_b : spotVal 100 100 = #[.int .i64 0, .int .i64 37, .int .u64 101, .int .u64 101] := by kernel_rfl
theorem time_c : timeV 104 (gr 1) 13 = 616 := by kernel_rfl

set_option maxHeartbeats 1600000 in
theorem levKnown (w : World) : Calls Try.prog 31 #[] w fun e w' => e = .returned (.bool true) ∧ Below w.heap.size w w' := by
  go_enter Try.func31, Try.ntmps31
  go_wp2_with fail
  refine (levOf 62 _ (by omega) (by omega)).mono ?_; rintro e w' ⟨rfl, rfl⟩
  rw [show lvl 62 = 0 from rfl, show lvlIs 62 = true from rfl]
  go_wp2_with fail
  refine (levOf 503 _ (by omega) (by omega)).mono ?_; rintro e w' ⟨rfl, rfl⟩
  rw [show lvl 503 = 1 from rfl, show lvlIs 503 = true from rfl]
  go_wp2_with fail
  refine (levPlace 0 100 _ (by omega) (by omega) (by omega) (by omega)).mono ?_; rintro e w1 ⟨rfl, hb1⟩
  rw [spot_a]
  have HB1 := Lib.hid hb1
  clear hb1
  go_wp2_with fail
  refine (levPlace 100 100 _ (by omega) (by omega) (by omega) (by omega)).mono ?_; rintro e w2 ⟨rfl, hb2⟩
  rw [spot_b]
  have c0 : w2.heap[w1.heap.size]? = some (.cells #[.int .i64 1, .int .i64 13, .int .u64 100, .int .u64 104] 49 (0, 0)) := (hb2.block _ (by simp)).trans (heap_alloc_new w1 _)
  have HB2 := Lib.hid ((HB1.out.alloc HB1.out.size _).trans (hb2.mono (by have := HB1.out.size; simp; omega)))
  clear hb2
  go_wp2_with fail
  refine (levTime 104 1 13 _ (by omega) (by omega) (by omega) (by omega) (by omega) (by omega)).mono ?_; rintro e w' ⟨rfl, rfl⟩
  rw [time_c]
  go_wp2_with fail
  refine (levGran 2 _).mono ?_; rintro e w' ⟨rfl, rfl⟩
  rw [show gr 2 = 64 from rfl]
  have x0 : w2.cell? ⟨w1.heap.size, 0, none⟩ = some (.int .i64 1) := by simp [World.cell?, c0]
  have x1 : w2.cell? ⟨w1.heap.size, 1, none⟩ = some (.int .i64 13) := by simp [World.cell?, c0]
  have x2 : w2.cell? ⟨w1.heap.size, 2, none⟩ = some (.int .u64 100) := by simp [World.cell?, c0]
  have x3 : w2.cell? ⟨w1.heap.size, 3, none⟩ = some (.int .u64 104) := by simp [World.cell?, c0]
  have hlt := lt_of_block c0
  clear c0
  go_wp2_with fail
  go_ret
  exact ⟨rfl, HB2.out.alloc HB2.out.size _⟩

theorem walk_LevelGrans (n d : Int) (w : World) (h0 : 0 ≤ d) (h1 : d ≤ 18446744073709551615) : Calls Try.prog 8 #[.int .i64 n, .int .u64 d] w fun e w' => e = .returned (.bool true) ∧ Below w.heap.size w w' := by
  go_enter Try.func8, Try.ntmps8
  go_wp2_with fail
  refine (levOf d _ h0 h1).mono ?_; rintro e w' ⟨rfl, rfl⟩
  go_wp2_with fail
  refine (refOf d _ h0 h1).mono ?_; rintro e w' ⟨rfl, rfl⟩
  go_wp2_with fail
  refine (levKnown _).mono ?_; rintro e w' ⟨rfl, hb⟩
  have HB := Lib.hid hb
  clear hb
  go_wp2_with (first
    | (go_at_call 32; refine (levGran n _).mono ?_; rintro e w'' ⟨rfl, rfl⟩)
    | (go_at_call 33; refine (refGran n _).mono ?_; rintro e w'' ⟨rfl, rfl⟩))
  go_ret
  exact ⟨rfl, HB.out⟩

theorem walk_LevelTimes (a n s : Int) (w : World) (h0 : 0 ≤ a) (h1 : a ≤ 18446744073709551615) : Calls Try.prog 10 #[.int .u64 a, .int .i64 n, .int .i64 s] w fun e w' => e = .returned (.bool true) ∧ Below w.heap.size w w' := by
  cases h : wrongB n s
  · have h' := of_decide_eq_false h
    clear h
    have n0 : 0 ≤ n := by omega
    have n1 : n ≤ 7 := by omega
    have s0 : 0 ≤ s := by omega
    have s1 : s ≤ 63 := by omega
    clear h'
    go_enter Try.func10, Try.ntmps10
    go_wp2_with fail
    refine (levTime a n s _ h0 h1 n0 n1 s0 s1).mono ?_; rintro e w' ⟨rfl, rfl⟩
    go_wp2_with fail
    refine (refTime a n s _ h0 h1 n0 n1 s0 s1).mono ?_; rintro e w' ⟨rfl, rfl⟩
    go_wp2_with fail
    refine (levKnown _).mono ?_; rintro e w' ⟨rfl, hb⟩
    have HB := Lib.hid hb
    clear hb
    go_wp2_with fail
    go_ret
    exact ⟨rfl, HB.out⟩
  · have HW := Lib.hid h
    clear h
    go_enter Try.func10, Try.ntmps10
    go_wp2_with fail
    refine (levTimeWrong a n s _ HW.out).mono ?_; rintro e w' ⟨rfl, rfl⟩
    go_wp2_with fail
    refine (refTimeWrong a n s _ HW.out).mono ?_; rintro e w' ⟨rfl, rfl⟩
    go_wp2_with fail
    refine (levKnown _).mono ?_; rintro e w' ⟨rfl, hb⟩
    have HB := Lib.hid hb
    clear hb
    go_wp2_with fail
    go_ret
    exact ⟨rfl, HB.out⟩

theorem lawOf (n s c d : Int) (w : World) :
    Calls Try.prog 36 #[.agg #[.int .i64 n, .int .i64 s, .int .u64 c, .int .u64 d]] w fun e w' => e = .returned (.agg #[.int .i64 n, .int .i64 s, .int .u64 c, .int .u64 d]) ∧ Below w.heap.size w w' := by
  go_enter Try.func36, Try.ntmps36
  go_wp2
  refine bodyPost_ret (by simp [results, Try.results36, go_sem]) rfl ⟨rfl, ?_⟩
  go_grown

set_option maxHeartbeats 1600000 in
theorem walk_LevelPlaces (a b : Int) (w : World) (a0 : 0 ≤ a) (a1 : a < 18446744073709551615) (b0 : 0 ≤ b) (b1 : b ≤ 18446744073709551615) : Calls Try.prog 9 #[.int .u64 a, .int .u64 b] w fun e w' => e = .returned (.bool true) ∧ Below w.heap.size w w' := by
  obtain ⟨n, s, c, d, hs⟩ : ∃ n s c d, spotVal a b = #[.int .i64 n, .int .i64 s, .int .u64 c, .int .u64 d] := ⟨_, _, _, _, rfl⟩
  have HS := Lib.hid hs
  clear hs
  go_enter Try.func9, Try.ntmps9
  go_wp2_with fail
  refine (levPlace a b _ a0 a1 b0 b1).mono ?_; rintro e w1 ⟨rfl, hb1⟩
  rw [HS.out]
  have HB1 := Lib.hid hb1
  clear hb1
  go_wp2_with fail
  refine (refPlace a b _ a0 a1 b0 b1).mono ?_; rintro e w2 ⟨rfl, hb2⟩
  rw [HS.out]
  have c0 : w2.heap[w1.heap.size]? = some (.cells #[.int .i64 n, .int .i64 s, .int .u64 c, .int .u64 d] 49 (0, 0)) := (hb2.block _ (by simp)).trans (heap_alloc_new w1 _)
  have hlt := lt_of_block c0
  have HB2 := Lib.hid ((HB1.out.alloc HB1.out.size _).trans (hb2.mono (by have := HB1.out.size; simp; omega)))
  clear hb2
  have d0 : (w2.alloc (.cells #[.int .i64 n, .int .i64 s, .int .u64 c, .int .u64 d] 52)).heap[w1.heap.size]? = some (.cells #[.int .i64 n, .int .i64 s, .int .u64 c, .int .u64 d] 49 (0, 0)) := (Below.heap_alloc w2 _ _ hlt).trans c0
  have d1 : (w2.alloc (.cells #[.int .i64 n, .int .i64 s, .int .u64 c, .int .u64 d] 52)).heap[w2.heap.size]? = some (.cells #[.int .i64 n, .int .i64 s, .int .u64 c, .int .u64 d] 52 (0, 0)) := heap_alloc_new w2 _
  have HB3 := Lib.hid (HB2.out.alloc HB2.out.size (.cells #[.int .i64 n, .int .i64 s, .int .u64 c, .int .u64 d] 52))
  have D0 := Lib.hid d0
  have D1 := Lib.hid d1
  clear c0 d0 d1
  go_wp2_with fail
  generalize w2.alloc (.cells #[.int .i64 n, .int .i64 s, .int .u64 c, .int .u64 d] 52) = w3 at *
  have x0 : w3.cell? ⟨w1.heap.size, 0, none⟩ = some (.int .i64 n) := by have := D0.out; simp [World.cell?, this]
  have x1 : w3.cell? ⟨w1.heap.size, 1, none⟩ = some (.int .i64 s) := by have := D0.out; simp [World.cell?, this]
  have x2 : w3.cell? ⟨w1.heap.size, 2, none⟩ = some (.int .u64 c) := by have := D0.out; simp [World.cell?, this]
  have x3 : w3.cell? ⟨w1.heap.size, 3, none⟩ = some (.int .u64 d) := by have := D0.out; simp [World.cell?, this]
  have y0 : w3.cell? ⟨w2.heap.size, 0, none⟩ = some (.int .i64 n) := by have := D1.out; simp [World.cell?, this]
  have y1 : w3.cell? ⟨w2.heap.size, 1, none⟩ = some (.int .i64 s) := by have := D1.out; simp [World.cell?, this]
  have y2 : w3.cell? ⟨w2.heap.size, 2, none⟩ = some (.int .u64 c) := by have := D1.out; simp [World.cell?, this]
  have y3 : w3.cell? ⟨w2.heap.size, 3, none⟩ = some (.int .u64 d) := by have := D1.out; simp [World.cell?, this]
  have l1 : w1.heap.size < w3.heap.size := World.block_lt_of_cell? w3 _ x0
  have l2 : w2.heap.size < w3.heap.size := World.block_lt_of_cell? w3 _ y0
  go_region_held3 (fun w' => w'.cell? ⟨w1.heap.size, 0, none⟩ = some (.int .i64 n) ∧ w'.cell? ⟨w1.heap.size, 1, none⟩ = some (.int .i64 s) ∧ w'.cell? ⟨w1.heap.size, 2, none⟩ = some (.int .u64 c) ∧ w'.cell? ⟨w1.heap.size, 3, none⟩ = some (.int .u64 d) ∧
      w'.cell? ⟨w2.heap.size, 0, none⟩ = some (.int .i64 n) ∧ w'.cell? ⟨w2.heap.size, 1, none⟩ = some (.int .i64 s) ∧ w'.cell? ⟨w2.heap.size, 2, none⟩ = some (.int .u64 c) ∧ w'.cell? ⟨w2.heap.size, 3, none⟩ = some (.int .u64 d))
    (first
      | go_keep
      | (go_split_ands
         refine ⟨?_, ?_, ?_, ?_, ?_, ?_, ?_, ?_⟩ <;> (rw [hb.cell (by simp; omega)]; assumption)))
    (first
      | (go_at_call 31; refine (levKnown _).mono ?_; rintro e w4 ⟨rfl, hb⟩; have hbK := hb; have hz4 : w3.heap.size ≤ w4.heap.size := hb.size)
      | (go_at_call 36; refine (lawOf n s c d _).mono ?_; rintro e w5 ⟨rfl, hb⟩; have hbO := hb))
  go_wp2
  go_ret
  exact ⟨rfl, (HB3.out.drew.trans (hbK.mono HB3.out.size)).trans (hbO.mono (Nat.le_trans HB3.out.size hz4))⟩

theorem places_end (b : Int) (w : World) : Calls Try.prog 9 #[.int .u64 18446744073709551615, .int .u64 b] w fun e w' => e = .returned (.bool true) ∧ Below w.heap.size w w' := by
  go_enter Try.func9, Try.ntmps9
  go_wp2_with fail
  refine (levPlaceEnd b _).mono ?_; rintro e w1 ⟨rfl, hb1⟩
  have HB1 := Lib.hid hb1
  clear hb1
  go_wp2_with fail
  refine (refPlaceEnd b _).mono ?_; rintro e w2 ⟨rfl, hb2⟩
  have c0 : w2.heap[w1.heap.size]? = some (.cells #[.int .i64 0, .int .i64 0, .int .u64 0, .int .u64 0] 49 (0, 0)) := (hb2.block _ (by simp)).trans (heap_alloc_new w1 _)
  have hlt := lt_of_block c0
  have HB2 := Lib.hid ((HB1.out.alloc HB1.out.size _).trans (hb2.mono (by have := HB1.out.size; simp; omega)))
  clear hb2
  have d0 : (w2.alloc (.cells #[.int .i64 0, .int .i64 0, .int .u64 0, .int .u64 0] 52)).heap[w1.heap.size]? = some (.cells #[.int .i64 0, .int .i64 0, .int .u64 0, .int .u64 0] 49 (0, 0)) := (Below.heap_alloc w2 _ _ hlt).trans c0
  have d1 : (w2.alloc (.cells #[.int .i64 0, .int .i64 0, .int .u64 0, .int .u64 0] 52)).heap[w2.heap.size]? = some (.cells #[.int .i64 0, .int .i64 0, .int .u64 0, .int .u64 0] 52 (0, 0)) := heap_alloc_new w2 _
  have HB3 := Lib.hid (HB2.out.alloc HB2.out.size (.cells #[.int .i64 0, .int .i64 0, .int .u64 0, .int .u64 0] 52))
  have D0 := Lib.hid d0
  have D1 := Lib.hid d1
  clear c0 d0 d1
  go_wp2_with fail
  generalize w2.alloc (.cells #[.int .i64 0, .int .i64 0, .int .u64 0, .int .u64 0] 52) = w3 at *
  have x0 : w3.cell? ⟨w1.heap.size, 0, none⟩ = some (.int .i64 0) := by have := D0.out; simp [World.cell?, this]
  have x1 : w3.cell? ⟨w1.heap.size, 1, none⟩ = some (.int .i64 0) := by have := D0.out; simp [World.cell?, this]
  have x2 : w3.cell? ⟨w1.heap.size, 2, none⟩ = some (.int .u64 0) := by have := D0.out; simp [World.cell?, this]
  have x3 : w3.cell? ⟨w1.heap.size, 3, none⟩ = some (.int .u64 0) := by have := D0.out; simp [World.cell?, this]
  have y0 : w3.cell? ⟨w2.heap.size, 0, none⟩ = some (.int .i64 0) := by have := D1.out; simp [World.cell?, this]
  have y1 : w3.cell? ⟨w2.heap.size, 1, none⟩ = some (.int .i64 0) := by have := D1.out; simp [World.cell?, this]
  have y2 : w3.cell? ⟨w2.heap.size, 2, none⟩ = some (.int .u64 0) := by have := D1.out; simp [World.cell?, this]
  have y3 : w3.cell? ⟨w2.heap.size, 3, none⟩ = some (.int .u64 0) := by have := D1.out; simp [World.cell?, this]
  have l1 : w1.heap.size < w3.heap.size := World.block_lt_of_cell? w3 _ x0
  have l2 : w2.heap.size < w3.heap.size := World.block_lt_of_cell? w3 _ y0
  go_region_held3 (fun w' => w'.cell? ⟨w1.heap.size, 0, none⟩ = some (.int .i64 0) ∧ w'.cell? ⟨w1.heap.size, 1, none⟩ = some (.int .i64 0) ∧ w'.cell? ⟨w1.heap.size, 2, none⟩ = some (.int .u64 0) ∧ w'.cell? ⟨w1.heap.size, 3, none⟩ = some (.int .u64 0) ∧
      w'.cell? ⟨w2.heap.size, 0, none⟩ = some (.int .i64 0) ∧ w'.cell? ⟨w2.heap.size, 1, none⟩ = some (.int .i64 0) ∧ w'.cell? ⟨w2.heap.size, 2, none⟩ = some (.int .u64 0) ∧ w'.cell? ⟨w2.heap.size, 3, none⟩ = some (.int .u64 0))
    (first
      | go_keep
      | (go_split_ands
         refine ⟨?_, ?_, ?_, ?_, ?_, ?_, ?_, ?_⟩ <;> (rw [hb.cell (by simp; omega)]; assumption)))
    (first
      | (go_at_call 31; refine (levKnown _).mono ?_; rintro e w4 ⟨rfl, hb⟩; have hbK := hb; have hz4 : w3.heap.size ≤ w4.heap.size := hb.size)
      | (go_at_call 36; refine (lawOf 0 0 0 0 _).mono ?_; rintro e w5 ⟨rfl, hb⟩; have hbO := hb))
  go_wp2
  go_ret
  exact ⟨rfl, (HB3.out.drew.trans (hbK.mono HB3.out.size)).trans (hbO.mono (Nat.le_trans HB3.out.size hz4))⟩
end Go.Proofs.Ytcoimnajoihlnaa
