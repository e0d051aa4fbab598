/- The laws LevelMeets and LevelApart, walked. -/
import Derived.Test.YtcoimnajoihlnaaLevSpot
namespace Go.Proofs.Ytcoimnajoihlnaa
open Go.RowKit
set_option linter.unusedVariables false

theorem levTimeQ (a n s : Int) (w : World) (q : Nat) (a0 : 0 ≤ a) (a1 : a ≤ 18446744073709551615) (n0 : 0 ≤ n) (n1 : n ≤ 7) (s0 : 0 ≤ s) (s1 : s ≤ 63) (r : Int) (hr : timeV a (gr n) s = r) :
    Calls Try.prog 37 #[.int .u64 a, .int .i64 n, .int .i64 s] (w.drewN q) fun e w' => e = .returned (.tuple #[.int .u64 r, .int .i64 0]) ∧ w' = w.drewN q := by
  subst hr
  exact (levTime a n s _ a0 a1 n0 n1 s0 s1).mono fun _ _ h => ⟨h.1, h.2.symm⟩
theorem mod_word {y k : Int} (y0 : 0 ≤ y) (k1 : 1 ≤ k) : 0 ≤ y % k ∧ y % k < k := ⟨Int.emod_nonneg y (by omega), Int.emod_lt_of_pos y (by omega)⟩

set_option maxHeartbeats 1600000 in
theorem meets_main (a b y : Int) (w : World) (a0 : 0 ≤ a) (a1 : a < 18446744073709551615) (b0 : 0 ≤ b) (b1 : b ≤ 18446744073709551615) (y0 : 0 ≤ y) (y1 : y ≤ 18446744073709551615) :
    Calls Try.prog 12 #[.int .u64 a, .int .u64 b, .int .u64 y] w fun e w' => e = .returned (.bool true) ∧ Below w.heap.size w w' := by
  obtain ⟨n, s, c, d, hs, n0, n1, s0, s1, hc, hcd, hd, hdg, hcg, q1, q2, e1, e2, e3⟩ := spot_facts a0 a1 b0 b1
  have hm := mod_word y0 (show 1 ≤ d - a by omega)
  have hmeet := meets_g (gr n) (gr_is n0 n1) a0 hc (by omega) hcg (f := a + y % (d - a)) (by omega) (by rw [← q2]; omega)
  rw [← q1, ← q2] at hmeet
  have HM := Lib.hid hmeet
  have HS := Lib.hid hs
  clear hs e1 e2 e3 hcg q1 q2 hmeet hdg
  have e0 : (a == 18446744073709551615) = false := by rw [beq_eq_false_iff_ne]; omega
  have t1 : decide (d ≤ a) = false := decide_eq_false (by omega)
  have t2 : IntKind.u64.wrap (d - a) = d - a := IntWalk.u64_in _ (by omega)
  have t3 : (d - a == 0) = false := by rw [beq_eq_false_iff_ne]; omega
  have t4 : IntKind.u64.wrap (a + y % (d - a)) = a + y % (d - a) := IntWalk.u64_in _ (by omega)
  have t5 : y.tmod (d - a) = y % (d - a) := Int.tmod_eq_emod_of_nonneg y0
  have t6 : IntKind.u64.wrap (y % (d - a)) = y % (d - a) := IntWalk.u64_in _ (by omega)
  go_enter Try.func12, Try.ntmps12
  go_wp2_with fail
  refine (levPlace a b _ a0 a1 b0 b1).mono ?_; rintro e w1 ⟨rfl, hb1⟩
  rw [HS.out]
  have hsp := isSpot_new w1 n s c d
  have x0 := hsp.x0
  have x1 := hsp.x1
  have x2 := hsp.x2
  have x3 := hsp.x3
  have HB1 := Lib.hid (hb1.alloc hb1.size (.cells #[.int .i64 n, .int .i64 s, .int .u64 c, .int .u64 d] 49))
  have HB0 := Lib.hid hb1
  have HP := Lib.hid hsp
  clear hb1 hsp
  go_wp2_with fail
  generalize hW : w1.alloc (.cells #[.int .i64 n, .int .i64 s, .int .u64 c, .int .u64 d] 49) = w2 at *
  have l1 : w1.heap.size < w2.heap.size := World.block_lt_of_cell? w2 _ x0
  clear hW
  go_quiet ((go_at_call 37; refine Calls.quiet_of_same (levTimeQ (a + y % (d - a)) n s w2 _ (by omega) (by omega) n0 n1 s0 (by omega) d HM.out)))
  go_wp2_with fail
  refine (levKnown _).mono ?_; rintro e w3 ⟨rfl, hb3⟩
  have x3' : w3.cell? ⟨w1.heap.size, 3, none⟩ = some (.int .u64 d) := (hb3.cell (p := ⟨w1.heap.size, 3, none⟩) l1).trans x3
  have HB3 := Lib.hid (HB1.out.trans (show Below w.heap.size w2 w3 from ⟨hb3.os, hb3.tape, hb3.output, hb3.size, fun k hk => hb3.block k (by have := HB0.out.size; have h2 : w2.heap.size ≤ (w2.drewN nq).heap.size := Nat.le_refl _; omega)⟩))
  clear hb3
  have t7 : (d == d) = true := by simp
  go_wp2_with fail
  go_ret
  exact ⟨rfl, HB3.out⟩

set_option maxHeartbeats 1600000 in
theorem apart_level (a b y z : Int) (w : World) (a0 : 0 ≤ a) (a1 : a < 18446744073709551615) (b0 : 0 ≤ b) (b1 : b ≤ 18446744073709551615) (y0 : 0 ≤ y) (y1 : y ≤ 18446744073709551615) (z0 : 0 ≤ z) (z1 : z ≤ 18446744073709551615)
    (n s c d n' s' c' d' : Int) (hs : spotVal a b = #[.int .i64 n, .int .i64 s, .int .u64 c, .int .u64 d]) (had : a < d) (hdm : d ≤ 18446744073709551615) (hs' : spotVal (a + y % (d - a)) z = #[.int .i64 n', .int .i64 s', .int .u64 c', .int .u64 d']) (hne : n ≠ n') :
    Calls Try.prog 13 #[.int .u64 a, .int .u64 b, .int .u64 y, .int .u64 z] w fun e w' => e = .returned (.bool true) ∧ Below w.heap.size w w' := by
  have hm := mod_word y0 (show 1 ≤ d - a by omega)
  have HS := Lib.hid hs
  have HT := Lib.hid hs'
  clear hs hs'
  have f1 : (n != n') = true := by rw [bne_iff_ne]; exact hne
  clear hne
  have e0 : (a == 18446744073709551615) = false := by rw [beq_eq_false_iff_ne]; omega
  have t1 : decide (d ≤ a) = false := decide_eq_false (by omega)
  have t3 : (d - a == 0) = false := by rw [beq_eq_false_iff_ne]; omega
  go_enter Try.func13, Try.ntmps13
  go_wp2_with fail
  refine (levPlace a b _ a0 a1 b0 b1).mono ?_; rintro e w1 ⟨rfl, hb1⟩
  rw [HS.out]
  have hsp := isSpot_new w1 n s c d
  have x3 := hsp.x3
  have HB1 := Lib.hid (hb1.alloc hb1.size (.cells #[.int .i64 n, .int .i64 s, .int .u64 c, .int .u64 d] 49))
  have HB0 := Lib.hid hb1
  have HP := Lib.hid hsp
  clear hb1 hsp
  go_wp2_with fail
  generalize hW : w1.alloc (.cells #[.int .i64 n, .int .i64 s, .int .u64 c, .int .u64 d] 49) = w2 at *
  have l1 : w1.heap.size < w2.heap.size := World.block_lt_of_cell? w2 _ x3
  clear hW
  refine (levPlace (a + y % (d - a)) z _ (by omega) (by omega) z0 z1).mono ?_; rintro e w3 ⟨rfl, hb3⟩
  rw [HT.out]
  have HQ := Lib.hid (isSpot_new w3 n' s' c' d')
  have l3 : w2.heap.size ≤ w3.heap.size := hb3.size
  have HP3 := Lib.hid (show IsSpot (w3.alloc (.cells #[.int .i64 n', .int .i64 s', .int .u64 c', .int .u64 d'] 49)) w1.heap.size n s c d from (Below.heap_alloc w3 _ _ (by omega)).trans (HP.out.kept hb3 l1))
  have HB3 := Lib.hid ((HB1.out.trans (hb3.mono (by have := HB0.out.size; omega))).alloc (by have := HB0.out.size; omega) (.cells #[.int .i64 n', .int .i64 s', .int .u64 c', .int .u64 d'] 49))
  clear hb3 x3
  go_wp2_with fail
  generalize hW : w3.alloc (.cells #[.int .i64 n', .int .i64 s', .int .u64 c', .int .u64 d'] 49) = w4 at *
  have l4 : w3.heap.size < w4.heap.size := lt_of_block HQ.out
  clear hW
  refine (levKnown _).mono ?_; rintro e w5 ⟨rfl, hb5⟩
  have HP5 := Lib.hid (HP3.out.kept hb5 (by omega))
  have HQ5 := Lib.hid (HQ.out.kept hb5 l4)
  have HB5 := Lib.hid (HB3.out.trans (hb5.mono (by have := HB0.out.size; omega)))
  clear hb5
  have x0 := HP5.out.x0
  have x1 := HP5.out.x1
  have x3 := HP5.out.x3
  have v0 := HQ5.out.x0
  have v1 := HQ5.out.x1
  have v3 := HQ5.out.x3
  go_wp2_with fail
  go_ret
  exact ⟨rfl, HB5.out⟩

set_option maxHeartbeats 1600000 in
theorem apart_slot (a b y z : Int) (w : World) (a0 : 0 ≤ a) (a1 : a < 18446744073709551615) (b0 : 0 ≤ b) (b1 : b ≤ 18446744073709551615) (y0 : 0 ≤ y) (y1 : y ≤ 18446744073709551615) (z0 : 0 ≤ z) (z1 : z ≤ 18446744073709551615)
    (n s c d n' s' c' d' : Int) (hs : spotVal a b = #[.int .i64 n, .int .i64 s, .int .u64 c, .int .u64 d]) (had : a < d) (hdm : d ≤ 18446744073709551615) (hs' : spotVal (a + y % (d - a)) z = #[.int .i64 n', .int .i64 s', .int .u64 c', .int .u64 d']) (hn : (n != n') = false) (hne : s ≠ s') :
    Calls Try.prog 13 #[.int .u64 a, .int .u64 b, .int .u64 y, .int .u64 z] w fun e w' => e = .returned (.bool true) ∧ Below w.heap.size w w' := by
  have hm := mod_word y0 (show 1 ≤ d - a by omega)
  have HS := Lib.hid hs
  have HT := Lib.hid hs'
  clear hs hs'
  have f1 : (s != s') = true := by rw [bne_iff_ne]; exact hne
  clear hne
  have e0 : (a == 18446744073709551615) = false := by rw [beq_eq_false_iff_ne]; omega
  have t1 : decide (d ≤ a) = false := decide_eq_false (by omega)
  have t3 : (d - a == 0) = false := by rw [beq_eq_false_iff_ne]; omega
  go_enter Try.func13, Try.ntmps13
  go_wp2_with fail
  refine (levPlace a b _ a0 a1 b0 b1).mono ?_; rintro e w1 ⟨rfl, hb1⟩
  rw [HS.out]
  have hsp := isSpot_new w1 n s c d
  have x3 := hsp.x3
  have HB1 := Lib.hid (hb1.alloc hb1.size (.cells #[.int .i64 n, .int .i64 s, .int .u64 c, .int .u64 d] 49))
  have HB0 := Lib.hid hb1
  have HP := Lib.hid hsp
  clear hb1 hsp
  go_wp2_with fail
  generalize hW : w1.alloc (.cells #[.int .i64 n, .int .i64 s, .int .u64 c, .int .u64 d] 49) = w2 at *
  have l1 : w1.heap.size < w2.heap.size := World.block_lt_of_cell? w2 _ x3
  clear hW
  refine (levPlace (a + y % (d - a)) z _ (by omega) (by omega) z0 z1).mono ?_; rintro e w3 ⟨rfl, hb3⟩
  rw [HT.out]
  have HQ := Lib.hid (isSpot_new w3 n' s' c' d')
  have l3 : w2.heap.size ≤ w3.heap.size := hb3.size
  have HP3 := Lib.hid (show IsSpot (w3.alloc (.cells #[.int .i64 n', .int .i64 s', .int .u64 c', .int .u64 d'] 49)) w1.heap.size n s c d from (Below.heap_alloc w3 _ _ (by omega)).trans (HP.out.kept hb3 l1))
  have HB3 := Lib.hid ((HB1.out.trans (hb3.mono (by have := HB0.out.size; omega))).alloc (by have := HB0.out.size; omega) (.cells #[.int .i64 n', .int .i64 s', .int .u64 c', .int .u64 d'] 49))
  clear hb3 x3
  go_wp2_with fail
  generalize hW : w3.alloc (.cells #[.int .i64 n', .int .i64 s', .int .u64 c', .int .u64 d'] 49) = w4 at *
  have l4 : w3.heap.size < w4.heap.size := lt_of_block HQ.out
  clear hW
  refine (levKnown _).mono ?_; rintro e w5 ⟨rfl, hb5⟩
  have HP5 := Lib.hid (HP3.out.kept hb5 (by omega))
  have HQ5 := Lib.hid (HQ.out.kept hb5 l4)
  have HB5 := Lib.hid (HB3.out.trans (hb5.mono (by have := HB0.out.size; omega)))
  clear hb5
  have x0 := HP5.out.x0
  have x1 := HP5.out.x1
  have x3 := HP5.out.x3
  have v0 := HQ5.out.x0
  have v1 := HQ5.out.x1
  have v3 := HQ5.out.x3
  go_wp2_with fail
  go_ret
  exact ⟨rfl, HB5.out⟩

set_option maxHeartbeats 1600000 in
theorem apart_due (a b y z : Int) (w : World) (a0 : 0 ≤ a) (a1 : a < 18446744073709551615) (b0 : 0 ≤ b) (b1 : b ≤ 18446744073709551615) (y0 : 0 ≤ y) (y1 : y ≤ 18446744073709551615) (z0 : 0 ≤ z) (z1 : z ≤ 18446744073709551615)
    (n s c d n' s' c' d' : Int) (hs : spotVal a b = #[.int .i64 n, .int .i64 s, .int .u64 c, .int .u64 d]) (had : a < d) (hdm : d ≤ 18446744073709551615) (hs' : spotVal (a + y % (d - a)) z = #[.int .i64 n', .int .i64 s', .int .u64 c', .int .u64 d']) (hn : (n != n') = false) (hsl : (s != s') = false) (hdd : (d == d') = true) :
    Calls Try.prog 13 #[.int .u64 a, .int .u64 b, .int .u64 y, .int .u64 z] w fun e w' => e = .returned (.bool true) ∧ Below w.heap.size w w' := by
  have hm := mod_word y0 (show 1 ≤ d - a by omega)
  have HS := Lib.hid hs
  have HT := Lib.hid hs'
  clear hs hs'
  skip
  have e0 : (a == 18446744073709551615) = false := by rw [beq_eq_false_iff_ne]; omega
  have t1 : decide (d ≤ a) = false := decide_eq_false (by omega)
  have t3 : (d - a == 0) = false := by rw [beq_eq_false_iff_ne]; omega
  go_enter Try.func13, Try.ntmps13
  go_wp2_with fail
  refine (levPlace a b _ a0 a1 b0 b1).mono ?_; rintro e w1 ⟨rfl, hb1⟩
  rw [HS.out]
  have hsp := isSpot_new w1 n s c d
  have x3 := hsp.x3
  have HB1 := Lib.hid (hb1.alloc hb1.size (.cells #[.int .i64 n, .int .i64 s, .int .u64 c, .int .u64 d] 49))
  have HB0 := Lib.hid hb1
  have HP := Lib.hid hsp
  clear hb1 hsp
  go_wp2_with fail
  generalize hW : w1.alloc (.cells #[.int .i64 n, .int .i64 s, .int .u64 c, .int .u64 d] 49) = w2 at *
  have l1 : w1.heap.size < w2.heap.size := World.block_lt_of_cell? w2 _ x3
  clear hW
  refine (levPlace (a + y % (d - a)) z _ (by omega) (by omega) z0 z1).mono ?_; rintro e w3 ⟨rfl, hb3⟩
  rw [HT.out]
  have HQ := Lib.hid (isSpot_new w3 n' s' c' d')
  have l3 : w2.heap.size ≤ w3.heap.size := hb3.size
  have HP3 := Lib.hid (show IsSpot (w3.alloc (.cells #[.int .i64 n', .int .i64 s', .int .u64 c', .int .u64 d'] 49)) w1.heap.size n s c d from (Below.heap_alloc w3 _ _ (by omega)).trans (HP.out.kept hb3 l1))
  have HB3 := Lib.hid ((HB1.out.trans (hb3.mono (by have := HB0.out.size; omega))).alloc (by have := HB0.out.size; omega) (.cells #[.int .i64 n', .int .i64 s', .int .u64 c', .int .u64 d'] 49))
  clear hb3 x3
  go_wp2_with fail
  generalize hW : w3.alloc (.cells #[.int .i64 n', .int .i64 s', .int .u64 c', .int .u64 d'] 49) = w4 at *
  have l4 : w3.heap.size < w4.heap.size := lt_of_block HQ.out
  clear hW
  refine (levKnown _).mono ?_; rintro e w5 ⟨rfl, hb5⟩
  have HP5 := Lib.hid (HP3.out.kept hb5 (by omega))
  have HQ5 := Lib.hid (HQ.out.kept hb5 l4)
  have HB5 := Lib.hid (HB3.out.trans (hb5.mono (by have := HB0.out.size; omega)))
  clear hb5
  have x0 := HP5.out.x0
  have x1 := HP5.out.x1
  have x3 := HP5.out.x3
  have v0 := HQ5.out.x0
  have v1 := HQ5.out.x1
  have v3 := HQ5.out.x3
  go_wp2_with fail
  go_ret
  exact ⟨rfl, HB5.out⟩

theorem walk_LevelApart (a b y z : Int) (w : World) (a0 : 0 ≤ a) (a1 : a ≤ 18446744073709551615) (b0 : 0 ≤ b) (b1 : b ≤ 18446744073709551615) (y0 : 0 ≤ y) (y1 : y ≤ 18446744073709551615) (z0 : 0 ≤ z) (z1 : z ≤ 18446744073709551615) :
    Calls Try.prog 13 #[.int .u64 a, .int .u64 b, .int .u64 y, .int .u64 z] w fun e w' => e = .returned (.bool true) ∧ Below w.heap.size w w' := by
  by_cases c : a < 18446744073709551615
  · obtain ⟨n, s, c1, d, hs, n0, n1, s0, s1, hc, hcd, hd, hdg, hcg, q1, q2, _⟩ := spot_facts a0 c b0 b1
    have hm := mod_word y0 (show 1 ≤ d - a by omega)
    obtain ⟨n', s', c', d', hs', n0', n1', s0', s1', hc', hcd', hd', hdg', hcg', q1', q2', _⟩ := spot_facts (a := a + y % (d - a)) (b := z) (by omega) (by omega) z0 z1
    by_cases hn : n = n'
    · by_cases hsl : s = s'
      · refine apart_due a b y z w a0 c b0 b1 y0 y1 z0 z1 n s c1 d n' s' c' d' hs (by omega) hd hs' (by simp [hn]) (by simp [hsl]) ?_
        rw [beq_iff_eq, q2, q2']
        subst hn
        rw [apart_g (gr n) (gr_is n0 n1) a0 hc (by omega) hcg (f := a + y % (d - a)) (by omega) (by rw [← q2]; omega) hc' (by omega) hcg' (by rw [← q1, ← q1']; exact hsl)]
      · exact apart_slot a b y z w a0 c b0 b1 y0 y1 z0 z1 n s c1 d n' s' c' d' hs (by omega) hd hs' (by simp [hn]) hsl
    · exact apart_level a b y z w a0 c b0 b1 y0 y1 z0 z1 n s c1 d n' s' c' d' hs (by omega) hd hs' hn
  · obtain rfl : a = 18446744073709551615 := by omega
    exact apart_end b y z w
theorem walk_LevelMeets (a b y : Int) (w : World) (a0 : 0 ≤ a) (a1 : a ≤ 18446744073709551615) (b0 : 0 ≤ b) (b1 : b ≤ 18446744073709551615) (y0 : 0 ≤ y) (y1 : y ≤ 18446744073709551615) :
    Calls Try.prog 12 #[.int .u64 a, .int .u64 b, .int .u64 y] w fun e w' => e = .returned (.bool true) ∧ Below w.heap.size w w' := by
  by_cases c : a < 18446744073709551615
  · exact meets_main a b y w a0 c b0 b1 y0 y1
  · obtain rfl : a = 18446744073709551615 := by omega
    exact meets_end b y w
end Go.Proofs.Ytcoimnajoihlnaa
