/- A count: Put, Value, Stuck, New; the reference's New, Get, Put: each by a contract. -/
import Derived.Test.YtkpenhichgkdkaaCnt
import Derived.RegionTactic
namespace Go.Proofs.Ytkpenhichgkdkaa
open Go.RowKit
set_option linter.unusedVariables false

/-- behind one less: the number, whether it is out, the error -/
def putN (n : Int) (s : Bool) : Int := if n = 0 ∨ s = true then n else n - 1
def putB (n : Int) (s : Bool) : Bool := if n = 0 ∨ s = true then false else n == 1
def putE (n : Int) : Int := if n = 0 then 4 else 0

theorem cntPut (B : Nat) (n top : Int) (s : Bool) (w : World) (h : IsCnt w B n top s) (n0 : 0 ≤ n) (n1 : n ≤ 65535) :
    Calls Try.prog 15 #[.pointer (some ⟨B, 0, none⟩)] w fun e w' => e = .returned (.tuple #[.bool (putB n s), .int .i64 (putE n)]) ∧ w.grownBy w' (some B) ∧ IsCnt w' B (putN n s) top s := by
  have c0 := h.c0
  have c1 := h.c1
  have c2 := h.c2
  have f0 := h.f0
  by_cases hz : n = 0
  · subst hz
    rw [show putE 0 = 4 from rfl, show putN 0 s = 0 from rfl, show putB 0 s = false from rfl]
    go_enter Try.func15, Try.ntmps15
    go_wp2_with (go_at_call 31; refine (cntOut B _ _ (by assumption)).mono ?_; rintro e w' ⟨rfl, rfl⟩)
    go_ret2
    exact ⟨rfl, grownBy_refl _ _, h⟩
  · have e0 : (n == 0) = false := by rw [beq_eq_false_iff_ne]; exact hz
    cases s
    · rw [show putE n = 0 from by unfold putE; simp [hz], show putN n false = n - 1 from by unfold putN; simp [hz], show putB n false = (n == 1) from by unfold putB; simp [hz]]
      have HE := Lib.hid h
      have HB : (n - 1 == 0) = (n == 1) := by rw [Bool.eq_iff_iff]; simp; omega
      have HB' := Lib.hid HB
      have c3 : (w.setCell ⟨B, 0, none⟩ (.int .i64 (n - 1))).cell? ⟨B, 0, none⟩ = some (.int .i64 (n - 1)) := h.set0.c0
      clear h hz HB
      go_enter Try.func15, Try.ntmps15
      go_wp2_with fail
      refine (cntOut B _ _ (by assumption)).mono ?_; rintro e w' ⟨rfl, rfl⟩
      go_wp2_with fail
      refine (cntOut B (n - 1) _ c3).mono ?_; rintro e w' ⟨rfl, rfl⟩
      go_wp2_with fail
      go_ret2
      exact ⟨by rw [HB'.out]; rfl, grownBy_set _ _ _ _, HE.out.set0⟩
    · rw [show putE n = 0 from by unfold putE; simp [hz], show putN n true = n from by unfold putN; simp, show putB n true = false from by unfold putB; simp]
      clear hz
      go_enter Try.func15, Try.ntmps15
      go_wp2_with (go_at_call 31; refine (cntOut B _ _ (by assumption)).mono ?_; rintro e w' ⟨rfl, rfl⟩)
      go_ret2
      exact ⟨rfl, grownBy_refl _ _, h⟩

theorem cntValue (B : Nat) (n top : Int) (s : Bool) (w : World) (h : IsCnt w B n top s) : Calls Try.prog 16 #[.pointer (some ⟨B, 0, none⟩)] w fun e w' => e = .returned (.int .i64 n) ∧ w = w' := by
  have c0 := h.c0
  clear h
  go_enter Try.func16, Try.ntmps16
  go_wp2
  go_ret
  exact ⟨rfl, rfl⟩
theorem cntStuck (B : Nat) (n top : Int) (s : Bool) (w : World) (h : IsCnt w B n top s) : Calls Try.prog 17 #[.pointer (some ⟨B, 0, none⟩)] w fun e w' => e = .returned (.bool s) ∧ w = w' := by
  have c2 := h.c2
  clear h
  go_enter Try.func17, Try.ntmps17
  go_wp2
  go_ret
  exact ⟨rfl, rfl⟩

/-- is it no count? -/
def badB (n top : Int) : Bool := decide (top < 1 ∨ 65535 < top ∨ n < 0 ∨ top < n)

theorem cntNewBad (n top : Int) (w : World) (h : badB n top = true) : Calls Try.prog 9 #[.int .i64 n, .int .i64 top] w fun e w' => e = .returned (.tuple #[.pointer none, .int .i64 2]) ∧ w = w' := by
  have h' := of_decide_eq_true h
  clear h
  by_cases a : top < 1
  · have d1 : decide (top < 1) = true := decide_eq_true a
    go_enter Try.func9, Try.ntmps9
    go_wp2
    go_ret2
    exact ⟨rfl, rfl⟩
  · have d1 : decide (top < 1) = false := decide_eq_false a
    by_cases b : 65535 < top
    · have d2 : decide (65535 < top) = true := decide_eq_true b
      clear h'
      go_enter Try.func9, Try.ntmps9
      go_wp2
      go_ret2
      exact ⟨rfl, rfl⟩
    · have d2 : decide (65535 < top) = false := decide_eq_false b
      by_cases c : n < 0
      · have d3 : decide (n < 0) = true := decide_eq_true c
        clear h'
        go_enter Try.func9, Try.ntmps9
        go_wp2
        go_ret2
        exact ⟨rfl, rfl⟩
      · have d3 : decide (n < 0) = false := decide_eq_false c
        have d4 : decide (top < n) = true := decide_eq_true (by omega)
        clear h'
        go_enter Try.func9, Try.ntmps9
        go_wp2
        go_ret2
        exact ⟨rfl, rfl⟩

theorem cntNew (n top : Int) (w : World) (t0 : 1 ≤ top) (t1 : top ≤ 65535) (n0 : 0 ≤ n) (n1 : n ≤ top) :
    Calls Try.prog 9 #[.int .i64 n, .int .i64 top] w fun e w' => e = .returned (.tuple #[.pointer (some ⟨w.heap.size, 0, none⟩), .int .i64 0]) ∧ w.alloc (.cells #[.int .i64 n, .int .i64 top, .bool false] 75) = w' := by
  have d1 : decide (top < 1) = false := decide_eq_false (by omega)
  have d2 : decide (65535 < top) = false := decide_eq_false (by omega)
  have d3 : decide (n < 0) = false := decide_eq_false (by omega)
  have d4 : decide (top < n) = false := decide_eq_false (by omega)
  go_enter Try.func9, Try.ntmps9
  go_wp2
  go_ret2
  exact ⟨rfl, rfl⟩

theorem refNewBad (n top : Int) (w : World) (h : badB n top = true) : Calls Try.prog 10 #[.int .i64 n, .int .i64 top] w fun e w' => e = .returned (.int .i64 2) ∧ w = w' := by
  have h' := of_decide_eq_true h
  clear h
  by_cases a : top < 1
  · have d1 : decide (top < 1) = true := decide_eq_true a
    go_enter Try.func10, Try.ntmps10
    go_wp2
    go_ret
    exact ⟨rfl, rfl⟩
  · have d1 : decide (top < 1) = false := decide_eq_false a
    by_cases b : 65535 < top
    · have d2 : decide (65535 < top) = true := decide_eq_true b
      clear h'
      go_enter Try.func10, Try.ntmps10
      go_wp2
      go_ret
      exact ⟨rfl, rfl⟩
    · have d2 : decide (65535 < top) = false := decide_eq_false b
      by_cases c : n < 0
      · have d3 : decide (n < 0) = true := decide_eq_true c
        clear h'
        go_enter Try.func10, Try.ntmps10
        go_wp2
        go_ret
        exact ⟨rfl, rfl⟩
      · have d3 : decide (n < 0) = false := decide_eq_false c
        have d4 : decide (top < n) = true := decide_eq_true (by omega)
        clear h'
        go_enter Try.func10, Try.ntmps10
        go_wp2
        go_ret
        exact ⟨rfl, rfl⟩

theorem refNew (n top : Int) (w : World) (t0 : 1 ≤ top) (t1 : top ≤ 65535) (n0 : 0 ≤ n) (n1 : n ≤ top) :
    Calls Try.prog 10 #[.int .i64 n, .int .i64 top] w fun e w' => e = .returned (.int .i64 0) ∧ w = w' := by
  have d1 : decide (top < 1) = false := decide_eq_false (by omega)
  have d2 : decide (65535 < top) = false := decide_eq_false (by omega)
  have d3 : decide (n < 0) = false := decide_eq_false (by omega)
  have d4 : decide (top < n) = false := decide_eq_false (by omega)
  go_enter Try.func10, Try.ntmps10
  go_wp2
  go_ret
  exact ⟨rfl, rfl⟩

theorem isCnt_new (w : World) (n top : Int) (s : Bool) : IsCnt (w.alloc (.cells #[.int .i64 n, .int .i64 top, .bool s] 75)) w.heap.size n top s := heap_alloc_new w _
theorem isCnt_alloc {w : World} {B : Nat} {n top : Int} {s : Bool} (h : IsCnt w B n top s) (o : Obj) : IsCnt (w.alloc o) B n top s := (Below.heap_alloc w o B (lt_of_block h)).trans h
theorem below_grown {B C : Nat} {a w w' : World} (h : Below B a w) (g : w.grownBy w' (some C)) (hB : B ≤ w.heap.size) (hC : B ≤ C) : Below B a w' := h.grown g hB (fun k hk => by cases hk; exact hC)
theorem isCnt_kept {w w' : World} {B k : Nat} {n top : Int} {s : Bool} (h : IsCnt w B n top s) (b : Below k w w') (hk : B < k) : IsCnt w' B n top s := (b.block B hk).trans h

theorem cntKnown (w : World) : Calls Try.prog 11 #[] w fun e w' => e = .returned (.bool true) ∧ Below w.heap.size w w' := by
  have k1 : getE 1 2 false = 0 := rfl
  have k2 : getE 2 2 false = 13 := rfl
  have k3 : putE 1 = 0 := rfl
  have k4 : putB 1 false = true := rfl
  have k5 : getE 0 2 false = 4 := rfl
  have HB0 := Lib.hid ((Below.refl w.heap.size w).alloc (Nat.le_refl _) (.cells #[.int .i64 1, .int .i64 2, .bool false] 75))
  go_enter Try.func11, Try.ntmps11
  go_wp2_with fail
  refine (cntNew 1 2 _ (by omega) (by omega) (by omega) (by omega)).mono ?_; rintro e w' ⟨rfl, rfl⟩
  go_wp2_with fail
  refine (cntGet w.heap.size 1 2 false _ (isCnt_new w 1 2 false) (by omega) (by omega) (by omega)).mono ?_; rintro e w1 ⟨rfl, g1, c1⟩
  have HB1 := Lib.hid (below_grown HB0.out g1 (by simp) (Nat.le_refl _))
  have HC1 := Lib.hid c1
  clear g1 c1
  go_wp2_with fail
  refine (cntGet w.heap.size 2 2 false _ HC1.out (by omega) (by omega) (by omega)).mono ?_; rintro e w2 ⟨rfl, g2, c2⟩
  have HB2 := Lib.hid (below_grown HB1.out g2 (Nat.le_of_lt (lt_of_block HC1.out)) (Nat.le_refl _))
  have HC2 := Lib.hid c2
  clear g2 c2
  go_wp2_with fail
  refine (cntValue w.heap.size 2 2 true _ HC2.out).mono ?_; rintro e w' ⟨rfl, rfl⟩
  go_wp2_with fail
  refine (cntStuck w.heap.size 2 2 true _ HC2.out).mono ?_; rintro e w' ⟨rfl, rfl⟩
  go_wp2_with fail
  refine (cntNew 1 2 _ (by omega) (by omega) (by omega) (by omega)).mono ?_; rintro e w' ⟨rfl, rfl⟩
  go_wp2_with fail
  refine (cntPut w2.heap.size 1 2 false _ (isCnt_new w2 1 2 false) (by omega) (by omega)).mono ?_; rintro e w3 ⟨rfl, g3, c3⟩
  have hsz := lt_of_block HC2.out
  have HB3 := Lib.hid (below_grown (HB2.out.alloc (Nat.le_of_lt hsz) _) g3 (by simp; omega) (Nat.le_of_lt hsz))
  have HC3 := Lib.hid c3
  clear g3 c3
  go_wp2_with fail
  refine (cntGet w2.heap.size 0 2 false _ HC3.out (by omega) (by omega) (by omega)).mono ?_; rintro e w4 ⟨rfl, g4, c4⟩
  have HB4 := Lib.hid (below_grown HB3.out g4 (by have := lt_of_block HC3.out; omega) (Nat.le_of_lt hsz))
  clear g4 c4
  go_wp2_with fail
  go_ret
  exact ⟨rfl, HB4.out⟩

theorem refGet (n top : Int) (s : Bool) (w : World) (n0 : 0 ≤ n) (n1 : n ≤ top) (t1 : top ≤ 65535) :
    Calls Try.prog 12 #[.agg #[.int .i64 n, .int .i64 top, .bool s]] w fun e w' => e = .returned (.tuple #[.agg #[.int .i64 (getN n top s), .int .i64 top, .bool (getS n top s)], .int .i64 (getE n top s)]) ∧ Below w.heap.size w w' := by
  by_cases hz : n = 0
  · subst hz
    rw [show getE 0 top s = 4 from rfl, show getN 0 top s = 0 from rfl, show getS 0 top s = s from rfl]
    go_enter Try.func12, Try.ntmps12
    go_wp2
    refine bodyPost_ret (v := .tuple #[.agg #[.int .i64 0, .int .i64 top, .bool s], .int .i64 4]) (by simp [results, Try.results12, go_sem]) rfl ⟨rfl, ?_⟩
    go_grown
  · have e0 : (n == 0) = false := by rw [beq_eq_false_iff_ne]; exact hz
    cases s
    · by_cases ht : n = top
      · subst ht
        rw [show getE n n false = 13 from by unfold getE; simp [hz], show getN n n false = n from by unfold getN; simp, show getS n n false = true from by unfold getS; simp [hz]]
        have e1 : (n == n) = true := by simp
        clear hz
        go_enter Try.func12, Try.ntmps12
        go_wp2
        refine bodyPost_ret (v := .tuple #[.agg #[.int .i64 n, .int .i64 n, .bool true], .int .i64 13]) (by simp [results, Try.results12, go_sem]) rfl ⟨rfl, ?_⟩
        go_grown
      · have e1 : (n == top) = false := by rw [beq_eq_false_iff_ne]; exact ht
        rw [show getE n top false = 0 from by unfold getE; simp [hz, ht], show getN n top false = n + 1 from by unfold getN; simp [hz, ht], show getS n top false = false from by unfold getS; simp [hz, ht]]
        clear hz ht
        go_enter Try.func12, Try.ntmps12
        go_wp2
        refine bodyPost_ret (v := .tuple #[.agg #[.int .i64 (n + 1), .int .i64 top, .bool false], .int .i64 0]) (by simp [results, Try.results12, go_sem]) rfl ⟨rfl, ?_⟩
        go_grown
    · rw [show getE n top true = 13 from by unfold getE; simp [hz], show getN n top true = n from by unfold getN; simp, show getS n top true = true from by unfold getS; simp]
      clear hz
      go_enter Try.func12, Try.ntmps12
      go_wp2
      refine bodyPost_ret (v := .tuple #[.agg #[.int .i64 n, .int .i64 top, .bool true], .int .i64 13]) (by simp [results, Try.results12, go_sem]) rfl ⟨rfl, ?_⟩
      go_grown

theorem refPut (n top : Int) (s : Bool) (w : World) (n0 : 0 ≤ n) (n1 : n ≤ 65535) :
    Calls Try.prog 14 #[.agg #[.int .i64 n, .int .i64 top, .bool s]] w fun e w' => e = .returned (.tuple #[.agg #[.int .i64 (putN n s), .int .i64 top, .bool s], .bool (putB n s), .int .i64 (putE n)]) ∧ Below w.heap.size w w' := by
  by_cases hz : n = 0
  · subst hz
    rw [show putE 0 = 4 from rfl, show putN 0 s = 0 from rfl, show putB 0 s = false from rfl]
    go_enter Try.func14, Try.ntmps14
    go_wp2
    refine bodyPost_ret (v := .tuple #[.agg #[.int .i64 0, .int .i64 top, .bool s], .bool false, .int .i64 4]) (by simp [results, Try.results14, go_sem]) rfl ⟨rfl, ?_⟩
    go_grown
  · have e0 : (n == 0) = false := by rw [beq_eq_false_iff_ne]; exact hz
    cases s
    · rw [show putE n = 0 from by unfold putE; simp [hz], show putN n false = n - 1 from by unfold putN; simp [hz], show putB n false = (n == 1) from by unfold putB; simp [hz]]
      clear hz
      go_enter Try.func14, Try.ntmps14
      go_wp2
      go_region
      all_goals go_wp2
      all_goals (refine bodyPost_ret (v := .tuple #[.agg #[.int .i64 (n - 1), .int .i64 top, .bool false], .bool (n == 1), .int .i64 0]) (by simp [results, Try.results14, go_sem]) rfl ⟨rfl, ?_⟩)
      all_goals go_grown
    · rw [show putE n = 0 from by unfold putE; simp [hz], show putN n true = n from by unfold putN; simp, show putB n true = false from by unfold putB; simp]
      clear hz
      go_enter Try.func14, Try.ntmps14
      go_wp2
      refine bodyPost_ret (v := .tuple #[.agg #[.int .i64 n, .int .i64 top, .bool true], .bool false, .int .i64 0]) (by simp [results, Try.results14, go_sem]) rfl ⟨rfl, ?_⟩
      go_grown
end Go.Proofs.Ytkpenhichgkdkaa
