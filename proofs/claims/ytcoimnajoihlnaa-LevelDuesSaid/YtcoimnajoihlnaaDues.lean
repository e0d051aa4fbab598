/- The least time of some spots: the closure, the library's search, and the method, each by a contract. -/
import Derived.Test.YtcoimnajoihlnaaLevLaw
namespace Go.Proofs.Ytcoimnajoihlnaa
open Go.RowKit
set_option linter.unusedVariables false

/-- a slot's time and error, whatever slot -/
def tmV (a n s : Int) : Int := if wrongB n s = true then 0 else timeV a (gr n) s
def tmE (n s : Int) : Int := if wrongB n s = true then 2 else 0
theorem timeV_bd {a g s : Int} (a0 : 0 ≤ a) (a1 : a ≤ 18446744073709551615) (g1 : 1 ≤ g) : 0 ≤ timeV a g s ∧ timeV a g s ≤ 18446744073709551615 := by
  have hq := div_word (g := g) a0 a1 g1
  have hm := moreV_bd a g s
  unfold timeV tickV
  split
  · omega
  · split
    · omega
    · rename_i h1 h2
      have h3 : a / g + moreV a g s ≤ 18446744073709551615 / g := by omega
      have h4 : (a / g + moreV a g s) * g ≤ (18446744073709551615 / g) * g := Int.mul_le_mul_of_nonneg_right h3 (by omega)
      have h5 := Int.ediv_mul_le 18446744073709551615 (show g ≠ 0 by omega)
      exact ⟨Int.mul_nonneg (by omega) (by omega), by omega⟩
theorem tmV_bd {a n s : Int} (a0 : 0 ≤ a) (a1 : a ≤ 18446744073709551615) : 0 ≤ tmV a n s ∧ tmV a n s ≤ 18446744073709551615 := by
  unfold tmV
  split
  · omega
  · rename_i h
    have h' : wrongB n s = false := by simpa using h
    have h2 := of_decide_eq_false h'
    exact timeV_bd a0 a1 (gr_bd (by omega) (by omega)).1

theorem levTimeAny (a n s : Int) (w : World) (a0 : 0 ≤ a) (a1 : a ≤ 18446744073709551615) : Calls Try.prog 37 #[.int .u64 a, .int .i64 n, .int .i64 s] w fun e w' => e = .returned (.tuple #[.int .u64 (tmV a n s), .int .i64 (tmE n s)]) ∧ w = w' := by
  cases h : wrongB n s
  · have h' := of_decide_eq_false h
    rw [show tmV a n s = timeV a (gr n) s from by unfold tmV; simp [h], show tmE n s = 0 from by unfold tmE; simp [h]]
    exact levTime a n s w a0 a1 (by omega) (by omega) (by omega) (by omega)
  · rw [show tmV a n s = 0 from by unfold tmV; simp [h], show tmE n s = 2 from by unfold tmE; simp [h]]
    exact levTimeWrong a n s w h
theorem refTimeAny (a n s : Int) (w : World) (a0 : 0 ≤ a) (a1 : a ≤ 18446744073709551615) : Calls Try.prog 38 #[.int .u64 a, .int .i64 n, .int .i64 s] w fun e w' => e = .returned (.tuple #[.int .u64 (tmV a n s), .int .i64 (tmE n s)]) ∧ w = w' := by
  cases h : wrongB n s
  · have h' := of_decide_eq_false h
    rw [show tmV a n s = timeV a (gr n) s from by unfold tmV; simp [h], show tmE n s = 0 from by unfold tmE; simp [h]]
    exact refTime a n s w a0 a1 (by omega) (by omega) (by omega) (by omega)
  · rw [show tmV a n s = 0 from by unfold tmV; simp [h], show tmE n s = 2 from by unfold tmE; simp [h]]
    exact refTimeWrong a n s w h

theorem duesFn (a n s c d : Int) (C : Nat) (w : World) (a0 : 0 ≤ a) (a1 : a ≤ 18446744073709551615) (hc : w.cell? ⟨C, 0, none⟩ = some (.int .u64 a)) (wr : Bool) (hwr : wrongB n s = wr) :
    Calls Try.prog 46 #[.agg #[.int .i64 n, .int .i64 s, .int .u64 c, .int .u64 d], .pointer (some ⟨C, 0, none⟩)] w fun e w' => e = .returned (.bool wr) ∧ Below w.heap.size w w' := by
  have hlt := World.block_lt_of_cell? w _ hc
  have HT := Lib.hid (fun W => levTimeAny a n s W a0 a1)
  have hE : tmE n s = if wr = true then 2 else 0 := by unfold tmE; rw [hwr]
  clear hwr
  generalize tmV a n s = v at *
  generalize tmE n s = er at *
  cases wr
  · obtain rfl : er = 0 := hE
    go_enter Try.func46, Try.ntmps46
    go_wp2_with (go_at_call 37; refine (HT.out _).mono ?_; rintro e w' ⟨rfl, rfl⟩)
    go_ret
    exact ⟨rfl, by go_grown⟩
  · obtain rfl : er = 2 := hE
    go_enter Try.func46, Try.ntmps46
    go_wp2_with (go_at_call 37; refine (HT.out _).mono ?_; rintro e w' ⟨rfl, rfl⟩)
    go_ret
    exact ⟨rfl, by go_grown⟩

/-- the spots of a list, cell by cell -/
def Spots (w : World) (b off len : Nat) (N S C D : Nat → Int) : Prop :=
  ∀ j, j < len → w.cell? ⟨b, off + j * 4, none⟩ = some (.int .i64 (N j)) ∧ w.cell? ⟨b, off + j * 4 + 1, none⟩ = some (.int .i64 (S j)) ∧ w.cell? ⟨b, off + j * 4 + 2, none⟩ = some (.int .u64 (C j)) ∧ w.cell? ⟨b, off + j * 4 + 3, none⟩ = some (.int .u64 (D j))
theorem Spots.kept {w w' : World} {b off len k : Nat} {N S C D : Nat → Int} (h : Spots w b off len N S C D) (hb : Below k w w') (hlt : b < k) : Spots w' b off len N S C D := fun j hj =>
  ⟨(hb.cell (p := ⟨b, off + j * 4, none⟩) hlt).trans (h j hj).1, (hb.cell (p := ⟨b, off + j * 4 + 1, none⟩) hlt).trans (h j hj).2.1, (hb.cell (p := ⟨b, off + j * 4 + 2, none⟩) hlt).trans (h j hj).2.2.1, (hb.cell (p := ⟨b, off + j * 4 + 3, none⟩) hlt).trans (h j hj).2.2.2⟩
theorem Spots.less {w : World} {b off len len' : Nat} {N S C D : Nat → Int} (h : Spots w b off len N S C D) (hl : len' ≤ len) : Spots w b off len' N S C D := fun j hj => h j (by omega)

/-- are the first k spots right? -/
def okN (N S : Nat → Int) : Nat → Bool
  | 0 => true
  | k + 1 => okN N S k && !wrongB (N k) (S k)
/-- the least time of the first k -/
def lstN (a : Int) (N S : Nat → Int) : Nat → Int
  | 0 => 18446744073709551615
  | k + 1 => if tmV a (N k) (S k) < lstN a N S k then tmV a (N k) (S k) else lstN a N S k
theorem lstN_bd {a : Int} (N S : Nat → Int) (a0 : 0 ≤ a) (a1 : a ≤ 18446744073709551615) : ∀ k, 0 ≤ lstN a N S k ∧ lstN a N S k ≤ 18446744073709551615
  | 0 => by simp [lstN]
  | k + 1 => by
    have h := lstN_bd N S a0 a1 k
    have h2 := tmV_bd (n := N k) (s := S k) a0 a1
    unfold lstN
    split <;> omega
theorem okN_mono (N S : Nat → Int) {k m : Nat} (h : k ≤ m) (hm : okN N S m = true) : okN N S k = true := by
  induction m with
  | zero => obtain rfl : k = 0 := by omega
            exact hm
  | succ m ih =>
    by_cases hk : k = m + 1
    · subst hk; exact hm
    · unfold okN at hm
      simp only [Bool.and_eq_true] at hm
      exact ih (by omega) hm.1

/-- what the search answers: below 0 just if all are right -/
def IdxPost (w : World) (all : Bool) (e : Ending) (w' : World) : Prop := ∃ r : Int, e = .returned (.int .i64 r) ∧ -1 ≤ r ∧ r ≤ 9223372036854775807 ∧ decide (0 ≤ r) = !all ∧ Below w.heap.size w w'

set_option maxHeartbeats 800000 in
theorem duesIdx (a : Int) (B : Nat) (w : World) (a0 : 0 ≤ a) (a1 : a ≤ 18446744073709551615) (hB : w.cell? ⟨B, 0, none⟩ = some (.int .u64 a)) (b off len cap : Nat) (N S C D : Nat → Int) (hb : b < w.heap.size) (hx : Spots w b off len N S C D) (hm : len ≤ 9223372036854775806) :
    Calls Try.prog 48 #[.slice (some ⟨b, off, none⟩) len cap, .func (.func 46) #[] #[.pointer (some ⟨B, 0, none⟩)]] w (IdxPost w (okN N S len)) := by
  have hBl := World.block_lt_of_cell? w _ hB
  have HX := Lib.hid hx
  have HB := Lib.hid hB
  clear hx hB
  go_enter Try.func48, Try.ntmps48
  go_wp2_with fail
  go_loopw [8] (fun i wr => ∃ k : Nat, k ≤ len ∧ i = .int .i64 k ∧ okN N S k = true ∧ Below w.heap.size w wr) (fun i _ => len - (intOf i).toNat)
  case atStart => exact ⟨0, Nat.zero_le _, rfl, rfl, Below.refl _ _⟩
  case round =>
    obtain ⟨k, hk, rfl, hok, hbel⟩ := hrel
    have HK := Lib.hid hok
    have HBel := Lib.hid hbel
    have hsz := hbel.size
    clear hok hbel
    by_cases hlt : k < len
    · obtain ⟨x0, x1, x2, x3⟩ := HX.out.kept HBel.out hb k hlt
      have hBc : wr.cell? ⟨B, 0, none⟩ = some (.int .u64 a) := (HBel.out.cell (p := ⟨B, 0, none⟩) hBl).trans HB.out
      cases hwr : wrongB (N k) (S k)
      · have HN := Lib.hid (show okN N S (k + 1) = true from by unfold okN; rw [HK.out, hwr]; rfl)
        have HF := Lib.hid (duesFn a (N k) (S k) (C k) (D k) B wr a0 a1 hBc false hwr)
        clear hwr hBc
        go_wp2_with (go_at_call 46; refine HF.out.mono ?_; rintro e w2 ⟨rfl, hb2⟩)
        go_roundw
        case rel => exact ⟨k + 1, by omega, by go_num, HN.out, HBel.out.trans (hb2.mono hsz)⟩
        case measure => simp [intOf]; omega
      · have HN := Lib.hid (show okN N S len = false from by
          cases hq : okN N S len
          · rfl
          · have := okN_mono N S (show k + 1 ≤ len by omega) hq
            unfold okN at this
            rw [hwr] at this
            simp at this)
        have HF := Lib.hid (duesFn a (N k) (S k) (C k) (D k) B wr a0 a1 hBc true hwr)
        clear hwr hBc
        go_wp2_with (go_at_call 46; refine HF.out.mono ?_; rintro e w2 ⟨rfl, hb2⟩)
        go_ret
        exact ⟨k, rfl, by omega, by omega, by rw [HN.out]; simp, HBel.out.trans (hb2.mono hsz)⟩
    · obtain rfl : k = len := by omega
      go_wp2
      go_ret
      exact ⟨-1, rfl, by omega, by omega, by rw [HK.out]; simp, HBel.out⟩

theorem duesContains (a : Int) (B : Nat) (w : World) (a0 : 0 ≤ a) (a1 : a ≤ 18446744073709551615) (hB : w.cell? ⟨B, 0, none⟩ = some (.int .u64 a)) (b off len cap : Nat) (N S C D : Nat → Int) (hb : b < w.heap.size) (hx : Spots w b off len N S C D) (hm : len ≤ 9223372036854775806) :
    Calls Try.prog 47 #[.slice (some ⟨b, off, none⟩) len cap, .func (.func 46) #[] #[.pointer (some ⟨B, 0, none⟩)]] w fun e w' => e = .returned (.bool (!okN N S len)) ∧ Below w.heap.size w w' := by
  have HI := Lib.hid (duesIdx a B w a0 a1 hB b off len cap N S C D hb hx hm)
  clear hx hB
  go_enter Try.func47, Try.ntmps47
  go_wp2_with fail
  refine HI.out.mono ?_; rintro e w2 ⟨r, rfl, r0, r1, hr, hb2⟩
  have HR := Lib.hid hr
  have HB2 := Lib.hid hb2
  clear hr hb2
  go_wp2_with fail
  go_ret
  exact ⟨by rw [← HR.out]; rfl, HB2.out⟩

/-- block B is a spot of the loop's -/
theorem dues_some (a : Int) (w : World) (a0 : 0 ≤ a) (a1 : a ≤ 18446744073709551615) (b off len cap : Nat) (N S C D : Nat → Int) (hb : b < w.heap.size) (hx : Spots w b off len N S C D) (hpos : 0 < len) (hm : len ≤ 9223372036854775806) (hok : okN N S len = true) :
    Calls Try.prog 39 #[.int .u64 a, .slice (some ⟨b, off, none⟩) len cap] w fun e w' => e = .returned (.tuple #[.int .u64 (lstN a N S len), .bool true]) ∧ Below w.heap.size w w' := by
  have hA := heap_alloc_new w (.cells #[.int .u64 a] 22)
  have HC := Lib.hid (duesContains a w.heap.size _ a0 a1 (cell_of_one hA) b off len cap N S C D (by simp; omega) (hx.kept ((Below.refl w.heap.size w).alloc (Nat.le_refl _) _) hb) hm)
  rw [hok] at HC
  have HX := Lib.hid hx
  have e0 : ((len : Int) == 0) = false := by rw [beq_eq_false_iff_ne]; omega
  have e0' : (len == 0) = false := by rw [beq_eq_false_iff_ne]; omega
  clear hx hok hA
  go_enter Try.func39, Try.ntmps39
  go_wp2_with fail
  refine HC.out.mono ?_; rintro e w2 ⟨rfl, hb2⟩
  have hsz2 : w.heap.size + 1 ≤ w2.heap.size := by have := hb2.size; simp at this; omega
  have HA2 := Lib.hid ((hb2.cell (p := ⟨w.heap.size, 0, none⟩) (by simp)).trans (cell_of_one (heap_alloc_new w (.cells #[.int .u64 a] 22))))
  have HB2 := Lib.hid (((Below.refl w.heap.size w).alloc (Nat.le_refl _) (.cells #[.int .u64 a] 22)).trans (hb2.mono (by simp)))
  clear hb2
  go_wp2_with fail
  go_loopw [7, 23] (fun v i wr => ∃ k : Nat, k ≤ len ∧ i = .int .i64 k ∧ v = .int .u64 (lstN a N S k) ∧ Below (w.heap.size + 1) w2 wr) (fun _ i _ => len - (intOf i).toNat)
  case atStart => exact ⟨0, Nat.zero_le _, rfl, rfl, Below.refl _ _⟩
  case round =>
    obtain ⟨k, hk, rfl, rfl, hbel⟩ := hrel
    have HBel := Lib.hid hbel
    have hsz := hbel.size
    clear hbel
    have hbd := lstN_bd N S a0 a1 k
    by_cases hlt : k < len
    · obtain ⟨x0, x1, x2, x3⟩ := (HX.out.kept HB2.out hb).kept HBel.out (show b < w.heap.size + 1 by omega) k hlt
      have hBc : wr.cell? ⟨w.heap.size, 0, none⟩ = some (.int .u64 a) := (HBel.out.cell (p := ⟨w.heap.size, 0, none⟩) (by simp)).trans HA2.out
      have HT := Lib.hid (fun W => levTimeAny a (N k) (S k) W a0 a1)
      have hvb := tmV_bd (n := N k) (s := S k) a0 a1
      have HL := Lib.hid (show lstN a N S (k + 1) = if tmV a (N k) (S k) < lstN a N S k then tmV a (N k) (S k) else lstN a N S k from rfl)
      generalize lstN a N S k = ls at *
      generalize tmV a (N k) (S k) = v at *
      generalize tmE (N k) (S k) = er at *
      generalize N k = nk at *
      generalize S k = sk at *
      generalize C k = ck at *
      generalize D k = dk at *
      have hBa : (wr.alloc (.cells #[.int .i64 nk, .int .i64 sk, .int .u64 ck, .int .u64 dk] 49)).cell? ⟨w.heap.size, 0, none⟩ = some (.int .u64 a) := (World.grownBy_alloc wr _ none).cell hBc (by simp)
      by_cases hc : v < ls
      · have HL' := Lib.hid (show lstN a N S (k + 1) = v from by rw [HL.out, if_pos hc])
        go_wp2_with (go_at_call 37; refine (HT.out _).mono ?_; rintro e w' ⟨rfl, rfl⟩)
        go_roundw
        case rel => exact ⟨k + 1, by omega, by go_num, by rw [HL'.out], by have hB := HBel.out; go_grown⟩
        case measure => simp [intOf]; omega
      · have HL' := Lib.hid (show lstN a N S (k + 1) = ls from by rw [HL.out, if_neg hc])
        go_wp2_with (go_at_call 37; refine (HT.out _).mono ?_; rintro e w' ⟨rfl, rfl⟩)
        all_goals
          go_roundw
          case rel => exact ⟨k + 1, by omega, by go_num, by rw [HL'.out] <;> first | rfl | exact congrArg _ (by omega), by have hB := HBel.out; go_grown⟩
          case measure => simp [intOf]; omega
    · obtain rfl : k = len := by omega
      go_wp2
      go_ret2
      exact ⟨rfl, HB2.out.trans (HBel.out.mono (by omega))⟩

theorem dues_bad (a : Int) (w : World) (a0 : 0 ≤ a) (a1 : a ≤ 18446744073709551615) (b off len cap : Nat) (N S C D : Nat → Int) (hb : b < w.heap.size) (hx : Spots w b off len N S C D) (hpos : 0 < len) (hm : len ≤ 9223372036854775806) (hok : okN N S len = false) :
    Calls Try.prog 39 #[.int .u64 a, .slice (some ⟨b, off, none⟩) len cap] w fun e w' => e = .returned (.tuple #[.int .u64 0, .bool false]) ∧ Below w.heap.size w w' := by
  have hA := heap_alloc_new w (.cells #[.int .u64 a] 22)
  have HC := Lib.hid (duesContains a w.heap.size _ a0 a1 (cell_of_one hA) b off len cap N S C D (by simp; omega) (hx.kept ((Below.refl w.heap.size w).alloc (Nat.le_refl _) _) hb) hm)
  rw [hok] at HC
  have e0 : ((len : Int) == 0) = false := by rw [beq_eq_false_iff_ne]; omega
  have e0' : (len == 0) = false := by rw [beq_eq_false_iff_ne]; omega
  clear hx hok hA
  go_enter Try.func39, Try.ntmps39
  go_wp2_with fail
  refine HC.out.mono ?_; rintro e w2 ⟨rfl, hb2⟩
  have HB2 := Lib.hid (((Below.refl w.heap.size w).alloc (Nat.le_refl _) (.cells #[.int .u64 a] 22)).trans (hb2.mono (by simp)))
  clear hb2
  go_wp2_with fail
  go_ret2
  exact ⟨rfl, HB2.out⟩

theorem dues_none (a : Int) (w : World) (ao : Option Addr) (cap : Nat) :
    Calls Try.prog 39 #[.int .u64 a, .slice ao 0 cap] w fun e w' => e = .returned (.tuple #[.int .u64 0, .bool false]) ∧ Below w.heap.size w w' := by
  go_enter Try.func39, Try.ntmps39
  go_wp2
  go_ret2
  exact ⟨rfl, by go_grown⟩
end Go.Proofs.Ytcoimnajoihlnaa
