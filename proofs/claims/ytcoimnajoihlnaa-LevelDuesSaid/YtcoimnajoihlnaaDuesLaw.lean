/- The law LevelDues, walked. -/
import Derived.Test.YtcoimnajoihlnaaDues
import Derived.Deep.Slices
namespace Go.Proofs.Ytcoimnajoihlnaa
open Go.RowKit Go.ChangeShapes Go.WideShapes
set_option linter.unusedVariables false

theorem refTimeQ (a n s : Int) (w : World) (q : Nat) (a0 : 0 ≤ a) (a1 : a ≤ 18446744073709551615) (v er : Int) (hv : tmV a n s = v) (he : tmE n s = er) :
    Calls Try.prog 38 #[.int .u64 a, .int .i64 n, .int .i64 s] (w.drewN q) fun e w' => e = .returned (.tuple #[.int .u64 v, .int .i64 er]) ∧ w' = w.drewN q := by
  subst hv
  subst he
  exact (refTimeAny a n s _ a0 a1).mono fun _ _ h => ⟨h.1, h.2.symm⟩
theorem below_drewN {B : Nat} {a w : World} (h : Below B a w) (q : Nat) : Below B a (w.drewN q) := ⟨h.os, h.tape, h.output, h.size, h.block⟩

set_option maxHeartbeats 1600000 in
theorem duesl_few (a : Int) (w : World) (a0 : 0 ≤ a) (a1 : a ≤ 18446744073709551615) (b off len cap : Nat) (N S C D : Nat → Int) (hb : b < w.heap.size) (hx : Spots w b off len N S C D) (hpos : 0 < len) (hfew : len ≤ 40) (hlc : len ≤ cap) (hcm : cap ≤ 9223372036854775807) :
    Calls Try.prog 14 #[.int .u64 a, .slice (some ⟨b, off, none⟩) len cap] w fun e w' => e = .returned (.bool true) ∧ Below w.heap.size w w' := by
  have HX := Lib.hid hx
  clear hx
  have e0 : decide (0 < len) = true := decide_eq_true (by omega)
  go_enter Try.func14, Try.ntmps14
  go_wp2_with fail
  go_loopw [5, 6, 7] (fun v o i wr => ∃ k : Nat, k ≤ len ∧ i = .int .i64 k ∧ v = .int .u64 (lstN a N S k) ∧ o = .bool (okN N S k) ∧ Below w.heap.size w wr) (fun _ _ i _ => len - (intOf i).toNat)
  case atStart => exact ⟨0, Nat.zero_le _, rfl, rfl, rfl, Below.refl _ _⟩
  case round =>
    obtain ⟨k, hk, rfl, rfl, rfl, hbel⟩ := hrel
    have HBel := Lib.hid hbel
    have hsz := hbel.size
    clear hbel
    have hbd := lstN_bd N S a0 a1 k
    by_cases hlt : k < len
    · obtain ⟨x0, x1, x2, x3⟩ := HX.out.kept HBel.out hb k hlt
      have i0 : (0 : Int) ≤ (k : Int) := Int.natCast_nonneg _
      have i1 : (k : Int) < ((len : Nat) : Int) := by omega
      have HT := Lib.hid (fun W q => refTimeQ a (N k) (S k) W q a0 a1 _ _ rfl rfl)
      have hvb := tmV_bd (n := N k) (s := S k) a0 a1
      have HL := Lib.hid (show lstN a N S (k + 1) = if tmV a (N k) (S k) < lstN a N S k then tmV a (N k) (S k) else lstN a N S k from rfl)
      have HO := Lib.hid (show okN N S (k + 1) = (okN N S k && (tmE (N k) (S k) == 0)) from by show (okN N S k && !wrongB (N k) (S k)) = _; unfold tmE; cases wrongB (N k) (S k) <;> rfl)
      generalize lstN a N S k = ls at *
      generalize okN N S k = ok at *
      generalize tmV a (N k) (S k) = v at *
      generalize tmE (N k) (S k) = er at *
      generalize N k = nk at *
      generalize S k = sk at *
      cases ok
      · by_cases hc : v < ls
        · have HL' := Lib.hid (show lstN a N S (k + 1) = v from by rw [HL.out, if_pos hc])
          go_wp2_with fail
          go_quiet ((go_at_call 38; refine Calls.quiet_of_same (HT.out wr _)))
          go_wp2_with fail
          all_goals
            go_roundw
            case rel => exact ⟨k + 1, by omega, by go_num, by rw [HL'.out] <;> first | rfl | exact congrArg _ (by omega), by rw [HO.out] <;> simp, below_drewN HBel.out _⟩
            case measure => simp [intOf]; omega
        · have HL' := Lib.hid (show lstN a N S (k + 1) = ls from by rw [HL.out, if_neg hc])
          go_wp2_with fail
          go_quiet ((go_at_call 38; refine Calls.quiet_of_same (HT.out wr _)))
          go_wp2_with fail
          all_goals
            go_roundw
            case rel => exact ⟨k + 1, by omega, by go_num, by rw [HL'.out] <;> first | rfl | exact congrArg _ (by omega), by rw [HO.out] <;> simp, below_drewN HBel.out _⟩
            case measure => simp [intOf]; omega
      · by_cases hc : v < ls
        · have HL' := Lib.hid (show lstN a N S (k + 1) = v from by rw [HL.out, if_pos hc])
          go_wp2_with fail
          go_quiet ((go_at_call 38; refine Calls.quiet_of_same (HT.out wr _)))
          go_wp2_with fail
          all_goals
            go_roundw
            case rel => exact ⟨k + 1, by omega, by go_num, by rw [HL'.out] <;> first | rfl | exact congrArg _ (by omega), by rw [HO.out] <;> simp, below_drewN HBel.out _⟩
            case measure => simp [intOf]; omega
        · have HL' := Lib.hid (show lstN a N S (k + 1) = ls from by rw [HL.out, if_neg hc])
          go_wp2_with fail
          go_quiet ((go_at_call 38; refine Calls.quiet_of_same (HT.out wr _)))
          go_wp2_with fail
          all_goals
            go_roundw
            case rel => exact ⟨k + 1, by omega, by go_num, by rw [HL'.out] <;> first | rfl | exact congrArg _ (by omega), by rw [HO.out] <;> simp, below_drewN HBel.out _⟩
            case measure => simp [intOf]; omega
    · obtain rfl : k = len := by omega
      cases hq : okN N S k
      · have HD := Lib.hid (fun W (hW : Below w.heap.size w W) => dues_bad a W a0 a1 b off k cap N S C D (by have := hW.size; omega) (HX.out.kept hW hb) (by omega) (by omega) hq)
        have HQ := Lib.hid hq
        clear hq
        go_wp2_with fail
        refine (HD.out _ HBel.out).mono ?_; rintro e w2 ⟨rfl, hb2⟩
        have HB2 := Lib.hid (HBel.out.trans (hb2.mono hsz))
        clear hb2
        go_wp2_with fail
        refine (levKnown _).mono ?_; rintro e w3 ⟨rfl, hb3⟩
        have HB3 := Lib.hid (HB2.out.trans (hb3.mono HB2.out.size))
        clear hb3
        go_wp2_with fail
        go_ret
        exact ⟨rfl, HB3.out⟩
      · have HD := Lib.hid (fun W (hW : Below w.heap.size w W) => dues_some a W a0 a1 b off k cap N S C D (by have := hW.size; omega) (HX.out.kept hW hb) (by omega) (by omega) hq)
        have HQ := Lib.hid hq
        clear hq
        go_wp2_with fail
        refine (HD.out _ HBel.out).mono ?_; rintro e w2 ⟨rfl, hb2⟩
        have HB2 := Lib.hid (HBel.out.trans (hb2.mono hsz))
        clear hb2
        go_wp2_with fail
        refine (levKnown _).mono ?_; rintro e w3 ⟨rfl, hb3⟩
        have HB3 := Lib.hid (HB2.out.trans (hb3.mono HB2.out.size))
        clear hb3
        go_wp2_with fail
        go_ret
        exact ⟨rfl, HB3.out⟩

set_option maxHeartbeats 1600000 in
theorem duesl_many (a : Int) (w : World) (a0 : 0 ≤ a) (a1 : a ≤ 18446744073709551615) (b off len cap : Nat) (N S C D : Nat → Int) (hb : b < w.heap.size) (hx : Spots w b off 40 N S C D) (hmany : 40 < len) (hlc : len ≤ cap) (hcm : cap ≤ 9223372036854775807) :
    Calls Try.prog 14 #[.int .u64 a, .slice (some ⟨b, off, none⟩) len cap] w fun e w' => e = .returned (.bool true) ∧ Below w.heap.size w w' := by
  have HX := Lib.hid hx
  clear hx
  have e0 : decide (0 < 40) = true := decide_eq_true (by omega)
  go_enter Try.func14, Try.ntmps14
  go_wp2_with fail
  go_loopw [5, 6, 7] (fun v o i wr => ∃ k : Nat, k ≤ 40 ∧ i = .int .i64 k ∧ v = .int .u64 (lstN a N S k) ∧ o = .bool (okN N S k) ∧ Below w.heap.size w wr) (fun _ _ i _ => 40 - (intOf i).toNat)
  case atStart => exact ⟨0, Nat.zero_le _, rfl, rfl, rfl, Below.refl _ _⟩
  case round =>
    obtain ⟨k, hk, rfl, rfl, rfl, hbel⟩ := hrel
    have HBel := Lib.hid hbel
    have hsz := hbel.size
    clear hbel
    have hbd := lstN_bd N S a0 a1 k
    by_cases hlt : k < 40
    · obtain ⟨x0, x1, x2, x3⟩ := HX.out.kept HBel.out hb k hlt
      have i0 : (0 : Int) ≤ (k : Int) := Int.natCast_nonneg _
      have i1 : (k : Int) < ((40 : Nat) : Int) := by omega
      have HT := Lib.hid (fun W q => refTimeQ a (N k) (S k) W q a0 a1 _ _ rfl rfl)
      have hvb := tmV_bd (n := N k) (s := S k) a0 a1
      have HL := Lib.hid (show lstN a N S (k + 1) = if tmV a (N k) (S k) < lstN a N S k then tmV a (N k) (S k) else lstN a N S k from rfl)
      have HO := Lib.hid (show okN N S (k + 1) = (okN N S k && (tmE (N k) (S k) == 0)) from by show (okN N S k && !wrongB (N k) (S k)) = _; unfold tmE; cases wrongB (N k) (S k) <;> rfl)
      generalize lstN a N S k = ls at *
      generalize okN N S k = ok at *
      generalize tmV a (N k) (S k) = v at *
      generalize tmE (N k) (S k) = er at *
      generalize N k = nk at *
      generalize S k = sk at *
      cases ok
      · by_cases hc : v < ls
        · have HL' := Lib.hid (show lstN a N S (k + 1) = v from by rw [HL.out, if_pos hc])
          go_wp2_with fail
          go_quiet ((go_at_call 38; refine Calls.quiet_of_same (HT.out wr _)))
          go_wp2_with fail
          all_goals
            go_roundw
            case rel => exact ⟨k + 1, by omega, by go_num, by rw [HL'.out] <;> first | rfl | exact congrArg _ (by omega), by rw [HO.out] <;> simp, below_drewN HBel.out _⟩
            case measure => simp [intOf]; omega
        · have HL' := Lib.hid (show lstN a N S (k + 1) = ls from by rw [HL.out, if_neg hc])
          go_wp2_with fail
          go_quiet ((go_at_call 38; refine Calls.quiet_of_same (HT.out wr _)))
          go_wp2_with fail
          all_goals
            go_roundw
            case rel => exact ⟨k + 1, by omega, by go_num, by rw [HL'.out] <;> first | rfl | exact congrArg _ (by omega), by rw [HO.out] <;> simp, below_drewN HBel.out _⟩
            case measure => simp [intOf]; omega
      · by_cases hc : v < ls
        · have HL' := Lib.hid (show lstN a N S (k + 1) = v from by rw [HL.out, if_pos hc])
          go_wp2_with fail
          go_quiet ((go_at_call 38; refine Calls.quiet_of_same (HT.out wr _)))
          go_wp2_with fail
          all_goals
            go_roundw
            case rel => exact ⟨k + 1, by omega, by go_num, by rw [HL'.out] <;> first | rfl | exact congrArg _ (by omega), by rw [HO.out] <;> simp, below_drewN HBel.out _⟩
            case measure => simp [intOf]; omega
        · have HL' := Lib.hid (show lstN a N S (k + 1) = ls from by rw [HL.out, if_neg hc])
          go_wp2_with fail
          go_quiet ((go_at_call 38; refine Calls.quiet_of_same (HT.out wr _)))
          go_wp2_with fail
          all_goals
            go_roundw
            case rel => exact ⟨k + 1, by omega, by go_num, by rw [HL'.out] <;> first | rfl | exact congrArg _ (by omega), by rw [HO.out] <;> simp, below_drewN HBel.out _⟩
            case measure => simp [intOf]; omega
    · obtain rfl : k = 40 := by omega
      cases hq : okN N S 40
      · have HD := Lib.hid (fun W (hW : Below w.heap.size w W) => dues_bad a W a0 a1 b off 40 cap N S C D (by have := hW.size; omega) (HX.out.kept hW hb) (by omega) (by omega) hq)
        have HQ := Lib.hid hq
        clear hq
        go_wp2_with fail
        refine (HD.out _ HBel.out).mono ?_; rintro e w2 ⟨rfl, hb2⟩
        have HB2 := Lib.hid (HBel.out.trans (hb2.mono hsz))
        clear hb2
        go_wp2_with fail
        refine (levKnown _).mono ?_; rintro e w3 ⟨rfl, hb3⟩
        have HB3 := Lib.hid (HB2.out.trans (hb3.mono HB2.out.size))
        clear hb3
        go_wp2_with fail
        go_ret
        exact ⟨rfl, HB3.out⟩
      · have HD := Lib.hid (fun W (hW : Below w.heap.size w W) => dues_some a W a0 a1 b off 40 cap N S C D (by have := hW.size; omega) (HX.out.kept hW hb) (by omega) (by omega) hq)
        have HQ := Lib.hid hq
        clear hq
        go_wp2_with fail
        refine (HD.out _ HBel.out).mono ?_; rintro e w2 ⟨rfl, hb2⟩
        have HB2 := Lib.hid (HBel.out.trans (hb2.mono hsz))
        clear hb2
        go_wp2_with fail
        refine (levKnown _).mono ?_; rintro e w3 ⟨rfl, hb3⟩
        have HB3 := Lib.hid (HB2.out.trans (hb3.mono HB2.out.size))
        clear hb3
        go_wp2_with fail
        go_ret
        exact ⟨rfl, HB3.out⟩

theorem duesl_none (a : Int) (w : World) (ao : Option Addr) (cap : Nat) (hcap : ao = none → cap = 0) :
    Calls Try.prog 14 #[.int .u64 a, .slice ao 0 cap] w fun e w' => e = .returned (.bool true) ∧ Below w.heap.size w w' := by
  cases ao
  all_goals
    try (obtain rfl := hcap rfl)
    clear hcap
    go_enter Try.func14, Try.ntmps14
    go_wp2_with fail
    refine wp_loop_rounds 1 ?_
    rw [rounds_succ]
    go_wp2_with fail
    refine (dues_none a _ _ _).mono ?_; rintro e w2 ⟨rfl, hb2⟩
    have HB2 := Lib.hid hb2
    clear hb2
    go_wp2_with fail
    refine (levKnown _).mono ?_; rintro e w3 ⟨rfl, hb3⟩
    have HB3 := Lib.hid (HB2.out.trans (hb3.mono HB2.out.size))
    clear hb3
    go_wp2_with fail
    go_ret
    exact ⟨rfl, HB3.out⟩

/-- what a walk is told of a list of spots that came in -/
def SpotList (w : World) (v : Value) : Prop :=
  ∃ a len cap, v = .slice a len cap ∧ ((len = 0 ∧ (a = none → cap = 0)) ∨ (0 < len ∧ len ≤ cap ∧ cap ≤ 9223372036854775807 ∧ ∃ b off, a = some ⟨b, off, none⟩ ∧ b < w.heap.size ∧ ∃ N S C D, Spots w b off len N S C D))

theorem spots_view {H : Type} {enc : TypeId × Value → H} {W : World} {base : Nat} {v : Value} {d : DataW H} {ps : List MemPlace}
    (hv : Value.okWide Try.prog W .any base 61 v) (h : DataW.Trod enc Try.prog W 0 (fun _ => true) true 61 v d ps) : SpotList W v := by
  obtain ⟨a, len, cap, rfl⟩ := okWide_slice Try.underlying61 hv
  refine ⟨a, len, cap, rfl, ?_⟩
  obtain ⟨fuel, hf⟩ := h
  rcases Deep.open_slice Try.underlying61 hf with ⟨hcs, _⟩ | ⟨x, l, c, m, n, Dd, Pl, hcs, _, hl, hm, hmm, _, hx⟩
  · simp [Value.cells] at hcs
    exact .inl ⟨hcs.2.1, fun _ => hcs.2.2⟩
  · simp [Value.cells] at hcs
    obtain ⟨rfl, rfl, rfl⟩ := hcs
    by_cases h0 : len = 0
    · exact .inl ⟨h0, fun e => by cases e⟩
    right
    have ce : Try.prog.cellsOf 49 = 4 := by kernel_rfl
    have c3 : Try.prog.cellsOf 3 = 1 := by kernel_rfl
    have c22 : Try.prog.cellsOf 22 = 1 := by kernel_rfl
    have hb : ∀ j, j < len → ∃ q : Int × Int × Int × Int, W.cell? (x.add (j * 4)) = some (.int .i64 q.1) ∧ W.cell? (x.add (j * 4 + 1)) = some (.int .i64 q.2.1) ∧ W.cell? (x.add (j * 4 + 2)) = some (.int .u64 q.2.2.1) ∧ W.cell? (x.add (j * 4 + 3)) = some (.int .u64 q.2.2.2) := by
      intro j hj
      obtain ⟨cs, h1, h2⟩ := hx j (by simp at hmm; omega)
      rw [ce] at h1
      obtain ⟨_, hlen, hcell⟩ := World.cells?_some h1
      obtain ⟨xs, k, hk, hxy, _, hxl, hff⟩ := DataW.trod_struct Try.underlying49 h2
      match xs, hxl, cs, hlen with
      | [y0, y1, y2, y3], _, [v0, v1, v2, v3], _ =>
        have g0 := hff 0 _ rfl
        have g1 := hff 1 _ rfl
        have g2 := hff 2 _ rfl
        have g3 := hff 3 _ rfl
        simp [c3, c22] at g0 g1 g2 g3
        have k0 := hcell 0 (by omega)
        have k1 := hcell 1 (by omega)
        have k2 := hcell 2 (by omega)
        have k3 := hcell 3 (by omega)
        rw [Deep.add_add] at k0 k1 k2 k3
        obtain ⟨z0, f0, _⟩ := DataW.trod_int Try.underlying3 g0
        obtain ⟨z1, f1, _⟩ := DataW.trod_int Try.underlying3 g1
        obtain ⟨z2, f2, _⟩ := DataW.trod_int Try.underlying22 g2
        obtain ⟨z3, f3, _⟩ := DataW.trod_int Try.underlying22 g3
        simp at f0 f1 f2 f3
        subst f0 f1 f2 f3
        exact ⟨(z0, z1, z2, z3), by simpa using k0, by simpa using k1, by simpa using k2, by simpa using k3⟩
    obtain ⟨q, hq⟩ := Deep.choose_lt hb
    obtain ⟨b, off, spot⟩ := x
    have hc0 := (hq 0 (by omega)).1
    have hspot : spot = none := by simpa [Addr.add] using World.cell?_spot hc0
    subst hspot
    have hadd : ∀ j, (⟨b, off, none⟩ : Addr).add j = ⟨b, off + j, none⟩ := by intro j; unfold Addr.add; split <;> simp_all
    refine ⟨by omega, hl, by unfold maxLen at hm; omega, b, off, rfl, ?_, fun j => (q j).1, fun j => (q j).2.1, fun j => (q j).2.2.1, fun j => (q j).2.2.2, fun j hj => ?_⟩
    · have := World.block_lt_of_cell? W _ hc0
      simpa [Addr.add] using this
    · have h := hq j hj
      rw [hadd, hadd, hadd, hadd] at h
      exact h

theorem walk_LevelDues (a : Int) (v : Value) (w : World) (a0 : 0 ≤ a) (a1 : a ≤ 18446744073709551615) (hv : SpotList w v) : Calls Try.prog 14 #[.int .u64 a, v] w fun e w' => e = .returned (.bool true) ∧ Below w.heap.size w w' := by
  obtain ⟨ao, len, cap, rfl, hx⟩ := hv
  rcases hx with ⟨rfl, hcap⟩ | ⟨hpos, hlc, hcm, b, off, rfl, hb, N, S, C, D, hx⟩
  · exact duesl_none a w ao cap hcap
  · by_cases h : len ≤ 40
    · exact duesl_few a w a0 a1 b off len cap N S C D hb hx hpos h hlc hcm
    · exact duesl_many a w a0 a1 b off len cap N S C D hb (hx.less (by omega)) (by omega) hlc hcm
end Go.Proofs.Ytcoimnajoihlnaa
