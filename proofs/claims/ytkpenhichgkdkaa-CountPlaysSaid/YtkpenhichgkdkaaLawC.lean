/- The law CountPlays, walked. -/
import Derived.Test.YtkpenhichgkdkaaLawB
namespace Go.Proofs.Ytkpenhichgkdkaa
open Go.RowKit Go.ChangeShapes Go.WideShapes
set_option linter.unusedVariables false

/-- block M is the reference's count, in a variable of the law's -/
def IsRef (w : World) (M : Nat) (n top : Int) (s : Bool) : Prop := w.heap[M]? = some (.cells #[.int .i64 n, .int .i64 top, .bool s] 30 (0, 0))

theorem plays_bad (n top : Int) (v : Value) (w : World) (h : badB n top = true) : Calls Try.prog 3 #[.int .i64 n, .int .i64 top, v] w fun e w' => e = .returned (.bool true) ∧ Below w.heap.size w w' := by
  go_enter Try.func3, Try.ntmps3
  go_wp2_with fail
  refine (cntNewBad n top _ h).mono ?_; rintro e w' ⟨rfl, rfl⟩
  go_wp2_with fail
  refine (refNewBad n top _ h).mono ?_; rintro e w' ⟨rfl, rfl⟩
  go_wp2_with fail
  refine (cntKnown _).mono ?_; rintro e w' ⟨rfl, hb⟩
  have HB := Lib.hid hb
  clear hb
  go_wp2_with fail
  go_ret
  exact ⟨rfl, HB.out⟩

theorem IsRef.c0 {w : World} {M : Nat} {n top : Int} {s : Bool} (h : IsRef w M n top s) : w.cell? ⟨M, 0, none⟩ = some (.int .i64 n) := by unfold IsRef at h; simp [World.cell?, h]
theorem IsRef.c1 {w : World} {M : Nat} {n top : Int} {s : Bool} (h : IsRef w M n top s) : w.cell? ⟨M, 1, none⟩ = some (.int .i64 top) := by unfold IsRef at h; simp [World.cell?, h]
theorem IsRef.c2 {w : World} {M : Nat} {n top : Int} {s : Bool} (h : IsRef w M n top s) : w.cell? ⟨M, 2, none⟩ = some (.bool s) := by unfold IsRef at h; simp [World.cell?, h]
theorem IsRef.f0 {w : World} {M : Nat} {n top : Int} {s : Bool} (h : IsRef w M n top s) : w.frozen? ⟨M, 0, none⟩ = false := by unfold IsRef at h; simp [World.frozen?, h]
theorem IsRef.f1 {w : World} {M : Nat} {n top : Int} {s : Bool} (h : IsRef w M n top s) : w.frozen? ⟨M, 1, none⟩ = false := by unfold IsRef at h; simp [World.frozen?, h]
theorem IsRef.f2 {w : World} {M : Nat} {n top : Int} {s : Bool} (h : IsRef w M n top s) : w.frozen? ⟨M, 2, none⟩ = false := by unfold IsRef at h; simp [World.frozen?, h]

theorem block_setCell {w : World} {b o : Nat} {v : Value} {cs : Array Value} {t : TypeId} {fr : Nat × Nat} (h : w.heap[b]? = some (.cells cs t fr)) : (w.setCell ⟨b, o, none⟩ v).heap[b]? = some (.cells (cs.setIfInBounds o v) t fr) := by
  have hlt := lt_of_block h
  have h' : w.heap[b] = .cells cs t fr := by simpa [Array.getElem?_eq_getElem hlt] using h
  show (w.heap.modify b _)[b]? = _
  rw [Array.getElem?_eq_getElem (by simpa using hlt), Array.getElem_modify_self, h']
  simp
theorem IsRef.set {w : World} {M : Nat} {n top n' top' : Int} {s s' : Bool} (h : IsRef w M n top s) : IsRef (((w.setCell ⟨M, 0, none⟩ (.int .i64 n')).setCell ⟨M, 1, none⟩ (.int .i64 top')).setCell ⟨M, 2, none⟩ (.bool s')) M n' top' s' :=
  block_setCell (block_setCell (block_setCell h))
theorem IsRef.drewN {w : World} {B : Nat} {n top : Int} {s : Bool} (h : IsRef w B n top s) (q : Nat) : IsRef (w.drewN q) B n top s := h
theorem below_drewN {B : Nat} {a w : World} (h : Below B a w) (q : Nat) : Below B a (w.drewN q) := ⟨h.os, h.tape, h.output, h.size, h.block⟩
theorem isCnt_far {w : World} {B M o : Nat} {v : Value} {n top : Int} {s : Bool} (h : IsCnt w B n top s) (hne : B ≠ M) : IsCnt (w.setCell ⟨M, o, none⟩ v) B n top s := (Below.heap_setCell w ⟨M, o, none⟩ v B hne).trans h
theorem isRef_new (w : World) (n top : Int) (s : Bool) : IsRef (w.alloc (.cells #[.int .i64 n, .int .i64 top, .bool s] 30)) w.heap.size n top s := heap_alloc_new w _
theorem isRef_alloc {w : World} {B : Nat} {n top : Int} {s : Bool} (h : IsRef w B n top s) (o : Obj) : IsRef (w.alloc o) B n top s := (Below.heap_alloc w o B (lt_of_block h)).trans h
theorem isRef_grown {w w' : World} {B C : Nat} {n top : Int} {s : Bool} (h : IsRef w B n top s) (g : w.grownBy w' (some C)) (hne : B ≠ C) : IsRef w' B n top s := (g.block B (lt_of_block h) (by simpa using hne)).trans h
theorem cntValueQ (B : Nat) (n top : Int) (s : Bool) (w : World) (q : Nat) (h : IsCnt w B n top s) : Calls Try.prog 16 #[.pointer (some ⟨B, 0, none⟩)] (w.drewN q) fun e w' => e = .returned (.int .i64 n) ∧ w' = w.drewN q :=
  (cntValue B n top s _ (h.drewN q)).mono fun _ _ h => ⟨h.1, h.2.symm⟩
theorem cntStuckQ (B : Nat) (n top : Int) (s : Bool) (w : World) (q : Nat) (h : IsCnt w B n top s) : Calls Try.prog 17 #[.pointer (some ⟨B, 0, none⟩)] (w.drewN q) fun e w' => e = .returned (.bool s) ∧ w' = w.drewN q :=
  (cntStuck B n top s _ (h.drewN q)).mono fun _ _ h => ⟨h.1, h.2.symm⟩

set_option maxHeartbeats 3200000 in
theorem plays_some (n0 top : Int) (len cap : Nat) (b off : Nat) (w : World) (t0 : 1 ≤ top) (t1 : top ≤ 65535) (a0 : 0 ≤ n0) (a1 : n0 ≤ top)
    (hpos : 0 < len) (hlm : len ≤ 9223372036854775807) (hbw : b < w.heap.size) (bs : Nat → Bool) (hbs : ∀ j, j < len → w.cell? ⟨b, off + j, none⟩ = some (.bool (bs j))) :
    Calls Try.prog 3 #[.int .i64 n0, .int .i64 top, .slice (some ⟨b, off, none⟩) len cap] w fun e w' => e = .returned (.bool true) ∧ Below w.heap.size w w' := by
  have HX := Lib.hid hbs
  have HBW := Lib.hid hbw
  clear hbs hbw
  go_enter Try.func3, Try.ntmps3
  go_wp2_with fail
  refine (cntNew n0 top _ t0 t1 a0 a1).mono ?_; rintro e w' ⟨rfl, rfl⟩
  go_wp2_with fail
  refine (refNew n0 top _ t0 t1 a0 a1).mono ?_; rintro e w' ⟨rfl, rfl⟩
  go_wp2_with fail
  go_loopw [11] (fun i wr => ∃ k : Nat, ∃ n : Int, ∃ s : Bool, k ≤ len ∧ k ≤ 100 ∧ 0 ≤ n ∧ n ≤ top ∧ i = .int .i64 k ∧ IsCnt wr w.heap.size n top s ∧ IsRef wr (w.heap.size + 1) n top s ∧ Below w.heap.size w wr) (fun i _ => 100 - (intOf i).toNat)
  case atStart => exact ⟨0, n0, false, by omega, by omega, a0, a1, rfl, isCnt_alloc (isCnt_new w n0 top false) _, (by have h := isRef_new (w.alloc (.cells #[.int .i64 n0, .int .i64 top, .bool false] 75)) n0 top false; rwa [World.size_alloc] at h), ((Below.refl w.heap.size w).alloc (Nat.le_refl _) _).alloc (by simp) _⟩
  case round =>
    obtain ⟨k, n, s, hk, hk1, n0, n1, rfl, hc, hr, hb⟩ := hrel
    have hsz := lt_of_block hr
    by_cases hgo : k < len ∧ k < 100
    · obtain ⟨h1, h2⟩ := hgo
      have hcx : wr.cell? ⟨b, off + k, none⟩ = some (.bool (bs k)) := (hb.cell (p := ⟨b, off + k, none⟩) HBW.out).trans (HX.out k h1)
      have m0 := hr.c0
      have m1 := hr.c1
      have m2 := hr.c2
      have HC := Lib.hid (And.intro hc (And.intro hr hb))
      clear hc hb hr
      have d1 : decide (k < len) = true := decide_eq_true h1
      have d2 : decide ((k : Int) < 100) = true := decide_eq_true (by omega)
      have i0 : (0 : Int) ≤ (k : Int) := Int.natCast_nonneg _
      have i1 : (k : Int) < (len : Int) := by omega
      cases hq : bs k
      · skip
        rw [hq] at hcx
        clear hq
        have hN : 0 ≤ putN n s ∧ putN n s ≤ top := by unfold putN; split <;> omega
        go_wp2_with fail
        refine (refPut n top s _ n0 (by omega)).mono ?_; rintro e w1 ⟨rfl, hb1⟩
        have HC1 := Lib.hid (isCnt_kept HC.out.1 hb1 (by omega))
        have HR1 := Lib.hid (show IsRef w1 (w.heap.size + 1) n top s from (hb1.block _ (by omega)).trans HC.out.2.1)
        have HB1 := Lib.hid (HC.out.2.2.trans (hb1.mono (by omega)))
        have hs1 := hb1.size
        clear hb1 m0 m1 m2
        go_wp2_with fail
        refine (cntPut w.heap.size n top s _ (isCnt_alloc HC1.out _) n0 (by omega)).mono ?_; rintro e w2 ⟨rfl, g2, c2⟩
        generalize putN n s = m at *
        generalize putE n = er at *
        generalize putB n s = bo at *
        have hr2 : IsRef w2 (w.heap.size + 1) n top s := isRef_grown (isRef_alloc HR1.out _) g2 (by omega)
        have hx2 : IsRef w2 w1.heap.size m top s := isRef_grown (isRef_new w1 m top s) g2 (by omega)
        have x0 := hx2.c0
        have x1 := hx2.c1
        have x2 := hx2.c2
        have f0 := hr2.f0
        have f1 := hr2.f1
        have f2 := hr2.f2
        have y0 := hr2.c0
        have y1 := hr2.c1
        have y2 := hr2.c2
        have HB2 := Lib.hid (below_grown (HB1.out.alloc (by omega) _) g2 (by simp; omega) (Nat.le_refl _))
        have HR2 := Lib.hid hr2
        have HC2 := Lib.hid c2
        have hs2 := lt_of_block hr2
        clear g2 c2 hr2 hx2
        have eb : (bo != bo) = false := by simp
        have ee : (er != er) = false := by simp
        go_wp2_with fail
        have HR3 := Lib.hid (HR2.out.set (n' := m) (top' := top) (s' := s))
        have HC3 := Lib.hid (isCnt_far (M := w.heap.size + 1) (o := 2) (v := .bool s) (isCnt_far (M := w.heap.size + 1) (o := 1) (v := .int .i64 top) (isCnt_far (M := w.heap.size + 1) (o := 0) (v := .int .i64 m) HC2.out (by omega)) (by omega)) (by omega))
        have HB3 := Lib.hid (((HB2.out.setCell (p := ⟨w.heap.size + 1, 0, none⟩) (by simp) (.int .i64 m)).setCell (p := ⟨w.heap.size + 1, 1, none⟩) (by simp) (.int .i64 top)).setCell (p := ⟨w.heap.size + 1, 2, none⟩) (by simp) (.bool s))
        generalize ((w2.setCell ⟨w.heap.size + 1, 0, none⟩ (.int .i64 m)).setCell ⟨w.heap.size + 1, 1, none⟩ (.int .i64 top)).setCell ⟨w.heap.size + 1, 2, none⟩ (.bool s) = w3 at *
        clear x0 x1 x2 f0 f1 f2 y0 y1 y2 HB2 HR2 HC2
        have z0 := HR3.out.c0
        have z2 := HR3.out.c2
        have em : (m != m) = false := by simp
        have es : (s != s) = false := by simp
        go_quiet ((first | (go_at_call 16; refine Calls.quiet_of_same (cntValueQ w.heap.size m top s w3 _ HC3.out)) | (go_at_call 17; refine Calls.quiet_of_same (cntStuckQ w.heap.size m top s w3 _ HC3.out))))
        go_wp2_with fail
        go_roundw
        case rel => exact ⟨k + 1, m, s, by omega, by omega, by omega, by omega, by go_num, HC3.out.drewN _, HR3.out.drewN _, below_drewN HB3.out _⟩
        case measure => simp [intOf]; omega
      · skip
        rw [hq] at hcx
        clear hq
        have hN : 0 ≤ getN n top s ∧ getN n top s ≤ top := by unfold getN; split <;> omega
        go_wp2_with fail
        refine (refGet n top s _ n0 n1 t1).mono ?_; rintro e w1 ⟨rfl, hb1⟩
        have HC1 := Lib.hid (isCnt_kept HC.out.1 hb1 (by omega))
        have HR1 := Lib.hid (show IsRef w1 (w.heap.size + 1) n top s from (hb1.block _ (by omega)).trans HC.out.2.1)
        have HB1 := Lib.hid (HC.out.2.2.trans (hb1.mono (by omega)))
        have hs1 := hb1.size
        clear hb1 m0 m1 m2
        go_wp2_with fail
        refine (cntGet w.heap.size n top s _ (isCnt_alloc HC1.out _) n0 n1 t1).mono ?_; rintro e w2 ⟨rfl, g2, c2⟩
        generalize getN n top s = m at *
        generalize getE n top s = er at *
        generalize getS n top s = s1 at *
        have hr2 : IsRef w2 (w.heap.size + 1) n top s := isRef_grown (isRef_alloc HR1.out _) g2 (by omega)
        have hx2 : IsRef w2 w1.heap.size m top s1 := isRef_grown (isRef_new w1 m top s1) g2 (by omega)
        have x0 := hx2.c0
        have x1 := hx2.c1
        have x2 := hx2.c2
        have f0 := hr2.f0
        have f1 := hr2.f1
        have f2 := hr2.f2
        have y0 := hr2.c0
        have y1 := hr2.c1
        have y2 := hr2.c2
        have HB2 := Lib.hid (below_grown (HB1.out.alloc (by omega) _) g2 (by simp; omega) (Nat.le_refl _))
        have HR2 := Lib.hid hr2
        have HC2 := Lib.hid c2
        have hs2 := lt_of_block hr2
        clear g2 c2 hr2 hx2
        have ee : (er != er) = false := by simp
        go_wp2_with fail
        have HR3 := Lib.hid (HR2.out.set (n' := m) (top' := top) (s' := s1))
        have HC3 := Lib.hid (isCnt_far (M := w.heap.size + 1) (o := 2) (v := .bool s1) (isCnt_far (M := w.heap.size + 1) (o := 1) (v := .int .i64 top) (isCnt_far (M := w.heap.size + 1) (o := 0) (v := .int .i64 m) HC2.out (by omega)) (by omega)) (by omega))
        have HB3 := Lib.hid (((HB2.out.setCell (p := ⟨w.heap.size + 1, 0, none⟩) (by simp) (.int .i64 m)).setCell (p := ⟨w.heap.size + 1, 1, none⟩) (by simp) (.int .i64 top)).setCell (p := ⟨w.heap.size + 1, 2, none⟩) (by simp) (.bool s1))
        generalize ((w2.setCell ⟨w.heap.size + 1, 0, none⟩ (.int .i64 m)).setCell ⟨w.heap.size + 1, 1, none⟩ (.int .i64 top)).setCell ⟨w.heap.size + 1, 2, none⟩ (.bool s1) = w3 at *
        clear x0 x1 x2 f0 f1 f2 y0 y1 y2 HB2 HR2 HC2
        have z0 := HR3.out.c0
        have z2 := HR3.out.c2
        have em : (m != m) = false := by simp
        have es : (s1 != s1) = false := by simp
        go_quiet ((first | (go_at_call 16; refine Calls.quiet_of_same (cntValueQ w.heap.size m top s1 w3 _ HC3.out)) | (go_at_call 17; refine Calls.quiet_of_same (cntStuckQ w.heap.size m top s1 w3 _ HC3.out))))
        go_wp2_with fail
        go_roundw
        case rel => exact ⟨k + 1, m, s1, by omega, by omega, by omega, by omega, by go_num, HC3.out.drewN _, HR3.out.drewN _, below_drewN HB3.out _⟩
        case measure => simp [intOf]; omega
    · by_cases h1 : k < len
      · skip
        have d1 : decide (k < len) = true := decide_eq_true h1
        have d2 : decide ((k : Int) < 100) = false := decide_eq_false (by omega)
        clear hgo
        go_wp2_with fail
        refine (cntKnown _).mono ?_; rintro e w2 ⟨rfl, hb2⟩
        have HB2 := Lib.hid (hb.trans (hb2.mono (by omega)))
        clear hb2
        go_wp2_with fail
        go_ret
        exact ⟨rfl, HB2.out⟩
      · skip
        have d1 : decide (k < len) = false := decide_eq_false h1
        clear hgo
        go_wp2_with fail
        refine (cntKnown _).mono ?_; rintro e w2 ⟨rfl, hb2⟩
        have HB2 := Lib.hid (hb.trans (hb2.mono (by omega)))
        clear hb2
        go_wp2_with fail
        go_ret
        exact ⟨rfl, HB2.out⟩

theorem plays_none (n0 top : Int) (a : Option Addr) (cap : Nat) (w : World) (t0 : 1 ≤ top) (t1 : top ≤ 65535) (a0 : 0 ≤ n0) (a1 : n0 ≤ top) :
    Calls Try.prog 3 #[.int .i64 n0, .int .i64 top, .slice a 0 cap] w fun e w' => e = .returned (.bool true) ∧ Below w.heap.size w w' := by
  go_enter Try.func3, Try.ntmps3
  go_wp2_with fail
  refine (cntNew n0 top _ t0 t1 a0 a1).mono ?_; rintro e w' ⟨rfl, rfl⟩
  go_wp2_with fail
  refine (refNew n0 top _ t0 t1 a0 a1).mono ?_; rintro e w' ⟨rfl, rfl⟩
  go_wp2_with fail
  refine wp_loop_rounds 1 ?_
  rw [rounds_succ]
  go_wp2_with fail
  refine (cntKnown _).mono ?_; rintro e w2 ⟨rfl, hb2⟩
  have HB2 := Lib.hid ((((Below.refl w.heap.size w).alloc (Nat.le_refl _) _).alloc (by simp) _).trans (hb2.mono (by simp; omega)))
  clear hb2
  go_wp2_with fail
  go_ret
  exact ⟨rfl, HB2.out⟩

theorem walk_CountPlays (n top : Int) (v : Value) (w : World) (hv : Bools w v) : Calls Try.prog 3 #[.int .i64 n, .int .i64 top, v] w fun e w' => e = .returned (.bool true) ∧ Below w.heap.size w w' := by
  cases h : badB n top
  · have h' := of_decide_eq_false h
    obtain ⟨ao, len, cap, rfl, hx⟩ := hv
    rcases hx with rfl | ⟨hpos, hlm, b, off, rfl, hbw, bs, hbs⟩
    · exact plays_none n top ao cap w (by omega) (by omega) (by omega) (by omega)
    · exact plays_some n top len cap b off w (by omega) (by omega) (by omega) (by omega) hpos hlm hbw bs hbs
  · exact plays_bad n top v w h
end Go.Proofs.Ytkpenhichgkdkaa
