/- The laws CountBalance and CountPlays, walked. -/
import Derived.Test.YtkpenhichgkdkaaLaw
import Derived.Deep.Slices
import Derived.Deep.RegionHeld3
namespace Go.Proofs.Ytkpenhichgkdkaa
open Go.RowKit Go.ChangeShapes Go.WideShapes
set_option linter.unusedVariables false

/-- what a walk is told of a list of bools that came in: it has no elements, or its cells hold bools -/
def Bools (w : World) (v : Value) : Prop :=
  ∃ a len cap, v = .slice a len cap ∧ ((len = 0) ∨ (0 < len ∧ len ≤ 9223372036854775807 ∧ ∃ b off, a = some ⟨b, off, none⟩ ∧ b < w.heap.size ∧ ∃ bs : Nat → Bool, ∀ j, j < len → w.cell? ⟨b, off + j, none⟩ = some (.bool (bs j))))

theorem bools_view {H : Type} {enc : TypeId × Value → H} {P : Program} {W : World} {base t e : Nat} {v : Value} {d : DataW H} {ps : List MemPlace} (ht : P.underlying t = some (.slice e)) (he : P.underlying e = some .bool) (hc : P.cellsOf e = 1)
    (hv : Value.okWide P W .any base t v) (h : DataW.Trod enc P W 0 (fun _ => true) true t v d ps) : Bools W v := by
  obtain ⟨a, len, cap, rfl⟩ := okWide_slice ht hv
  refine ⟨a, len, cap, rfl, ?_⟩
  obtain ⟨fuel, hf⟩ := h
  rcases Deep.open_slice1 ht hc hf with ⟨hcs, _⟩ | ⟨x, l, c, m, n, V, D, Pl, hcs, _, hl, hm, hmm, _, hx⟩
  · simp [Value.cells] at hcs
    exact .inl hcs.2.1
  · simp [Value.cells] at hcs
    obtain ⟨rfl, rfl, rfl⟩ := hcs
    by_cases h0 : len = 0
    · exact .inl h0
    right
    have hb : ∀ j, j < len → ∃ q : Bool, W.cell? (x.add j) = some (.bool q) := by
      intro j hj
      have h1 := hx j (by simp at hmm; omega)
      obtain ⟨q, h2, _⟩ := DataW.trod_bool he h1.2
      simp at h2
      exact ⟨q, by rw [h1.1, h2]⟩
    obtain ⟨bs, hbs⟩ := Deep.choose_lt hb
    obtain ⟨b, off, spot⟩ := x
    have hc0 := hbs 0 (by omega)
    have hspot : spot = none := by simpa [Addr.add] using World.cell?_spot hc0
    subst hspot
    have hadd : ∀ j, (⟨b, off, none⟩ : Addr).add j = ⟨b, off + j, none⟩ := by intro j; unfold Addr.add; split <;> simp_all
    refine ⟨by omega, by unfold maxLen at hm; omega, b, off, rfl, ?_, bs, fun j hj => by rw [← hadd]; exact hbs j hj⟩
    have := World.block_lt_of_cell? W _ hc0
    simpa [Addr.add] using this

set_option maxHeartbeats 1600000 in
theorem walk_CountBalance (a : Int) (v : Value) (w : World) (hv : Bools w v) : Calls Try.prog 5 #[.int .i64 a, v] w fun e w' => e = .returned (.bool true) ∧ Below w.heap.size w w' := by
  obtain ⟨ao, len, cap, rfl, hx⟩ := hv
  have ha := dm_u64 a
  generalize hza : IntKind.u64.wrap a = z at *
  obtain ⟨t, ht⟩ : ∃ t, t = 1 + z % 60000 := ⟨_, rfl⟩
  have ht0 : 1 ≤ t := by omega
  have ht1 : t ≤ 60000 := by omega
  have HT := Lib.hid ht
  clear ht
  rcases hx with rfl | ⟨hpos, hlm, b, off, rfl, hbw, bs, hbs⟩
  · go_enter Try.func5, Try.ntmps5
    go_wp2_with fail
    rw [← HT.out]
    refine (cntNew t 65535 _ (by omega) (by omega) (by omega) (by omega)).mono ?_; rintro e w' ⟨rfl, rfl⟩
    go_wp2_with fail
    refine wp_loop_rounds 1 ?_
    rw [rounds_succ]
    go_wp2_with fail
    refine (cntKnown _).mono ?_; rintro e w2 ⟨rfl, hb2⟩
    have HB2 := Lib.hid (((Below.refl w.heap.size w).alloc (Nat.le_refl _) _).trans (hb2.mono (by simp)))
    clear hb2
    go_wp2_with fail
    go_ret
    exact ⟨rfl, HB2.out⟩
  · have HX := Lib.hid hbs
    have HBW := Lib.hid hbw
    clear hbs hbw
    go_enter Try.func5, Try.ntmps5
    go_wp2_with fail
    rw [← HT.out]
    refine (cntNew t 65535 _ (by omega) (by omega) (by omega) (by omega)).mono ?_; rintro e w' ⟨rfl, rfl⟩
    go_wp2_with fail
    go_loopw [0, 7] (fun nv i wr => ∃ k : Nat, ∃ n : Int, k ≤ len ∧ k ≤ 100 ∧ 0 ≤ n ∧ n ≤ 60000 + k ∧ i = .int .i64 k ∧ nv = .int .i64 n ∧ IsCnt wr w.heap.size n 65535 false ∧ Below w.heap.size w wr) (fun _ i _ => 100 - (intOf i).toNat)
    case atStart => exact ⟨0, t, by omega, by omega, by omega, by omega, rfl, rfl, isCnt_new w t 65535 false, (Below.refl w.heap.size w).alloc (Nat.le_refl _) _⟩
    case round =>
      obtain ⟨k, n, hk, hk1, n0, n1, rfl, rfl, hc, hb⟩ := hrel
      have hsz := lt_of_block hc
      have HC := Lib.hid (And.intro hc hb)
      clear hc hb
      by_cases hgo : k < len ∧ k < 100 ∧ 0 < n
      · obtain ⟨h1, h2, h3⟩ := hgo
        have hcx : wr.cell? ⟨b, off + k, none⟩ = some (.bool (bs k)) := (HC.out.2.cell (p := ⟨b, off + k, none⟩) HBW.out).trans (HX.out k h1)
        have d1 : decide (k < len) = true := decide_eq_true h1
        have d2 : decide ((k : Int) < 100) = true := decide_eq_true (by omega)
        have d3 : decide (0 < n) = true := decide_eq_true h3
        have i0 : (0 : Int) ≤ (k : Int) := Int.natCast_nonneg _
        have i1 : (k : Int) < (len : Int) := by omega
        cases hq : bs k
        · rw [hq] at hcx
          clear hq
          have e1 : putE n = 0 := by unfold putE; rw [if_neg (by omega)]
          have e2 : putB n false = (n == 1) := by unfold putB; rw [if_neg (by simp; omega)]
          have e3 : putN n false = n - 1 := by unfold putN; rw [if_neg (by simp; omega)]
          have e4 : (n - 1 == 0) = (n == 1) := by rw [Bool.eq_iff_iff]; simp; omega
          go_wp2_with fail
          refine (cntPut w.heap.size n 65535 false _ HC.out.1 n0 (by omega)).mono ?_; rintro e w2 ⟨rfl, g2, c2⟩
          rw [e3] at c2
          have HB2 := Lib.hid (below_grown HC.out.2 g2 (by omega) (Nat.le_refl _))
          have HC2 := Lib.hid c2
          clear g2 c2
          go_wp2_with fail
          refine (cntValue w.heap.size (n - 1) 65535 false _ HC2.out).mono ?_; rintro e w' ⟨rfl, rfl⟩
          go_wp2_with fail
          refine (cntStuck w.heap.size (n - 1) 65535 false _ HC2.out).mono ?_; rintro e w' ⟨rfl, rfl⟩
          go_wp2_with fail
          go_roundw
          case rel => exact ⟨k + 1, n - 1, by omega, by omega, by omega, by omega, by go_num, rfl, HC2.out, HB2.out⟩
          case measure => simp [intOf]; omega
        · rw [hq] at hcx
          clear hq
          have e4 : getE n 65535 false = 0 := by unfold getE; rw [if_neg (by omega), if_neg (by simp; omega)]
          have e5 : getN n 65535 false = n + 1 := by unfold getN; rw [if_neg (by simp; omega)]
          have e6 : getS n 65535 false = false := by unfold getS; rw [if_neg (by omega)]; simp; omega
          go_wp2_with fail
          refine (cntGet w.heap.size n 65535 false _ HC.out.1 n0 (by omega) (by omega)).mono ?_; rintro e w2 ⟨rfl, g2, c2⟩
          rw [e5, e6] at c2
          have HB2 := Lib.hid (below_grown HC.out.2 g2 (by omega) (Nat.le_refl _))
          have HC2 := Lib.hid c2
          clear g2 c2
          go_wp2_with fail
          refine (cntValue w.heap.size (n + 1) 65535 false _ HC2.out).mono ?_; rintro e w' ⟨rfl, rfl⟩
          go_wp2_with fail
          refine (cntStuck w.heap.size (n + 1) 65535 false _ HC2.out).mono ?_; rintro e w' ⟨rfl, rfl⟩
          go_wp2_with fail
          go_roundw
          case rel => exact ⟨k + 1, n + 1, by omega, by omega, by omega, by omega, by go_num, rfl, HC2.out, HB2.out⟩
          case measure => simp [intOf]; omega
      · have HK : ∀ W, Below w.heap.size w W → Below w.heap.size w W := fun _ h => h
        by_cases h1 : k < len
        · have d1 : decide (k < len) = true := decide_eq_true h1
          by_cases h2 : k < 100
          · have d2 : decide ((k : Int) < 100) = true := decide_eq_true (by omega)
            have d3 : decide (0 < n) = false := decide_eq_false (by omega)
            clear hgo HK
            go_wp2_with fail
            refine (cntKnown _).mono ?_; rintro e w2 ⟨rfl, hb2⟩
            have HB2 := Lib.hid (HC.out.2.trans (hb2.mono (by omega)))
            clear hb2
            go_wp2_with fail
            go_ret
            exact ⟨rfl, HB2.out⟩
          · have d2 : decide ((k : Int) < 100) = false := decide_eq_false (by omega)
            clear hgo HK
            go_wp2_with fail
            refine (cntKnown _).mono ?_; rintro e w2 ⟨rfl, hb2⟩
            have HB2 := Lib.hid (HC.out.2.trans (hb2.mono (by omega)))
            clear hb2
            go_wp2_with fail
            go_ret
            exact ⟨rfl, HB2.out⟩
        · have d1 : decide (k < len) = false := decide_eq_false h1
          clear hgo HK
          go_wp2_with fail
          refine (cntKnown _).mono ?_; rintro e w2 ⟨rfl, hb2⟩
          have HB2 := Lib.hid (HC.out.2.trans (hb2.mono (by omega)))
          clear hb2
          go_wp2_with fail
          go_ret
          exact ⟨rfl, HB2.out⟩
end Go.Proofs.Ytkpenhichgkdkaa
