/- The laws CountSticks, CountBalance and CountPlays, walked. -/
import Derived.Test.YtkpenhichgkdkaaPut
import Derived.Deep.Slices
namespace Go.Proofs.Ytkpenhichgkdkaa
open Go.RowKit
set_option linter.unusedVariables false

theorem dm_u64 (x : Int) : 0 ≤ IntKind.u64.wrap x ∧ IntKind.u64.wrap x ≤ 18446744073709551615 := by rw [IntKind.wrap_u64]; omega

set_option maxHeartbeats 800000 in
theorem walk_CountSticks (a p : Int) (w : World) : Calls Try.prog 4 #[.int .i64 a, .int .i64 p] w fun e w' => e = .returned (.bool true) ∧ Below w.heap.size w w' := by
  have ha := dm_u64 a
  have hp := dm_u64 p
  generalize hza : IntKind.u64.wrap a = z at *
  generalize hzp : IntKind.u64.wrap p = y at *
  obtain ⟨t, ht⟩ : ∃ t, t = 1 + z % 65535 := ⟨_, rfl⟩
  have ht0 : 1 ≤ t := by omega
  have ht1 : t ≤ 65535 := by omega
  have HT := Lib.hid ht
  clear ht
  go_enter Try.func4, Try.ntmps4
  go_wp2_with fail
  rw [← HT.out]
  refine (cntNew t t _ ht0 ht1 (by omega) (by omega)).mono ?_; rintro e w' ⟨rfl, rfl⟩
  go_wp2_with fail
  refine (cntGet w.heap.size t t false _ (isCnt_new w t t false) (by omega) (by omega) ht1).mono ?_; rintro e w1 ⟨rfl, g1, c1⟩
  rw [show getE t t false = 13 from by unfold getE; rw [if_neg (by omega)]; simp]
  rw [show getN t t false = t from by unfold getN; simp, show getS t t false = true from by unfold getS; rw [if_neg (by omega)]; simp] at c1
  have HB1 := Lib.hid (below_grown ((Below.refl w.heap.size w).alloc (Nat.le_refl _) _) g1 (by simp) (Nat.le_refl _))
  clear g1
  go_wp2_with fail
  go_loopw [7] (fun i wr => ∃ k : Int, 0 ≤ k ∧ k ≤ 200 ∧ i = .int .i64 k ∧ IsCnt wr w.heap.size t t true ∧ Below w.heap.size w wr) (fun i _ => (200 - intOf i).toNat)
  case atStart => exact ⟨0, by omega, by omega, rfl, c1, HB1.out⟩
  case round =>
    obtain ⟨k, k0, k1, rfl, hc, hb⟩ := hrel
    have hsz := lt_of_block hc
    have HC := Lib.hid (And.intro hc hb)
    clear hc hb c1
    have e1 : putE t = 0 := by unfold putE; rw [if_neg (by omega)]
    have e2 : putB t true = false := by unfold putB; simp
    have e3 : putN t true = t := by unfold putN; simp
    have e4 : getE t t true = 13 := by unfold getE; rw [if_neg (by omega)]; simp
    have e5 : getN t t true = t := by unfold getN; simp
    have e6 : getS t t true = true := by unfold getS; simp
    by_cases hk : k < y % 200
    · go_wp2_with fail
      refine (cntPut w.heap.size t t true _ HC.out.1 (by omega) ht1).mono ?_; rintro e w2 ⟨rfl, g2, c2⟩
      rw [e3] at c2
      have HB2 := Lib.hid (below_grown HC.out.2 g2 (by omega) (Nat.le_refl _))
      have HC2 := Lib.hid c2
      have hsz2 := lt_of_block c2
      clear g2 c2
      go_wp2_with fail
      refine (cntGet w.heap.size t t true _ HC2.out (by omega) (by omega) ht1).mono ?_; rintro e w3 ⟨rfl, g3, c3⟩
      rw [e5, e6] at c3
      have HB3 := Lib.hid (below_grown HB2.out g3 (by omega) (Nat.le_refl _))
      have HC3 := Lib.hid c3
      clear g3 c3
      go_wp2_with fail
      go_roundw
      case rel => exact ⟨k + 1, by omega, by omega, rfl, HC3.out, HB3.out⟩
      case measure => simp [intOf]; omega
    · go_wp2_with fail
      refine (cntKnown _).mono ?_; rintro e w2 ⟨rfl, hb2⟩
      have HB2 := Lib.hid (HC.out.2.trans (hb2.mono (by omega)))
      have HC2 := Lib.hid (isCnt_kept HC.out.1 hb2 (by omega))
      clear hb2
      go_wp2_with fail
      refine (cntValue w.heap.size t t true _ HC2.out).mono ?_; rintro e w' ⟨rfl, rfl⟩
      go_wp2_with fail
      refine (cntStuck w.heap.size t t true _ HC2.out).mono ?_; rintro e w' ⟨rfl, rfl⟩
      go_wp2_with fail
      go_ret
      exact ⟨rfl, HB2.out⟩
end Go.Proofs.Ytkpenhichgkdkaa
