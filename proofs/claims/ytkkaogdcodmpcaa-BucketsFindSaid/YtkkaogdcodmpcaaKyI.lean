/- Buckets: all keys, how many; a new table. (Int) -/
import Derived.Test.YtkkaogdcodmpcaaChI
import Derived.Test.YtkkaogdcodmpcaaApp
namespace Go.Proofs.Ytkkaogdcodmpcaa
open Go.RowKit
set_option linter.unusedVariables false

set_option maxHeartbeats 2000000 in
/-- all keys -/
theorem Ikeys (T G nb room : Nat) (m : List (Int × Int)) (ch : Nat → Value) (w : World) (h : Tab (Value.int .i64) 80 82 83 w T G nb room m ch) :
    Calls Try.prog 23 #[.pointer (some ⟨T, 0, none⟩)] w (WordsPost w (allKeys m nb nb)) := by
  have HT := Lib.hid h
  have HC := Lib.hid (fun w1 (k : Below w.heap.size w w1) (b : Nat) (hb : b < nb) => Ichain T G nb room b m ch w1 (h.kept k) hb)
  have c0 := h.c0
  have hnb := h.hi
  have hL := fun b => Nat.le_trans (chn_len m nb b) (Nat.le_trans h.cnt h.rm)
  have HL := Lib.hid (fun b => allKeys_bd m nb b hL)
  obtain ⟨i0, hi, hz0, hz1, hz2⟩ := info_parts info29
  clear h hL
  go_enter Try.func23, Try.ntmps23
  go_wp2_with fail
  go_loopw [3, 12] (fun o i wr => ∃ (j : Nat) (v : Value), j ≤ nb ∧ o = v ∧ i = .int .i64 j ∧ Hid (wr.ownsRow w.heap.size 29 1 v (allKeys m nb j).length ((allKeys m nb j).map (Value.int .u64))) ∧ Hid (Below w.heap.size w wr)) (fun _ i _ => nb - (intOf i).toNat)
  case atStart => exact ⟨0, _, by omega, rfl, rfl, Lib.hid (World.ownsRow_nil _ _ _ _), Lib.hid (Below.refl _ _)⟩
  case round =>
    obtain ⟨j, v, hj, rfl, rfl, HR, HB⟩ := hrel
    by_cases hlt : j < nb
    · have hb1 := HL.out j
      have hb2 := HL.out (j + 1)
      go_wp2_with fail
      refine (HC.out wr HB.out j hlt).mono ?_
      rintro e w1 ⟨v1, rfl, hv1, b1⟩
      have hR1 := HR.out.kept b1.grownNone (own_ne_none _)
      have hBw := HB.out.trans (b1.mono HB.out.size)
      have hks := allKeys_succ m nb j
      have hln : (allKeys m nb (j + 1)).length = (allKeys m nb j).length + ((chn m nb j).map (·.1)).length := by rw [hks, List.length_append]
      have HKS := Lib.hid hks
      have HLN := Lib.hid hln
      have hbb : (allKeys m nb j).length + ((chn m nb j).map (·.1)).length ≤ 8192 := by omega
      have HB1 := Lib.hid hBw
      clear hks hln b1
      go_wp2_with (at_builtin; refine wpList_append_rows rfl _ _ 22 rfl w.heap.size 29 i0 (.int .u64 0) 1 8 Try.underlying22 hi hz0 hz1 hz2 rfl (by decide) _ _ _ rfl hR1 _ _ _ _ rfl hv1 (words_one _) (by unfold maxLen; omega) (by omega) HB1.out.size ?_; intro v2 w2 hown hgrow _)
      have HW := Lib.hid hown
      have hbv := hR1.lt
      have HB2 := Lib.hid (HB1.out.grown hgrow HB1.out.size (fun k e => (hbv k e).1))
      clear hR1 hv1 hown hgrow hbv hBw
      go_wp2_with fail
      go_roundw
      case rel => exact ⟨j + 1, v2, by omega, rfl, by go_num, Lib.hid (by rw [HLN.out, HKS.out, List.map_append]; exact HW.out), HB2⟩
      case measure => simp only [intOf]; omega
    · obtain rfl : j = nb := by omega
      go_wp2_with fail
      go_ret
      exact ⟨_, rfl, HR.out, HB.out⟩
theorem IkeysNil (w : World) : Calls Try.prog 23 #[.pointer none] w (fun e w' => e = .returned (.slice none 0 0) ∧ w = w') := by
  go_enter Try.func23, Try.ntmps23
  go_wp2
  go_ret
  exact ⟨rfl, rfl⟩
theorem Ilen (T G nb room : Nat) (m : List (Int × Int)) (ch : Nat → Value) (w : World) (h : Tab (Value.int .i64) 80 82 83 w T G nb room m ch) :
    Calls Try.prog 21 #[.pointer (some ⟨T, 0, none⟩)] w fun e w' => e = .returned (.int .i64 m.length) ∧ w = w' := by
  have c2 := h.c2
  clear h
  go_enter Try.func21, Try.ntmps21
  go_wp2
  go_ret
  exact ⟨rfl, rfl⟩
theorem IlenNil (w : World) : Calls Try.prog 21 #[.pointer none] w fun e w' => e = .returned (.int .i64 0) ∧ w = w' := by
  go_enter Try.func21, Try.ntmps21
  go_wp2
  go_ret
  exact ⟨rfl, rfl⟩
set_option maxHeartbeats 2000000 in
theorem Inew (n r : Int) (w : World) (h1 : 1 ≤ n) (h2 : n ≤ 64) (h3 : 1 ≤ r) (h4 : r ≤ 64) :
    Calls Try.prog 12 #[.int .i64 n, .int .i64 r] w fun e w' => ∃ T G ch, e = .returned (.tuple #[.pointer (some ⟨T, 0, none⟩), .int .i64 0]) ∧ Below w.heap.size w w' ∧ Tab (Value.int .i64) 80 82 83 w' T G n.toNat r.toNat [] ch ∧ (∀ k, Mine T G n.toNat ch k → w.heap.size ≤ k) := by
  obtain ⟨nb, rfl⟩ := Int.eq_ofNat_of_zero_le (show 0 ≤ n by omega)
  obtain ⟨room, rfl⟩ := Int.eq_ofNat_of_zero_le (show 0 ≤ r by omega)
  rw [Int.toNat_natCast, Int.toNat_natCast]
  have hmk := fun w => run_make_row' (P := Try.prog) 78 83 (.slice none 0 0) 24 Try.underlying78 info83 rfl .i64 .i64 nb (by omega) (by omega) w
  have hd : (nb : Int) ≤ 64 := h2
  go_enter Try.func12, Try.ntmps12
  go_wp2_with fail
  exact bodyPost_ret (v := .tuple #[.pointer (some ⟨w.heap.size + 1, 0, none⟩), .int .i64 0]) (by simp [results, Try.results12, go_sem]) rfl
    ⟨w.heap.size + 1, w.heap.size, fun _ => .slice none 0 0, rfl, by go_grown, tab_new h1 hd h3 h4, fun k => mine_new nb _ k⟩
theorem InewBad (n r : Int) (w : World) (h : n < 1 ∨ 64 < n ∨ r < 1 ∨ 64 < r) : Calls Try.prog 12 #[.int .i64 n, .int .i64 r] w fun e w' => e = .returned (.tuple #[.pointer none, .int .i64 2]) ∧ w = w' := by
  by_cases h1 : n < 1
  · have d1 : decide (n < 1) = true := decide_eq_true h1
    go_enter Try.func12, Try.ntmps12
    go_wp2
    go_ret2
    exact ⟨rfl, rfl⟩
  · have d1 : decide (n < 1) = false := decide_eq_false h1
    by_cases h2 : 64 < n
    · have d2 : decide (64 < n) = true := decide_eq_true h2
      go_enter Try.func12, Try.ntmps12
      go_wp2
      go_ret2
      exact ⟨rfl, rfl⟩
    · have d2 : decide (64 < n) = false := decide_eq_false h2
      by_cases h3 : r < 1
      · have d3 : decide (r < 1) = true := decide_eq_true h3
        go_enter Try.func12, Try.ntmps12
        go_wp2
        go_ret2
        exact ⟨rfl, rfl⟩
      · have d3 : decide (r < 1) = false := decide_eq_false h3
        have h4 : 64 < r := by omega
        have d4 : decide (64 < r) = true := decide_eq_true h4
        go_enter Try.func12, Try.ntmps12
        go_wp2
        go_ret2
        exact ⟨rfl, rfl⟩

end Go.Proofs.Ytkkaogdcodmpcaa
