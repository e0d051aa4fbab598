/- Buckets: the places of a chain, ranged over. (ByteArray) -/
import Derived.Test.YtkkaogdcodmpcaaItI
import Derived.RangeFuncNested
import Derived.RangeFuncBound
import Derived.RangeFuncCalls
import Derived.RangeFuncLeaves
import Derived.Shelf.Abstract
import Derived.Shelf.RegionOpen
import Derived.WalkKit
import Derived.OwnWalkIn
import Derived.TacticsInMore
import Derived.LoopNIn
import Derived.LoopIn
import Derived.Sort.QuietIn
import Derived.WalkMore
namespace Go.Proofs.Ytkkaogdcodmpcaa
open Go.RowKit Go.Shelf
attribute [local go_sem] Oper.semAt_some
set_option linter.unusedVariables false


set_option maxRecDepth 100000 in
set_option maxHeartbeats 2000000 in
/-- the closure, where there is such a bucket -/
theorem Splaces1_in (F : Fence) (n : Nat) (h7 : F.fn 45) (hro : F.round = none) (hn : 1 ≤ n) (l B1 B2 n₀ T G nb b : Nat) (v : Value) (r : List (Int × ByteArray)) (hr : r.length ≤ 64) (hb : b < nb) (hnb : nb ≤ 64) (J Jx : List (Nat × Int × ByteArray) → World → Prop)
    (hY : ∀ pre x W, J pre W → pre.length < r.length → YieldAt F (n - 1) Try.prog l (itemV Value.string x) W fun e W' =>
      (e = .returned (.bool true) ∧ J (pre ++ [x]) W' ∧ Below n₀ W W') ∨ (e = .returned (.bool false) ∧ Jx (pre ++ [x]) W'))
    (W : World) (hJ : AbidesFrom W.heap.size J) (hB1 : W.cell? ⟨B1, 0, none⟩ = some (.pointer (some ⟨T, 0, none⟩))) (hB2 : W.cell? ⟨B2, 0, none⟩ = some (.int .i64 b)) (c0 : W.cell? ⟨T, 0, none⟩ = some (.slice (some ⟨G, 0, none⟩) nb nb)) (cg : W.cell? ⟨G, b, none⟩ = some v)
    (hv : Row Value.string n₀ W v r) (h0 : J [] W) :
    CallsIn F n Try.prog 45 #[.func (.yield l) #[] #[], .pointer (some ⟨B1, 0, none⟩), .pointer (some ⟨B2, 0, none⟩)] W fun e W' => (∃ v, e = .returned v) ∧
      ((∃ ys, ys = items r ∧ J ys W') ∨ (∃ pre, (∃ k, k ≤ r.length ∧ pre = (items r).take k) ∧ Jx pre W')) := by
  have d1 : decide ((b : Int) < 0) = false := decide_eq_false (by omega)
  have d2 : decide ((nb : Int) ≤ (b : Int)) = false := decide_eq_false (by omega)
  have d3 : decide (nb ≤ b) = false := decide_eq_false (by omega)
  have HJ0 := Lib.hid (fun nq => abides_drewN2 hJ h0 nq)
  have HB0 := Lib.hid (fun nq => below_drewN2 n₀ W nq)
  rcases hv with ⟨rfl, rfl⟩ | ⟨g, cap, rfl, hg, hcap, hcs⟩
  · refine callsIn_of_wp Try.func45 rfl h7 ?_ hro
    simp only [Try.ntmps45, List.size_toArray, List.length_cons, List.length_nil, Nat.reduceAdd, Nat.reduceSub, Array.replicate_succ, Array.replicate_zero, List.push_toArray, List.append_toArray, List.nil_append, List.cons_append]
    gi_wp2
    refine wpIn_region_quiet_lit hro (by kernel_rfl) (by kernel_rfl) ?_
    repeat (gi_big_quiet_step (fail))
    refine wpQuietIn_nil ?_
    intro _ hw'
    obtain ⟨nq, hw''⟩ := hw'
    subst hw''
    gi_wp2
    refine wpIn_region_quiet_lit hro (by kernel_rfl) (by kernel_rfl) ?_
    repeat (gi_big_quiet_step (fail))
    refine wpQuietIn_nil ?_
    intro _ hw'
    obtain ⟨nq, hw''⟩ := hw'
    subst hw''
    gi_wp2
    gi_loopw [5] (fun i wr => i = .int .i64 (-1) ∧ J [] wr) (fun _ _ => 0)
    case atStart => exact ⟨rfl, HJ0.out _⟩
    case round =>
      obtain ⟨rfl, hJs⟩ := hrel
      gi_wp2
      go_end0
      exact ⟨⟨_, rfl⟩, .inl ⟨_, rfl, hJs⟩⟩
  · have HCS := Lib.hid hcs
    clear hcs
    obtain ⟨L, hL⟩ : ∃ L, L = r.length := ⟨_, rfl⟩
    have hL64 : L ≤ 64 := by omega
    rw [← hL]
    have HL := Lib.hid hL
    rw [← hL] at hY cg
    clear hL hr hcap
    refine callsIn_of_wp Try.func45 rfl h7 ?_ hro
    simp only [Try.ntmps45, List.size_toArray, List.length_cons, List.length_nil, Nat.reduceAdd, Nat.reduceSub, Array.replicate_succ, Array.replicate_zero, List.push_toArray, List.append_toArray, List.nil_append, List.cons_append]
    gi_wp2
    refine wpIn_region_quiet_lit hro (by kernel_rfl) (by kernel_rfl) ?_
    repeat (gi_big_quiet_step (fail))
    refine wpQuietIn_nil ?_
    intro _ hw'
    obtain ⟨nq, hw''⟩ := hw'
    subst hw''
    gi_wp2
    refine wpIn_region_quiet_lit hro (by kernel_rfl) (by kernel_rfl) ?_
    repeat (gi_big_quiet_step (fail))
    refine wpQuietIn_nil ?_
    intro _ hw'
    obtain ⟨nq, hw''⟩ := hw'
    subst hw''
    gi_wp2
    gi_loopw [5] (fun i wr => ∃ k : Nat, ((k = L ∧ i = .int .i64 (-1)) ∨ ∃ i0 : Nat, i0 + k + 1 = L ∧ i = .int .i64 i0) ∧ J ((items r).take k) wr ∧ Below n₀ W wr)
      (fun i _ => (intOf i + 1).toNat)
    case atStart =>
      refine ⟨0, ?_, by rw [List.take_zero]; exact HJ0.out _, HB0.out _⟩
      by_cases hz : L = 0
      · exact .inl ⟨hz.symm, by subst hz; rfl⟩
      · exact .inr ⟨L - 1, by omega, by rw [show ((L - 1 : Nat) : Int) = (L : Int) - 1 from by omega]⟩
    case round =>
      obtain ⟨k, hk, hJs, hnx⟩ := hrel
      rcases hk with ⟨rfl, rfl⟩ | ⟨i0, hi0, rfl⟩
      · have HJS := Lib.hid hJs
        clear hJs
        gi_wp2
        go_end0
        exact ⟨⟨_, rfl⟩, .inl ⟨_, rfl, by have h := HJS.out; rw [HL.out, ← items_len, List.take_length] at h; exact h⟩⟩
      · have hkr : k < r.length := by rw [← HL.out]; omega
        obtain ⟨fn, tmps, assign, body, hy, hR⟩ := hY _ (i0, r[k]) wr hJs (by rw [List.length_take, items_len, ← HL.out]; omega)
        unfold itemV at hy
        dsimp only at hy
        have hcx := HCS.out k r[k] (List.getElem?_eq_getElem hkr)
        rw [show r.length - 1 - k = i0 from by rw [← HL.out]; omega] at hcx
        have c1 := (hnx.cell (p := ⟨g, i0 * 2, none⟩) hg).trans hcx.1
        have c2 := (hnx.cell (p := ⟨g, i0 * 2 + 1, none⟩) hg).trans hcx.2
        have HT := Lib.hid (show (items r).take (k + 1) = (items r).take k ++ [(i0, r[k])] from items_take hkr (by rw [← HL.out]; omega))
        clear hcx hJs
        gi_wp2
        refine hR.mono ?_
        rintro e W3 (⟨rfl, hJ3, hk3⟩ | ⟨rfl, hJx3⟩)
        · cases i0 with
          | zero =>
            gi_wp2
            go_roundw
            case rel => exact ⟨k + 1, .inl ⟨by omega, by rfl⟩, by rw [HT.out]; exact hJ3, hnx.trans hk3⟩
            case measure => simp [intOf]
          | succ i1 =>
            gi_wp2
            go_roundw
            case rel => exact ⟨k + 1, .inr ⟨i1, by omega, by go_num⟩, by rw [HT.out]; exact hJ3, hnx.trans hk3⟩
            case measure => simp [intOf]; omega
        · gi_wp2
          refine bodyPost_ret (results_none rfl _ _ _) rfl ?_
          exact ⟨⟨_, rfl⟩, .inr ⟨_, ⟨k + 1, by omega, HT.out.symm⟩, hJx3⟩⟩

set_option maxRecDepth 100000 in
set_option maxHeartbeats 2000000 in
/-- the closure, where there is no such bucket -/
theorem SplacesNo_in (F : Fence) (n : Nat) (h7 : F.fn 45) (hro : F.round = none) (l B1 B2 T G nb : Nat) (b : Int) (hnb : nb ≤ 64) (J : List (Nat × Int × ByteArray) → World → Prop)
    (W : World) (hJ : AbidesFrom W.heap.size J) (hB1 : W.cell? ⟨B1, 0, none⟩ = some (.pointer (some ⟨T, 0, none⟩))) (hB2 : W.cell? ⟨B2, 0, none⟩ = some (.int .i64 b)) (c0 : W.cell? ⟨T, 0, none⟩ = some (.slice (some ⟨G, 0, none⟩) nb nb)) (hb : b < 0 ∨ nb ≤ b) (h0 : J [] W) :
    CallsIn F n Try.prog 45 #[.func (.yield l) #[] #[], .pointer (some ⟨B1, 0, none⟩), .pointer (some ⟨B2, 0, none⟩)] W fun e W' => (∃ v, e = .returned v) ∧ J [] W' := by
  have HJ0 := Lib.hid (fun nq => abides_drewN2 hJ h0 nq)
  rcases hb with hb | hb
  · have d1 : decide (b < 0) = true := decide_eq_true hb
    refine callsIn_of_wp Try.func45 rfl h7 ?_ hro
    simp only [Try.ntmps45, List.size_toArray, List.length_cons, List.length_nil, Nat.reduceAdd, Nat.reduceSub, Array.replicate_succ, Array.replicate_zero, List.push_toArray, List.append_toArray, List.nil_append, List.cons_append]
    gi_wp2
    refine wpIn_region_quiet_lit hro (by kernel_rfl) (by kernel_rfl) ?_
    repeat (gi_big_quiet_step (fail))
    refine wpQuietIn_nil ?_
    intro _ hw'
    obtain ⟨nq, hw''⟩ := hw'
    subst hw''
    gi_wp2
    refine bodyPost_ret (results_none rfl _ _ _) rfl ?_
    exact ⟨⟨_, rfl⟩, HJ0.out _⟩
  · have d1 : decide (b < 0) = false := decide_eq_false (by omega)
    have d2 : decide ((nb : Int) ≤ b) = true := decide_eq_true hb
    refine callsIn_of_wp Try.func45 rfl h7 ?_ hro
    simp only [Try.ntmps45, List.size_toArray, List.length_cons, List.length_nil, Nat.reduceAdd, Nat.reduceSub, Array.replicate_succ, Array.replicate_zero, List.push_toArray, List.append_toArray, List.nil_append, List.cons_append]
    gi_wp2
    refine wpIn_region_quiet_lit hro (by kernel_rfl) (by kernel_rfl) ?_
    repeat (gi_big_quiet_step (fail))
    refine wpQuietIn_nil ?_
    intro _ hw'
    obtain ⟨nq, hw''⟩ := hw'
    subst hw''
    gi_wp2
    refine bodyPost_ret (results_none rfl _ _ _) rfl ?_
    exact ⟨⟨_, rfl⟩, HJ0.out _⟩
set_option maxRecDepth 100000 in
set_option maxHeartbeats 2000000 in
/-- .. of no table -/
theorem SplacesNil_in (F : Fence) (n : Nat) (h7 : F.fn 45) (hro : F.round = none) (l B1 B2 : Nat) (J : List (Nat × Int × ByteArray) → World → Prop)
    (W : World) (hJ : AbidesFrom W.heap.size J) (hB1 : W.cell? ⟨B1, 0, none⟩ = some (.pointer none)) (h0 : J [] W) :
    CallsIn F n Try.prog 45 #[.func (.yield l) #[] #[], .pointer (some ⟨B1, 0, none⟩), .pointer (some ⟨B2, 0, none⟩)] W fun e W' => (∃ v, e = .returned v) ∧ J [] W' := by
  have HJ0 := Lib.hid (fun nq => abides_drewN2 hJ h0 nq)
  refine callsIn_of_wp Try.func45 rfl h7 ?_ hro
  simp only [Try.ntmps45, List.size_toArray, List.length_cons, List.length_nil, Nat.reduceAdd, Nat.reduceSub, Array.replicate_succ, Array.replicate_zero, List.push_toArray, List.append_toArray, List.nil_append, List.cons_append]
  gi_wp2
  refine wpIn_region_quiet_lit hro (by kernel_rfl) (by kernel_rfl) ?_
  repeat (gi_big_quiet_step (fail))
  refine wpQuietIn_nil ?_
  intro _ hw'
  obtain ⟨nq, hw''⟩ := hw'
  subst hw''
  gi_wp2
  refine bodyPost_ret (results_none rfl _ _ _) rfl ?_
  exact ⟨⟨_, rfl⟩, HJ0.out _⟩

set_option maxHeartbeats 1000000 in
theorem Splaces_in (F : Fence) (n : Nat) (h6 : F.fn 42) (hro : F.round = none) (a : Option Addr) (b : Int) (w : World) :
    CallsIn F n Try.prog 42 #[.pointer a, .int .i64 b] w fun e w' => e = .returned (.func (.func 45) #[] #[.pointer (some ⟨w.heap.size, 0, none⟩), .pointer (some ⟨w.heap.size + 1, 0, none⟩)]) ∧ w' = (w.alloc (.cells #[.pointer a] 25)).alloc (.cells #[.int .i64 b] 3) := by
  refine callsIn_of_wp Try.func42 rfl h6 ?_ hro
  simp only [Try.ntmps42, List.size_toArray, List.length_cons, List.length_nil, Nat.reduceAdd, Nat.reduceSub, Array.replicate_succ, Array.replicate_zero, List.push_toArray, List.append_toArray, List.nil_append, List.cons_append]
  gi_wp2
  go_ret
  exact ⟨rfl, rfl⟩

/-- what comes of a bucket -/
def SSeq (n : Nat) (B1 B2 n₀ : Nat) (r : List (Int × ByteArray)) (w : World) : Prop :=
  SeqStopsK Fence.wide n Try.prog 45 #[.pointer (some ⟨B1, 0, none⟩), .pointer (some ⟨B2, 0, none⟩)] (itemV Value.string) (Below n₀) (fun ys => ys = items r) (fun pre => ∃ k, k ≤ r.length ∧ pre = (items r).take k) r.length w
theorem Sseq_good (n : Nat) (hn : 1 ≤ n) (T G nb room b : Nat) (m : List (Int × ByteArray)) (ch : Nat → Value) (w w1 : World) (h : Tab Value.string 73 75 76 w T G nb room m ch) (hb : b < nb) (hw : Below w.heap.size w w1) (B1 B2 : Nat)
    (h1 : w1.cell? ⟨B1, 0, none⟩ = some (.pointer (some ⟨T, 0, none⟩))) (h2 : w1.cell? ⟨B2, 0, none⟩ = some (.int .i64 b)) : SSeq n B1 B2 w.heap.size (chn m nb b) w1 := fun l J Jx W hW hJ _ hY h0 => by
  have hB1 : B1 < w1.heap.size := w1.block_lt_of_cell? _ h1
  have hB2 : B2 < w1.heap.size := w1.block_lt_of_cell? _ h2
  have hWw := hw.trans (hW.mono hw.size)
  exact Splaces1_in Fence.wide n trivial rfl hn l B1 B2 w.heap.size T G nb b (ch b) (chn m nb b) (Nat.le_trans (chn_len m nb b) (Nat.le_trans h.cnt h.rm)) hb h.hi J Jx hY W hJ ((hW.cell (p := ⟨B1, 0, none⟩) hB1).trans h1) ((hW.cell (p := ⟨B2, 0, none⟩) hB2).trans h2)
    ((hWw.cell (p := ⟨T, 0, none⟩) h.ltT).trans h.c0) ((hWw.cell (p := ⟨G, b, none⟩) h.ltG).trans (h.cg hb)) ((h.chain hb).below hWw) h0
theorem Sseq_no (n : Nat) (T G nb room : Nat) (b : Int) (m : List (Int × ByteArray)) (ch : Nat → Value) (w w1 : World) (h : Tab Value.string 73 75 76 w T G nb room m ch) (hb : b < 0 ∨ nb ≤ b) (hw : Below w.heap.size w w1) (B1 B2 : Nat)
    (h1 : w1.cell? ⟨B1, 0, none⟩ = some (.pointer (some ⟨T, 0, none⟩))) (h2 : w1.cell? ⟨B2, 0, none⟩ = some (.int .i64 b)) : SSeq n B1 B2 w.heap.size [] w1 := fun l J Jx W hW hJ _ hY h0 => by
  have hB1 : B1 < w1.heap.size := w1.block_lt_of_cell? _ h1
  have hB2 : B2 < w1.heap.size := w1.block_lt_of_cell? _ h2
  have hWw := hw.trans (hW.mono hw.size)
  exact (SplacesNo_in Fence.wide n trivial rfl l B1 B2 T G nb b h.hi J W hJ ((hW.cell (p := ⟨B1, 0, none⟩) hB1).trans h1) ((hW.cell (p := ⟨B2, 0, none⟩) hB2).trans h2)
    ((hWw.cell (p := ⟨T, 0, none⟩) h.ltT).trans h.c0) hb h0).mono fun e W' ⟨he, hj⟩ => ⟨he, .inl ⟨_, rfl, hj⟩⟩
theorem Sseq_nil (n n₀ : Nat) (w1 : World) (B1 B2 : Nat) (h1 : w1.cell? ⟨B1, 0, none⟩ = some (.pointer none)) : SSeq n B1 B2 n₀ [] w1 := fun l J Jx W hW hJ _ hY h0 => by
  have hB1 : B1 < w1.heap.size := w1.block_lt_of_cell? _ h1
  exact (SplacesNil_in Fence.wide n trivial rfl l B1 B2 J W hJ ((hW.cell (p := ⟨B1, 0, none⟩) hB1).trans h1) h0).mono fun e W' ⟨he, hj⟩ => ⟨he, .inl ⟨_, rfl, hj⟩⟩

end Go.Proofs.Ytkkaogdcodmpcaa
