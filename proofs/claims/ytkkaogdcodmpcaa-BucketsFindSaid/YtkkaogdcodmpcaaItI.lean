/- Buckets: the places of a chain, ranged over. (Int) -/
import Derived.Test.YtkkaogdcodmpcaaTab
import Derived.RangeFuncNested
import Derived.RangeFuncBound
import Derived.RangeFuncCalls
import Derived.RangeFuncLeaves
import Derived.Shelf.Abstract
import Derived.Shelf.RegionOpen
import Derived.WalkKit
import Derived.OwnWalkIn
import Derived.TacticsInMore
import Derived.LoopNIn
import Derived.LoopIn
import Derived.Sort.QuietIn
import Derived.WalkMore
namespace Go.Proofs.Ytkkaogdcodmpcaa
open Go.RowKit Go.Shelf
attribute [local go_sem] Oper.semAt_some
set_option linter.unusedVariables false

/-- what comes of a chain: each entry with its place, the last that came first -/
def items {β : Type} : List (Int × β) → List (Nat × Int × β)
  | [] => []
  | e :: r => (r.length, e) :: items r
theorem items_len {β : Type} (r : List (Int × β)) : (items r).length = r.length := by
  induction r with
  | nil => rfl
  | cons e r ih => simp [items, ih]
def itemV {β : Type} (enc : β → Value) (x : Nat × Int × β) : Array Value := #[.int .i64 (x.1 : Int), .agg #[.int .u64 x.2.1, enc x.2.2]]
theorem items_take {β : Type} {r : List (Int × β)} {k i0 : Nat} (h : k < r.length) (hi : i0 + k + 1 = r.length) : (items r).take (k + 1) = (items r).take k ++ [(i0, r[k])] := by
  induction r generalizing k with
  | nil => simp at h
  | cons e r ih =>
    cases k with
    | zero => simp [items]; simp at hi; omega
    | succ k =>
      simp at h hi
      simp only [items, List.take_succ_cons, List.getElem_cons_succ, List.cons_append]
      rw [ih h (by omega)]
theorem abides_drewN2 {β : Type} {J : List β → World → Prop} {W : World} (hJ : AbidesFrom W.heap.size J) {s : List β} (h : J s W) (a : Nat) : J s (W.drewN a) :=
  hJ s W _ none h ⟨rfl, rfl, rfl, Nat.le_refl _, fun _ _ _ => rfl⟩ (fun _ e => by cases e)
theorem below_drewN2 (n : Nat) (W : World) (a : Nat) : Below n W (W.drewN a) := ⟨rfl, rfl, rfl, Nat.le_refl _, fun _ _ => rfl⟩
theorem fnd_none {β : Type} {r : List (Int × β)} {k : Int} (h : ∀ x ∈ items r, x.2.1 ≠ k) : fnd r k = -1 := by
  induction r with
  | nil => rfl
  | cons e r ih =>
    simp only [items, List.mem_cons, forall_eq_or_imp] at h
    unfold fnd
    rw [if_neg h.1]
    exact ih h.2
theorem fnd_some {β : Type} {r : List (Int × β)} {k : Int} {n : Nat} {ini : List (Nat × Int × β)} {x : Nat × Int × β} (h : (items r).take n = ini ++ [x]) (h1 : ∀ y ∈ ini, y.2.1 ≠ k) (h2 : x.2.1 = k) : fnd r k = x.1 := by
  induction r generalizing n ini with
  | nil => simp [items] at h
  | cons e r ih =>
    cases n with
    | zero => simp at h
    | succ n =>
      simp only [items, List.take_succ_cons] at h
      unfold fnd
      cases ini with
      | nil =>
        simp only [List.nil_append, List.cons.injEq] at h
        obtain ⟨h, _⟩ := h
        subst h
        exact if_pos h2
      | cons y ini =>
        simp only [List.cons_append, List.cons.injEq] at h
        obtain ⟨hy, h⟩ := h
        subst hy
        rw [if_neg (show e.1 ≠ k from h1 (r.length, e) (by simp))]
        exact ih h (fun z hz => h1 z (by simp [hz]))
theorem block_own {β : Type} (B : Nat) (cs : β → Array Value) (t : TypeId) (fr : Nat × Nat) : Own (fun s W => W.heap[B]? = some (.cells (cs s) t fr)) := fun s X Y row hs hg hrow =>
  (hg.block B (Array.getElem?_eq_some_iff.1 hs).1 (fun e' => by obtain ⟨o, ho, hc⟩ := hrow B e'.symm; rw [hs] at ho; cases ho; cases hc)).trans hs

set_option maxRecDepth 100000 in
set_option maxHeartbeats 2000000 in
/-- the closure, where there is such a bucket -/
theorem Iplaces1_in (F : Fence) (n : Nat) (h7 : F.fn 43) (hro : F.round = none) (hn : 1 ≤ n) (l B1 B2 n₀ T G nb b : Nat) (v : Value) (r : List (Int × Int)) (hr : r.length ≤ 64) (hb : b < nb) (hnb : nb ≤ 64) (J Jx : List (Nat × Int × Int) → World → Prop)
    (hY : ∀ pre x W, J pre W → pre.length < r.length → YieldAt F (n - 1) Try.prog l (itemV (Value.int .i64) x) W fun e W' =>
      (e = .returned (.bool true) ∧ J (pre ++ [x]) W' ∧ Below n₀ W W') ∨ (e = .returned (.bool false) ∧ Jx (pre ++ [x]) W'))
    (W : World) (hJ : AbidesFrom W.heap.size J) (hB1 : W.cell? ⟨B1, 0, none⟩ = some (.pointer (some ⟨T, 0, none⟩))) (hB2 : W.cell? ⟨B2, 0, none⟩ = some (.int .i64 b)) (c0 : W.cell? ⟨T, 0, none⟩ = some (.slice (some ⟨G, 0, none⟩) nb nb)) (cg : W.cell? ⟨G, b, none⟩ = some v)
    (hv : Row (Value.int .i64) n₀ W v r) (h0 : J [] W) :
    CallsIn F n Try.prog 43 #[.func (.yield l) #[] #[], .pointer (some ⟨B1, 0, none⟩), .pointer (some ⟨B2, 0, none⟩)] W fun e W' => (∃ v, e = .returned v) ∧
      ((∃ ys, ys = items r ∧ J ys W') ∨ (∃ pre, (∃ k, k ≤ r.length ∧ pre = (items r).take k) ∧ Jx pre W')) := by
  have d1 : decide ((b : Int) < 0) = false := decide_eq_false (by omega)
  have d2 : decide ((nb : Int) ≤ (b : Int)) = false := decide_eq_false (by omega)
  have d3 : decide (nb ≤ b) = false := decide_eq_false (by omega)
  have HJ0 := Lib.hid (fun nq => abides_drewN2 hJ h0 nq)
  have HB0 := Lib.hid (fun nq => below_drewN2 n₀ W nq)
  rcases hv with ⟨rfl, rfl⟩ | ⟨g, cap, rfl, hg, hcap, hcs⟩
  · refine callsIn_of_wp Try.func43 rfl h7 ?_ hro
    simp only [Try.ntmps43, List.size_toArray, List.length_cons, List.length_nil, Nat.reduceAdd, Nat.reduceSub, Array.replicate_succ, Array.replicate_zero, List.push_toArray, List.append_toArray, List.nil_append, List.cons_append]
    gi_wp2
    refine wpIn_region_quiet_lit hro (by kernel_rfl) (by kernel_rfl) ?_
    repeat (gi_big_quiet_step (fail))
    refine wpQuietIn_nil ?_
    intro _ hw'
    obtain ⟨nq, hw''⟩ := hw'
    subst hw''
    gi_wp2
    refine wpIn_region_quiet_lit hro (by kernel_rfl) (by kernel_rfl) ?_
    repeat (gi_big_quiet_step (fail))
    refine wpQuietIn_nil ?_
    intro _ hw'
    obtain ⟨nq, hw''⟩ := hw'
    subst hw''
    gi_wp2
    gi_loopw [5] (fun i wr => i = .int .i64 (-1) ∧ J [] wr) (fun _ _ => 0)
    case atStart => exact ⟨rfl, HJ0.out _⟩
    case round =>
      obtain ⟨rfl, hJs⟩ := hrel
      gi_wp2
      go_end0
      exact ⟨⟨_, rfl⟩, .inl ⟨_, rfl, hJs⟩⟩
  · have HCS := Lib.hid hcs
    clear hcs
    obtain ⟨L, hL⟩ : ∃ L, L = r.length := ⟨_, rfl⟩
    have hL64 : L ≤ 64 := by omega
    rw [← hL]
    have HL := Lib.hid hL
    rw [← hL] at hY cg
    clear hL hr hcap
    refine callsIn_of_wp Try.func43 rfl h7 ?_ hro
    simp only [Try.ntmps43, List.size_toArray, List.length_cons, List.length_nil, Nat.reduceAdd, Nat.reduceSub, Array.replicate_succ, Array.replicate_zero, List.push_toArray, List.append_toArray, List.nil_append, List.cons_append]
    gi_wp2
    refine wpIn_region_quiet_lit hro (by kernel_rfl) (by kernel_rfl) ?_
    repeat (gi_big_quiet_step (fail))
    refine wpQuietIn_nil ?_
    intro _ hw'
    obtain ⟨nq, hw''⟩ := hw'
    subst hw''
    gi_wp2
    refine wpIn_region_quiet_lit hro (by kernel_rfl) (by kernel_rfl) ?_
    repeat (gi_big_quiet_step (fail))
    refine wpQuietIn_nil ?_
    intro _ hw'
    obtain ⟨nq, hw''⟩ := hw'
    subst hw''
    gi_wp2
    gi_loopw [5] (fun i wr => ∃ k : Nat, ((k = L ∧ i = .int .i64 (-1)) ∨ ∃ i0 : Nat, i0 + k + 1 = L ∧ i = .int .i64 i0) ∧ J ((items r).take k) wr ∧ Below n₀ W wr)
      (fun i _ => (intOf i + 1).toNat)
    case atStart =>
      refine ⟨0, ?_, by rw [List.take_zero]; exact HJ0.out _, HB0.out _⟩
      by_cases hz : L = 0
      · exact .inl ⟨hz.symm, by subst hz; rfl⟩
      · exact .inr ⟨L - 1, by omega, by rw [show ((L - 1 : Nat) : Int) = (L : Int) - 1 from by omega]⟩
    case round =>
      obtain ⟨k, hk, hJs, hnx⟩ := hrel
      rcases hk with ⟨rfl, rfl⟩ | ⟨i0, hi0, rfl⟩
      · have HJS := Lib.hid hJs
        clear hJs
        gi_wp2
        go_end0
        exact ⟨⟨_, rfl⟩, .inl ⟨_, rfl, by have h := HJS.out; rw [HL.out, ← items_len, List.take_length] at h; exact h⟩⟩
      · have hkr : k < r.length := by rw [← HL.out]; omega
        obtain ⟨fn, tmps, assign, body, hy, hR⟩ := hY _ (i0, r[k]) wr hJs (by rw [List.length_take, items_len, ← HL.out]; omega)
        unfold itemV at hy
        dsimp only at hy
        have hcx := HCS.out k r[k] (List.getElem?_eq_getElem hkr)
        rw [show r.length - 1 - k = i0 from by rw [← HL.out]; omega] at hcx
        have c1 := (hnx.cell (p := ⟨g, i0 * 2, none⟩) hg).trans hcx.1
        have c2 := (hnx.cell (p := ⟨g, i0 * 2 + 1, none⟩) hg).trans hcx.2
        have HT := Lib.hid (show (items r).take (k + 1) = (items r).take k ++ [(i0, r[k])] from items_take hkr (by rw [← HL.out]; omega))
        clear hcx hJs
        gi_wp2
        refine hR.mono ?_
        rintro e W3 (⟨rfl, hJ3, hk3⟩ | ⟨rfl, hJx3⟩)
        · cases i0 with
          | zero =>
            gi_wp2
            go_roundw
            case rel => exact ⟨k + 1, .inl ⟨by omega, by rfl⟩, by rw [HT.out]; exact hJ3, hnx.trans hk3⟩
            case measure => simp [intOf]
          | succ i1 =>
            gi_wp2
            go_roundw
            case rel => exact ⟨k + 1, .inr ⟨i1, by omega, by go_num⟩, by rw [HT.out]; exact hJ3, hnx.trans hk3⟩
            case measure => simp [intOf]; omega
        · gi_wp2
          refine bodyPost_ret (results_none rfl _ _ _) rfl ?_
          exact ⟨⟨_, rfl⟩, .inr ⟨_, ⟨k + 1, by omega, HT.out.symm⟩, hJx3⟩⟩

set_option maxRecDepth 100000 in
set_option maxHeartbeats 2000000 in
/-- the closure, where there is no such bucket -/
theorem IplacesNo_in (F : Fence) (n : Nat) (h7 : F.fn 43) (hro : F.round = none) (l B1 B2 T G nb : Nat) (b : Int) (hnb : nb ≤ 64) (J : List (Nat × Int × Int) → World → Prop)
    (W : World) (hJ : AbidesFrom W.heap.size J) (hB1 : W.cell? ⟨B1, 0, none⟩ = some (.pointer (some ⟨T, 0, none⟩))) (hB2 : W.cell? ⟨B2, 0, none⟩ = some (.int .i64 b)) (c0 : W.cell? ⟨T, 0, none⟩ = some (.slice (some ⟨G, 0, none⟩) nb nb)) (hb : b < 0 ∨ nb ≤ b) (h0 : J [] W) :
    CallsIn F n Try.prog 43 #[.func (.yield l) #[] #[], .pointer (some ⟨B1, 0, none⟩), .pointer (some ⟨B2, 0, none⟩)] W fun e W' => (∃ v, e = .returned v) ∧ J [] W' := by
  have HJ0 := Lib.hid (fun nq => abides_drewN2 hJ h0 nq)
  rcases hb with hb | hb
  · have d1 : decide (b < 0) = true := decide_eq_true hb
    refine callsIn_of_wp Try.func43 rfl h7 ?_ hro
    simp only [Try.ntmps43, List.size_toArray, List.length_cons, List.length_nil, Nat.reduceAdd, Nat.reduceSub, Array.replicate_succ, Array.replicate_zero, List.push_toArray, List.append_toArray, List.nil_append, List.cons_append]
    gi_wp2
    refine wpIn_region_quiet_lit hro (by kernel_rfl) (by kernel_rfl) ?_
    repeat (gi_big_quiet_step (fail))
    refine wpQuietIn_nil ?_
    intro _ hw'
    obtain ⟨nq, hw''⟩ := hw'
    subst hw''
    gi_wp2
    refine bodyPost_ret (results_none rfl _ _ _) rfl ?_
    exact ⟨⟨_, rfl⟩, HJ0.out _⟩
  · have d1 : decide (b < 0) = false := decide_eq_false (by omega)
    have d2 : decide ((nb : Int) ≤ b) = true := decide_eq_true hb
    refine callsIn_of_wp Try.func43 rfl h7 ?_ hro
    simp only [Try.ntmps43, List.size_toArray, List.length_cons, List.length_nil, Nat.reduceAdd, Nat.reduceSub, Array.replicate_succ, Array.replicate_zero, List.push_toArray, List.append_toArray, List.nil_append, List.cons_append]
    gi_wp2
    refine wpIn_region_quiet_lit hro (by kernel_rfl) (by kernel_rfl) ?_
    repeat (gi_big_quiet_step (fail))
    refine wpQuietIn_nil ?_
    intro _ hw'
    obtain ⟨nq, hw''⟩ := hw'
    subst hw''
    gi_wp2
    refine bodyPost_ret (results_none rfl _ _ _) rfl ?_
    exact ⟨⟨_, rfl⟩, HJ0.out _⟩
set_option maxRecDepth 100000 in
set_option maxHeartbeats 2000000 in
/-- .. of no table -/
theorem IplacesNil_in (F : Fence) (n : Nat) (h7 : F.fn 43) (hro : F.round = none) (l B1 B2 : Nat) (J : List (Nat × Int × Int) → World → Prop)
    (W : World) (hJ : AbidesFrom W.heap.size J) (hB1 : W.cell? ⟨B1, 0, none⟩ = some (.pointer none)) (h0 : J [] W) :
    CallsIn F n Try.prog 43 #[.func (.yield l) #[] #[], .pointer (some ⟨B1, 0, none⟩), .pointer (some ⟨B2, 0, none⟩)] W fun e W' => (∃ v, e = .returned v) ∧ J [] W' := by
  have HJ0 := Lib.hid (fun nq => abides_drewN2 hJ h0 nq)
  refine callsIn_of_wp Try.func43 rfl h7 ?_ hro
  simp only [Try.ntmps43, List.size_toArray, List.length_cons, List.length_nil, Nat.reduceAdd, Nat.reduceSub, Array.replicate_succ, Array.replicate_zero, List.push_toArray, List.append_toArray, List.nil_append, List.cons_append]
  gi_wp2
  refine wpIn_region_quiet_lit hro (by kernel_rfl) (by kernel_rfl) ?_
  repeat (gi_big_quiet_step (fail))
  refine wpQuietIn_nil ?_
  intro _ hw'
  obtain ⟨nq, hw''⟩ := hw'
  subst hw''
  gi_wp2
  refine bodyPost_ret (results_none rfl _ _ _) rfl ?_
  exact ⟨⟨_, rfl⟩, HJ0.out _⟩

set_option maxHeartbeats 1000000 in
theorem Iplaces_in (F : Fence) (n : Nat) (h6 : F.fn 39) (hro : F.round = none) (a : Option Addr) (b : Int) (w : World) :
    CallsIn F n Try.prog 39 #[.pointer a, .int .i64 b] w fun e w' => e = .returned (.func (.func 43) #[] #[.pointer (some ⟨w.heap.size, 0, none⟩), .pointer (some ⟨w.heap.size + 1, 0, none⟩)]) ∧ w' = (w.alloc (.cells #[.pointer a] 38)).alloc (.cells #[.int .i64 b] 3) := by
  refine callsIn_of_wp Try.func39 rfl h6 ?_ hro
  simp only [Try.ntmps39, List.size_toArray, List.length_cons, List.length_nil, Nat.reduceAdd, Nat.reduceSub, Array.replicate_succ, Array.replicate_zero, List.push_toArray, List.append_toArray, List.nil_append, List.cons_append]
  gi_wp2
  go_ret
  exact ⟨rfl, rfl⟩

/-- what comes of a bucket -/
def ISeq (n : Nat) (B1 B2 n₀ : Nat) (r : List (Int × Int)) (w : World) : Prop :=
  SeqStopsK Fence.wide n Try.prog 43 #[.pointer (some ⟨B1, 0, none⟩), .pointer (some ⟨B2, 0, none⟩)] (itemV (Value.int .i64)) (Below n₀) (fun ys => ys = items r) (fun pre => ∃ k, k ≤ r.length ∧ pre = (items r).take k) r.length w
theorem Iseq_good (n : Nat) (hn : 1 ≤ n) (T G nb room b : Nat) (m : List (Int × Int)) (ch : Nat → Value) (w w1 : World) (h : Tab (Value.int .i64) 80 82 83 w T G nb room m ch) (hb : b < nb) (hw : Below w.heap.size w w1) (B1 B2 : Nat)
    (h1 : w1.cell? ⟨B1, 0, none⟩ = some (.pointer (some ⟨T, 0, none⟩))) (h2 : w1.cell? ⟨B2, 0, none⟩ = some (.int .i64 b)) : ISeq n B1 B2 w.heap.size (chn m nb b) w1 := fun l J Jx W hW hJ _ hY h0 => by
  have hB1 : B1 < w1.heap.size := w1.block_lt_of_cell? _ h1
  have hB2 : B2 < w1.heap.size := w1.block_lt_of_cell? _ h2
  have hWw := hw.trans (hW.mono hw.size)
  exact Iplaces1_in Fence.wide n trivial rfl hn l B1 B2 w.heap.size T G nb b (ch b) (chn m nb b) (Nat.le_trans (chn_len m nb b) (Nat.le_trans h.cnt h.rm)) hb h.hi J Jx hY W hJ ((hW.cell (p := ⟨B1, 0, none⟩) hB1).trans h1) ((hW.cell (p := ⟨B2, 0, none⟩) hB2).trans h2)
    ((hWw.cell (p := ⟨T, 0, none⟩) h.ltT).trans h.c0) ((hWw.cell (p := ⟨G, b, none⟩) h.ltG).trans (h.cg hb)) ((h.chain hb).below hWw) h0
theorem Iseq_no (n : Nat) (T G nb room : Nat) (b : Int) (m : List (Int × Int)) (ch : Nat → Value) (w w1 : World) (h : Tab (Value.int .i64) 80 82 83 w T G nb room m ch) (hb : b < 0 ∨ nb ≤ b) (hw : Below w.heap.size w w1) (B1 B2 : Nat)
    (h1 : w1.cell? ⟨B1, 0, none⟩ = some (.pointer (some ⟨T, 0, none⟩))) (h2 : w1.cell? ⟨B2, 0, none⟩ = some (.int .i64 b)) : ISeq n B1 B2 w.heap.size [] w1 := fun l J Jx W hW hJ _ hY h0 => by
  have hB1 : B1 < w1.heap.size := w1.block_lt_of_cell? _ h1
  have hB2 : B2 < w1.heap.size := w1.block_lt_of_cell? _ h2
  have hWw := hw.trans (hW.mono hw.size)
  exact (IplacesNo_in Fence.wide n trivial rfl l B1 B2 T G nb b h.hi J W hJ ((hW.cell (p := ⟨B1, 0, none⟩) hB1).trans h1) ((hW.cell (p := ⟨B2, 0, none⟩) hB2).trans h2)
    ((hWw.cell (p := ⟨T, 0, none⟩) h.ltT).trans h.c0) hb h0).mono fun e W' ⟨he, hj⟩ => ⟨he, .inl ⟨_, rfl, hj⟩⟩
theorem Iseq_nil (n n₀ : Nat) (w1 : World) (B1 B2 : Nat) (h1 : w1.cell? ⟨B1, 0, none⟩ = some (.pointer none)) : ISeq n B1 B2 n₀ [] w1 := fun l J Jx W hW hJ _ hY h0 => by
  have hB1 : B1 < w1.heap.size := w1.block_lt_of_cell? _ h1
  exact (IplacesNil_in Fence.wide n trivial rfl l B1 B2 J W hJ ((hW.cell (p := ⟨B1, 0, none⟩) hB1).trans h1) h0).mono fun e W' ⟨he, hj⟩ => ⟨he, .inl ⟨_, rfl, hj⟩⟩

end Go.Proofs.Ytkkaogdcodmpcaa
