/- Buckets: a bucket's keys, and all keys. (Int) -/
import Derived.Test.YtkkaogdcodmpcaaFdI
import Derived.Maps.AppendAt
namespace Go.Proofs.Ytkkaogdcodmpcaa
open Go.RowKit Go.Shelf
attribute [local go_sem] Oper.semAt_some
set_option linter.unusedVariables false

theorem info29 : (Try.prog.info? 29).map (fun i => (i.zero, i.size, i.bytes)) = some (some (.int .u64 0), 1, 8) := by kernel_rfl
def keysOf {β : Type} (l : List (Nat × Int × β)) : List Int := l.map (·.2.1)
theorem keysOf_len {β : Type} (l : List (Nat × Int × β)) : (keysOf l).length = l.length := by simp [keysOf]
theorem keysOf_snoc {β : Type} (l : List (Nat × Int × β)) (x : Nat × Int × β) : keysOf (l ++ [x]) = keysOf l ++ [x.2.1] := by simp [keysOf]
theorem keysOf_items {β : Type} (r : List (Int × β)) : keysOf (items r) = r.map (·.1) := by
  induction r with
  | nil => rfl
  | cons e r ih => simp only [items, keysOf, List.map_cons] at *; rw [ih]
/-- a new slice of words -/
def WordsPost (w : World) (l : List Int) (e : Ending) (w' : World) : Prop := ∃ v, e = .returned v ∧ w'.ownsRow w.heap.size 29 1 v l.length (l.map (Value.int .u64)) ∧ Below w.heap.size w w'

set_option maxRecDepth 100000 in
set_option maxHeartbeats 2000000 in
/-- a bucket's keys -/
theorem IchainAny (a : Option Addr) (b : Int) (r : List (Int × Int)) (hr : r.length ≤ 64) (w : World)
    (hS : ∀ w1 B1 B2, Below w.heap.size w w1 → w1.cell? ⟨B1, 0, none⟩ = some (.pointer a) → w1.cell? ⟨B2, 0, none⟩ = some (.int .i64 b) → ISeq 3 B1 B2 w.heap.size r w1) :
    Calls Try.prog 25 #[.pointer a, .int .i64 b] w (WordsPost w (r.map (·.1))) := by
  have HT := Lib.hid hS
  clear hS
  obtain ⟨i0, hi, hz0, hz1, hz2⟩ := info_parts info29
  refine (callsIn_wide (n := 4)).1 ?_
  refine callsIn_of_wp_marks Try.func25 rfl trivial ?_ rfl
  simp only [Try.ntmps25, List.size_toArray, List.length_cons, List.length_nil, Nat.reduceAdd, Nat.reduceSub, Array.replicate_succ, Array.replicate_zero, List.push_toArray, List.append_toArray, List.nil_append, List.cons_append]
  gi_wp2_with (first | (refine ⟨trivial, ?_⟩; gi_at_call 39; refine (Iplaces_in Fence.wide _ trivial rfl _ _ _).mono ?_; rintro e w' ⟨rfl, rfl⟩))
  have bA := ((Boxed.new w 22 (.slice none 0 0)).alloc (.cells #[.pointer a] 38)).alloc (.cells #[.int .i64 b] 3)
  have b1 := (Boxed.new (w.alloc (.cells #[.slice none 0 0] 22)) 38 (.pointer a)).alloc (.cells #[.int .i64 b] 3)
  have b2 := Boxed.new ((w.alloc (.cells #[.slice none 0 0] 22)).alloc (.cells #[.pointer a] 38)) 3 (.int .i64 b)
  simp only [World.size_alloc] at bA b1 b2
  have hB0 : Below w.heap.size w (((w.alloc (.cells #[.slice none 0 0] 22)).alloc (.cells #[.pointer a] 38)).alloc (.cells #[.int .i64 b] 3)) := by go_grown
  have hsz : (((w.alloc (.cells #[.slice none 0 0] 22)).alloc (.cells #[.pointer a] 38)).alloc (.cells #[.int .i64 b] 3)).heap.size = w.heap.size + 3 := by simp
  obtain ⟨W0, hW0⟩ : ∃ W0, (((w.alloc (.cells #[.slice none 0 0] 22)).alloc (.cells #[.pointer a] 38)).alloc (.cells #[.int .i64 b] 3)) = W0 := ⟨_, rfl⟩
  rw [hW0] at bA b1 b2 hB0 hsz ⊢
  clear hW0
  have hseq := HT.out W0 (w.heap.size + 1) (w.heap.size + 1 + 1) hB0 b1.cell b2.cell
  clear b1 b2 HT
  refine wpIn_rangeFunc_ownH rfl (by omega) (gf := 43) (lb := #[.pointer (some ⟨w.heap.size + 1, 0, none⟩), .pointer (some ⟨w.heap.size + 1 + 1, 0, none⟩)]) rfl trivial (enters_of Try.func43 (by kernel_rfl) rfl)
    hseq belowK_t (belowK_b (by omega)) (Below.refl _ _) (fun _ => rfl)
    (fun pre W => (∃ v, Boxed W w.heap.size 22 v ∧ W.ownsRow w.heap.size 29 1 v (keysOf pre).length ((keysOf pre).map (Value.int .u64)) ∧ True) ∧ Below w.heap.size w W)
    (fun _ _ _ => False)
    (OwnFrom.and (Own.from (holdsRow_own w.heap.size w.heap.size 22 29 1 (fun pre => (keysOf pre).length) (fun pre => (keysOf pre).map (Value.int .u64)) (fun _ _ => True)) _) (ownFrom_below (Nat.le_refl _) (by omega)))
    (fun _ _ _ _ _ hs _ _ => hs)
    ⟨⟨_, bA, World.ownsRow_nil _ _ _ _, trivial⟩, hB0⟩
    (fun x a' W => ∃ Bx, w.heap.size < Bx ∧ W.heap[Bx]? = some (.cells #[.int .u64 x.2.1, (Value.int .i64) x.2.2] 82 (0, 0)) ∧ a' = { tmps := #[.pointer a, .int .i64 b, undef, undef, .slice none 0 0, .pointer (some ⟨w.heap.size, 0, none⟩), undef, .pointer (some ⟨Bx, 0, none⟩),
      .pointer a, .int .i64 b, .func (.func 43) #[] #[.pointer (some ⟨w.heap.size + 1, 0, none⟩), .pointer (some ⟨w.heap.size + 1 + 1, 0, none⟩)], .int .i64 (x.1 : Int), .agg #[.int .u64 x.2.1, (Value.int .i64) x.2.2], undef, undef, undef, undef, undef, undef], defers := [] })
    (fun x a' _ X Y row hs hg hr => by obtain ⟨Bx, h1, h2, h3⟩ := hs; exact ⟨Bx, h1, block_own Bx (fun (_ : Unit) => #[.int .u64 x.2.1, (Value.int .i64) x.2.2]) 82 (0, 0) () X Y row h2 hg (fun r e => (hr r e).2), h3⟩)
    ?assign ?body ?done ?stop
  case assign =>
    rintro l pre x W K ⟨⟨v, bv, hv, _⟩, hB1⟩ hK
    unfold itemV
    gi_wp2
    exact hK _ _ ((KeepsOthers.alloc _ _).from _) ((Below.refl _ W).alloc hB1.size _) ⟨⟨v, bv.alloc _, hv.alloc _, trivial⟩, hB1.alloc hB1.size _⟩ ⟨W.heap.size, bv.lt, World.alloc_heap_new W _, rfl⟩
  case body =>
    rintro l pre x a' W hl _ ⟨⟨v, hv, hrow, _⟩, hB1⟩ ⟨Bx, hBx, bX, rfl⟩ hlt
    have hc := hv.cell
    have cX : W.cell? ⟨Bx, 0, none⟩ = some (.int .u64 x.2.1) := by simp [World.cell?, bX]
    have HX := Lib.hid bX
    have hpl : (keysOf pre).length = pre.length := keysOf_len pre
    have HPL := Lib.hid hpl
    have hpl2 : (keysOf pre).length ≤ 64 := by omega
    clear bX hpl
    gi_wp2_with (gi_at_builtin; refine wpListIn_append_own _ rfl _ _ 22 rfl w.heap.size 29 i0 (.int .u64 0) 1 8 Try.underlying22 hi hz0 hz1 hz2 rfl (by decide) _ _ _ rfl (hrow.alloc _) ⟨W.heap.size, 0, none⟩ 1 1 [.int .u64 x.2.1] rfl rfl (cell_one_new _ _ _) (by simp [Value.oneCell']) (by unfold maxLen; omega) (by omega) (by have := hB1.size; simp; omega) ?_; intro v' w1 hown' hgrow _; obtain ⟨g', cap', rfl⟩ := ownsRow_succ hown'; obtain ⟨hv1, hv2, hr2, hk2, hb2⟩ := hv.appended (by decide) hrow hB1.size (Nat.le_refl _) hown' hgrow; have hc1 := hv1.cell; have hf1 := hv1.frozen)
    exact ⟨hk2.from _, hb2, ⟨⟨_, hv2, by rw [keysOf_snoc]; simpa using hr2, trivial⟩, hB1.trans hb2⟩⟩
  case done =>
    rintro D ys W hD rfl ⟨⟨v, hv, hrow, _⟩, hB1⟩ hK
    have hc := hv.cell
    gi_wp2
    refine ⟨by simp, .inl ⟨_, _, rfl, run_takeDeferred hK, ?_⟩⟩
    exact ⟨_, results_tmp rfl _ _ _, v, rfl, by have h := ownsRow_putObj hrow (.deferred none) hK rfl; rw [keysOf_items] at h; exact h, hB1.trans (belowK_b (w := w) (Nat.le_refl _) W D _ _ (by omega) hK rfl rfl)⟩
  case stop =>
    rintro D c pre W _ _ h _
    exact h.elim
theorem Ichain (T G nb room : Nat) (b : Nat) (m : List (Int × Int)) (ch : Nat → Value) (w : World) (h : Tab (Value.int .i64) 80 82 83 w T G nb room m ch) (hb : b < nb) :
    Calls Try.prog 25 #[.pointer (some ⟨T, 0, none⟩), .int .i64 b] w (WordsPost w ((chn m nb b).map (·.1))) :=
  IchainAny _ b _ (Nat.le_trans (chn_len m nb b) (Nat.le_trans h.cnt h.rm)) w (fun w1 B1 B2 k h1 h2 => Iseq_good 3 (by omega) T G nb room b m ch w w1 h hb k B1 B2 h1 h2)
theorem IchainNo (T G nb room : Nat) (b : Int) (m : List (Int × Int)) (ch : Nat → Value) (w : World) (h : Tab (Value.int .i64) 80 82 83 w T G nb room m ch) (hb : b < 0 ∨ nb ≤ b) :
    Calls Try.prog 25 #[.pointer (some ⟨T, 0, none⟩), .int .i64 b] w (WordsPost w []) :=
  IchainAny _ b [] (by simp) w (fun w1 B1 B2 k h1 h2 => Iseq_no 3 T G nb room b m ch w w1 h hb k B1 B2 h1 h2)
theorem IchainNil (b : Int) (w : World) : Calls Try.prog 25 #[.pointer none, .int .i64 b] w (WordsPost w []) :=
  IchainAny _ b [] (by simp) w (fun w1 B1 B2 k h1 h2 => Iseq_nil 3 _ w1 B1 B2 h1)

end Go.Proofs.Ytkkaogdcodmpcaa
