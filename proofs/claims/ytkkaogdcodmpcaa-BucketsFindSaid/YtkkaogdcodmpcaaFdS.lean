/- Buckets: a key's bucket, and its place there. (ByteArray) -/
import Derived.Test.YtkkaogdcodmpcaaItS
namespace Go.Proofs.Ytkkaogdcodmpcaa
open Go.RowKit Go.Shelf
attribute [local go_sem] Oper.semAt_some
set_option linter.unusedVariables false

theorem Sbucket (T G nb room : Nat) (k : Int) (m : List (Int × ByteArray)) (ch : Nat → Value) (w : World) (h : Tab Value.string 73 75 76 w T G nb room m ch) :
    Calls Try.prog 34 #[.pointer (some ⟨T, 0, none⟩), .int .u64 k] w fun e w' => e = .returned (.int .i64 (bkt k nb)) ∧ w = w' := by
  have c0 := h.c0
  have hb := Lib.hid (bkt_is k nb h.lo h.hi)
  have h1 := h.lo
  have h2 := h.hi
  clear h
  go_enter Try.func34, Try.ntmps34
  go_wp2
  go_ret
  exact ⟨ret_int hb.out, rfl⟩
theorem SbucketNil (k : Int) (w : World) : Calls Try.prog 34 #[.pointer none, .int .u64 k] w fun e w' => e = .returned (.int .i64 0) ∧ w = w' := by
  go_enter Try.func34, Try.ntmps34
  go_wp2
  go_ret
  exact ⟨rfl, rfl⟩

set_option maxRecDepth 100000 in
set_option maxHeartbeats 2000000 in
/-- a key's place -/
theorem SfindAny (a : Option Addr) (k b : Int) (r : List (Int × ByteArray)) (w : World) (hB : ∀ w1, Below w.heap.size w w1 → Calls Try.prog 34 #[.pointer a, .int .u64 k] w1 fun e w' => e = .returned (.int .i64 b) ∧ w1 = w')
    (hS : ∀ w1 B1 B2, Below w.heap.size w w1 → w1.cell? ⟨B1, 0, none⟩ = some (.pointer a) → w1.cell? ⟨B2, 0, none⟩ = some (.int .i64 b) → SSeq 3 B1 B2 w.heap.size r w1) :
    Calls Try.prog 35 #[.pointer a, .int .u64 k] w fun e w' => e = .returned (.int .i64 (fnd r k)) ∧ Below w.heap.size w w' := by
  have HB := Lib.hid hB
  have HT := Lib.hid hS
  clear hB hS
  refine (callsIn_wide (n := 4)).1 ?_
  refine callsIn_of_wp_marks Try.func35 rfl trivial ?_ rfl
  simp only [Try.ntmps35, List.size_toArray, List.length_cons, List.length_nil, Nat.reduceAdd, Nat.reduceSub, Array.replicate_succ, Array.replicate_zero, List.push_toArray, List.append_toArray, List.nil_append, List.cons_append]
  gi_wp2_with (first | (refine ⟨trivial, ?_⟩; gi_at_call 34; refine (callsIn_wide.2 (HB.out _ ?_)).mono ?_; go_grown; rintro e w' ⟨rfl, rfl⟩) | (refine ⟨trivial, ?_⟩; gi_at_call 42; refine (Splaces_in Fence.wide _ trivial rfl _ _ _).mono ?_; rintro e w' ⟨rfl, rfl⟩))
  refine wpIn_wide.2 (wp_scope_straight ((wpIn_wide (n := 4)).1 ?_))
  gi_wp2
  refine wpIn_label ?_
  gi_wp2_with (first | (refine ⟨trivial, ?_⟩; gi_at_call 34; refine (callsIn_wide.2 (HB.out _ ?_)).mono ?_; go_grown; rintro e w' ⟨rfl, rfl⟩) | (refine ⟨trivial, ?_⟩; gi_at_call 42; refine (Splaces_in Fence.wide _ trivial rfl _ _ _).mono ?_; rintro e w' ⟨rfl, rfl⟩))
  have bK := (((Boxed.new w 29 (.int .u64 k)).alloc (.cells #[.int .i64 (-1)] 3)).alloc (.cells #[.pointer a] 25)).alloc (.cells #[.int .i64 b] 3)
  have bA := ((Boxed.new (w.alloc (.cells #[.int .u64 k] 29)) 3 (.int .i64 (-1))).alloc (.cells #[.pointer a] 25)).alloc (.cells #[.int .i64 b] 3)
  have b1 := (Boxed.new ((w.alloc (.cells #[.int .u64 k] 29)).alloc (.cells #[.int .i64 (-1)] 3)) 25 (.pointer a)).alloc (.cells #[.int .i64 b] 3)
  have b2 := Boxed.new (((w.alloc (.cells #[.int .u64 k] 29)).alloc (.cells #[.int .i64 (-1)] 3)).alloc (.cells #[.pointer a] 25)) 3 (.int .i64 b)
  simp only [World.size_alloc] at bA b1 b2
  have hB0 : Below w.heap.size w ((((w.alloc (.cells #[.int .u64 k] 29)).alloc (.cells #[.int .i64 (-1)] 3)).alloc (.cells #[.pointer a] 25)).alloc (.cells #[.int .i64 b] 3)) := by go_grown
  have hsz : ((((w.alloc (.cells #[.int .u64 k] 29)).alloc (.cells #[.int .i64 (-1)] 3)).alloc (.cells #[.pointer a] 25)).alloc (.cells #[.int .i64 b] 3)).heap.size = w.heap.size + 4 := by simp
  obtain ⟨W0, hW0⟩ : ∃ W0, ((((w.alloc (.cells #[.int .u64 k] 29)).alloc (.cells #[.int .i64 (-1)] 3)).alloc (.cells #[.pointer a] 25)).alloc (.cells #[.int .i64 b] 3)) = W0 := ⟨_, rfl⟩
  rw [hW0] at bK bA b1 b2 hB0 hsz ⊢
  clear hW0
  have hseq := HT.out W0 (w.heap.size + 1 + 1) (w.heap.size + 1 + 1 + 1) hB0 b1.cell b2.cell
  clear b1 b2 HB HT
  refine wpIn_rangeFunc_ownH rfl (by omega) (gf := 45) (lb := #[.pointer (some ⟨w.heap.size + 1 + 1, 0, none⟩), .pointer (some ⟨w.heap.size + 1 + 1 + 1, 0, none⟩)]) rfl trivial (enters_of Try.func45 (by kernel_rfl) rfl)
    hseq belowK_t (belowK_b (by omega)) (Below.refl _ _) (fun _ => rfl)
    (fun pre W => ((Boxed W (w.heap.size + 1) 3 (.int .i64 (-1)) ∧ Boxed W w.heap.size 29 (.int .u64 k)) ∧ (∀ x ∈ pre, x.2.1 ≠ k)) ∧ Below w.heap.size w W)
    (fun c pre W => (c = .exit 0 ∧ ∃ ini x, pre = ini ++ [x] ∧ (∀ y ∈ ini, y.2.1 ≠ k) ∧ x.2.1 = k ∧ Boxed W (w.heap.size + 1) 3 (.int .i64 (x.1 : Int))) ∧ Below w.heap.size w W)
    (OwnFrom.and (OwnFrom.and (OwnFrom.and (Own.from (boxed_own _ _ _) _) (Own.from (boxed_own _ _ _) _)) (ownFrom_pure _ _)) (ownFrom_below (Nat.le_refl _) (by omega)))
    (fun c => OwnFrom.and (fun s A B row hs hg hr => by obtain ⟨hc, ini, x, e1, e2, e3, e4⟩ := hs; exact ⟨hc, ini, x, e1, e2, e3, boxed_own (w.heap.size + 1) 3 (fun (_ : Unit) => Value.int .i64 (x.1 : Int)) () A B row e4 hg (fun r e => (hr r e).2)⟩) (ownFrom_below (Nat.le_refl _) (by omega)))
    ⟨⟨⟨bA, bK⟩, by simp⟩, hB0⟩
    (fun x a' W => ∃ Bx, w.heap.size + 1 < Bx ∧ W.heap[Bx]? = some (.cells #[.int .u64 x.2.1, Value.string x.2.2] 75 (0, 0)) ∧ a' = { tmps := #[.pointer a, .int .u64 k, undef, .pointer (some ⟨w.heap.size, 0, none⟩), .int .i64 0, .pointer (some ⟨w.heap.size + 1, 0, none⟩), .int .i64 (x.1 : Int), .pointer (some ⟨Bx, 0, none⟩),
      .pointer a, .pointer a, .int .u64 k, .int .i64 b, .func (.func 45) #[] #[.pointer (some ⟨w.heap.size + 1 + 1, 0, none⟩), .pointer (some ⟨w.heap.size + 1 + 1 + 1, 0, none⟩)], .int .i64 (x.1 : Int), .agg #[.int .u64 x.2.1, Value.string x.2.2], undef, undef, undef, undef, undef, undef], defers := [] })
    (fun x a' _ X Y row hs hg hr => by obtain ⟨Bx, h1, h2, h3⟩ := hs; exact ⟨Bx, h1, block_own Bx (fun (_ : Unit) => #[.int .u64 x.2.1, Value.string x.2.2]) 75 (0, 0) () X Y row h2 hg (fun r e => (hr r e).2), h3⟩)
    ?assign ?body ?done ?stop
  case assign =>
    rintro l pre x W K ⟨⟨⟨bA1, bK1⟩, hp⟩, hB1⟩ hK
    unfold itemV
    gi_wp2
    exact hK _ _ ((KeepsOthers.alloc _ _).from _) ((Below.refl _ W).alloc hB1.size _) ⟨⟨⟨bA1.alloc _, bK1.alloc _⟩, hp⟩, hB1.alloc hB1.size _⟩ ⟨W.heap.size, bA1.lt, World.alloc_heap_new W _, rfl⟩
  case body =>
    rintro l pre x a' W hl _ ⟨⟨⟨bA1, bK1⟩, hp⟩, hB1⟩ ⟨Bx, hBx, bX, rfl⟩ hlt
    have cA := bA1.cell
    have fA := bA1.frozen
    have cK := bK1.cell
    have cX : W.cell? ⟨Bx, 0, none⟩ = some (.int .u64 x.2.1) := by simp [World.cell?, bX]
    have HX := Lib.hid bX
    clear bX
    by_cases hx : x.2.1 = k
    · have hd : (x.2.1 == k) = true := by rw [hx]; exact beq_self_eq_true k
      have HE := Lib.hid hx
      clear hx
      gi_wp2
      exact ⟨(KeepsOthers.setCell _ _ _).from _, ⟨rfl, pre, x, rfl, hp, HE.out, bA1.set _⟩, hB1.setCell (p := ⟨w.heap.size + 1, 0, none⟩) (by simp) _⟩
    · have hd : (x.2.1 == k) = false := beq_eq_false_iff_ne.2 hx
      gi_wp2
      exact ⟨KeepsFrom.refl _ _, Below.refl _ _, ⟨⟨bA1, bK1⟩, fun y hy => (List.mem_append.1 hy).elim (hp y) (fun e => by simp at e; subst e; exact hx)⟩, hB1⟩
  case done =>
    rintro D ys W hD rfl ⟨⟨⟨bA1, bK1⟩, hp⟩, hB1⟩ hK
    have cA := bA1.cell
    gi_wp2
    rw [Exit.noGoto_ret]
    refine ⟨by simp, .inl ⟨_, _, rfl, run_takeDeferred hK, ?_⟩⟩
    exact ⟨_, results_tmp rfl _ _ _, (by rw [fnd_none hp]; rfl), hB1.trans (belowK_b (w := w) (Nat.le_refl _) W D _ _ (by omega) hK rfl rfl)⟩
  case stop =>
    rintro D c pre W hD ⟨n', hn', rfl⟩ ⟨⟨rfl, ini, x, e1, e2, e3, bA1⟩, hB1⟩ hK
    have cA := bA1.cell
    gi_wp2
    rw [Exit.noGoto_ret]
    refine ⟨by simp, .inl ⟨_, _, rfl, run_takeDeferred hK, ?_⟩⟩
    exact ⟨_, results_tmp rfl _ _ _, (by rw [fnd_some e1 e2 e3]; rfl), hB1.trans (belowK_b (w := w) (Nat.le_refl _) W D _ _ (by omega) hK rfl rfl)⟩
theorem Sfind (T G nb room : Nat) (k : Int) (m : List (Int × ByteArray)) (ch : Nat → Value) (w : World) (h : Tab Value.string 73 75 76 w T G nb room m ch) :
    Calls Try.prog 35 #[.pointer (some ⟨T, 0, none⟩), .int .u64 k] w fun e w' => e = .returned (.int .i64 (fnd (chn m nb (bkt k nb)) k)) ∧ Below w.heap.size w w' :=
  SfindAny _ k _ _ w (fun w1 b => Sbucket T G nb room k m ch w1 (h.kept b)) (fun w1 B1 B2 b h1 h2 => Sseq_good 3 (by omega) T G nb room _ m ch w w1 h (bkt_lt k nb h.lo) b B1 B2 h1 h2)
theorem SfindNil (k : Int) (w : World) :
    Calls Try.prog 35 #[.pointer none, .int .u64 k] w fun e w' => e = .returned (.int .i64 (-1)) ∧ Below w.heap.size w w' :=
  SfindAny none k 0 [] w (fun w1 b => SbucketNil k w1) (fun w1 B1 B2 b h1 h2 => Sseq_nil 3 _ w1 B1 B2 h1)


end Go.Proofs.Ytkkaogdcodmpcaa
