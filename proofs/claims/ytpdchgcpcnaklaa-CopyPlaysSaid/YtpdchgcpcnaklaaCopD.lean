/- A copy: what is done at its end, each by a contract. -/
import Derived.Test.YtpdchgcpcnaklaaCopC
namespace Go.Proofs.Ytpdchgcpcnaklaa
open Go.RowKit Go.ChangeShapes Go.WideShapes
set_option linter.unusedVariables false

theorem grownBy_drew {a b : World} {r : Option Nat} (h : a.grownBy b r) : a.grownBy b.drew r := ⟨h.os, h.tape, h.output, h.size, h.block⟩
/-- a slice of zeros, new -/
theorem newBytes_made (w w' : World) (n : Nat) (h : w'.heap[w.heap.size]? = some (.cells (madeCells #[.int .u8 0] n) 5 (0, 0))) : NewBytes w (some ⟨w.heap.size, 0, none⟩) (List.replicate n 0) w' := by
  intro h0
  refine ⟨w.heap.size, 0, rfl, Nat.le_refl _, lt_of_block h, fun j hj => ?_⟩
  rw [madeCells_bytes] at h
  have hj' : j < n := by simpa using hj
  simp [World.cell?, h, bcells, hj', List.getD]
theorem IsCp.set5 {w : World} {C : Nat} {addr n page tries : Int} {out over waits : Bool} {a : Option Addr} {len cap : Nat} (h : IsCp w C addr n out over waits a len cap page tries) (a' : Option Addr) (len' cap' : Nat) : IsCp (w.setCell ⟨C, 5, none⟩ (.slice a' len' cap')) C addr n out over waits a' len' cap' page tries :=
  block_setCell h
theorem IsCp.kept {w w' : World} {C : Nat} {addr n page tries : Int} {out over waits : Bool} {a : Option Addr} {len cap : Nat} (h : IsCp w C addr n out over waits a len cap page tries) (b : Below w.heap.size w w') : IsCp w' C addr n out over waits a len cap page tries :=
  (b.block C (lt_of_block h)).trans h
theorem cpFail1Out (Bc C : Nat) (addr n page tries : Int) (over waits : Bool) (a : Option Addr) (len cap : Nat) (w : World) (hb : w.heap[Bc]? = some (.cells #[.pointer (some ⟨C, 0, none⟩)] 52 (0, 0))) (h : IsCp w C addr n true over waits a len cap page tries) :
    Calls Try.prog 49 #[.pointer (some ⟨Bc, 0, none⟩)] w fun e w' => e = .returned (.tuple #[]) ∧ w = w' := by
  have cb := cell_of_one hb
  have c2 := h.c2
  clear h hb
  go_enter Try.func49, Try.ntmps49
  go_wp2
  go_end0
  exact ⟨rfl, rfl⟩

theorem cpFail1 (Bc C : Nat) (addr page tries : Int) (n : Nat) (over waits : Bool) (a : Option Addr) (len cap : Nat) (w : World) (hb : w.heap[Bc]? = some (.cells #[.pointer (some ⟨C, 0, none⟩)] 52 (0, 0))) (h : IsCp w C addr n false over waits a len cap page tries) (hn : n ≤ 64) :
    Calls Try.prog 49 #[.pointer (some ⟨Bc, 0, none⟩)] w fun e w' => e = .returned (.tuple #[]) ∧ w.grownBy w' (some C) ∧ ∃ a' cap', IsCp w' C addr n false over waits a' n cap' page tries ∧ NewBytes w a' (List.replicate n 0) w' := by
  have cb := cell_of_one hb
  have c2 := h.c2
  have c1 := h.c1
  have f5 := h.fr 5
  have c5 := h.c5
  have BA := Lib.hid (below_alloc w (.cells (madeCells #[.int .u8 0] n) 5))
  have ab := (BA.out.cell (p := ⟨Bc, 0, none⟩) (lt_of_block hb)).trans cb
  have a1 := (BA.out.cell (p := ⟨C, 1, none⟩) (lt_of_block h)).trans c1
  have a5 := (BA.out.cell (p := ⟨C, 5, none⟩) (lt_of_block h)).trans c5
  have af := (BA.out.frozen (p := ⟨C, 5, none⟩) (lt_of_block h)).trans f5
  have HI := Lib.hid h
  have hmk := fun w => run_make_row' (P := Try.prog) 22 5 (.int .u8 0) 1 Try.underlying22 info5 rfl .i64 .i64 n (by omega) (by omega) w
  clear h hb
  go_enter Try.func49, Try.ntmps49
  go_wp2
  go_region
  all_goals
    go_wp2
    go_end0
    refine ⟨rfl, grownBy_drew (grownBy_trans (World.grownBy_alloc w _ _) (grownBy_set _ C 5 _)), _, _, (HI.out.kept BA.out).set5 _ _ _, newBytes_made w _ n ?_⟩
    have hC := lt_of_block HI.out
    exact (Below.heap_setCell _ ⟨C, 5, none⟩ _ w.heap.size (by simp; omega)).trans (heap_alloc_new w _)
end Go.Proofs.Ytpdchgcpcnaklaa
