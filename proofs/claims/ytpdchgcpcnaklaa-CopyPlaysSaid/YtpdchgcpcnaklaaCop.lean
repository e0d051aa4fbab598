/- A copy: what it is in memory, and its small methods, each by a contract. -/
import Derived.Test.YtpdchgcpcnaklaaActs
import Derived.Deep.RegionHeld3
import Derived.Deep.DrawnRows
namespace Go.Proofs.Ytpdchgcpcnaklaa
open Go.RowKit Go.ChangeShapes Go.WideShapes
set_option linter.unusedVariables false

/-- block C is a copy -/
def IsCp (w : World) (C : Nat) (addr n : Int) (out over waits : Bool) (a : Option Addr) (len cap : Nat) (page tries : Int) : Prop :=
  w.heap[C]? = some (.cells #[.int .i64 addr, .int .i64 n, .bool out, .bool over, .bool waits, .slice a len cap, .int .i64 page, .int .i64 tries] 88 (0, 0))
/-- what of a copy may change -/
structure CS where
  over : Bool
  waits : Bool
  page : Int
  tries : Int
  xs : List Int
/-- what a slice holds, at places of old that lie apart of three blocks -/
def HoldsX (w : World) (a : Option Addr) (xs : List Int) (M D C : Nat) : Prop := 0 < xs.length → ∃ b off, a = some ⟨b, off, none⟩ ∧ b < w.heap.size ∧ b ≠ M ∧ b ≠ D ∧ b ≠ C ∧ ∀ j, j < xs.length → w.cell? ⟨b, off + j, none⟩ = some (.int .u8 (xs.getD j 0))
theorem HoldsX.holds {w : World} {a : Option Addr} {xs : List Int} {M D C : Nat} (h : HoldsX w a xs M D C) : Holds w a xs := fun h0 => by
  obtain ⟨b, off, e, hlt, _, _, _, hc⟩ := h h0
  exact ⟨b, off, e, hlt, hc⟩
structure Cpy (w : World) (M D C : Nat) (addr n : Int) (out : Bool) (s : CS) : Prop where
  is : ∃ a cap, IsCp w C addr n out s.over s.waits a s.xs.length cap s.page s.tries ∧ HoldsX w a s.xs M D C
  nM : C ≠ M
  nD : C ≠ D
/-- new blocks, and writes to three blocks alone -/
structure Apart3 (M D C : Nat) (w w' : World) : Prop where
  os : w'.os = w.os
  tape : w'.tape = w.tape
  output : w'.output = w.output
  size : w.heap.size ≤ w'.heap.size
  block : ∀ k, k < w.heap.size → k ≠ M → k ≠ D → k ≠ C → w'.heap[k]? = w.heap[k]?
theorem Apart3.refl (M D C : Nat) (w : World) : Apart3 M D C w w := ⟨rfl, rfl, rfl, Nat.le_refl _, fun _ _ _ _ _ => rfl⟩
theorem Apart3.trans {M D C : Nat} {a b c : World} (h : Apart3 M D C a b) (k : Apart3 M D C b c) : Apart3 M D C a c :=
  ⟨k.os.trans h.os, k.tape.trans h.tape, k.output.trans h.output, Nat.le_trans h.size k.size, fun i hi h1 h2 h3 => (k.block i (Nat.lt_of_lt_of_le hi h.size) h1 h2 h3).trans (h.block i hi h1 h2 h3)⟩
theorem Apart3.of {M D C : Nat} {w w' : World} (h : Below w.heap.size w w') : Apart3 M D C w w' := ⟨h.os, h.tape, h.output, h.size, fun k hk _ _ _ => h.block k hk⟩
theorem Apart3.of2 {M D C : Nat} {w w' : World} (h : Apart M D w w') : Apart3 M D C w w' := ⟨h.os, h.tape, h.output, h.size, fun k hk h1 h2 _ => h.block k hk h1 h2⟩
theorem Apart3.grownM {M D C : Nat} {w w' : World} (h : w.grownBy w' (some M)) : Apart3 M D C w w' := .of2 (.grownM h)
theorem Apart3.grownD {M D C : Nat} {w w' : World} (h : w.grownBy w' (some D)) : Apart3 M D C w w' := .of2 (.grownD h)
theorem Apart3.grownC {M D C : Nat} {w w' : World} (h : w.grownBy w' (some C)) : Apart3 M D C w w' := ⟨h.os, h.tape, h.output, h.size, fun k hk _ _ h3 => h.block k hk (fun e => h3 (Option.some.inj e))⟩
theorem Apart3.below {M D C B : Nat} {w w' : World} (h : Apart3 M D C w w') (h1 : B ≤ M) (h2 : B ≤ D) (h4 : B ≤ C) (h3 : B ≤ w.heap.size) : Below B w w' :=
  ⟨h.os, h.tape, h.output, h.size, fun k hk => h.block k (by omega) (by omega) (by omega) (by omega)⟩
theorem HoldsX.apart {w w' : World} {a : Option Addr} {xs : List Int} {M D C : Nat} (h : HoldsX w a xs M D C) (b : Apart3 M D C w w') : HoldsX w' a xs M D C := by
  intro h0
  obtain ⟨B, off, e, hlt, n1, n2, n3, hc⟩ := h h0
  exact ⟨B, off, e, Nat.lt_of_lt_of_le hlt b.size, n1, n2, n3, fun j hj => (World.cell?_of_block (w := w) (b.block B hlt n1 n2 n3)).trans (hc j hj)⟩
theorem Cpy.lt {w : World} {M D C : Nat} {addr n : Int} {out : Bool} {s : CS} (h : Cpy w M D C addr n out s) : C < w.heap.size := by
  obtain ⟨a, cap, h1, _⟩ := h.is
  exact lt_of_block h1
/-- the copy stands, where its block does -/
theorem Cpy.apart {w w' : World} {M D C : Nat} {addr n : Int} {out : Bool} {s : CS} (h : Cpy w M D C addr n out s) (b : Apart M D w w') : Cpy w' M D C addr n out s := by
  obtain ⟨a, cap, h1, h2⟩ := h.is
  exact ⟨⟨a, cap, (b.block C (lt_of_block h1) h.nM h.nD).trans h1, h2.apart (.of2 b)⟩, h.nM, h.nD⟩
theorem IsCp.c0 {w : World} {C : Nat} {addr n page tries : Int} {out over waits : Bool} {a : Option Addr} {len cap : Nat} (h : IsCp w C addr n out over waits a len cap page tries) : w.cell? ⟨C, 0, none⟩ = some (.int .i64 addr) := by unfold IsCp at h; simp [World.cell?, h]
theorem IsCp.c1 {w : World} {C : Nat} {addr n page tries : Int} {out over waits : Bool} {a : Option Addr} {len cap : Nat} (h : IsCp w C addr n out over waits a len cap page tries) : w.cell? ⟨C, 1, none⟩ = some (.int .i64 n) := by unfold IsCp at h; simp [World.cell?, h]
theorem IsCp.c2 {w : World} {C : Nat} {addr n page tries : Int} {out over waits : Bool} {a : Option Addr} {len cap : Nat} (h : IsCp w C addr n out over waits a len cap page tries) : w.cell? ⟨C, 2, none⟩ = some (.bool out) := by unfold IsCp at h; simp [World.cell?, h]
theorem IsCp.c3 {w : World} {C : Nat} {addr n page tries : Int} {out over waits : Bool} {a : Option Addr} {len cap : Nat} (h : IsCp w C addr n out over waits a len cap page tries) : w.cell? ⟨C, 3, none⟩ = some (.bool over) := by unfold IsCp at h; simp [World.cell?, h]
theorem IsCp.c4 {w : World} {C : Nat} {addr n page tries : Int} {out over waits : Bool} {a : Option Addr} {len cap : Nat} (h : IsCp w C addr n out over waits a len cap page tries) : w.cell? ⟨C, 4, none⟩ = some (.bool waits) := by unfold IsCp at h; simp [World.cell?, h]
theorem IsCp.c5 {w : World} {C : Nat} {addr n page tries : Int} {out over waits : Bool} {a : Option Addr} {len cap : Nat} (h : IsCp w C addr n out over waits a len cap page tries) : w.cell? ⟨C, 5, none⟩ = some (.slice a len cap) := by unfold IsCp at h; simp [World.cell?, h]
theorem IsCp.c6 {w : World} {C : Nat} {addr n page tries : Int} {out over waits : Bool} {a : Option Addr} {len cap : Nat} (h : IsCp w C addr n out over waits a len cap page tries) : w.cell? ⟨C, 6, none⟩ = some (.int .i64 page) := by unfold IsCp at h; simp [World.cell?, h]
theorem IsCp.c7 {w : World} {C : Nat} {addr n page tries : Int} {out over waits : Bool} {a : Option Addr} {len cap : Nat} (h : IsCp w C addr n out over waits a len cap page tries) : w.cell? ⟨C, 7, none⟩ = some (.int .i64 tries) := by unfold IsCp at h; simp [World.cell?, h]
theorem IsCp.fr {w : World} {C : Nat} {addr n page tries : Int} {out over waits : Bool} {a : Option Addr} {len cap : Nat} (h : IsCp w C addr n out over waits a len cap page tries) (j : Nat) : w.frozen? ⟨C, j, none⟩ = false := by unfold IsCp at h; simp [World.frozen?, h]

theorem cpTries (M D C : Nat) (addr n : Int) (out : Bool) (s : CS) (w : World) (h : Cpy w M D C addr n out s) : Calls Try.prog 32 #[.pointer (some ⟨C, 0, none⟩)] w fun e w' => e = .returned (.int .i64 s.tries) ∧ w = w' := by
  obtain ⟨a, cap, h1, _⟩ := h.is
  have c7 := h1.c7
  clear h1 h
  go_enter Try.func32, Try.ntmps32
  go_wp2
  go_ret
  exact ⟨rfl, rfl⟩
theorem cpOver (M D C : Nat) (addr n : Int) (out : Bool) (s : CS) (w : World) (h : Cpy w M D C addr n out s) : Calls Try.prog 33 #[.pointer (some ⟨C, 0, none⟩)] w fun e w' => e = .returned (.bool s.over) ∧ w = w' := by
  obtain ⟨a, cap, h1, _⟩ := h.is
  have c3 := h1.c3
  clear h1 h
  go_enter Try.func33, Try.ntmps33
  go_wp2
  go_ret
  exact ⟨rfl, rfl⟩
theorem cpPage (M D C : Nat) (addr n : Int) (out : Bool) (s : CS) (w : World) (h : Cpy w M D C addr n out s) : Calls Try.prog 29 #[.pointer (some ⟨C, 0, none⟩)] w fun e w' => e = .returned (.tuple #[.int .i64 s.page, .bool s.waits]) ∧ Below w.heap.size w w' := by
  obtain ⟨a, cap, h1, _⟩ := h.is
  have c6 := h1.c6
  have c4 := h1.c4
  clear h1 h
  go_enter Try.func29, Try.ntmps29
  go_wp2
  go_region
  all_goals
    go_wp2
    go_ret2
    exact ⟨rfl, (Below.refl _ _).drew⟩
end Go.Proofs.Ytpdchgcpcnaklaa
