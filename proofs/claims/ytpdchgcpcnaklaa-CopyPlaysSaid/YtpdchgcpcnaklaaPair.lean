/- A copy and the document's, with both memories: what calls and tries leave. -/
import Derived.Test.YtpdchgcpcnaklaaBoth
namespace Go.Proofs.Ytpdchgcpcnaklaa
open Go.RowKit Go.ChangeShapes Go.WideShapes
set_option linter.unusedVariables false

structure Pair (w : World) (M D C X R c : Nat) (bs ps : List Int) (out : Bool) (addr : Int) (m : Nat) (s : CS) (a : Option Addr) (cap : Nat) : Prop where
  twin : Twin w M D R c bs ps
  cpy : Cpy w M D C addr m out s
  rc : IsRc w X out addr m s.over s.waits s.page s.tries a s.xs.length cap
  h4 : Holds4 w a s.xs M D C X
  hx : out = true → s.xs.length = m
  hl : s.xs.length ≤ 64
  hb : ∀ x ∈ s.xs, 0 ≤ x ∧ x ≤ 255
theorem IsRc.no8 {w : World} {X o : Nat} {out over waits : Bool} {addr n page tries v : Int} {a : Option Addr} {len cap : Nat} (h : IsRc w X out addr n over waits page tries a len cap) : w.cell? ⟨X, o, none⟩ ≠ some (.int .u8 v) := by
  unfold IsRc at h
  simp only [World.cell?, h]
  match o with
  | 0 => simp
  | 1 => simp
  | 2 => simp
  | 3 => simp
  | 4 => simp
  | 5 => simp
  | 6 => simp
  | 7 => simp
  | o + 8 => simp
theorem IsCp.no8 {w : World} {X o : Nat} {out over waits : Bool} {addr n page tries v : Int} {a : Option Addr} {len cap : Nat} (h : IsCp w X addr n out over waits a len cap page tries) : w.cell? ⟨X, o, none⟩ ≠ some (.int .u8 v) := by
  unfold IsCp at h
  simp only [World.cell?, h]
  match o with
  | 0 => simp
  | 1 => simp
  | 2 => simp
  | 3 => simp
  | 4 => simp
  | 5 => simp
  | 6 => simp
  | 7 => simp
  | o + 8 => simp
/-- behind a call on both memories -/
theorem Pair.done {w w' : World} {M D C X R c R' c' m cap : Nat} {bs ps bs' ps' : List Int} {out : Bool} {addr : Int} {s : CS} {a : Option Addr} (h : Pair w M D C X R c bs ps out addr m s a cap) (t : Twin w' M D R' c' bs' ps') (b : Apart M D w w') : Pair w' M D C X R' c' bs' ps' out addr m s a cap := by
  have hX := h.rc.neM h.twin.mem
  exact ⟨t, h.cpy.apart b, (b.block X (lt_of_block h.rc) hX.1 hX.2).trans h.rc, h.h4.apart3 (.of2 b), h.hx, h.hl, h.hb⟩
theorem Pair.kept {w w' : World} {M D C X R c m cap : Nat} {bs ps : List Int} {out : Bool} {addr : Int} {s : CS} {a : Option Addr} (h : Pair w M D C X R c bs ps out addr m s a cap) (b : Below w.heap.size w w') : Pair w' M D C X R c bs ps out addr m s a cap := h.done (h.twin.kept b) (.of b)
/-- between the document's try and the program's -/
theorem Pair.mid {w w1 w2 : World} {M D C X R c m cap : Nat} {bs ps : List Int} {out : Bool} {addr : Int} {s : CS} {a : Option Addr} (h : Pair w M D C X R c bs ps out addr m s a cap) (b : Below w.heap.size w w1) (g : w1.grownBy w2 (some X)) : Cpy w2 M D C addr m out s ∧ IsMem w2 M D bs ps := by
  have hX := h.rc.neM h.twin.mem
  obtain ⟨a0, cap0, hi, hx⟩ := h.cpy.is
  have hXC := h.rc.ne hi
  have two : ∀ k, k < w.heap.size → k ≠ X → w2.heap[k]? = w.heap[k]? := fun k hk hn => (g.block k (Nat.lt_of_lt_of_le hk b.size) (fun e => hn (Option.some.inj e))).trans (b.block k hk)
  refine ⟨⟨⟨a0, cap0, (two C (lt_of_block hi) (Ne.symm hXC)).trans hi, fun h0 => ?_⟩, h.cpy.nM, h.cpy.nD⟩, h.twin.mem.ofBlocks (two M h.twin.mem.ltM (Ne.symm hX.1)) (two D h.twin.mem.ltD (Ne.symm hX.2))⟩
  obtain ⟨B, off, e, hlt, n1, n2, n3, hc⟩ := hx h0
  have hBX : B ≠ X := by rintro rfl; exact h.rc.no8 (hc 0 h0)
  exact ⟨B, off, e, Nat.lt_of_lt_of_le hlt (Nat.le_trans b.size g.size), n1, n2, n3, fun j hj => (World.cell?_of_block (w := w) (two B hlt hBX)).trans (hc j hj)⟩
/-- behind both tries -/
theorem Pair.tried {w w1 w2 w3 : World} {M D C X R c R' c' m cap cap' : Nat} {bs ps : List Int} {out wait : Bool} {addr : Int} {s : CS} {a a' : Option Addr} {t : List Int × CS × Int} (h : Pair w M D C X R c bs ps out addr m s a cap) (hm : m ≤ 64) (ht : t = tryS bs ps addr m out wait s) (b : Below w.heap.size w w1)
    (r : RefAt w1 R' c' bs.length (fun j => t.1.getD j 0) (fun j => ps.getD (j / 16) 0)) (hn : HoldsN w a s.xs w1 a' t.2.1.xs) (g : w1.grownBy w2 (some X)) (rc : IsRc w2 X out addr m t.2.1.over t.2.1.waits t.2.1.page t.2.1.tries a' t.2.1.xs.length cap')
    (q : Apart3 M D C w2 w3) (i : IsMem w3 M D t.1 ps) (k : Cpy w3 M D C addr m out t.2.1) : Pair w3 M D C X R' c' t.1 ps out addr m t.2.1 a' cap' := by
  have hp := tryS_props (bs := bs) (ps := ps) (addr := addr) (m := m) (out := out) (wait := wait) (s := s) h.twin.fine hm h.hx h.hl h.hb
  rw [← ht] at hp
  obtain ⟨hp1, hp2, hp3, hp4, hp5, _, _⟩ := hp
  have hmid := h.mid b g
  obtain ⟨a2, cap2, hi2, _⟩ := hmid.1.is
  have hX := rc.neM hmid.2
  have hXC := rc.ne hi2
  have rX : R' ≠ X := r.ne ((b.block X (lt_of_block h.rc)).trans h.rc) (by decide)
  have r2 := r.other g rX
  have rM : R' ≠ M := r2.ne hmid.2.mem (by decide)
  have rD : R' ≠ D := r2.ne hmid.2.dat (by decide)
  have rC : R' ≠ C := r2.ne hi2 (by decide)
  have r3 := r2.apart3 q rM rD rC
  refine ⟨⟨i, hp2, by rw [hp1]; exact r3, rM, rD⟩, k, (q.block X (lt_of_block rc) hX.1 hX.2 hXC).trans rc, ?_, hp3, hp4, hp5⟩
  refine Holds4.apart3 (w := w2) (fun h0 => ?_) q
  obtain ⟨B, off, e, hlt, hor, hc⟩ := hn h0
  have hBX : B ≠ X := by
    rintro rfl
    have h1 : IsRc w1 B out addr m s.over s.waits s.page s.tries a s.xs.length cap := (b.block B (lt_of_block h.rc)).trans h.rc
    exact h1.no8 (hc 0 h0)
  have hc2 : ∀ j, j < t.2.1.xs.length → w2.cell? ⟨B, off + j, none⟩ = some (.int .u8 (t.2.1.xs.getD j 0)) := fun j hj => (World.cell?_of_block (w := w1) (g.block B hlt (fun e => hBX (Option.some.inj e)))).trans (hc j hj)
  have hlt2 := Nat.lt_of_lt_of_le hlt g.size
  rcases hor with ⟨ha, hxs⟩ | hge
  · obtain ⟨B2, o2, e2, _, n1, n2, n3, n4, _⟩ := h.h4 (by rw [← hxs]; exact h0)
    rw [ha] at e2
    simp only [Option.some.injEq, Addr.mk.injEq, and_true] at e2
    obtain ⟨rfl, rfl⟩ := e2
    exact ⟨B, off, e, hlt2, n1, n2, n3, n4, hc2⟩
  · have h1 := h.twin.mem.ltM
    have h2 := h.twin.mem.ltD
    have h3 := h.cpy.lt
    exact ⟨B, off, e, hlt2, by omega, by omega, by omega, hBX, hc2⟩
end Go.Proofs.Ytpdchgcpcnaklaa
