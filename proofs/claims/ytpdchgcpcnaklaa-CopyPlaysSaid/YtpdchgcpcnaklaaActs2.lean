/- A list of tries and calls that came in. -/
import Derived.Test.YtpdchgcpcnaklaaActs
namespace Go.Proofs.Ytpdchgcpcnaklaa
open Go.RowKit Go.ChangeShapes Go.WideShapes Go.Deep
set_option linter.unusedVariables false

structure AE where
  tr : Bool
  wt : Bool
  d : AD
instance : Inhabited AE := ⟨⟨false, false, default⟩⟩
structure AE.At (x : AE) (w : World) (b o : Nat) : Prop where
  t0 : w.cell? ⟨b, o, none⟩ = some (.bool x.tr)
  t1 : w.cell? ⟨b, o + 1, none⟩ = some (.bool x.wt)
  c0 : w.cell? ⟨b, o + 2, none⟩ = some (.int .i64 x.d.kd)
  c1 : w.cell? ⟨b, o + 3, none⟩ = some (.int .i64 x.d.pg)
  c2 : w.cell? ⟨b, o + 4, none⟩ = some (.int .i64 x.d.ad)
  c3 : w.cell? ⟨b, o + 5, none⟩ = some (.int .i64 x.d.q)
  c4 : w.cell? ⟨b, o + 6, none⟩ = some (.slice x.d.a x.d.len x.d.cap)
/-- a list of tries and calls at places of old -/
structure TriesAt (w : World) (a : Option Addr) (len : Nat) (x : Nat → AE) : Prop where
  ok : ∀ i, i < len → (x i).d.Ok w
  cells : 0 < len → ∃ b off, a = some ⟨b, off, none⟩ ∧ b < w.heap.size ∧ ∀ i, i < len → (x i).At w b (off + i * 7)
theorem TriesAt.below {w w' : World} {a : Option Addr} {len : Nat} {x : Nat → AE} (h : TriesAt w a len x) (b : Below w.heap.size w w') : TriesAt w' a len x := by
  refine ⟨fun i hi => (h.ok i hi).below b, fun h0 => ?_⟩
  obtain ⟨B, off, e, hlt, hc⟩ := h.cells h0
  refine ⟨B, off, e, Nat.lt_of_lt_of_le hlt b.size, fun i hi => ?_⟩
  have c := hc i hi
  exact ⟨(b.cell (p := ⟨B, _, none⟩) hlt).trans c.t0, (b.cell (p := ⟨B, _, none⟩) hlt).trans c.t1, (b.cell (p := ⟨B, _, none⟩) hlt).trans c.c0, (b.cell (p := ⟨B, _, none⟩) hlt).trans c.c1, (b.cell (p := ⟨B, _, none⟩) hlt).trans c.c2, (b.cell (p := ⟨B, _, none⟩) hlt).trans c.c3, (b.cell (p := ⟨B, _, none⟩) hlt).trans c.c4⟩
def Tries (w : World) (v : Value) : Prop := ∃ a len cap x, v = .slice a len cap ∧ len ≤ cap ∧ len ≤ 9223372036854775807 ∧ TriesAt w a len x

theorem tries_view {H : Type} {enc : TypeId × Value → H} {W : World} {base : Nat} {v : Value} {d : DataW H} {ps : List MemPlace}
    (hv : Value.okWide Try.prog W .any base 63 v) (h : DataW.Trod enc Try.prog W 0 (fun _ => true) true 63 v d ps) : Tries W v := by
  obtain ⟨a, len, cap, rfl⟩ := okWide_slice Try.underlying63 hv
  obtain ⟨fuel, hf⟩ := h
  have h67 : Try.prog.cellsOf 67 = 7 := by kernel_rfl
  have h40 : Try.prog.cellsOf 40 = 5 := by kernel_rfl
  have h4 : Try.prog.cellsOf 4 = 1 := by kernel_rfl
  have h3 : Try.prog.cellsOf 3 = 1 := by kernel_rfl
  have h22 : Try.prog.cellsOf 22 = 1 := by kernel_rfl
  rcases open_slice Try.underlying63 hf with ⟨hcs, _⟩ | ⟨x, l, c, m, n, D, Pl, hcs, _, hl, hm, hmm, _, hx⟩
  · simp [Value.cells] at hcs
    obtain ⟨rfl, rfl, rfl⟩ := hcs
    exact ⟨none, 0, 0, fun _ => default, rfl, by omega, by omega, fun i hi => by omega, fun h => by omega⟩
  · simp [Value.cells] at hcs
    obtain ⟨rfl, rfl, rfl⟩ := hcs
    have hb : ∀ i, i < len → ∃ y : AE, y.d.Ok W ∧ W.cell? (x.add (i * 7)) = some (.bool y.tr) ∧ W.cell? (x.add (i * 7 + 1)) = some (.bool y.wt) ∧ W.cell? (x.add (i * 7 + 2)) = some (.int .i64 y.d.kd) ∧ W.cell? (x.add (i * 7 + 3)) = some (.int .i64 y.d.pg) ∧ W.cell? (x.add (i * 7 + 4)) = some (.int .i64 y.d.ad) ∧ W.cell? (x.add (i * 7 + 5)) = some (.int .i64 y.d.q) ∧ W.cell? (x.add (i * 7 + 6)) = some (.slice y.d.a y.d.len y.d.cap) := by
      intro i hi
      obtain ⟨cs', hc, ht⟩ := hx i (by simp at hmm; omega)
      rw [h67] at hc
      obtain ⟨_, hcl, hat⟩ := World.cells?_some hc
      match cs', hcl with
      | [v0, v1, v2, v3, v4, v5, v6], _ =>
        obtain ⟨ys, n1, _, _, _, hyl, hf1⟩ := DataW.trod_struct Try.underlying67 ht
        have hyl : ys.length = 3 := hyl
        have e0 : DataW.trod enc Try.prog W 0 (fun _ => true) true n1 4 (List.take (Try.prog.cellsOf 4) (List.drop 0 [v0, v1, v2, v3, v4, v5, v6])) = some (ys[0]'(by omega)) := (hf1 0 _ rfl).trans (List.getElem?_eq_getElem (by omega))
        have e1 : DataW.trod enc Try.prog W 0 (fun _ => true) true n1 4 (List.take (Try.prog.cellsOf 4) (List.drop 1 [v0, v1, v2, v3, v4, v5, v6])) = some (ys[1]'(by omega)) := (hf1 1 _ rfl).trans (List.getElem?_eq_getElem (by omega))
        have e2 : DataW.trod enc Try.prog W 0 (fun _ => true) true n1 40 (List.take (Try.prog.cellsOf 40) (List.drop 2 [v0, v1, v2, v3, v4, v5, v6])) = some (ys[2]'(by omega)) := (hf1 2 _ rfl).trans (List.getElem?_eq_getElem (by omega))
        rw [h4] at e0 e1
        rw [h40] at e2
        obtain ⟨b0, g0, _⟩ := DataW.trod_bool Try.underlying4 e0
        obtain ⟨b1, g1, _⟩ := DataW.trod_bool Try.underlying4 e1
        simp only [List.drop_zero, List.take_succ_cons, List.take_zero, List.drop_succ_cons, List.cons.injEq, and_true] at g0 g1
        obtain ⟨zs, n2, _, _, _, hzl, hf2⟩ := DataW.trod_struct Try.underlying40 e2
        have hzl : zs.length = 5 := hzl
        have k0 : DataW.trod enc Try.prog W 0 (fun _ => true) true n2 3 (List.take (Try.prog.cellsOf 3) (List.drop 0 [v2, v3, v4, v5, v6])) = some (zs[0]'(by omega)) := (hf2 0 _ rfl).trans (List.getElem?_eq_getElem (by omega))
        have k1 : DataW.trod enc Try.prog W 0 (fun _ => true) true n2 3 (List.take (Try.prog.cellsOf 3) (List.drop 1 [v2, v3, v4, v5, v6])) = some (zs[1]'(by omega)) := (hf2 1 _ rfl).trans (List.getElem?_eq_getElem (by omega))
        have k2 : DataW.trod enc Try.prog W 0 (fun _ => true) true n2 3 (List.take (Try.prog.cellsOf 3) (List.drop 2 [v2, v3, v4, v5, v6])) = some (zs[2]'(by omega)) := (hf2 2 _ rfl).trans (List.getElem?_eq_getElem (by omega))
        have k3 : DataW.trod enc Try.prog W 0 (fun _ => true) true n2 3 (List.take (Try.prog.cellsOf 3) (List.drop 3 [v2, v3, v4, v5, v6])) = some (zs[3]'(by omega)) := (hf2 3 _ rfl).trans (List.getElem?_eq_getElem (by omega))
        have k4 : DataW.trod enc Try.prog W 0 (fun _ => true) true n2 22 (List.take (Try.prog.cellsOf 22) (List.drop 4 [v2, v3, v4, v5, v6])) = some (zs[4]'(by omega)) := (hf2 4 _ rfl).trans (List.getElem?_eq_getElem (by omega))
        rw [h3] at k0 k1 k2 k3
        rw [h22] at k4
        obtain ⟨j0, l0, _, _⟩ := DataW.trod_int Try.underlying3 k0
        obtain ⟨j1, l1, _, _⟩ := DataW.trod_int Try.underlying3 k1
        obtain ⟨j2, l2, _, _⟩ := DataW.trod_int Try.underlying3 k2
        obtain ⟨j3, l3, _, _⟩ := DataW.trod_int Try.underlying3 k3
        simp only [List.drop_zero, List.take_succ_cons, List.take_zero, List.drop_succ_cons, List.cons.injEq, and_true] at l0 l1 l2 l3 k4
        obtain ⟨a4, n4, c4, xs, rfl, h1, h2, h3', h4', h5⟩ := bytes_view1 Try.underlying22 Try.underlying5 (by kernel_rfl) k4
        subst g0 g1 l0 l1 l2 l3
        have q := fun j (hj : j < 7) => hat j hj
        refine ⟨⟨b0, b1, ⟨j0, j1, j2, j3, a4, n4, c4, xs⟩⟩, ⟨h1, h2, h3', h4', h5⟩, ?_, ?_, ?_, ?_, ?_, ?_, ?_⟩
        · have := q 0 (by omega); rw [Go.Deep.add_add] at this; exact this
        · have := q 1 (by omega); rw [Go.Deep.add_add] at this; exact this
        · have := q 2 (by omega); rw [Go.Deep.add_add] at this; exact this
        · have := q 3 (by omega); rw [Go.Deep.add_add] at this; exact this
        · have := q 4 (by omega); rw [Go.Deep.add_add] at this; exact this
        · have := q 5 (by omega); rw [Go.Deep.add_add] at this; exact this
        · have := q 6 (by omega); rw [Go.Deep.add_add] at this; exact this
    obtain ⟨y, hy⟩ := Deep.choose_lt hb
    refine ⟨some x, len, cap, y, rfl, hl, by unfold maxLen at hm; omega, fun i hi => (hy i hi).1, fun h0 => ?_⟩
    obtain ⟨b, off, spot⟩ := x
    have hc0 := (hy 0 h0).2.1
    have hspot : spot = none := by simpa [Addr.add] using World.cell?_spot hc0
    subst hspot
    refine ⟨b, off, rfl, ?_, fun j hj => ?_⟩
    · have := World.block_lt_of_cell? W _ hc0
      simpa [Addr.add] using this
    · obtain ⟨_, g0, g1, g2, g3, g4, g5, g6⟩ := hy j hj
      rw [add_is] at g0 g1 g2 g3 g4 g5 g6
      exact ⟨g0, g1, g2, g3, g4, g5, g6⟩
end Go.Proofs.Ytpdchgcpcnaklaa
