/- Buckets: a list of calls that came in; each call on the program's table and on the document's. -/
import Derived.Test.YtkkaogdcodmpcaaLawNil
import Derived.OpenShut
import Derived.ShutString
import Derived.ChangeOld
import Derived.Deep.Slices
namespace Go.Proofs.Ytkkaogdcodmpcaa
open Go.RowKit Go.ChangeShapes Go.WideShapes Go.Deep
set_option linter.unusedVariables false

structure BA where
  kd : Int
  k : Int
  v : Int
instance : Inhabited BA := ⟨⟨0, 0, 0⟩⟩
/-- a list of calls at places of old -/
def ActsAt (w : World) (a : Option Addr) (len : Nat) (x : Nat → BA) : Prop := 0 < len → ∃ b off, a = some ⟨b, off, none⟩ ∧ b < w.heap.size ∧ ∀ i, i < len → w.cell? ⟨b, off + i * 3, none⟩ = some (.int .i64 (x i).kd) ∧ w.cell? ⟨b, off + i * 3 + 1, none⟩ = some (.int .u64 (x i).k) ∧ w.cell? ⟨b, off + i * 3 + 2, none⟩ = some (.int .i64 (x i).v)
def Acts (w : World) (v : Value) : Prop := ∃ a len cap x, v = .slice a len cap ∧ len ≤ 9223372036854775807 ∧ ActsAt w a len x
theorem add_is (b o i : Nat) : (⟨b, o, none⟩ : Addr).add i = ⟨b, o + i, none⟩ := by unfold Addr.add; split <;> simp_all
theorem acts_view {H : Type} {enc : TypeId × Value → H} {W : World} {base : Nat} {v : Value} {d : DataW H} {ps : List MemPlace}
    (hv : Value.okWide Try.prog W .any base 37 v) (h : DataW.Trod enc Try.prog W 0 (fun _ => true) true 37 v d ps) : Acts W v := by
  obtain ⟨a, len, cap, rfl⟩ := okWide_slice Try.underlying37 hv
  obtain ⟨fuel, hf⟩ := h
  have h43 : Try.prog.cellsOf 43 = 3 := by kernel_rfl
  have h3 : Try.prog.cellsOf 3 = 1 := by kernel_rfl
  have h29 : Try.prog.cellsOf 29 = 1 := by kernel_rfl
  rcases open_slice Try.underlying37 hf with ⟨hcs, _⟩ | ⟨x, l, c, m, n, D, Pl, hcs, _, hl, hm, hmm, _, hx⟩
  · simp [Value.cells] at hcs
    obtain ⟨rfl, rfl, rfl⟩ := hcs
    exact ⟨none, 0, 0, fun _ => default, rfl, by omega, fun h => by omega⟩
  · simp [Value.cells] at hcs
    obtain ⟨rfl, rfl, rfl⟩ := hcs
    have hb : ∀ i, i < len → ∃ y : BA, W.cell? (x.add (i * 3)) = some (.int .i64 y.kd) ∧ W.cell? (x.add (i * 3 + 1)) = some (.int .u64 y.k) ∧ W.cell? (x.add (i * 3 + 2)) = some (.int .i64 y.v) := by
      intro i hi
      obtain ⟨cs', hc, ht⟩ := hx i (by simp at hmm; omega)
      rw [h43] at hc
      obtain ⟨_, hcl, hat⟩ := World.cells?_some hc
      match cs', hcl with
      | [v0, v1, v2], _ =>
        obtain ⟨ys, n1, _, _, _, hyl, hf1⟩ := DataW.trod_struct Try.underlying43 ht
        have hyl : ys.length = 3 := hyl
        have e0 : DataW.trod enc Try.prog W 0 (fun _ => true) true n1 3 (List.take (Try.prog.cellsOf 3) (List.drop 0 [v0, v1, v2])) = some (ys[0]'(by omega)) := (hf1 0 _ rfl).trans (List.getElem?_eq_getElem (by omega))
        have e1 : DataW.trod enc Try.prog W 0 (fun _ => true) true n1 29 (List.take (Try.prog.cellsOf 29) (List.drop 1 [v0, v1, v2])) = some (ys[1]'(by omega)) := (hf1 1 _ rfl).trans (List.getElem?_eq_getElem (by omega))
        have e2 : DataW.trod enc Try.prog W 0 (fun _ => true) true n1 3 (List.take (Try.prog.cellsOf 3) (List.drop 2 [v0, v1, v2])) = some (ys[2]'(by omega)) := (hf1 2 _ rfl).trans (List.getElem?_eq_getElem (by omega))
        rw [h3] at e0 e2
        rw [h29] at e1
        obtain ⟨j0, l0, _, _⟩ := DataW.trod_int Try.underlying3 e0
        obtain ⟨j1, l1, _, _⟩ := DataW.trod_int Try.underlying29 e1
        obtain ⟨j2, l2, _, _⟩ := DataW.trod_int Try.underlying3 e2
        simp only [List.drop_zero, List.take_succ_cons, List.take_zero, List.drop_succ_cons, List.cons.injEq, and_true] at l0 l1 l2
        subst l0 l1 l2
        have q := fun j (hj : j < 3) => hat j hj
        refine ⟨⟨j0, j1, j2⟩, ?_, ?_, ?_⟩
        · have := q 0 (by omega); rw [Go.Deep.add_add] at this; exact this
        · have := q 1 (by omega); rw [Go.Deep.add_add] at this; exact this
        · have := q 2 (by omega); rw [Go.Deep.add_add] at this; exact this
    obtain ⟨y, hy⟩ := Deep.choose_lt hb
    refine ⟨some x, len, cap, y, rfl, by unfold maxLen at hm; omega, fun h0 => ?_⟩
    obtain ⟨b, off, spot⟩ := x
    have hc0 := (hy 0 h0).1
    have hspot : spot = none := by simpa [Addr.add] using World.cell?_spot hc0
    subst hspot
    refine ⟨b, off, rfl, ?_, fun j hj => ?_⟩
    · have := World.block_lt_of_cell? W _ hc0
      simpa [Addr.add] using this
    · obtain ⟨g0, g1, g2⟩ := hy j hj
      rw [add_is] at g0 g1 g2
      exact ⟨g0, g1, g2⟩

theorem RL.len {w : World} {v : Value} {m : MI} (h : RL w v m) : ∃ a cap, v = .slice a m.length cap := by
  rcases h.cells with ⟨rfl, rfl⟩ | ⟨g, cap, rfl, _⟩
  · exact ⟨_, _, rfl⟩
  · exact ⟨_, _, rfl⟩
theorem RL.same {w w' : World} {v : Value} {m : MI} (h : RL w v m) (hb : ∀ g, v.ownBlock = some g → w'.heap[g]? = w.heap[g]?) : RL w' v m :=
  ⟨h.1, h.2.imp id fun ⟨g, cap, cur, e, h1, hg, r⟩ => ⟨g, cap, cur, e, h1, (hb g (by rw [e]; rfl)).trans hg, r⟩⟩
/-- the document's list lies apart of the table -/
def Off (T G nb : Nat) (ch : Nat → Value) (v : Value) : Prop := ∀ g, v.ownBlock = some g → ¬ Mine T G nb ch g
theorem RL.step {w w' : World} {v : Value} {m : MI} {T G nb : Nat} {ch ch' : Nat → Value} (h : RL w v m) (ho : Off T G nb ch v) (s : Step w w' T G nb ch ch') : RL w' v m ∧ Off T G nb ch' v := by
  have hlt := fun g e => (World.ownsRow.lt h g e).2
  exact ⟨h.same fun g e => s.chg.block g (hlt g e) (ho g e), fun g e hm => (s.mine g hm).elim (ho g e) (fun hh => by have := hlt g e; omega)⟩
theorem ridx_yes {m : MI} {k : Int} (h : has m k) : 0 ≤ ridx m k := by
  rcases ridx_spec m k with ⟨_, h2⟩ | ⟨i, u, _, h2, _⟩
  · exact absurd h h2
  · omega
theorem ridx_no {m : MI} {k : Int} (h : ¬ has m k) : ridx m k = -1 := by
  rcases ridx_spec m k with ⟨h1, _⟩ | ⟨i, u, _, _, h3, _⟩
  · exact h1
  · exact absurd ⟨u, List.mem_of_getElem? h3⟩ h
/-- a put, whatever the key -/
theorem IputAny (T G nb room : Nat) (k v : Int) (m : MI) (ch : Nat → Value) (w : World) (h : Tab (Value.int .i64) 80 82 83 w T G nb room m ch) : Calls Try.prog 14 #[.pointer (some ⟨T, 0, none⟩), .int .u64 k, .int .i64 v] w (IPut w T G nb room ch (rput m k v room).1 (rput m k v room).2.1 (rput m k v room).2.2) := by
  unfold rput
  by_cases hk : has m k
  · obtain ⟨u, hu⟩ := hk
    rw [if_pos (ridx_yes ⟨u, hu⟩)]
    exact IputOld T G nb room k u v m ch w h hu
  · rw [if_neg (by rw [ridx_no hk]; decide)]
    by_cases hf : room ≤ m.length
    · rw [if_pos hf]
      exact IputFull T G nb room k v m ch w h hk (by have := h.cnt; omega)
    · rw [if_neg hf]
      exact IputNew T G nb room k v m ch w h hk (by omega)
theorem del_twice (m : MI) (k : Int) : [k, k].foldl del m = del m k := by
  show del (del m k) k = del m k
  exact del_no (has_del m k)
end Go.Proofs.Ytkkaogdcodmpcaa
