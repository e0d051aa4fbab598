/- The document's Hold, whatever the list; its list beside a table that changes; a list of calls that came in. -/
import Derived.Test.YtkpenhichgkdkaaKn
import Derived.Deep.Slices
import Derived.Deep.Fields
import Derived.ChangeSame
namespace Go.Proofs.Ytkpenhichgkdkaa
open Go.RowKit Go.ChangeShapes Go.WideShapes Go.Deep
set_option linter.unusedVariables false

theorem refHold {K tR : TypeId} {w' : World} {F M : Nat} {blk : Int → Nat} (l : SI) (top k : Int) (v : Value) (w : World) (h : KL w v top l) (T : Tbl K tR w' F M top l blk) :
    Calls Try.prog 28 #[v, .int .i64 k, .int .i64 top] w fun e w' => ∃ v', e = .returned (.tuple #[v', .int .i64 (holdL top l k).2]) ∧ KL w' v' top (holdL top l k).1 ∧ Below w.heap.size w w' := by
  cases hk : look l k with
  | some c =>
    obtain ⟨n, s⟩ := c
    obtain ⟨_, n1, n2⟩ := T.cnt k n s (look_some hk)
    rw [show holdL top l k = (updt l k (getN n top s, getS n top s), getE n top s) from by unfold holdL; rw [hk]]
    exact refHoldYes l top k n s v w h T.len T.sorted hk n1 n2 T.top2
  | none =>
    by_cases hl : 64 ≤ l.length
    · rw [show holdL top l k = (l, 3) from by unfold holdL; rw [hk]; exact if_pos hl]
      exact (refHoldFull l top k v w h (by have := T.len; omega) hk).mono fun e w' ⟨h1, h2⟩ => ⟨v, h1, h2 ▸ h, h2 ▸ Below.refl _ _⟩
    · rw [show holdL top l k = (ins l k (1, false), 0) from by unfold holdL; rw [hk]; exact if_neg hl]
      exact refHoldNew l top k v w h (by omega) hk
theorem refDropT {K tR : TypeId} {w' : World} {F M : Nat} {blk : Int → Nat} (l : SI) (top k : Int) (v : Value) (w : World) (h : KL w v top l) (T : Tbl K tR w' F M top l blk) :
    Calls Try.prog 29 #[v, .int .i64 k] w fun e w' => ∃ v', e = .returned (.tuple #[v', .bool (dropL l k).2.1, .int .i64 (dropL l k).2.2]) ∧ KL w' v' top (dropL l k).1 ∧ Below w.heap.size w w' :=
  refDrop l top k v w h T.len T.sorted T.top2 fun k n s hk => (T.cnt k n s hk).2

theorem KL.other {w w' : World} {F M : Nat} {top : Int} {l l' : SI} {blk : Int → Nat} {v : Value} (h : KL w v top l) (T : Tbl 3 85 w F M top l' blk) (c : Chg w w' (Own F M l' blk)) : KL w' v top l := by
  refine ⟨h.1, h.2.imp id fun ⟨g, cap, cur, h1, h2, h3, h4⟩ => ⟨g, cap, cur, h1, h2, (c.block g (lt_of_block h3) ?_).trans h3, h4⟩⟩
  rintro (rfl | rfl | ⟨k, ⟨n, s⟩, hk, rfl⟩)
  · have := T.head
    rw [h3] at this
    simp at this
  · obtain ⟨D, hD, _⟩ := T.map
    obtain ⟨es, q, hb⟩ := isMap_block hD
    rw [h3] at hb
    simp at hb
  · have := (T.cnt k n s hk).1
    rw [IsCnt, h3] at this
    simp at this
theorem holdFI_one (top : Int) (f : Nat → Int) (l : St Int) : holdFI top f 1 0 l = holdL top l (f 0) := by
  unfold holdFI
  split
  · rename_i h; unfold holdFI; rw [← h]
  · rfl
theorem kl_nil (w : World) (top : Int) : KL w (.slice none 0 0) top [] := ⟨rfl, .inl ⟨rfl, rfl⟩⟩
theorem kidx_look {m : SI} {k : Int} : (kidx m k < 0 ∧ valLI m k = 0 ∧ stLI m k = false) ∨ 0 ≤ kidx m k := by
  rcases kidx_spec m k with ⟨h1, h2⟩ | ⟨i, c, _, h2, _⟩
  · exact .inl ⟨by omega, by unfold valLI; rw [h2], by unfold stLI; rw [h2]⟩
  · exact .inr (by omega)

/-! ### the calls that came in -/
structure KA where
  kd : Int
  k : Int
instance : Inhabited KA := ⟨⟨0, 0⟩⟩
structure KAsAt (w : World) (a : Option Addr) (len : Nat) (x : Nat → KA) : Prop where
  ok : ∀ i, i < len → (Lit.int .i64 (x i).k).wf = true
  cells : 0 < len → ∃ b off, a = some ⟨b, off, none⟩ ∧ b < w.heap.size ∧ ∀ i, i < len → w.cell? ⟨b, off + i * 2, none⟩ = some (.int .i64 (x i).kd) ∧ w.cell? ⟨b, off + i * 2 + 1, none⟩ = some (.int .i64 (x i).k)
def KAs (w : World) (v : Value) : Prop := ∃ a len cap x, v = .slice a len cap ∧ len ≤ cap ∧ len ≤ 9223372036854775807 ∧ KAsAt w a len x
section
variable {H : Type} {enc : TypeId × Value → H} {P : Program} {w : World} {base : Nat} {spare : Nat → Bool} {held : Bool}
theorem open_slice_fields {t e : TypeId} {fs : Array Field} {fuel : Nat} {cs : List Value} {x : DataW H × List MemPlace} (ht : P.underlying t = some (.slice e)) (he : P.underlying e = some (.struct fs))
    (hone : oneCellFields P fs = true) (hC : P.cellsOf e = fs.size) (h : DataW.trod enc P w base spare held fuel t cs = some x) :
    (cs = [.slice none 0 0] ∧ x = (.nil, [])) ∨
    ∃ (a : Addr) (len cap m : Nat) (D : Nat → DataW H) (Pl : Nat → List MemPlace), cs = [.slice (some a) len cap] ∧ base ≤ a.block ∧ len ≤ cap ∧ cap ≤ maxLen ∧ m = (if spare a.block then cap else len) ∧
      x = (.slice ((List.range len).map D) ((List.range (m - len)).map fun j => D (len + j)), MemPlace.row a (m * fs.size) ++ (List.range m).flatMap Pl) ∧
      ∀ i, i < m → ∃ (ys : List (DataW H × List MemPlace)) (n : Nat), D i = .agg (ys.map (·.1)) ∧ Pl i = ys.flatMap (·.2) ∧ ys.length = fs.size ∧
        ∀ (j : Nat) (f : Field), fs[j]? = some f → ∃ (v : Value) (y : DataW H × List MemPlace), w.cell? (a.add (i * fs.size + j)) = some v ∧ ys[j]? = some y ∧ DataW.trod enc P w base spare held n f.type [v] = some y := by
  rcases open_slice ht h with h0 | ⟨a, len, cap, m, n, D, Pl, hcs, hb, hl, hm, hmm, hx, hi⟩
  · exact .inl h0
  · refine .inr ⟨a, len, cap, m, D, Pl, hcs, hb, hl, hm, hmm, by rw [hC] at hx; exact hx, fun i him => ?_⟩
    obtain ⟨cs', hc, ht'⟩ := hi i him
    rw [hC] at hc
    obtain ⟨ys, n', hn', hy, hlen, hyl, hf⟩ := DataW.trod_struct he ht'
    obtain ⟨_, hcl, hat⟩ := World.cells?_some hc
    simp only [Prod.mk.injEq] at hy
    refine ⟨ys, n', hy.1, hy.2, hyl, fun j f hj => ?_⟩
    obtain ⟨ho, hk⟩ := hone_of hone j f hj
    have hjl : j < fs.size := (Array.getElem?_eq_some_iff.1 hj).1
    have hcell := hat j hjl
    have hv : cs'[j]? = some (cs'[j]'(by omega)) := List.getElem?_eq_getElem (by omega)
    have h1 := hf j f hj
    rw [ho, hk] at h1
    have hone' : (cs'.drop j).take 1 = [cs'[j]'(by omega)] := by
      rw [List.drop_eq_getElem_cons (by omega)]
      rfl
    rw [hone'] at h1
    have hys : ys[j]? = some (ys[j]'(by omega)) := List.getElem?_eq_getElem (by omega)
    refine ⟨_, _, ?_, hys, h1.trans hys⟩
    rw [← Go.Deep.add_add, hcell, hv]
end
theorem addr_addK (b o i : Nat) : (⟨b, o, none⟩ : Addr).add i = ⟨b, o + i, none⟩ := by unfold Addr.add; split <;> simp_all
set_option maxRecDepth 100000 in
theorem kas_view {H : Type} {enc : TypeId × Value → H} {W : World} {base : Nat} {v : Value} {d : DataW H} {ps : List MemPlace}
    (hv : Value.okWide Try.prog W .any base 58 v) (h : DataW.Trod enc Try.prog W 0 (fun _ => true) true 58 v d ps) : KAs W v := by
  obtain ⟨a, len, cap, rfl⟩ := okWide_slice Try.underlying58 hv
  obtain ⟨fuel, hf⟩ := h
  rcases open_slice_fields Try.underlying58 Try.underlying63 (by kernel_rfl) (by kernel_rfl) hf with ⟨hcs, _⟩ | ⟨x, l, c, m, D, Pl, hcs, _, hl, hm, hmm, _, hx⟩
  · simp [Value.cells] at hcs
    obtain ⟨rfl, rfl, rfl⟩ := hcs
    exact ⟨none, 0, 0, fun _ => ⟨0, 0⟩, rfl, by omega, by omega, fun i hi => by omega, fun h => by omega⟩
  · simp [Value.cells] at hcs
    obtain ⟨rfl, rfl, rfl⟩ := hcs
    have hb : ∀ i, i < len → ∃ y : KA, (Lit.int .i64 y.k).wf = true ∧ W.cell? (x.add (i * 2)) = some (.int .i64 y.kd) ∧ W.cell? (x.add (i * 2 + 1)) = some (.int .i64 y.k) := by
      intro i hi
      obtain ⟨ys, n, _, _, _, hfi⟩ := hx i (by simp at hmm; omega)
      obtain ⟨v0, y0, hc0, _, ht0⟩ := hfi 0 _ rfl
      obtain ⟨v1, y1, hc1, _, ht1⟩ := hfi 1 _ rfl
      obtain ⟨k0, e0, _, _⟩ := DataW.trod_int Try.underlying3 ht0
      obtain ⟨k1, e1, _, wf1⟩ := DataW.trod_int Try.underlying3 ht1
      simp at e0 e1
      exact ⟨⟨k0, k1⟩, wf1, by rw [← e0]; exact hc0, by rw [← e1]; exact hc1⟩
    obtain ⟨y, hy⟩ := Deep.choose_lt hb
    refine ⟨some x, len, cap, y, rfl, hl, by unfold maxLen at hm; omega, fun i hi => (hy i hi).1, fun h0 => ?_⟩
    obtain ⟨b, off, spot⟩ := x
    have hc0 := (hy 0 h0).2.1
    have hspot : spot = none := by simpa [Addr.add] using World.cell?_spot hc0
    subst hspot
    refine ⟨b, off, rfl, ?_, fun j hj => ?_⟩
    · have := World.block_lt_of_cell? W _ hc0
      simpa [Addr.add] using this
    · obtain ⟨_, g0, g1⟩ := hy j hj
      rw [addr_addK] at g0 g1
      exact ⟨g0, g1⟩
end Go.Proofs.Ytkpenhichgkdkaa
