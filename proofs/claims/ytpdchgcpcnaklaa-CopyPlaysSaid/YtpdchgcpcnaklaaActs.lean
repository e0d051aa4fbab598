/- A list of calls that came in; a call on both, whatever it is. -/
import Derived.Test.YtpdchgcpcnaklaaDoC
import Derived.Deep.Slices
import Derived.Deep.Fields
import Derived.ChangeSame
namespace Go.Proofs.Ytpdchgcpcnaklaa
open Go.RowKit Go.ChangeShapes Go.WideShapes Go.Deep
set_option linter.unusedVariables false

/-- a call as it lies in memory -/
structure AD where
  kd : Int
  pg : Int
  ad : Int
  q : Int
  a : Option Addr
  len : Nat
  cap : Nat
  xs : List Int
instance : Inhabited AD := ⟨⟨0, 0, 0, 0, none, 0, 0, []⟩⟩
def AD.val (x : AD) : Value := .agg #[.int .i64 x.kd, .int .i64 x.pg, .int .i64 x.ad, .int .i64 x.q, .slice x.a x.len x.cap]
structure AD.Ok (x : AD) (w : World) : Prop where
  lc : x.len ≤ x.cap
  l63 : x.len ≤ 9223372036854775807
  xl : x.xs.length = x.len
  by8 : ∀ y ∈ x.xs, 0 ≤ y ∧ y ≤ 255
  holds : Holds w x.a x.xs
theorem AD.Ok.below {x : AD} {w w' : World} (h : x.Ok w) (b : Below w.heap.size w w') : x.Ok w' := ⟨h.lc, h.l63, h.xl, h.by8, h.holds.below b⟩
structure AD.At (x : AD) (w : World) (b o : Nat) : Prop where
  c0 : w.cell? ⟨b, o, none⟩ = some (.int .i64 x.kd)
  c1 : w.cell? ⟨b, o + 1, none⟩ = some (.int .i64 x.pg)
  c2 : w.cell? ⟨b, o + 2, none⟩ = some (.int .i64 x.ad)
  c3 : w.cell? ⟨b, o + 3, none⟩ = some (.int .i64 x.q)
  c4 : w.cell? ⟨b, o + 4, none⟩ = some (.slice x.a x.len x.cap)
/-- a list of calls at places of old -/
structure ActsAt (w : World) (a : Option Addr) (len : Nat) (x : Nat → AD) : Prop where
  ok : ∀ i, i < len → (x i).Ok w
  cells : 0 < len → ∃ b off, a = some ⟨b, off, none⟩ ∧ b < w.heap.size ∧ ∀ i, i < len → (x i).At w b (off + i * 5)
theorem ActsAt.below {w w' : World} {a : Option Addr} {len : Nat} {x : Nat → AD} (h : ActsAt w a len x) (b : Below w.heap.size w w') : ActsAt w' a len x := by
  refine ⟨fun i hi => (h.ok i hi).below b, fun h0 => ?_⟩
  obtain ⟨B, off, e, hlt, hc⟩ := h.cells h0
  refine ⟨B, off, e, Nat.lt_of_lt_of_le hlt b.size, fun i hi => ?_⟩
  have c := hc i hi
  exact ⟨(b.cell (p := ⟨B, _, none⟩) hlt).trans c.c0, (b.cell (p := ⟨B, _, none⟩) hlt).trans c.c1, (b.cell (p := ⟨B, _, none⟩) hlt).trans c.c2, (b.cell (p := ⟨B, _, none⟩) hlt).trans c.c3, (b.cell (p := ⟨B, _, none⟩) hlt).trans c.c4⟩
def Acts (w : World) (v : Value) : Prop := ∃ a len cap x, v = .slice a len cap ∧ len ≤ cap ∧ len ≤ 9223372036854775807 ∧ ActsAt w a len x

section
variable {H : Type} {enc : TypeId × Value → H} {P : Program} {w : World} {base : Nat} {spare : Nat → Bool} {held : Bool}
theorem open_slice_fields {t e : TypeId} {fs : Array Field} {fuel : Nat} {cs : List Value} {x : DataW H × List MemPlace} (ht : P.underlying t = some (.slice e)) (he : P.underlying e = some (.struct fs))
    (hone : oneCellFields P fs = true) (hC : P.cellsOf e = fs.size) (h : DataW.trod enc P w base spare held fuel t cs = some x) :
    (cs = [.slice none 0 0] ∧ x = (.nil, [])) ∨
    ∃ (a : Addr) (len cap m : Nat) (D : Nat → DataW H) (Pl : Nat → List MemPlace), cs = [.slice (some a) len cap] ∧ base ≤ a.block ∧ len ≤ cap ∧ cap ≤ maxLen ∧ m = (if spare a.block then cap else len) ∧
      x = (.slice ((List.range len).map D) ((List.range (m - len)).map fun j => D (len + j)), MemPlace.row a (m * fs.size) ++ (List.range m).flatMap Pl) ∧
      ∀ i, i < m → ∃ (ys : List (DataW H × List MemPlace)) (n : Nat), D i = .agg (ys.map (·.1)) ∧ Pl i = ys.flatMap (·.2) ∧ ys.length = fs.size ∧
        ∀ (j : Nat) (f : Field), fs[j]? = some f → ∃ (v : Value) (y : DataW H × List MemPlace), w.cell? (a.add (i * fs.size + j)) = some v ∧ ys[j]? = some y ∧ DataW.trod enc P w base spare held n f.type [v] = some y := by
  rcases open_slice ht h with h0 | ⟨a, len, cap, m, n, D, Pl, hcs, hb, hl, hm, hmm, hx, hi⟩
  · exact .inl h0
  · refine .inr ⟨a, len, cap, m, D, Pl, hcs, hb, hl, hm, hmm, by rw [hC] at hx; exact hx, fun i him => ?_⟩
    obtain ⟨cs', hc, ht'⟩ := hi i him
    rw [hC] at hc
    obtain ⟨ys, n', hn', hy, hlen, hyl, hf⟩ := DataW.trod_struct he ht'
    obtain ⟨_, hcl, hat⟩ := World.cells?_some hc
    simp only [Prod.mk.injEq] at hy
    refine ⟨ys, n', hy.1, hy.2, hyl, fun j f hj => ?_⟩
    obtain ⟨ho, hk⟩ := hone_of hone j f hj
    have hjl : j < fs.size := (Array.getElem?_eq_some_iff.1 hj).1
    have hcell := hat j hjl
    have hv : cs'[j]? = some (cs'[j]'(by omega)) := List.getElem?_eq_getElem (by omega)
    have h1 := hf j f hj
    rw [ho, hk] at h1
    have hone' : (cs'.drop j).take 1 = [cs'[j]'(by omega)] := by
      rw [List.drop_eq_getElem_cons (by omega)]
      rfl
    rw [hone'] at h1
    have hys : ys[j]? = some (ys[j]'(by omega)) := List.getElem?_eq_getElem (by omega)
    refine ⟨_, _, ?_, hys, h1.trans hys⟩
    rw [← Go.Deep.add_add, hcell, hv]
end

theorem bytes_view1 {H : Type} {enc : TypeId × Value → H} {P : Program} {W : World} {t e fuel : Nat} {v : Value} {y : DataW H × List MemPlace} (ht : P.underlying t = some (.slice e)) (he : P.underlying e = some (.int .u8)) (hc : P.cellsOf e = 1)
    (hf : DataW.trod enc P W 0 (fun _ => true) true fuel t [v] = some y) : Bytes W v := by
  rcases Deep.open_slice1 ht hc hf with ⟨hcs, _⟩ | ⟨x, l, c, m, n, V, D, Pl, hcs, _, hl, hm, hmm, _, hx⟩
  · obtain rfl : v = .slice none 0 0 := by simpa using hcs
    exact ⟨none, 0, 0, [], rfl, by omega, by omega, rfl, by simp, fun h => by simp at h⟩
  · obtain rfl : v = .slice (some x) l c := by simpa using hcs
    have hb : ∀ j, j < l → ∃ q : Int, W.cell? (x.add j) = some (.int .u8 q) ∧ 0 ≤ q ∧ q ≤ 255 := by
      intro j hj
      have h1 := hx j (by simp at hmm; omega)
      obtain ⟨q, h2, _, h3⟩ := DataW.trod_int he h1.2
      simp at h2
      exact ⟨q, by rw [h1.1, h2], by simp [Lit.wf, IntKind.min, IntKind.max, IntKind.signed, IntKind.bits] at h3; omega⟩
    obtain ⟨bs, hbs⟩ := Deep.choose_lt hb
    refine ⟨some x, l, c, (List.range l).map bs, rfl, hl, by unfold maxLen at hm; omega, by simp, ?_, ?_⟩
    · intro y hy
      obtain ⟨j, hj, rfl⟩ := List.mem_map.1 hy
      exact (hbs j (List.mem_range.1 hj)).2
    · intro h0
      have h0 : 0 < l := by simpa using h0
      obtain ⟨b, off, spot⟩ := x
      have hc0 := (hbs 0 (by omega)).1
      have hspot : spot = none := by simpa [Addr.add] using World.cell?_spot hc0
      subst hspot
      refine ⟨b, off, rfl, ?_, fun j hj => ?_⟩
      · have := World.block_lt_of_cell? W _ hc0
        simpa [Addr.add] using this
      · have hj : j < l := by simpa using hj
        rw [← add_is, (hbs j hj).1]
        simp [List.getD, hj]

theorem acts_view {H : Type} {enc : TypeId × Value → H} {W : World} {base : Nat} {v : Value} {d : DataW H} {ps : List MemPlace}
    (hv : Value.okWide Try.prog W .any base 34 v) (h : DataW.Trod enc Try.prog W 0 (fun _ => true) true 34 v d ps) : Acts W v := by
  obtain ⟨a, len, cap, rfl⟩ := okWide_slice Try.underlying34 hv
  obtain ⟨fuel, hf⟩ := h
  rcases open_slice_fields Try.underlying34 Try.underlying40 (by kernel_rfl) (by kernel_rfl) hf with ⟨hcs, _⟩ | ⟨x, l, c, m, D, Pl, hcs, _, hl, hm, hmm, _, hx⟩
  · simp [Value.cells] at hcs
    obtain ⟨rfl, rfl, rfl⟩ := hcs
    exact ⟨none, 0, 0, fun _ => ⟨0, 0, 0, 0, none, 0, 0, []⟩, rfl, by omega, by omega, fun i hi => by omega, fun h => by omega⟩
  · simp [Value.cells] at hcs
    obtain ⟨rfl, rfl, rfl⟩ := hcs
    have hb : ∀ i, i < len → ∃ y : AD, y.Ok W ∧ W.cell? (x.add (i * 5)) = some (.int .i64 y.kd) ∧ W.cell? (x.add (i * 5 + 1)) = some (.int .i64 y.pg) ∧ W.cell? (x.add (i * 5 + 2)) = some (.int .i64 y.ad) ∧ W.cell? (x.add (i * 5 + 3)) = some (.int .i64 y.q) ∧ W.cell? (x.add (i * 5 + 4)) = some (.slice y.a y.len y.cap) := by
      intro i hi
      obtain ⟨ys, n, _, _, _, hfi⟩ := hx i (by simp at hmm; omega)
      obtain ⟨v0, y0, hc0, _, ht0⟩ := hfi 0 _ rfl
      obtain ⟨v1, y1, hc1, _, ht1⟩ := hfi 1 _ rfl
      obtain ⟨v2, y2, hc2, _, ht2⟩ := hfi 2 _ rfl
      obtain ⟨v3, y3, hc3, _, ht3⟩ := hfi 3 _ rfl
      obtain ⟨v4, y4, hc4, _, ht4⟩ := hfi 4 _ rfl
      obtain ⟨k0, e0, _, _⟩ := DataW.trod_int Try.underlying3 ht0
      obtain ⟨k1, e1, _, _⟩ := DataW.trod_int Try.underlying3 ht1
      obtain ⟨k2, e2, _, _⟩ := DataW.trod_int Try.underlying3 ht2
      obtain ⟨k3, e3, _, _⟩ := DataW.trod_int Try.underlying3 ht3
      obtain ⟨a4, l4, c4, xs, rfl, h1, h2, h3, h4, h5⟩ := bytes_view1 Try.underlying22 Try.underlying5 (by kernel_rfl) ht4
      simp at e0 e1 e2 e3
      exact ⟨⟨k0, k1, k2, k3, a4, l4, c4, xs⟩, ⟨h1, h2, h3, h4, h5⟩, by rw [← e0]; exact hc0, by rw [← e1]; exact hc1, by rw [← e2]; exact hc2, by rw [← e3]; exact hc3, hc4⟩
    obtain ⟨y, hy⟩ := Deep.choose_lt hb
    refine ⟨some x, len, cap, y, rfl, hl, by unfold maxLen at hm; omega, fun i hi => (hy i hi).1, fun h0 => ?_⟩
    obtain ⟨b, off, spot⟩ := x
    have hc0 := (hy 0 h0).2.1
    have hspot : spot = none := by simpa [Addr.add] using World.cell?_spot hc0
    subst hspot
    refine ⟨b, off, rfl, ?_, fun j hj => ?_⟩
    · have := World.block_lt_of_cell? W _ hc0
      simpa [Addr.add] using this
    · obtain ⟨_, g0, g1, g2, g3, g4⟩ := hy j hj
      rw [add_is] at g0 g1 g2 g3 g4
      exact ⟨g0, g1, g2, g3, g4⟩

/-- a call on both -/
theorem doAny (M D R c : Nat) (bs ps : List Int) (x : AD) (w : World) (h : Twin w M D R c bs ps) (hx : x.Ok w) :
    Calls Try.prog 18 #[.pointer (some ⟨M, 0, none⟩), .slice (some ⟨R, 0, none⟩) bs.length c, .agg #[.int .i64 x.kd, .int .i64 x.pg, .int .i64 x.ad, .int .i64 x.q, .slice x.a x.len x.cap]] w (DoPost w M D R bs.length) := by
  obtain ⟨kd, pg, ad, q, a, len, cap, xs⟩ := x
  obtain ⟨h1, h2, h3, h4, h5⟩ := hx
  dsimp only at h1 h2 h3 h4 h5 ⊢
  have hz := dm_u64 kd
  have hl := h.len
  obtain hk | hk | hk | hk | hk | hk : IntKind.u64.wrap kd % 6 = 0 ∨ IntKind.u64.wrap kd % 6 = 1 ∨ IntKind.u64.wrap kd % 6 = 2 ∨ IntKind.u64.wrap kd % 6 = 3 ∨ IntKind.u64.wrap kd % 6 = 4 ∨ IntKind.u64.wrap kd % 6 = 5 := by omega
  · cases ho : outB ad (min len 300 : Nat) bs.length with
    | true => exact doPokeBad M D R c bs ps kd pg ad q a len cap _ w h h1 h2 rfl hk ho
    | false =>
      obtain ⟨k, m, rfl, hm, hkm⟩ := piece_good ho
      exact doPoke M D R c bs ps kd pg q k a len cap _ xs w h h1 h2 h3 h4 h5 rfl hk (by omega)
  · cases ho : pageB pg bs.length with
    | true => exact doBringBad M D R c bs ps kd pg ad q a len cap w h h1 h2 hk ho
    | false =>
      obtain ⟨k, rfl, h16, _⟩ := page_good ho (by omega)
      by_cases hn : turnE 0 (ps.getD k 0) = 0
      · exact doBring M D R c bs ps kd ad q k a len cap w h h1 h2 hk ho h16 hn
      · exact doBringNo M D R c bs ps kd ad q k a len cap w h h1 h2 hk ho h16 hn
  · cases ho : pageB pg bs.length with
    | true => exact doEvictBad M D R c bs ps kd pg ad q a len cap w h h1 h2 hk ho
    | false =>
      obtain ⟨k, rfl, h16, _⟩ := page_good ho (by omega)
      by_cases hn : turnE 1 (ps.getD k 0) = 0
      · exact doEvict M D R c bs ps kd ad q k a len cap w h h1 h2 hk ho h16 hn
      · exact doEvictNo M D R c bs ps kd ad q k a len cap w h h1 h2 hk ho h16 hn
  · cases ho : pageB pg bs.length with
    | true => exact doBreakBad M D R c bs ps kd pg ad q a len cap w h h1 h2 hk ho
    | false =>
      obtain ⟨k, rfl, h16, _⟩ := page_good ho (by omega)
      by_cases hn : turnE 2 (ps.getD k 0) = 0
      · exact doBreak M D R c bs ps kd ad q k a len cap w h h1 h2 hk ho h16 hn
      · exact doBreakNo M D R c bs ps kd ad q k a len cap w h h1 h2 hk ho h16 hn
  · cases ho : outB ad q bs.length with
    | true => exact doPeekBad M D R c bs ps kd pg ad q a len cap w h h1 h2 hk ho
    | false =>
      obtain ⟨k, m, rfl, rfl, hkm⟩ := piece_good ho
      exact doPeek M D R c bs ps kd pg k m a len cap w h h1 h2 hk hkm
  · cases ho : outB ad q bs.length with
    | true => exact doTouchBad M D R c bs ps kd pg ad q a len cap w h h1 h2 hk ho
    | false =>
      obtain ⟨k, m, rfl, rfl, hkm⟩ := piece_good ho
      exact doTouch M D R c bs ps kd pg k m a len cap w h h1 h2 hk hkm
end Go.Proofs.Ytpdchgcpcnaklaa
