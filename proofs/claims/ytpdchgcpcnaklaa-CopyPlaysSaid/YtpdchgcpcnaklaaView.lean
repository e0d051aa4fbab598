/- What a walk is told of a list of bytes that came in; and small laws of pieces. -/
import Derived.Test.YtpdchgcpcnaklaaKnown
import Derived.Deep.Slices
import Derived.Deep.AppendLies
namespace Go.Proofs.Ytpdchgcpcnaklaa
open Go.RowKit Go.ChangeShapes Go.WideShapes
set_option linter.unusedVariables false

theorem dm_u64 (x : Int) : 0 ≤ IntKind.u64.wrap x ∧ IntKind.u64.wrap x ≤ 18446744073709551615 := by rw [IntKind.wrap_u64]; omega

/-- what a slice holds, at places of old -/
def Holds (w : World) (a : Option Addr) (xs : List Int) : Prop := 0 < xs.length → ∃ b off, a = some ⟨b, off, none⟩ ∧ b < w.heap.size ∧ ∀ j, j < xs.length → w.cell? ⟨b, off + j, none⟩ = some (.int .u8 (xs.getD j 0))
theorem Holds.kept {w w' : World} {a : Option Addr} {xs : List Int} (h : Holds w a xs) (b : Below w.heap.size w w') {m : Nat} (hm : m ≤ xs.length) : 0 < m → ∃ ad, a = some ad ∧ ∀ j u, (bcells (xs.take m))[j]? = some u → w'.cell? (ad.add j) = some u := by
  intro h0
  obtain ⟨B, off, e, hlt, hc⟩ := h (by omega)
  refine ⟨_, e, fun j u hu => ?_⟩
  unfold bcells at hu
  rw [List.map_take, List.getElem?_take] at hu
  split at hu
  · rw [add_is, b.cell (p := ⟨B, off + j, none⟩) hlt, hc j (by omega), ← hu]
    simp [List.getD, List.getElem?_eq_getElem (show j < xs.length by omega)]
  · cases hu
theorem pok_get {bs xs : List Int} {k : Nat} (h : k + xs.length ≤ bs.length) (i : Nat) : (pok bs k xs).getD i 0 = if k ≤ i ∧ i - k < xs.length then xs.getD (i - k) 0 else bs.getD i 0 := by
  unfold pok
  simp only [List.getD_eq_getElem?_getD, List.getElem?_append, List.length_take, List.getElem?_take, List.getElem?_drop]
  rw [Nat.min_eq_left (by omega)]
  by_cases h1 : i < k
  · simp [h1, show ¬ k ≤ i by omega]
  · by_cases h2 : i - k < xs.length
    · simp [h1, h2, show k ≤ i by omega]
    · rw [if_neg h1, if_neg h2, if_neg (by omega)]
      congr 3
      omega

/-- a list of bytes that came in -/
def Bytes (w : World) (v : Value) : Prop := ∃ a len cap xs, v = .slice a len cap ∧ len ≤ cap ∧ len ≤ 9223372036854775807 ∧ xs.length = len ∧ (∀ x ∈ xs, 0 ≤ x ∧ x ≤ 255) ∧ Holds w a xs

theorem bytes_view {H : Type} {enc : TypeId × Value → H} {P : Program} {W : World} {base t e : Nat} {v : Value} {d : DataW H} {ps : List MemPlace} (ht : P.underlying t = some (.slice e)) (he : P.underlying e = some (.int .u8)) (hc : P.cellsOf e = 1)
    (hv : Value.okWide P W .any base t v) (h : DataW.Trod enc P W 0 (fun _ => true) true t v d ps) : Bytes W v := by
  obtain ⟨a, len, cap, rfl⟩ := okWide_slice ht hv
  obtain ⟨fuel, hf⟩ := h
  rcases Deep.open_slice1 ht hc hf with ⟨hcs, _⟩ | ⟨x, l, c, m, n, V, D, Pl, hcs, _, hl, hm, hmm, _, hx⟩
  · simp [Value.cells] at hcs
    obtain ⟨rfl, rfl, rfl⟩ := hcs
    exact ⟨none, 0, 0, [], rfl, by omega, by omega, rfl, by simp, fun h => by simp at h⟩
  · simp [Value.cells] at hcs
    obtain ⟨rfl, rfl, rfl⟩ := hcs
    have hb : ∀ j, j < len → ∃ q : Int, W.cell? (x.add j) = some (.int .u8 q) ∧ 0 ≤ q ∧ q ≤ 255 := by
      intro j hj
      have h1 := hx j (by simp at hmm; omega)
      obtain ⟨q, h2, _, h3⟩ := DataW.trod_int he h1.2
      simp at h2
      exact ⟨q, by rw [h1.1, h2], by simp [Lit.wf, IntKind.min, IntKind.max, IntKind.signed, IntKind.bits] at h3; omega⟩
    obtain ⟨bs, hbs⟩ := Deep.choose_lt hb
    refine ⟨some x, len, cap, (List.range len).map bs, rfl, hl, by unfold maxLen at hm; omega, by simp, ?_, ?_⟩
    · intro y hy
      obtain ⟨j, hj, rfl⟩ := List.mem_map.1 hy
      exact (hbs j (List.mem_range.1 hj)).2
    · intro h0
      have h0 : 0 < len := by simpa using h0
      obtain ⟨b, off, spot⟩ := x
      have hc0 := (hbs 0 (by omega)).1
      have hspot : spot = none := by simpa [Addr.add] using World.cell?_spot hc0
      subst hspot
      refine ⟨b, off, rfl, ?_, fun j hj => ?_⟩
      · have := World.block_lt_of_cell? W _ hc0
        simpa [Addr.add] using this
      · have hj : j < len := by simpa using hj
        rw [← add_is, (hbs j hj).1]
        simp [List.getD, hj]
end Go.Proofs.Ytpdchgcpcnaklaa
