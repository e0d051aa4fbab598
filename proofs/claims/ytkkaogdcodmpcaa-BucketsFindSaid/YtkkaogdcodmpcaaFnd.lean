/- Buckets: a key is found: slices that came in, the plain law. -/
import Derived.Test.YtkkaogdcodmpcaaKno
import Derived.Test.YtkkaogdcodmpcaaDeS
import Derived.Test.YtkkaogdcodmpcaaGtS
import Derived.OpenShut
import Derived.ShutString
import Derived.SliceStrings
import Derived.ChangeOld
import Derived.Deep.Slices
import Derived.Laws.Cover1
namespace Go.Proofs.Ytkkaogdcodmpcaa
open Go.RowKit Go.ChangeShapes Go.WideShapes
set_option linter.unusedVariables false

/-- a slice that came in: its cells, by a function of the place -/
def CellsF (w : World) (a : Option Addr) (len : Nat) (f : Nat → Value) : Prop := 0 < len → ∃ b off, a = some ⟨b, off, none⟩ ∧ b < w.heap.size ∧ ∀ j, j < len → w.cell? ⟨b, off + j, none⟩ = some (f j)
theorem addr_addF (b o i : Nat) : (⟨b, o, none⟩ : Addr).add i = ⟨b, o + i, none⟩ := by unfold Addr.add; split <;> simp_all
theorem cellsF_of {w : World} {x : Addr} {len : Nat} {f : Nat → Value} (h : ∀ j, j < len → w.cell? (x.add j) = some (f j)) : CellsF w (some x) len f := fun h0 => by
  obtain ⟨b, off, spot⟩ := x
  have hc0 := h 0 h0
  have hspot : spot = none := by simpa [Addr.add] using World.cell?_spot hc0
  subst hspot
  refine ⟨b, off, rfl, ?_, fun j hj => by rw [← addr_addF]; exact h j hj⟩
  have := World.block_lt_of_cell? w _ hc0
  simpa [Addr.add] using this
def WordsF (w : World) (v : Value) : Prop := ∃ (a : Option Addr) (len cap : Nat) (f : Nat → Int), v = .slice a len cap ∧ len ≤ cap ∧ len ≤ 9223372036854775807 ∧ CellsF w a len (fun j => .int .u64 (f j))
def BoolsF (w : World) (v : Value) : Prop := ∃ (a : Option Addr) (len cap : Nat) (f : Nat → Bool), v = .slice a len cap ∧ len ≤ cap ∧ len ≤ 9223372036854775807 ∧ CellsF w a len (fun j => .bool (f j))
def StrsF (w : World) (v : Value) : Prop := ∃ (a : Option Addr) (len cap : Nat) (f : Nat → ByteArray), v = .slice a len cap ∧ len ≤ cap ∧ len ≤ 9223372036854775807 ∧ CellsF w a len (fun j => .string (f j))
theorem wordsF_view {H : Type} {enc : TypeId × Value → H} {P : Program} {W : World} {base t e : Nat} {v : Value} {d : DataW H} {ps : List MemPlace} (ht : P.underlying t = some (.slice e)) (he : P.underlying e = some (.int .u64)) (hc : P.cellsOf e = 1)
    (hv : Value.okWide P W .any base t v) (h : DataW.Trod enc P W 0 (fun _ => true) true t v d ps) : WordsF W v := by
  obtain ⟨a, len, cap, rfl⟩ := okWide_slice ht hv
  obtain ⟨fuel, hf⟩ := h
  rcases Deep.open_slice1 ht hc hf with ⟨hcs, _⟩ | ⟨x, l, c, m, n, V, D, Pl, hcs, _, hl, hm, hmm, _, hx⟩
  · simp [Value.cells] at hcs
    obtain ⟨rfl, rfl, rfl⟩ := hcs
    exact ⟨none, 0, 0, fun _ => 0, rfl, by omega, by omega, fun h => by omega⟩
  · simp [Value.cells] at hcs
    obtain ⟨rfl, rfl, rfl⟩ := hcs
    have hb : ∀ j, j < len → ∃ q : Int, W.cell? (x.add j) = some (.int .u64 q) := by
      intro j hj
      have h1 := hx j (by simp at hmm; omega)
      obtain ⟨q, h2, _, h3⟩ := DataW.trod_int he h1.2
      simp at h2
      exact ⟨q, by rw [h1.1, h2]⟩
    obtain ⟨bs, hbs⟩ := Deep.choose_lt hb
    exact ⟨some x, len, cap, bs, rfl, hl, by unfold maxLen at hm; omega, cellsF_of hbs⟩
theorem boolsF_view {H : Type} {enc : TypeId × Value → H} {P : Program} {W : World} {base t e : Nat} {v : Value} {d : DataW H} {ps : List MemPlace} (ht : P.underlying t = some (.slice e)) (he : P.underlying e = some .bool) (hc : P.cellsOf e = 1)
    (hv : Value.okWide P W .any base t v) (h : DataW.Trod enc P W 0 (fun _ => true) true t v d ps) : BoolsF W v := by
  obtain ⟨a, len, cap, rfl⟩ := okWide_slice ht hv
  obtain ⟨fuel, hf⟩ := h
  rcases Deep.open_slice1 ht hc hf with ⟨hcs, _⟩ | ⟨x, l, c, m, n, V, D, Pl, hcs, _, hl, hm, hmm, _, hx⟩
  · simp [Value.cells] at hcs
    obtain ⟨rfl, rfl, rfl⟩ := hcs
    exact ⟨none, 0, 0, fun _ => false, rfl, by omega, by omega, fun h => by omega⟩
  · simp [Value.cells] at hcs
    obtain ⟨rfl, rfl, rfl⟩ := hcs
    have hb : ∀ j, j < len → ∃ q : Bool, W.cell? (x.add j) = some (.bool q) := by
      intro j hj
      have h1 := hx j (by simp at hmm; omega)
      obtain ⟨q, h2, _⟩ := DataW.trod_bool he h1.2
      simp at h2
      exact ⟨q, by rw [h1.1, h2]⟩
    obtain ⟨bs, hbs⟩ := Deep.choose_lt hb
    exact ⟨some x, len, cap, bs, rfl, hl, by unfold maxLen at hm; omega, cellsF_of hbs⟩
theorem strsF_view {H : Type} {enc : TypeId × Value → H} {P : Program} {W : World} {base t e : Nat} {v : Value} {d : DataW H} {ps : List MemPlace} (ht : P.underlying t = some (.slice e)) (he : P.underlying e = some .string) (hc : P.cellsOf e = 1)
    (hv : Value.okWide P W .any base t v) (h : DataW.Trod enc P W 0 (fun _ => true) true t v d ps) : StrsF W v := by
  obtain ⟨a, len, cap, rfl⟩ := okWide_slice ht hv
  obtain ⟨fuel, hf⟩ := h
  rcases open_strings ht he hc hf with ⟨hcs, _⟩ | ⟨x, l, c, ss, hcs, _, hl, hm, hmm, _, hx, _⟩
  · simp [Value.cells] at hcs
    obtain ⟨rfl, rfl, rfl⟩ := hcs
    exact ⟨none, 0, 0, fun _ => ByteArray.empty, rfl, by omega, by omega, fun h => by omega⟩
  · simp [Value.cells] at hcs
    obtain ⟨rfl, rfl, rfl⟩ := hcs
    exact ⟨some x, len, cap, fun j => ss.getD j ByteArray.empty, rfl, hl, by unfold maxLen at hm; omega, cellsF_of (fun j hj => hx j (by simp at hmm; omega))⟩

/-- what a table holds behind so many puts, each with a deletion or without -/
def Inv (m : List (Int × ByteArray)) (K : Nat → Int) (V : Nat → ByteArray) (D : Nat → Bool) (i : Nat) : Prop :=
  ∀ q v, (q, v) ∈ m ↔ ∃ j, j < i ∧ K j = q ∧ D j = false ∧ V j = v ∧ ∀ l, j < l → l < i → K l ≠ q
theorem inv_zero (K : Nat → Int) (V : Nat → ByteArray) (D : Nat → Bool) : Inv [] K V D 0 := fun q v => ⟨fun h => by simp at h, fun ⟨j, h, _⟩ => by omega⟩
theorem inv_put {m m1 : List (Int × ByteArray)} {K : Nat → Int} {V : Nat → ByteArray} {D : Nat → Bool} {i : Nat} (h : Inv m K V D i) (hd : D i = false) (h1 : ∀ q v, (q, v) ∈ m1 ↔ (q ≠ K i ∧ (q, v) ∈ m) ∨ (q = K i ∧ v = V i)) : Inv m1 K V D (i + 1) := by
  intro q v
  rw [h1, h q v]
  constructor
  · rintro (⟨h2, j, h3, h4, h5, h6, h7⟩ | ⟨rfl, rfl⟩)
    · refine ⟨j, by omega, h4, h5, h6, fun l hl hl2 => ?_⟩
      by_cases e : l = i
      · subst e; exact fun e => h2 e.symm
      · exact h7 l hl (by omega)
    · exact ⟨i, by omega, rfl, hd, rfl, fun l hl hl2 => by omega⟩
  · rintro ⟨j, h3, h4, h5, h6, h7⟩
    by_cases e : j = i
    · subst e; exact .inr ⟨h4.symm, h6.symm⟩
    · exact .inl ⟨fun e' => h7 i (by omega) (by omega) e'.symm, j, by omega, h4, h5, h6, fun l hl hl2 => h7 l hl (by omega)⟩
theorem inv_del {m m1 : List (Int × ByteArray)} {K : Nat → Int} {V : Nat → ByteArray} {D : Nat → Bool} {i : Nat} (h : Inv m K V D i) (hd : D i = true) (h1 : ∀ q v, (q, v) ∈ m1 ↔ (q ≠ K i ∧ (q, v) ∈ m)) : Inv m1 K V D (i + 1) := by
  intro q v
  rw [h1, h q v]
  constructor
  · rintro ⟨h2, j, h3, h4, h5, h6, h7⟩
    refine ⟨j, by omega, h4, h5, h6, fun l hl hl2 => ?_⟩
    by_cases e : l = i
    · subst e; exact fun e => h2 e.symm
    · exact h7 l hl (by omega)
  · rintro ⟨j, h3, h4, h5, h6, h7⟩
    have hji : j ≠ i := by rintro rfl; rw [hd] at h5; cases h5
    exact ⟨fun e' => h7 i (by omega) (by omega) e'.symm, j, by omega, h4, h5, h6, fun l hl hl2 => h7 l hl (by omega)⟩
theorem inv_yes {m : List (Int × ByteArray)} {K : Nat → Int} {V : Nat → ByteArray} {D : Nat → Bool} {i k last : Nat} (h : Inv m K V D i) (hl : last < i) (hk : K last = K k) (hd : D last = false) (hn : ∀ l, last < l → l < i → K l ≠ K k) : (K k, V last) ∈ m := (h _ _).2 ⟨last, hl, hk, hd, rfl, hn⟩
theorem inv_no {m : List (Int × ByteArray)} {K : Nat → Int} {V : Nat → ByteArray} {D : Nat → Bool} {i k last : Nat} (h : Inv m K V D i) (hl : last < i) (hk : K last = K k) (hd : D last = true) (hn : ∀ l, last < l → l < i → K l ≠ K k) : ¬ has m (K k) := by
  rintro ⟨v, hv⟩
  obtain ⟨j, h3, h4, h5, h6, h7⟩ := (h _ _).1 hv
  rcases Nat.lt_trichotomy j last with a | a | a
  · exact h7 last a hl hk
  · subst a; rw [hd] at h5; cases h5
  · exact hn j a h3 h4
/-- a put, where there is room -/
theorem SputAny (T G nb room : Nat) (k : Int) (v : ByteArray) (m : List (Int × ByteArray)) (ch : Nat → Value) (w : World) (h : Tab Value.string 73 75 76 w T G nb room m ch) (hr : m.length < room) : Calls Try.prog 8 #[.pointer (some ⟨T, 0, none⟩), .int .u64 k, .string v] w fun e w' => ∃ m' ch' b, e = .returned (.tuple #[.bool b, .int .i64 0]) ∧ Tab Value.string 73 75 76 w' T G nb room m' ch' ∧ Step w w' T G nb ch ch' ∧ m'.length ≤ m.length + 1 ∧ ∀ q u, (q, u) ∈ m' ↔ (q ≠ k ∧ (q, u) ∈ m) ∨ (q = k ∧ u = v) := by
  by_cases hk : has m k
  · obtain ⟨u, hu⟩ := hk
    refine (SputOld T G nb room k u v m ch w h hu).mono ?_
    rintro e w' ⟨ch', rfl, t, s⟩
    refine ⟨_, ch', true, rfl, t, s, by rw [upd1_len]; omega, fun q x => ?_⟩
    unfold upd1
    rw [List.mem_map]
    constructor
    · rintro ⟨e, he, h2⟩
      by_cases hek : e.1 = k
      · rw [if_pos hek] at h2; cases h2; exact .inr ⟨rfl, rfl⟩
      · rw [if_neg hek] at h2; subst h2; exact .inl ⟨hek, he⟩
    · rintro (⟨h1, h2⟩ | ⟨rfl, rfl⟩)
      · exact ⟨_, h2, if_neg h1⟩
      · exact ⟨_, hu, if_pos rfl⟩
  · refine (SputNew T G nb room k v m ch w h hk hr).mono ?_
    rintro e w' ⟨ch', rfl, t, s⟩
    refine ⟨_, ch', false, rfl, t, s, by simp, fun q x => ?_⟩
    constructor
    · intro hm
      rcases List.mem_cons.1 hm with e | e
      · cases e; exact .inr ⟨rfl, rfl⟩
      · exact .inl ⟨fun e' => hk ⟨x, by rw [← e']; exact e⟩, e⟩
    · rintro (⟨_, h2⟩ | ⟨rfl, rfl⟩)
      · exact List.mem_cons_of_mem _ h2
      · exact List.mem_cons_self ..
theorem min3 (a b : Nat) : ∃ K : Nat, K ≤ a ∧ K ≤ 60 ∧ K ≤ b ∧ ∀ (ts : Array TypeId) (t : TypeId) (w : World), (Builtin.min_ ts t #[.int .i64 (a : Int), .int .i64 60, .int .i64 (b : Int)]).run Try.prog w = .ok (.int .i64 (K : Int)) w := by
  refine ⟨min (min a 60) b, by omega, by omega, by omega, fun ts t w => ?_⟩
  rw [run_min_int3]
  congr 2
  split <;> split at * <;> omega
end Go.Proofs.Ytkkaogdcodmpcaa
