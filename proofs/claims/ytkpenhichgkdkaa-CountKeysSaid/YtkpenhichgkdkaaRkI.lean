/- Keys of a table of counts by ints: collected from the map, sorted. -/
import Derived.Test.YtkpenhichgkdkaaRfS
import Derived.Test.YtkpenhichgkdkaaSrt
import Derived.Maps.AppendAt
import Derived.Sort.OwnSorted
import Derived.Sort.OwnSortedInts
namespace Go.Proofs.Ytkpenhichgkdkaa
open Go.RowKit Go.Sort
set_option linter.unusedVariables false
set_option linter.unusedSectionVars false

section
variable {κ : Type} [Key κ]
/-- what was met so far -/
def Coll (D0 : DataW Unit) (left : Lit → Bool) (ss : List κ) : Prop := ss.Nodup ∧ ∀ x, x ∈ ss ↔ (Maps.has D0 (Key.lit x) = true ∧ left (Key.lit x) = false)
theorem Coll.start (D0 : DataW Unit) : Coll (κ := κ) D0 (Maps.has D0) [] := ⟨List.nodup_nil, fun x => by cases Maps.has D0 (Key.lit x) <;> simp⟩
theorem Coll.step {D0 : DataW Unit} {left : Lit → Bool} {ss : List κ} (h : Coll D0 left ss) {x : κ} {y : DataW Unit} (same : (Key.lit x).sameKey (Key.lit x) = true) (hlk : left (Key.lit x) = true) (hat : ∀ zd, D0.atKey (Key.lit x) zd = y) : Coll D0 (fun z => left z && !z.sameKey (Key.lit x)) (ss ++ [x]) := by
  have hhas : Maps.has D0 (Key.lit x) = true := Maps.has_true_of_atKey hat
  have hnew : x ∉ ss := fun hx => by have := ((h.2 x).1 hx).2; rw [hlk] at this; cases this
  refine ⟨List.nodup_append.2 ⟨h.1, by simp, fun a ha b hb => by simp at hb; subst hb; exact fun e => hnew (e ▸ ha)⟩, fun y => ?_⟩
  by_cases hy : y = x
  · subst hy; simp [hhas, same]
  · have hne : (Key.lit y).sameKey (Key.lit x) = false := Maps.sameKey_ne (fun e => hy (Key.inj _ _ e))
    simp [h.2 y, hy, hne]
theorem Coll.perm {D0 : DataW Unit} {left : Lit → Bool} {ss : List κ} {l : St κ} {blk : κ → Nat} (h : Coll D0 left ss) (hl : ∀ kl, left kl = false) (hS : Says D0 l blk) (hs : Sorted l) : ss.Perm (l.map (·.1)) := by
  refine (List.perm_ext_iff_of_nodup h.1 ?_).2 fun x => ?_
  · show List.Pairwise (· ≠ ·) _
    refine List.Pairwise.imp ?_ (sorted_keys.1 hs)
    intro a b h e
    rw [e] at h
    exact Key.irr _ h
  · rw [h.2 x, hl, hS.has, ← hasK_look, List.mem_map]
    constructor
    · rintro ⟨⟨c, hc⟩, _⟩; exact ⟨_, hc, rfl⟩
    · rintro ⟨e, he, rfl⟩; exact ⟨⟨e.2, he⟩, rfl⟩
end
/-- a slice of its own that holds these values -/
def Lst (w : World) (B : Nat) (v : Value) (xs : List Value) : Prop := (v = .slice none 0 0 ∧ xs = []) ∨ ∃ g cap, v = .slice (some ⟨g, 0, none⟩) xs.length cap ∧ B ≤ g ∧ g < w.heap.size ∧ ∀ j x, xs[j]? = some x → w.cell? ⟨g, j, none⟩ = some x
theorem Lst.of_row {w : World} {B n cap g : Nat} {e : TypeId} {xs : List Value} (h : w.ownsRow B e 1 (.slice (some ⟨g, 0, none⟩) n cap) n xs) (hn : n = xs.length) : Lst w B (.slice (some ⟨g, 0, none⟩) n cap) xs := by
  rcases h.2 with ⟨h0, _⟩ | ⟨g', cap', cur, he, hb, hg, hn', hm, hs, ht⟩
  · cases h0
  · cases he
    refine .inr ⟨g, cap, by rw [hn], hb, (Array.getElem?_eq_some_iff.1 hg).1, fun j x hj => ?_⟩
    have hjl : j < xs.length := (List.getElem?_eq_some_iff.1 hj).1
    rw [← ht, List.getElem?_take_of_lt (by omega)] at hj
    simpa [World.cell?, hg] using hj

theorem sortI {ss : List Int} {l : St Int} (hp : ss.Perm (l.map (·.1))) (hs : Sorted l) : ss.mergeSort (fun x y => decide (x ≤ y)) = l.map (·.1) := by
  refine List.Perm.eq_of_pairwise (le := fun a b => decide (a ≤ b) = true) (fun a b _ _ h1 h2 => ?_) (List.pairwise_mergeSort (fun a b c h1 h2 => by simp at *; omega) (fun a b => by simp; omega) ss) ?_ ((List.mergeSort_perm ss _).trans hp)
  · simp at h1 h2; omega
  · exact (sorted_keys.1 hs).imp fun {a b} h => decide_eq_true (Int.le_of_lt h)

theorem infoI : (Try.prog.info? 3).map (fun i => (i.zero, i.size, i.bytes)) = some (some (.int .i64 0), 1, 8) := by kernel_rfl
set_option maxRecDepth 100000 in
set_option maxHeartbeats 2000000 in
theorem keysI {w : World} {F M : Nat} {top : Int} {l : St Int} {blk : Int → Nat} (h : Tbl 3 85 w F M top l blk) :
    Calls Try.prog 26 #[.pointer (some ⟨F, 0, none⟩)] w fun e w' => ∃ v, e = .returned v ∧ Lst w' w.heap.size v ((l.map (·.1)).map (Value.int .i64)) ∧ Below w.heap.size w w' := by
  obtain ⟨i0, hi, hz0, hz1, hz2⟩ := info_parts infoI
  have c1 := h.c1
  have hlen := h.len
  obtain ⟨D, hD, hS⟩ := h.map
  have hsz := hS.size
  have HT := Lib.hid h
  have HD := Lib.hid hD
  have HS := Lib.hid hS
  have hbl := hD.lt
  clear h hD hS
  go_enter Try.func26, Try.ntmps26
  go_wp2_with (first
    | (at_range; refine wpList_range_own _ rfl _ 83 rfl 3 23 lawI Try.underlying83 ptrR M l.length D rfl HD.out ?_; intro w0 hrg0 hg0 hs0; go_frame)
    | go_in)
  go_loopw [3] (fun v wr => ∃ (left : Lit → Bool) (cnt : Nat) (ss : List Int), wr.ranges Try.prog 3 ptrR M w.heap.size l.length D left cnt ∧ ss.length + cnt ≤ l.length ∧
      wr.ownsRow w.heap.size 3 1 v ss.length (ss.map (Value.int .i64)) ∧ Hid (Coll D left ss) ∧ Below w.heap.size w wr)
    (fun _ wr => wr.rangeLeft M w.heap.size)
  case atStart =>
    exact ⟨_, _, [], hrg0, by simp; omega, ⟨by simp, .inl ⟨rfl, rfl⟩⟩, Lib.hid (Coll.start D), (Below.refl _ _).grown hg0 (Nat.le_refl _) (fun j hj => by cases hj)⟩
  case round =>
    obtain ⟨left, cnt, ss, hrg, hcs, hrow, HC, hnx⟩ := hrel
    go_wp2_with (first
      | (at_next; refine wpList_next_ranges _ rfl _ rfl 3 lawI ptrR (Value.int .i64) ptr (fun key kl hk => by obtain ⟨x, hx, _⟩ := Maps.keyOf_int_inv Try.underlying3 hk; exact ⟨x, hx⟩) (fun v y hv => by obtain ⟨o, rfl, _⟩ := ptrR_shape hv; exact ⟨o, rfl⟩) M w.heap.size l.length _ _ _ rfl hrg ?_ ?_)
      | go_in)
    · intro hc0 hl0
      have hp := HC.out.perm hl0 HS.out HT.out.sorted
      have hq := sortI hp HT.out.sorted
      have hpl := hp.length_eq
      simp only [List.length_map] at hpl
      have HPL := Lib.hid hpl
      rcases hrow.2 with ⟨rfl, h0⟩ | ⟨g, cap, cur, rfl, hbase, hb, h1, h2, h3, h4⟩
      · have hl0 : l.map (·.1) = [] := List.eq_nil_of_length_eq_zero (by rw [List.length_map]; omega)
        have HL := Lib.hid hl0
        clear hl0 hq hp
        go_wp2_with (go_at_call 38; refine (Try.slices_Sort_int_none none 0 wr).mono ?_; rintro e w' ⟨rfl, rfl⟩)
        go_ret
        exact ⟨_, rfl, by rw [HL.out]; exact .inl ⟨rfl, rfl⟩, hnx⟩
      · have hH := holds_of_blockI (ss := ss) hb (by simpa using h4)
        have hgl : g < wr.heap.size := (Array.getElem?_eq_some_iff.1 hb).1
        have hc := Try.slices_Sort_int g 0 cap ss wr hH hgl (by omega)
        have HQ := Lib.hid hq
        have HRow := Lib.hid (fun nn os => ownsRow_sortedI (w := wr) (n := nn) (os := os) (e := 3) (ss := ss) (ts := l.map (·.1)) (by rw [List.length_map]; omega) hbase hb h1 h2 h3)
        have hsl : ss.length < 4611686018427387904 := by omega
        clear hq hp hH hrow h4 hb h1 h2 h3 hpl hcs hc0 hl0
        go_wp2_with (go_at_call 38; refine hc.mono ?_; rintro e w' ⟨rfl, nn, os, rfl⟩)
        go_ret
        refine ⟨_, rfl, ?_, hnx.grown (grownBy_sortedI _) hnx.size (fun j hj => by cases hj; exact hbase)⟩
        rw [HQ.out]
        exact Lst.of_row (HRow.out nn os) (by have := HPL.out; rw [List.length_map, List.length_map]; omega)
    · intro x c kl yd yp w2 cnt2 hkey hlk hv hat hrg2 hlt hg2 hs2 hen
      obtain rfl : kl = Key.lit x := by obtain ⟨y, hy, rfl, _⟩ := Maps.keyOf_int_inv Try.underlying3 hkey; cases hy; rfl
      have hrow2 := hrow.kept hg2 (Or.inr (row_ne_iter hrow hrg).symm)
      have HC2 := Lib.hid (HC.out.step (by simp [Key.lit, Lit.sameKey]) hlk hat)
      clear hs2 hkey hv hat hlk
      go_wp2_with (first
        | (at_builtin; refine wpList_append_own _ rfl _ _ 56 rfl w.heap.size 3 i0 (.int .i64 0) 1 8 Try.underlying56 hi hz0 hz1 hz2 rfl (by decide) _ _ _ rfl (hrow2.alloc _) ⟨w2.heap.size, 0, none⟩ 1 1 [(Value.int .i64) x] rfl rfl (cell_one_new _ _ _) (by simp [Value.oneCell']) (by unfold maxLen at *; omega) (by omega) (by have := hnx.size; have := hg2.size; simp; omega) ?_; intro v' w3 hown' hg3 hnil3; go_frame)
        | go_in)
      have hrg3 := (hrg2.alloc _).kept hg3 (row_ne_low hrow2 hbl) (row_ne_iter hrow2 hrg2)
      go_roundw
      case rel =>
        refine ⟨_, cnt2, ss ++ [x], hrg3, by simp; omega, by simpa using hown', HC2, ?_⟩
        exact ((hnx.grown hg2 hnx.size (fun j hj => by cases hj; exact Nat.le_refl _)).alloc (by have := hnx.size; have := hg2.size; omega) _).grown hg3 (by have := hnx.size; have := hg2.size; simp; omega) (fun j hj => (hrow2.lt j hj).1)
      case measure => rw [hrg3.left_eq, hrg.left_eq]; exact hlt
end Go.Proofs.Ytkpenhichgkdkaa
