/- Keys of a table of counts by strings: collected from the map, sorted. -/
import Derived.Test.YtkpenhichgkdkaaRkI
namespace Go.Proofs.Ytkpenhichgkdkaa
open Go.RowKit Go.Sort
set_option linter.unusedVariables false
set_option linter.unusedSectionVars false

theorem sortS {ss : List (List UInt8)} {l : St (List UInt8)} (hp : ss.Perm (l.map (·.1))) (hs : Sorted l) : ss.mergeSort (fun x y => decide (x ≤ y)) = l.map (·.1) := by
  refine List.Perm.eq_of_pairwise (le := fun a b => decide (a ≤ b) = true) (fun a b _ _ h1 h2 => ?_) (List.pairwise_mergeSort (fun a b c h1 h2 => by simp only [decide_eq_true_eq] at *; exact List.le_trans h1 h2) (fun a b => by simp only [Bool.or_eq_true, decide_eq_true_eq]; exact List.le_total a b) ss) ?_ ((List.mergeSort_perm ss _).trans hp)
  · simp only [decide_eq_true_eq] at h1 h2; exact List.le_antisymm h1 h2
  · exact (sorted_keys.1 hs).imp fun {a b} h => decide_eq_true (List.le_of_lt h)

theorem infoS : (Try.prog.info? 9).map (fun i => (i.zero, i.size, i.bytes)) = some (some (.string ⟨#[]⟩), 1, 16) := by kernel_rfl
set_option maxRecDepth 100000 in
set_option maxHeartbeats 2000000 in
theorem keysS {w : World} {F M : Nat} {top : Int} {l : St (List UInt8)} {blk : (List UInt8) → Nat} (h : Tbl 9 78 w F M top l blk) :
    Calls Try.prog 20 #[.pointer (some ⟨F, 0, none⟩)] w fun e w' => ∃ v, e = .returned v ∧ Lst w' w.heap.size v ((l.map (·.1)).map (Go.Proofs.encStr)) ∧ Below w.heap.size w w' := by
  obtain ⟨i0, hi, hz0, hz1, hz2⟩ := info_parts infoS
  have c1 := h.c1
  have hlen := h.len
  obtain ⟨D, hD, hS⟩ := h.map
  have hsz := hS.size
  have HT := Lib.hid h
  have HD := Lib.hid hD
  have HS := Lib.hid hS
  have hbl := hD.lt
  clear h hD hS
  go_enter Try.func20, Try.ntmps20
  go_wp2_with (first
    | (at_range; refine wpList_range_own _ rfl _ 76 rfl 9 23 lawS Try.underlying76 ptrR M l.length D rfl HD.out ?_; intro w0 hrg0 hg0 hs0; go_frame)
    | go_in)
  go_loopw [3] (fun v wr => ∃ (left : Lit → Bool) (cnt : Nat) (ss : List (List UInt8)), wr.ranges Try.prog 9 ptrR M w.heap.size l.length D left cnt ∧ ss.length + cnt ≤ l.length ∧
      wr.ownsRow w.heap.size 9 1 v ss.length (ss.map (Go.Proofs.encStr)) ∧ Hid (Coll D left ss) ∧ Below w.heap.size w wr)
    (fun _ wr => wr.rangeLeft M w.heap.size)
  case atStart =>
    exact ⟨_, _, [], hrg0, by simp; omega, ⟨by simp, .inl ⟨rfl, rfl⟩⟩, Lib.hid (Coll.start D), (Below.refl _ _).grown hg0 (Nat.le_refl _) (fun j hj => by cases hj)⟩
  case round =>
    obtain ⟨left, cnt, ss, hrg, hcs, hrow, HC, hnx⟩ := hrel
    go_wp2_with (first
      | (at_next; refine wpList_next_ranges _ rfl _ rfl 9 lawS ptrR (Go.Proofs.encStr) ptr (fun key kl hk => by obtain ⟨x, hx, _⟩ := Maps.keyOf_str Try.underlying9 hk; exact ⟨x, hx⟩) (fun v y hv => by obtain ⟨o, rfl, _⟩ := ptrR_shape hv; exact ⟨o, rfl⟩) M w.heap.size l.length _ _ _ rfl hrg ?_ ?_)
      | go_in)
    · intro hc0 hl0
      have hp := HC.out.perm hl0 HS.out HT.out.sorted
      have hq := sortS hp HT.out.sorted
      have hpl := hp.length_eq
      simp only [List.length_map] at hpl
      have HPL := Lib.hid hpl
      rcases hrow.2 with ⟨rfl, h0⟩ | ⟨g, cap, cur, rfl, hbase, hb, h1, h2, h3, h4⟩
      · have hl0 : l.map (·.1) = [] := List.eq_nil_of_length_eq_zero (by rw [List.length_map]; omega)
        have HL := Lib.hid hl0
        clear hl0 hq hp
        go_wp2_with (go_at_call 34; refine (Try.slices_Sort_string_none none 0 wr).mono ?_; rintro e w' ⟨rfl, rfl⟩)
        go_ret
        exact ⟨_, rfl, by rw [HL.out]; exact .inl ⟨rfl, rfl⟩, hnx⟩
      · have hH := holds_of_block (ss := ss) hb (by simpa using h4)
        have hgl : g < wr.heap.size := (Array.getElem?_eq_some_iff.1 hb).1
        have hc := Try.slices_Sort_string g 0 cap ss wr hH hgl (by omega)
        have HQ := Lib.hid hq
        have HRow := Lib.hid (fun nn os => ownsRow_sorted (w := wr) (n := nn) (os := os) (e := 9) (ss := ss) (ts := l.map (·.1)) (by rw [List.length_map]; omega) hbase hb h1 h2 h3)
        have hsl : ss.length < 4611686018427387904 := by omega
        clear hq hp hH hrow h4 hb h1 h2 h3 hpl hcs hc0 hl0
        go_wp2_with (go_at_call 34; refine hc.mono ?_; rintro e w' ⟨rfl, nn, os, rfl⟩)
        go_ret
        refine ⟨_, rfl, ?_, hnx.grown (grownBy_sorted _) hnx.size (fun j hj => by cases hj; exact hbase)⟩
        rw [HQ.out]
        exact Lst.of_row (HRow.out nn os) (by have := HPL.out; rw [List.length_map, List.length_map]; omega)
    · intro x c kl yd yp w2 cnt2 hkey hlk hv hat hrg2 hlt hg2 hs2 hen
      obtain rfl : kl = Key.lit x := by obtain ⟨y, hy, rfl, _⟩ := Maps.keyOf_str Try.underlying9 hkey; rw [encStr_inj hy]; rfl
      have hrow2 := hrow.kept hg2 (Or.inr (row_ne_iter hrow hrg).symm)
      have HC2 := Lib.hid (HC.out.step (by simp [Key.lit, Lit.sameKey]) hlk hat)
      clear hs2 hkey hv hat hlk
      go_wp2_with (first
        | (at_builtin; refine wpList_append_own _ rfl _ _ 43 rfl w.heap.size 9 i0 (.string ⟨#[]⟩) 1 16 Try.underlying43 hi hz0 hz1 hz2 rfl (by decide) _ _ _ rfl (hrow2.alloc _) ⟨w2.heap.size, 0, none⟩ 1 1 [(Go.Proofs.encStr) x] rfl rfl (cell_one_new _ _ _) (by simp [Value.oneCell']) (by unfold maxLen at *; omega) (by omega) (by have := hnx.size; have := hg2.size; simp; omega) ?_; intro v' w3 hown' hg3 hnil3; go_frame)
        | go_in)
      have hrg3 := (hrg2.alloc _).kept hg3 (row_ne_low hrow2 hbl) (row_ne_iter hrow2 hrg2)
      go_roundw
      case rel =>
        refine ⟨_, cnt2, ss ++ [x], hrg3, by simp; omega, by simpa using hown', HC2, ?_⟩
        exact ((hnx.grown hg2 hnx.size (fun j hj => by cases hj; exact Nat.le_refl _)).alloc (by have := hnx.size; have := hg2.size; omega) _).grown hg3 (by have := hnx.size; have := hg2.size; simp; omega) (fun j hj => (hrow2.lt j hj).1)
      case measure => rw [hrg3.left_eq, hrg.left_eq]; exact hlt
end Go.Proofs.Ytkpenhichgkdkaa
