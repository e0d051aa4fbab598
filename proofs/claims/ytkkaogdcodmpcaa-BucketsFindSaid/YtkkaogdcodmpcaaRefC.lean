/- The document's buckets: Del, Chain, Keys, Same. -/
import Derived.Test.YtkkaogdcodmpcaaRefB
import Derived.Test.YtkkaogdcodmpcaaChI
namespace Go.Proofs.Ytkkaogdcodmpcaa
open Go.RowKit
set_option linter.unusedVariables false

theorem owns_take {w : World} {base te n g cap i : Nat} {xs : List Value} (h : w.ownsRow base te 2 (.slice (some ⟨g, 0, none⟩) n cap) n xs) (hi : i ≤ n) : w.ownsRow base te 2 (.slice (some ⟨g, 0, none⟩) i cap) i (xs.take (i * 2)) := by
  have hl := h.1
  rcases h.2 with ⟨h', _⟩ | ⟨g', cap', cur, h', hb, hg, hn, hm, hs, ht⟩
  · simp at h'
  · simp only [Value.slice.injEq, Option.some.injEq, Addr.mk.injEq, and_true, true_and] at h'
    obtain ⟨rfl, rfl⟩ := h'
    refine ⟨by rw [List.length_take]; omega, .inr ⟨g, cap, cur, rfl, hb, hg, by omega, hm, hs, ?_⟩⟩
    rw [← ht, List.take_take]
    congr 1
    omega
/-- the document's list behind a deletion -/
def RDel (w : World) (v : Value) (m' : MI) (was : Bool) (e : Ending) (w' : World) : Prop := ∃ v', e = .returned (.tuple #[v', .bool was]) ∧ RL w' v' m' ∧ Below w.heap.size w w' ∧ (v' = v ∨ ∀ g, v'.ownBlock = some g → w.heap.size ≤ g)
theorem refDelNo (m : MI) (k : Int) (v : Value) (w : World) (h : RL w v m) (hm : m.length ≤ 64) (hk : ¬ has m k) : Calls Try.prog 15 #[v, .int .u64 k] w (RDel w v m false) := by
  have HF := refFind m k v w h hm
  have HR := Lib.hid h
  have h1 : ridx m k = -1 := by
    rcases ridx_spec m k with ⟨h1, _⟩ | ⟨i, u, _, _, h3, _⟩
    · exact h1
    · exact absurd ⟨u, List.mem_of_getElem? h3⟩ hk
  rw [h1] at HF
  replace HF := Lib.hid HF
  clear h h1
  go_enter Try.func15, Try.ntmps15
  go_wp2_with fail
  refine HF.out.mono ?_
  rintro e w' ⟨rfl, rfl⟩
  go_wp2_with fail
  go_ret2
  exact ⟨_, rfl, HR.out, Below.refl _ _, .inl rfl⟩
set_option maxRecDepth 100000 in
set_option maxHeartbeats 4000000 in
theorem refDelYes (m : MI) (k u : Int) (v : Value) (w : World) (h : RL w v m) (hm : m.length ≤ 64) (hk : (k, u) ∈ m) (hd : (m.map (·.1)).Nodup) : Calls Try.prog 15 #[v, .int .u64 k] w (RDel w v (del m k) true) := by
  have HF := refFind m k v w h hm
  obtain ⟨i0, hi, hz0, hz1, hz2⟩ := info_parts info53
  rcases ridx_spec m k with ⟨_, h2⟩ | ⟨i, u', h1, h2, h3, h4⟩
  · exact absurd ⟨u, hk⟩ h2
  · rw [h2] at HF
    replace HF := Lib.hid HF
    have HD := Lib.hid (show ecells (Value.int .i64) (del m k) = (ecells (Value.int .i64) m).take (i * 2) ++ (ecells (Value.int .i64) m).drop ((i + 1) * 2) from by rw [del_at hd h3, ecells_erase])
    have HDL := Lib.hid (show (del m k).length = m.length - 1 from del_len hd hk)
    have hel : (ecells (Value.int .i64) m).length = m.length * 2 := ecells_len _ m
    rcases h.cells with ⟨rfl, rfl⟩ | ⟨g, cap, rfl, hg, hcap, hcm, hc, _⟩
    · simp at h1
    · unfold RL at h
      have hone : ∀ u ∈ (ecells (Value.int .i64) m).take (i * 2), u.oneCell' = true := fun u hu => ecells_oneI m u (List.mem_of_mem_take hu)
      have hone2 : ∀ u ∈ (ecells (Value.int .i64) m).drop ((i + 1) * 2), u.oneCell' = true := fun u hu => ecells_oneI m u (List.mem_of_mem_drop hu)
      obtain ⟨cur, hg2, hn2, hm2, hs2, ht2⟩ := owns_some h
      have hnews : ∀ t x, ((ecells (Value.int .i64) m).drop ((i + 1) * 2))[t]? = some x → w.cell? ⟨g, (i + 1) * 2 + t, none⟩ = some x := fun t x hx => by
        rw [List.getElem?_drop] at hx
        rw [Go.Joins.cell_of_block hg2, ← hx, ← ht2]
        have hlt : (i + 1) * 2 + t < m.length * 2 := by have := (List.getElem?_eq_some_iff.1 hx).1; rw [hel] at this; exact this
        rw [List.getElem?_take_of_lt hlt]; simp
      have HT := Lib.hid ((World.ownsRow.kept h (below_alloc w (.cells #[] 53)).grownNone (own_ne_none _)))
      generalize hes : ecells (Value.int .i64) m = es at *
      have hesl : (es.drop ((i + 1) * 2)).length = (m.length - (i + 1)) * 2 := by rw [List.length_drop, hel]; omega
      obtain ⟨A, hA, hsrc⟩ : ∃ A : Addr, (if cap = i + 1 then some (⟨g, 0, none⟩ : Addr) else some ⟨g, (i + 1) * 2, none⟩) = some A ∧ ∀ w2 : World, w2.heap[g]? = w.heap[g]? → ∀ t u, (es.drop ((i + 1) * 2))[t]? = some u → w2.cell? (A.add t) = some u := by
        by_cases h : cap = i + 1
        · refine ⟨⟨g, 0, none⟩, by simp [h], fun w2 _ t u hu => ?_⟩
          have h0 : (es.drop ((i + 1) * 2)).length = 0 := by rw [hesl]; omega
          rw [List.length_eq_zero_iff.1 h0] at hu
          simp at hu
        · refine ⟨⟨g, (i + 1) * 2, none⟩, by simp [h], fun w2 hw t u hu => ?_⟩
          rw [Addr.add_lit]
          exact (World.cell?_of_block (w := w) (a := ⟨g, (i + 1) * 2 + t, none⟩) hw).trans (hnews t u hu)
      have HNW := Lib.hid hsrc
      have HSL := Lib.hid hesl
      have hic : i ≤ cap := by omega
      obtain ⟨L, hL⟩ : ∃ L, L = m.length := ⟨_, rfl⟩
      rw [← hL] at h1 hm hcap HF HT HSL HDL ⊢
      clear h hc h2 h3 h4 hk hd hs2 ht2 hg2 hn2 hm2 hnews hsrc hesl hel hes hL
      have d0 : decide ((i : Int) < 0) = false := decide_eq_false (by omega)
      have hb0 : (i : Int) ≤ (L : Int) := by omega
      have hb1 : (i : Int) + 1 ≤ (L : Int) := by omega
      have hb2 : ((i : Int) + 1).toNat = i + 1 := by omega
      have tok1 : True := trivial
      go_enter Try.func15, Try.ntmps15
      go_wp2_with fail
      refine HF.out.mono ?_
      rintro e w' ⟨rfl, rfl⟩
      go_wp2_with (first
        | (at_builtin; have _t := tok1; refine wpList_append_rows rfl _ _ 41 rfl w.heap.size 53 i0 (.agg #[.int .u64 0, .int .i64 0]) 2 16 Try.underlying41 hi hz0 hz1 hz2 rfl (by decide) _ _ _ rfl (World.ownsRow_made w #[] 0 (Nat.le_refl _) (by unfold maxLen; omega) (by simp)) _ _ _ _ rfl (owns_take HT.out (by omega)) hone (by unfold maxLen; omega) (by omega) (by simp) ?_; intro v2 w2 hown hgrow hat; clear tok1; have hB2 := (below_alloc w _).grown hgrow (by simp) (fun q e => by cases e; exact Nat.le_refl _); have hn2 := HNW.out w2 (hB2.block g hg))
        | (at_builtin; refine Go.wpList_append_own_at _ rfl _ _ 41 rfl w.heap.size 53 i0 (.agg #[.int .u64 0, .int .i64 0]) 2 16 Try.underlying41 hi hz0 hz1 hz2 rfl (by decide) _ _ _ rfl hown A (L - (i + 1)) (cap - (i + 1)) _ rfl HSL.out hn2 hone2 (by unfold maxLen; omega) (by omega) hB2.size ?_; intro v3 w3 hown3 hgrow3 _ _))
      have hlt := hown.lt
      have HO := Lib.hid hown3
      have HB := Lib.hid (hB2.trans ((Below.refl w.heap.size w2).grown hgrow3 hB2.size (fun q e => (hlt q e).1)))
      clear hown hown3 hgrow hgrow3 hat hB2 hn2 hi hz0 hz1 hz2 hlt
      go_wp2_with fail
      go_ret2
      refine ⟨v3, rfl, ?_, HB.out, .inr fun q e => (HO.out.lt q e).1⟩
      have h1 := owns_base HO.out
      rw [Nat.zero_add, List.nil_append] at h1
      show World.ownsRow _ 0 53 2 _ _ _
      rw [HD.out, HDL.out, show L - 1 = i + (L - (i + 1)) from by omega]
      exact h1
end Go.Proofs.Ytkkaogdcodmpcaa
