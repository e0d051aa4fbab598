/- Buckets: an entry is deleted. (Int) -/
import Derived.Test.YtkkaogdcodmpcaaPtI
import Derived.Test.YtkkaogdcodmpcaaErs
import Derived.Deep.RegionLaw
namespace Go.Proofs.Ytkkaogdcodmpcaa
open Go.RowKit
set_option linter.unusedVariables false

set_option maxRecDepth 1000000 in
set_option maxHeartbeats 4000000 in
/-- an entry is deleted out of a row -/
theorem Idelete (g n cap i : Nat) (l : List (Int × Int)) (w : World) (hl : l.length = n) (hn : n ≤ 64) (hi : i < n) (hown : w.ownsRow 0 82 2 (.slice (some ⟨g, 0, none⟩) n cap) n (ecells (Value.int .i64) l)) :
    Calls Try.prog 38 #[.slice (some ⟨g, 0, none⟩) n cap, .int .i64 i, .int .i64 ((i : Int) + 1)] w fun e w' => e = .returned (.slice (some ⟨g, 0, none⟩) (n - 1) cap) ∧ w'.ownsRow 0 82 2 (.slice (some ⟨g, 0, none⟩) (n - 1) cap) (n - 1) (ecells (Value.int .i64) (l.eraseIdx i)) ∧ w.grownBy w' (some g) := by
  obtain ⟨i0, hi0, hz0, hz1, hz2⟩ := info_parts info82
  obtain ⟨cur, hg, hcap, hm, hs, ht⟩ := owns_some hown
  have hm' : cap ≤ 9223372036854775807 := hm
  have hel : (ecells (Value.int .i64) l).length = n * 2 := by rw [ecells_len, hl]
  obtain ⟨news, hnews⟩ : ∃ news, news = (ecells (Value.int .i64) l).drop ((i + 1) * 2) := ⟨_, rfl⟩
  have hnl : news.length = (n - (i + 1)) * 2 := by rw [hnews, List.length_drop, hel]; omega
  have hcur : ∀ t, t < n * 2 → cur[t]? = (ecells (Value.int .i64) l)[t]? := fun t h => by rw [← ht, List.getElem?_take_of_lt h]; simp
  obtain ⟨A, hA, hsrc⟩ : ∃ A : Addr, (if cap = i + 1 then some (⟨g, 0, none⟩ : Addr) else some ⟨g, (i + 1) * 2, none⟩) = some A ∧ Hid (∀ t u, news[t]? = some u → w.drew.cell? (A.add t) = some u) := by
    by_cases h : cap = i + 1
    · refine ⟨⟨g, 0, none⟩, by simp [h], fun t u hu => ?_⟩
      have h0 : news.length = 0 := by rw [hnl]; omega
      rw [List.length_eq_zero_iff.1 h0] at hu
      simp at hu
    · refine ⟨⟨g, (i + 1) * 2, none⟩, by simp [h], fun t u hu => ?_⟩
      have htl := (List.getElem?_eq_some_iff.1 hu).1
      rw [hnews, List.getElem?_drop] at hu
      rw [Addr.add_lit]
      show w.cell? ⟨g, (i + 1) * 2 + t, none⟩ = some u
      rw [Go.Joins.cell_of_block hg, hcur _ (by omega)]
      exact hu
  have s1 := Lib.hid hnl
  have s2 : Hid (∀ u ∈ news, u.oneCell' = true) := fun u hu => ecells_one (Value.int .i64) (fun x => by rfl) l u (by rw [hnews] at hu; exact List.mem_of_mem_drop hu)
  have s3 : Hid (∀ t, t < news.length → (w.drew.cell? ⟨g, 0 + i * 2 + t, none⟩).isSome = true ∧ w.drew.frozen? ⟨g, 0 + i * 2 + t, none⟩ = false) := fun t h => by
    rw [hnl] at h
    refine ⟨?_, ?_⟩
    · show (w.cell? ⟨g, 0 + i * 2 + t, none⟩).isSome = true
      rw [Go.Joins.cell_of_block hg, Array.getElem?_eq_getElem (by rw [hs]; omega)]; rfl
    · exact Go.Joins.unfrozen_of_block hg _
  obtain ⟨W1, hW1⟩ : ∃ W1, W1 = w.drew.setCells g (0 + i * 2) news := ⟨_, rfl⟩
  have hg1 : W1.heap[g]? = some (.cells (layA cur (0 + i * 2) news) 82 (0, 0)) := by rw [hW1]; exact block_setCells (w := w.drew) hg news _
  have hgr1 : w.grownBy W1 (some g) := by
    rw [hW1]
    have h := grown_setCells w.drew g (0 + i * 2) news
    exact ⟨h.os, h.tape, h.output, h.size, h.block⟩
  obtain ⟨W2, hW2⟩ : ∃ W2, W2 = W1.setCells g ((i + (n - (i + 1))) * 2) [.int .u64 0, (.int .i64 0)] := ⟨_, rfl⟩
  have hcl : ∀ ty, (Builtin.clear_ #[83] ty #[.slice (some ⟨g, (i + (n - (i + 1))) * 2, none⟩) (n - (i + (n - (i + 1)))) (cap - (i + (n - (i + 1))))]).run Try.prog W1 = .ok (.tuple #[]) W2 := fun ty => by
    rw [show n - (i + (n - (i + 1))) = 1 from by omega, hW2]
    exact run_clear_one W1 83 82 ty (.agg #[.int .u64 0, (.int .i64 0)]) Try.underlying83 (fun w => by kernel_rfl) _ rfl (by intro u hu; simp at hu; rcases hu with rfl | rfl <;> rfl) g _ _ (fun t h => by
      rw [Go.Joins.cell_of_block hg1, Array.getElem?_eq_getElem (by rw [layA_size, hs]; simp at h; omega)]; rfl) (fun t _ => Go.Joins.unfrozen_of_block hg1 _)
  have hfin : W2.ownsRow 0 82 2 (.slice (some ⟨g, 0, none⟩) (n - 1) cap) (n - 1) (ecells (Value.int .i64) (l.eraseIdx i)) := by
    rw [hW2, show (i + (n - (i + 1))) = n - 1 from by omega]
    exact erased (n := n) hl hi hcap hm hs ht hnews (by rw [Nat.zero_add] at hg1; exact hg1)
  have hgr2 : w.grownBy W2 (some g) := by rw [hW2]; exact grown_trans hgr1 (grown_setCells W1 g _ _)
  have HF := Lib.hid hfin
  have HG := Lib.hid hgr2
  have HW := Lib.hid hW1
  have hic : i ≤ cap := by omega
  have hwr : IntKind.i64.wrap ((i : Int) + 1) = (i : Int) + 1 := by rw [IntKind.wrap_i64]; omega
  have hp0 : (0 : Int) ≤ (i : Int) + 1 := by omega
  have hp1 : (i : Int) + 1 ≤ (n : Int) := by omega
  have hp2 : ((i : Int) + 1).toNat = i + 1 := by omega
  have hp3 : ((i : Int) == (i : Int) + 1) = false := beq_eq_false_iff_ne.2 (by omega)
  have hp4 : i + (n - (i + 1)) ≤ n := by omega
  have hp5 : i + (n - (i + 1)) < cap := by omega
  clear hown hg ht hs hnl hel hnews hcur hW1 hW2 hg1 hgr1 hfin hgr2 hl
  go_enter Try.func38, Try.ntmps38
  go_wp2_with fail
  go_region_law (refine step_append_room rfl (.tmp 22) (.tmp 25) 83 rfl 82 i0 2 Try.underlying83 hi0 hz1 g 0 i cap (by simp [Act.eval, Act.put]) A (n - (i + 1)) (cap - (i + 1)) news (by simp [Act.eval, Act.put]) s1.out hsrc.out s2.out (by omega) s3.out ?_; rw [← HW.out])
  go_wp2_with fail
  go_ret
  exact ⟨by rw [show i + (n - (i + 1)) = n - 1 from by omega]; rfl, HF.out, HG.out⟩

end Go.Proofs.Ytkkaogdcodmpcaa
