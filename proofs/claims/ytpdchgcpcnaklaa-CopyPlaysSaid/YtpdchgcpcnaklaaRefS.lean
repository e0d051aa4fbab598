/- The document's memory: a stored byte, a stored state. -/
import Derived.Test.YtpdchgcpcnaklaaRefC
namespace Go.Proofs.Ytpdchgcpcnaklaa
open Go.RowKit
set_option linter.unusedVariables false

theorem ownsRow_at {w : World} {base e size g n cap : Nat} {xs : List Value} (h : w.ownsRow base e size (.slice (some ⟨g, 0, none⟩) n cap) n xs) : w.ownsRow g e size (.slice (some ⟨g, 0, none⟩) n cap) n xs := by
  refine ⟨h.1, ?_⟩
  rcases h.2 with ⟨h', _⟩ | ⟨g', cap', cur, h', _, hr⟩
  · simp at h'
  · simp only [Value.slice.injEq, Option.some.injEq, Addr.mk.injEq, and_true, true_and] at h'
    obtain ⟨rfl, rfl⟩ := h'
    exact .inr ⟨g, cap, cur, rfl, Nat.le_refl _, hr⟩
theorem rcells_setB {n : Nat} (f g : Nat → Int) (j : Nat) (v : Int) : (rcells n f g).set (j * 2) (.int .u8 v) = rcells n (fun q => if q = j then v else f q) g := by
  apply List.ext_getElem?
  intro i
  rw [List.getElem?_set, rcells_len]
  by_cases h : i < n * 2
  · by_cases e : j * 2 = i
    · subst e
      rw [if_pos rfl, if_pos h, rcells_b _ _ (by omega), if_pos rfl]
    · rw [if_neg e]
      simp only [rcells, List.getElem?_map, List.getElem?_range h, Option.map_some]
      by_cases p : i % 2 = 0
      · rw [if_pos p, if_pos p, if_neg (by omega)]
      · rw [if_neg p, if_neg p]
  · rw [List.getElem?_eq_none (by rw [rcells_len]; omega), List.getElem?_eq_none (by rw [rcells_len]; omega)]
    split <;> simp_all
theorem rcells_setS {n : Nat} (f g : Nat → Int) (j : Nat) (v : Int) : (rcells n f g).set (j * 2 + 1) (.int .i64 v) = rcells n f (fun q => if q = j then v else g q) := by
  apply List.ext_getElem?
  intro i
  rw [List.getElem?_set, rcells_len]
  by_cases h : i < n * 2
  · by_cases e : j * 2 + 1 = i
    · subst e
      rw [if_pos rfl, if_pos h, rcells_s _ _ (by omega), if_pos rfl]
    · rw [if_neg e]
      simp only [rcells, List.getElem?_map, List.getElem?_range h, Option.map_some]
      by_cases p : i % 2 = 0
      · rw [if_pos p, if_pos p]
      · rw [if_neg p, if_neg p, if_neg (by omega)]
  · rw [List.getElem?_eq_none (by rw [rcells_len]; omega), List.getElem?_eq_none (by rw [rcells_len]; omega)]
    split <;> simp_all
theorem RefAt.setB {w : World} {R c n : Nat} {f g : Nat → Int} (h : RefAt w R c n f g) (j : Nat) (v : Int) : RefAt (w.setCell ⟨R, j * 2, none⟩ (.int .u8 v)) R c n (fun q => if q = j then v else f q) g := by
  unfold RefAt; rw [← rcells_setB]; exact (World.ownsRow.stored h _ _).1
theorem RefAt.setS {w : World} {R c n : Nat} {f g : Nat → Int} (h : RefAt w R c n f g) (j : Nat) (v : Int) : RefAt (w.setCell ⟨R, j * 2 + 1, none⟩ (.int .i64 v)) R c n f (fun q => if q = j then v else g q) := by
  unfold RefAt; rw [← rcells_setS]; exact (World.ownsRow.stored h _ _).1
theorem RefAt.kept {w w' : World} {R c n : Nat} {f g : Nat → Int} (h : RefAt w R c n f g) {k : Nat} (b : Below k w w') (hR : R < k) : RefAt w' R c n f g := by
  refine ⟨h.1, ?_⟩
  rcases h.2 with ⟨h', _⟩ | ⟨g', cap', cur, h', hb, hg, hr⟩
  · simp at h'
  · simp only [Value.slice.injEq, Option.some.injEq, Addr.mk.injEq, and_true, true_and] at h'
    obtain ⟨rfl, rfl⟩ := h'
    exact .inr ⟨R, c, cur, rfl, Nat.le_refl _, (b.block R hR).trans hg, hr⟩
theorem RefAt.fr {w : World} {R c n : Nat} {f g : Nat → Int} (h : RefAt w R c n f g) (j : Nat) : w.frozen? ⟨R, j, none⟩ = false := World.ownsRow.frozenAt h j
end Go.Proofs.Ytpdchgcpcnaklaa
