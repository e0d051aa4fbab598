/- The document's buckets: Put, Del. -/
import Derived.Test.YtkkaogdcodmpcaaRef
import Derived.RangeFuncBox
namespace Go.Proofs.Ytkkaogdcodmpcaa
open Go.RowKit
set_option linter.unusedVariables false

theorem info53 : (Try.prog.info? 53).map (fun i => (i.zero, i.size, i.bytes)) = some (some (.agg #[.int .u64 0, .int .i64 0]), 2, 16) := by kernel_rfl
/-- the document's list behind a put -/
def rput (m : MI) (k v : Int) (room : Nat) : MI × Bool × Int := if 0 ≤ ridx m k then (upd1 m k v, true, 0) else if room ≤ m.length then (m, false, 3) else ((k, v) :: m, false, 0)
/-- a new list, or the old one -/
def RPut (w : World) (v : Value) (t : MI × Bool × Int) (e : Ending) (w' : World) : Prop := ∃ v', e = .returned (.tuple #[v', .bool t.2.1, .int .i64 t.2.2]) ∧ RL w' v' t.1 ∧ Below w.heap.size w w' ∧ (v' = v ∨ ∀ g, v'.ownBlock = some g → w.heap.size ≤ g)
theorem ecells_oneI (l : MI) : ∀ u ∈ ecells (Value.int .i64) l, u.oneCell' = true := ecells_one _ (fun _ => rfl) l
theorem new_of_at {w w1 : World} {v v' : Value} (h : v'.ownBlock = v.ownBlock ∨ v'.ownBlock = some w1.heap.size) (hv : ∀ g, v.ownBlock = some g → w.heap.size ≤ g) (hs : w.heap.size ≤ w1.heap.size) : ∀ g, v'.ownBlock = some g → w.heap.size ≤ g := fun g hg => by
  rcases h with h | h
  · exact hv g (by rw [← h]; exact hg)
  · rw [h] at hg; cases hg; exact hs

theorem below_alloc (w : World) (o : Obj) : Below w.heap.size w (w.alloc o) := (Below.refl _ _).alloc (Nat.le_refl _) o
theorem Below.heapAlloc (w : World) (o : Obj) : Below w.heap.size w (w.alloc o) := (Below.refl _ _).alloc (Nat.le_refl _) o
theorem owns_base {w : World} {base te size n : Nat} {v : Value} {xs : List Value} (h : w.ownsRow base te size v n xs) : w.ownsRow 0 te size v n xs :=
  ⟨h.1, h.2.imp id fun ⟨g, cap, cur, e, _, r⟩ => ⟨g, cap, cur, e, Nat.zero_le _, r⟩⟩
theorem owns_pos {w : World} {base te size n : Nat} {v : Value} {xs : List Value} (h : w.ownsRow base te size v n xs) (hn : 0 < n) : ∃ g cap, v = .slice (some ⟨g, 0, none⟩) n cap := by
  rcases h.2 with ⟨_, h0⟩ | ⟨g, cap, cur, e, _⟩
  · omega
  · exact ⟨g, cap, e⟩
theorem owns_one (w : World) (te : TypeId) (a b : Value) : (w.alloc (.cells #[a, b] te)).ownsRow w.heap.size te 2 (.slice (some ⟨w.heap.size, 0, none⟩) 1 1) 1 [a, b] :=
  ⟨rfl, .inr ⟨w.heap.size, 1, #[a, b], rfl, Nat.le_refl _, heap_alloc_new w _, Nat.le_refl _, by unfold maxLen; omega, rfl, rfl⟩⟩
theorem rl_new {w : World} {base : Nat} {v : Value} {k x : Int} {m : MI} (h : w.ownsRow base 53 2 v (1 + m.length) ([.int .u64 k, .int .i64 x] ++ ecells (Value.int .i64) m)) : RL w v ((k, x) :: m) := by
  have := owns_base h
  rw [Nat.add_comm] at this
  exact this

set_option maxRecDepth 100000 in
set_option maxHeartbeats 4000000 in
theorem refPut (m : MI) (k x : Int) (room : Nat) (v : Value) (w : World) (h : RL w v m) (hm : m.length ≤ 64) (hr : room ≤ 64) (hd : (m.map (·.1)).Nodup) : Calls Try.prog 13 #[v, .int .u64 k, .int .i64 x, .int .i64 room] w (RPut w v (rput m k x room)) := by
  have HF := refFind m k v w h hm
  obtain ⟨i0, hi, hz0, hz1, hz2⟩ := info_parts info53
  have HR := Lib.hid h
  rcases ridx_spec m k with ⟨h1, h2⟩ | ⟨i, u, h1, h2, h3, h4⟩
  · have hv : rput m k x room = if room ≤ m.length then (m, false, 3) else ((k, x) :: m, false, 0) := by unfold rput; rw [if_neg (by omega)]
    rw [hv]
    rw [h1] at HF
    replace HF := Lib.hid HF
    by_cases hf : room ≤ m.length
    · rw [if_pos hf]
      rcases h.cells with ⟨rfl, rfl⟩ | ⟨g, cap, rfl, hg, hcap, _, hc, _⟩
      · have hr0 : room = 0 := by simpa using hf
        subst hr0
        go_enter Try.func13, Try.ntmps13
        go_wp2_with fail
        refine HF.out.mono ?_
        rintro e w' ⟨rfl, rfl⟩
        go_wp2_with fail
        go_ret3
        exact ⟨_, rfl, HR.out, Below.refl _ _, .inl rfl⟩
      · have d1 : decide (room ≤ m.length) = true := decide_eq_true hf
        clear h hc
        go_enter Try.func13, Try.ntmps13
        go_wp2_with fail
        refine HF.out.mono ?_
        rintro e w' ⟨rfl, rfl⟩
        go_wp2_with fail
        go_ret3
        exact ⟨_, rfl, HR.out, Below.refl _ _, .inl rfl⟩
    · rw [if_neg hf]
      have d1 : decide (room ≤ m.length) = false := decide_eq_false hf
      have d2 : decide ((room : Int) ≤ (m.length : Int)) = false := decide_eq_false (by omega)
      have hml : m.length < 64 := by omega
      have ho := (HR.out.below (Below.heapAlloc w (.cells #[.int .u64 k, .int .i64 x] 53)))
      rcases h.cells with ⟨rfl, rfl⟩ | ⟨g, cap, rfl, hg, hcap, _, hc, _⟩
      · have hr0 : ¬ room = 0 := by simp at hf; exact hf
        have d3 : decide (room = 0) = false := decide_eq_false hr0
        have d4 : decide ((room : Int) ≤ 0) = false := decide_eq_false (by omega)
        have d5 : ((room : Int) ≤ 0) = False := by simp; omega
        clear h
        go_enter Try.func13, Try.ntmps13
        go_wp2_with fail
        refine HF.out.mono ?_
        rintro e w' ⟨rfl, rfl⟩
        go_wp2_with (at_builtin; refine wpList_append_rows rfl _ _ 41 rfl w.heap.size 53 i0 (.agg #[.int .u64 0, .int .i64 0]) 2 16 Try.underlying41 hi hz0 hz1 hz2 rfl (by decide) _ _ _ rfl (owns_one w 53 _ _) _ _ _ _ rfl ho (ecells_oneI _) (by unfold maxLen; simp) (by simp) (by simp) ?_; intro v2 w2 hown hgrow hat)
        have HO := Lib.hid hown
        have HG := Lib.hid hgrow
        clear hown hgrow ho
        go_wp2_with fail
        go_ret3
        exact ⟨v2, rfl, rl_new HO.out, (below_alloc _ _).grown HG.out (by simp) (fun q e => by cases e; exact Nat.le_refl _), .inr fun q e => (HO.out.lt q e).1⟩
      · clear h hc
        go_enter Try.func13, Try.ntmps13
        go_wp2_with fail
        refine HF.out.mono ?_
        rintro e w' ⟨rfl, rfl⟩
        go_wp2_with (at_builtin; refine wpList_append_rows rfl _ _ 41 rfl w.heap.size 53 i0 (.agg #[.int .u64 0, .int .i64 0]) 2 16 Try.underlying41 hi hz0 hz1 hz2 rfl (by decide) _ _ _ rfl (owns_one w 53 _ _) _ _ _ _ rfl ho (ecells_oneI _) (by unfold maxLen; omega) (by omega) (by simp) ?_; intro v2 w2 hown hgrow hat)
        have HO := Lib.hid hown
        have HG := Lib.hid hgrow
        clear hown hgrow ho
        go_wp2_with fail
        go_ret3
        exact ⟨v2, rfl, rl_new HO.out, (below_alloc _ _).grown HG.out (by simp) (fun q e => by cases e; exact Nat.le_refl _), .inr fun q e => (HO.out.lt q e).1⟩
  · have hv : rput m k x room = (upd1 m k x, true, 0) := by unfold rput; rw [if_pos (by omega)]
    rw [hv]
    rw [h2] at HF
    replace HF := Lib.hid HF
    rcases h.cells with ⟨rfl, rfl⟩ | ⟨g, cap, rfl, hg, hcap, _, hc, _⟩
    · simp at h1
    · have ho := (HR.out.below (Below.heapAlloc w (.cells #[] 53)))
      have HU := Lib.hid (show upd1 m k x = m.set i (k, x) from upd1_set hd h3)
      have HE := Lib.hid (ecells_set (Value.int .i64) x h3)
      have HUL := Lib.hid (upd1_len m k x)
      clear h hc h2 h3 h4 hv
      obtain ⟨L, hL⟩ : ∃ L, L = m.length := ⟨_, rfl⟩
      have HLL := Lib.hid hL
      unfold RL at ho
      rw [← hL] at h1 hm hcap HF ho ⊢
      clear hL
      have hbi : (i : Int) < (L : Int) := by omega
      go_enter Try.func13, Try.ntmps13
      go_wp2_with fail
      refine HF.out.mono ?_
      rintro e w' ⟨rfl, rfl⟩
      go_wp2_with (at_builtin; refine wpList_append_rows rfl _ _ 41 rfl w.heap.size 53 i0 (.agg #[.int .u64 0, .int .i64 0]) 2 16 Try.underlying41 hi hz0 hz1 hz2 rfl (by decide) _ _ _ rfl (World.ownsRow_made w #[] 0 (Nat.le_refl _) (by unfold maxLen; omega) (by simp)) _ _ _ _ rfl ho (ecells_oneI _) (by unfold maxLen; omega) (by omega) (by simp) ?_; intro v2 w2 hown hgrow hat; rw [Nat.zero_add, List.nil_append] at hown; obtain ⟨g2, cap2, rfl⟩ := owns_pos hown (by omega); have hlt := (hown.lt g2 rfl); have hrs := row_set (j := i * 2 + 1) (x := .int .i64 x) hown (by omega); obtain ⟨cur, hg2, hn2, hm2, hs2, ht2⟩ := owns_some hown; have c1 : (w2.cell? ⟨g2, i * 2 + 1, none⟩).isSome = true := (by rw [Go.Joins.cell_of_block hg2, Array.getElem?_eq_getElem (by rw [hs2]; omega)]; rfl); obtain ⟨cv, c2⟩ := Option.isSome_iff_exists.1 c1; have f2 := Go.Joins.unfrozen_of_block hg2 (i * 2 + 1))
      have HO := Lib.hid hrs
      have HB := Lib.hid ((below_alloc w _).grown hgrow (by simp) (fun q e => by cases e; exact Nat.le_refl _))
      clear hown hgrow ho hrs hg2 hs2 ht2 c1 hat hi hz0 hz1 hz2
      go_wp2_with fail
      go_ret3
      refine ⟨_, rfl, ?_, HB.out.setCell (p := ⟨g2, i * 2 + 1, none⟩) hlt.1 _, .inr fun q e => by simp [Value.ownBlock] at e; omega⟩
      show World.ownsRow _ 0 53 2 _ (upd1 m k x).length (ecells _ (upd1 m k x))
      rw [HUL.out, HU.out, HE.out, ← HLL.out]
      exact owns_base HO.out
end Go.Proofs.Ytkkaogdcodmpcaa
