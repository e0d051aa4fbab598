/- append onto a row of the call's own, of a row that reads as one; chains joined. -/
import Derived.Test.YtkkaogdcodmpcaaTab
import Derived.Maps.AppendAt
import Derived.Laws.AppendOwnNone
namespace Go.Proofs.Ytkkaogdcodmpcaa
open Go.RowKit
set_option linter.unusedVariables false

theorem wpList_append_rows {P : Program} {w : World} {ops : Array Oper} {rest : List Oper} {o : Oper} {a : Act} {Q : Exit → Act → World → Prop} (hgd : o.guard = none) (s x : Operand) (t : TypeId)
    (ho : o.op = .call { callee := .builtin .append, args := #[s, x], argTypes := #[t, t] })
    (base : Nat) (e : TypeId) (i : TypeInfo) (z : Value) (size bytes : Nat) (ht : P.underlying t = some (.slice e)) (hi : P.info? e = some i) (hz : i.zero = some z)
    (hsize : i.size = size) (hby : i.bytes = bytes) (hzs : z.cells.size = size) (hsz : 0 < size)
    (v : Value) (n : Nat) (xs : List Value) (hs : a.eval s = v) (hown : w.ownsRow base e size v n xs)
    (sv : Value) (base2 m : Nat) (ys : List Value) (hx : a.eval x = sv) (hsrc : w.ownsRow base2 e size sv m ys) (h1 : ∀ u ∈ ys, u.oneCell' = true)
    (h63 : n + m ≤ maxLen) (hbytes : (n + m) * bytes ≤ 140737488355328) (hbase : base ≤ w.heap.size)
    (h : ∀ v' w', w'.ownsRow base e size v' (n + m) (xs ++ ys) → w.grownBy w' v.ownBlock → (v'.ownBlock = v.ownBlock ∨ v'.ownBlock = some w.heap.size) → wpList P ops Q rest (a.put o.dst v') w') :
    wpList P ops Q (o :: rest) a w := by
  have hl := hsrc.1
  rcases hsrc.2 with ⟨rfl, h0⟩ | ⟨g, cap, cur, rfl, hb, hg, hn, hm, hss, htk⟩
  · subst h0
    have hy : ys = [] := List.eq_nil_of_length_eq_zero (by simpa using hl)
    subst hy
    refine wpList_append_own_none hgd s x t ho base e i size ht hi v n xs hs hown hx ?_
    exact h v w (by simpa using hown) (World.grownBy.refl w _) (.inl rfl)
  · refine Go.wpList_append_own_at w hgd s x t ho base e i z size bytes ht hi hz hsize hby hzs hsz v n xs hs hown ⟨g, 0, none⟩ m cap ys hx hl ?_ h1 h63 hbytes hbase (fun v' w' a1 a2 _ a3 => h v' w' a1 a2 a3)
    intro j u hu
    rw [← htk] at hu
    have hj : j < m * size := by
      have := (List.getElem?_eq_some_iff.1 hu).1
      rw [List.length_take] at this
      omega
    rw [List.getElem?_take_of_lt hj] at hu
    have ha : (⟨g, 0, none⟩ : Addr).add j = ⟨g, j, none⟩ := by unfold Addr.add; split <;> simp_all
    rw [ha]
    simp only [World.cell?, hg]
    simpa using hu
theorem words_one (l : List Int) : ∀ u ∈ l.map (Value.int .u64), u.oneCell' = true := by
  intro u hu
  obtain ⟨x, _, rfl⟩ := List.mem_map.1 hu
  rfl
/-- the chains of the first so many buckets, joined -/
def allKeys {β : Type} (m : List (Int × β)) (nb j : Nat) : List Int := (List.range j).flatMap fun b => (chn m nb b).map (·.1)
theorem allKeys_succ {β : Type} (m : List (Int × β)) (nb j : Nat) : allKeys m nb (j + 1) = allKeys m nb j ++ (chn m nb j).map (·.1) := by simp [allKeys, List.range_succ]
theorem allKeys_bd {β : Type} (m : List (Int × β)) (nb j : Nat) (h : ∀ b, (chn m nb b).length ≤ 64) : (allKeys m nb j).length ≤ j * 64 := by
  induction j with
  | zero => simp [allKeys]
  | succ j ih => rw [allKeys_succ, List.length_append, List.length_map]; have := h j; omega
theorem _root_.Go.RowKit.Below.grownNone {w w' : World} (h : Below w.heap.size w w') : w.grownBy w' none := ⟨h.os, h.tape, h.output, h.size, fun k hk _ => h.block k hk⟩
theorem own_ne_none (v : Value) : v.ownBlock = none ∨ v.ownBlock ≠ none := by cases v.ownBlock <;> simp
theorem made_is (v : Value) (n : Nat) : madeCells #[v] n = ((List.range n).map fun _ => v).toArray := by
  unfold madeCells
  apply Array.ext
  · simp
  · intro i h1 h2
    simp [Nat.mod_one]
theorem tab_new {β : Type} {enc : β → Value} {tt te ts : TypeId} {w : World} {nb room : Nat} (h1 : (1 : Int) ≤ nb) (h2 : (nb : Int) ≤ 64) (h3 : (1 : Int) ≤ room) (h4 : (room : Int) ≤ 64) :
    Tab enc tt te ts ((w.alloc (.cells (madeCells #[.slice none 0 0] nb) ts)).alloc (.cells #[.slice (some ⟨w.heap.size, 0, none⟩) nb nb, .int .i64 room, .int .i64 0] tt)) (w.heap.size + 1) w.heap.size nb room ([] : List (Int × β)) fun _ => .slice none 0 0 := by
  have hs : (w.alloc (.cells (madeCells #[.slice none 0 0] nb) ts)).heap.size = w.heap.size + 1 := by simp
  refine ⟨?_, ?_, fun b hb => ?_, fun b _ c _ _ => .inl rfl, by omega, by omega, by omega, by simp, by simp⟩
  · have h := heap_alloc_new (w.alloc (.cells (madeCells #[.slice none 0 0] nb) ts)) (.cells #[.slice (some ⟨w.heap.size, 0, none⟩) nb nb, .int .i64 room, .int .i64 0] tt)
    rw [hs] at h
    exact h
  · rw [Below.heap_alloc _ _ _ (by rw [hs]; omega), heap_alloc_new, made_is]
  · exact World.ownsRow_nil _ _ _ _
theorem mine_new (nb s k : Nat) : Mine (s + 1) s nb (fun _ => .slice none 0 0) k → s ≤ k := by
  rintro (rfl | rfl | ⟨b, hb, e⟩)
  · omega
  · omega
  · simp [Value.ownBlock] at e
theorem info83 : (Try.prog.info? 83).map (fun i => (i.zero, i.size, i.bytes)) = some (some (.slice none 0 0), 1, 24) := by kernel_rfl
theorem info76 : (Try.prog.info? 76).map (fun i => (i.zero, i.size, i.bytes)) = some (some (.slice none 0 0), 1, 24) := by kernel_rfl
theorem info94 : (Try.prog.info? 94).map (fun i => (i.zero, i.size, i.bytes)) = some (some (.slice none 0 0), 1, 24) := by kernel_rfl
end Go.Proofs.Ytkkaogdcodmpcaa
