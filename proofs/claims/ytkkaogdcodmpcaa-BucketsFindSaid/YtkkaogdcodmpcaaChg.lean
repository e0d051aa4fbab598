/- Buckets: what a change of a table leaves; plain facts on lists. -/
import Derived.Test.YtkkaogdcodmpcaaApp
namespace Go.Proofs.Ytkkaogdcodmpcaa
open Go.RowKit
set_option linter.unusedVariables false

/-- writes to the blocks of O, and new blocks -/
structure Chg (w w' : World) (O : Nat → Prop) : Prop where
  os : w'.os = w.os
  tape : w'.tape = w.tape
  output : w'.output = w.output
  size : w.heap.size ≤ w'.heap.size
  block : ∀ k, k < w.heap.size → ¬ O k → w'.heap[k]? = w.heap[k]?
theorem Chg.of {w w' : World} {O : Nat → Prop} (h : Below w.heap.size w w') : Chg w w' O := ⟨h.os, h.tape, h.output, h.size, fun k hk _ => h.block k hk⟩
theorem Chg.grown {w w' : World} {O : Nat → Prop} {r : Option Nat} (h : w.grownBy w' r) (hr : ∀ k, r = some k → O k) : Chg w w' O := ⟨h.os, h.tape, h.output, h.size, fun k hk ho => h.block k hk (fun e => ho (hr k e.symm))⟩
theorem Chg.trans {a b c : World} {O O' : Nat → Prop} (h : Chg a b O) (g : Chg b c O') (hO : ∀ k, O' k → O k ∨ a.heap.size ≤ k) : Chg a c O :=
  ⟨g.os.trans h.os, g.tape.trans h.tape, g.output.trans h.output, Nat.le_trans h.size g.size, fun k hk ho => (g.block k (Nat.lt_of_lt_of_le hk h.size) (fun e => (hO k e).elim ho (by omega))).trans (h.block k hk ho)⟩
theorem Chg.below {w w' : World} {O : Nat → Prop} {B : Nat} (h : Chg w w' O) (hO : ∀ k, O k → B ≤ k) (hB : B ≤ w.heap.size) : Below B w w' := ⟨h.os, h.tape, h.output, h.size, fun k hk => h.block k (by omega) (fun o => by have := hO k o; omega)⟩
/-- what a change of a table leaves -/
structure Step (w w' : World) (T G nb : Nat) (ch ch' : Nat → Value) : Prop where
  chg : Chg w w' (Mine T G nb ch)
  mine : ∀ k, Mine T G nb ch' k → Mine T G nb ch k ∨ w.heap.size ≤ k
theorem Step.refl {w w' : World} {T G nb : Nat} {ch : Nat → Value} (h : Below w.heap.size w w') : Step w w' T G nb ch ch := ⟨.of h, fun _ h => .inl h⟩
theorem Step.trans {a b c : World} {T G nb : Nat} {ch ch' ch'' : Nat → Value} (h : Step a b T G nb ch ch') (g : Step b c T G nb ch' ch'') : Step a c T G nb ch ch'' :=
  ⟨h.chg.trans g.chg h.mine, fun k hk => (g.mine k hk).elim (h.mine k) (fun h' => .inr (Nat.le_trans h.chg.size h'))⟩

variable {β : Type} {enc : β → Value} {tt te ts : TypeId} {w : World} {T G nb room : Nat} {m : List (Int × β)} {ch : Nat → Value}
theorem Tab.nTG (h : Tab enc tt te ts w T G nb room m ch) (hne : tt ≠ ts) : T ≠ G := by
  rintro rfl
  have h1 := h.top
  rw [h.row] at h1
  simp at h1
  exact hne h1.2.symm
theorem own_not {base n size k : Nat} {v : Value} {xs : List Value} {cs : Array Value} {t e : TypeId} {fr : Nat × Nat} (h : w.ownsRow base e size v n xs) (hk : w.heap[k]? = some (.cells cs t fr)) (hne : t ≠ e) : v.ownBlock ≠ some k := by
  rcases h.2 with ⟨rfl, _⟩ | ⟨g, cap, cur, rfl, _, hg, _⟩
  · simp [Value.ownBlock]
  · intro e'
    obtain rfl : g = k := by simpa [Value.ownBlock] using e'
    rw [hk] at hg
    simp at hg
    exact hne hg.2.1
theorem Tab.nT (h : Tab enc tt te ts w T G nb room m ch) (hne : tt ≠ te) {b : Nat} (hb : b < nb) : (ch b).ownBlock ≠ some T := own_not (h.own b hb) h.top hne
theorem Tab.nG (h : Tab enc tt te ts w T G nb room m ch) (hne : ts ≠ te) {b : Nat} (hb : b < nb) : (ch b).ownBlock ≠ some G := own_not (h.own b hb) h.row hne

theorem chn_cons (e : Int × β) (m : List (Int × β)) (nb b : Nat) : chn (e :: m) nb b = if bkt e.1 nb = b then e :: chn m nb b else chn m nb b := by
  unfold chn
  by_cases h : bkt e.1 nb = b
  · rw [if_pos h]; simp [h]
  · rw [if_neg h]; simp [h]
theorem ecells_append (enc : β → Value) (l l' : List (Int × β)) : ecells enc (l ++ l') = ecells enc l ++ ecells enc l' := by simp [ecells]
/-- one bucket's chain, another value -/
def upd (ch : Nat → Value) (b : Nat) (v : Value) : Nat → Value := fun c => if c = b then v else ch c
theorem upd_same (ch : Nat → Value) (b : Nat) (v : Value) : upd ch b v b = v := if_pos rfl
theorem upd_other (ch : Nat → Value) {b c : Nat} (v : Value) (h : c ≠ b) : upd ch b v c = ch c := if_neg h
theorem range_upd (ch : Nat → Value) (nb b : Nat) (v : Value) : (((List.range nb).map ch).toArray.setIfInBounds b v) = ((List.range nb).map (upd ch b v)).toArray := by
  apply Array.ext
  · simp
  · intro i h1 h2
    by_cases h : b = i
    · subst h; simp [upd]
    · simp only [List.setIfInBounds_toArray, List.getElem_toArray, List.getElem_map, List.getElem_range]
      rw [List.getElem_set_ne h, upd_other _ _ (fun e => h e.symm)]
      simp

/-- a table whose chain of one bucket is another slice now, and its count another -/
theorem Tab.swap {w' : World} {m' : List (Int × β)} {b : Nat} {v : Value} (h : Tab enc tt te ts w T G nb room m ch) (hT : w'.heap[T]? = some (.cells #[.slice (some ⟨G, 0, none⟩) nb nb, .int .i64 room, .int .i64 m'.length] tt (0, 0))) (hG : w'.heap[G]? = some (.cells ((List.range nb).map (upd ch b v)).toArray ts (0, 0)))
    (hb : b < nb) (ho : w'.ownsRow 0 te 2 v (chn m' nb b).length (ecells enc (chn m' nb b).reverse)) (hv : ∀ g, v.ownBlock = some g → (ch b).ownBlock = some g ∨ w.heap.size ≤ g)
    (hsame : ∀ c, c < nb → c ≠ b → chn m' nb c = chn m nb c) (hblk : ∀ k, k < w.heap.size → k ≠ T → k ≠ G → (ch b).ownBlock ≠ some k → w'.heap[k]? = w.heap[k]?) (hn : m'.length ≤ room) (hnd : (m'.map (·.1)).Nodup) (h1 : tt ≠ te) (h2 : ts ≠ te) :
    Tab enc tt te ts w' T G nb room m' (upd ch b v) := by
  refine ⟨hT, hG, fun c hc => ?_, fun c hc d hd hcd => ?_, h.lo, h.hi, h.rm, hn, hnd⟩
  · by_cases e : c = b
    · subst e; rw [upd_same]; exact ho
    · rw [upd_other _ _ e, hsame c hc e]
      have hoc := h.own c hc
      refine ⟨hoc.1, ?_⟩
      rcases hoc.2 with hn' | ⟨g, cap, cur, e1, hb', hg, rest⟩
      · exact .inl hn'
      · refine .inr ⟨g, cap, cur, e1, hb', (hblk g (Array.getElem?_eq_some_iff.1 hg).1 ?_ ?_ ?_).trans hg, rest⟩
        · rintro rfl; exact h.nT h1 hc (by rw [e1]; rfl)
        · rintro rfl; exact h.nG h2 hc (by rw [e1]; rfl)
        · intro e2
          rcases h.apart c hc b hb e with h' | h'
          · rw [e1] at h'; simp [Value.ownBlock] at h'
          · rw [e1, e2] at h'; simp [Value.ownBlock] at h'
  · have key : ∀ c, c < nb → c ≠ b → (ch c).ownBlock = none ∨ (ch c).ownBlock ≠ v.ownBlock := by
      intro c hc e
      cases hv' : v.ownBlock with
      | none => cases (ch c).ownBlock <;> simp
      | some g =>
        rcases hv g hv' with h' | h'
        · rw [← h']; exact h.apart c hc b hb e
        · right
          intro e2
          have := ((h.own c hc).lt g e2).2
          omega
    by_cases e : c = b
    · subst e
      rw [upd_same, upd_other _ _ (fun e => hcd e.symm)]
      rcases key d hd (fun e => hcd e.symm) with h' | h'
      · by_cases hz : v.ownBlock = none
        · exact .inl hz
        · right; rw [h']; exact hz
      · exact .inr (fun e2 => h' e2.symm)
    · rw [upd_other _ _ e]
      by_cases e' : d = b
      · subst e'; rw [upd_same]; exact key c hc e
      · rw [upd_other _ _ e']; exact h.apart c hc d hd hcd
theorem step_swap {w' : World} {b : Nat} {v : Value} (hb : b < nb) (hc : Chg w w' (Mine T G nb ch)) (hv : ∀ g, v.ownBlock = some g → (ch b).ownBlock = some g ∨ w.heap.size ≤ g) : Step w w' T G nb ch (upd ch b v) := by
  refine ⟨hc, fun k hk => ?_⟩
  rcases hk with rfl | rfl | ⟨c, hc', e⟩
  · exact .inl (.inl rfl)
  · exact .inl (.inr (.inl rfl))
  · by_cases e' : c = b
    · subst e'
      rw [upd_same] at e
      exact (hv k e).imp (fun h => .inr (.inr ⟨c, hb, h⟩)) id
    · rw [upd_other _ _ e'] at e
      exact .inl (.inr (.inr ⟨c, hc', e⟩))
end Go.Proofs.Ytkkaogdcodmpcaa
