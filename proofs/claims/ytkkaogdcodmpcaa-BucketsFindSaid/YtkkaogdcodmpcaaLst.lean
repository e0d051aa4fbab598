/- Buckets: plain facts on a list of keys with values. -/
import Derived.Test.YtkkaogdcodmpcaaChg
import Derived.Lib.SmallJoins
namespace Go.Proofs.Ytkkaogdcodmpcaa
open Go.RowKit
set_option linter.unusedVariables false
variable {β : Type} {enc : β → Value} {tt te ts : TypeId} {w : World} {T G nb room : Nat} {m : List (Int × β)} {ch : Nat → Value}

theorem fnd_spec (r : List (Int × β)) (k : Int) : (fnd r k = -1 ∧ ∀ e ∈ r, e.1 ≠ k) ∨ ∃ i v, i < r.length ∧ fnd r k = (i : Nat) ∧ r.reverse[i]? = some (k, v) := by
  induction r with
  | nil => exact .inl ⟨rfl, by simp⟩
  | cons e r ih =>
    unfold fnd
    by_cases h : e.1 = k
    · rw [if_pos h]
      refine .inr ⟨r.length, e.2, by simp, rfl, ?_⟩
      rw [List.reverse_cons, List.getElem?_append_right (by simp)]
      simp [← h]
    · rw [if_neg h]
      rcases ih with ⟨h1, h2⟩ | ⟨i, v, h1, h2, h3⟩
      · exact .inl ⟨h1, fun a ha => by rcases List.mem_cons.1 ha with rfl | ha; exact h; exact h2 a ha⟩
      · refine .inr ⟨i, v, by simp; omega, h2, ?_⟩
        rw [List.reverse_cons, List.getElem?_append_left (by simpa using h1)]
        exact h3
/-- has it the key? -/
def has (m : List (Int × β)) (k : Int) : Prop := ∃ v, (k, v) ∈ m
theorem mem_chn {m : List (Int × β)} {nb b : Nat} {e : Int × β} : e ∈ chn m nb b ↔ e ∈ m ∧ bkt e.1 nb = b := by simp [chn]
theorem fnd_no {k : Int} (h : ¬ has m k) (nb : Nat) : fnd (chn m nb (bkt k nb)) k = -1 := by
  rcases fnd_spec (chn m nb (bkt k nb)) k with ⟨h1, _⟩ | ⟨i, v, _, _, h3⟩
  · exact h1
  · exact absurd ⟨v, (mem_chn.1 (by have := List.mem_of_getElem? h3; simpa using this)).1⟩ h
theorem key_uniq {m : List (Int × β)} {k : Int} {u v : β} (hd : (m.map (·.1)).Nodup) (h1 : (k, u) ∈ m) (h2 : (k, v) ∈ m) : u = v := by
  induction m with
  | nil => simp at h1
  | cons e m ih =>
    simp only [List.map_cons, List.nodup_cons, List.mem_map, not_exists, not_and] at hd
    rcases List.mem_cons.1 h1 with e1 | g1 <;> rcases List.mem_cons.1 h2 with e2 | g2
    · rw [← e1] at e2; exact (Prod.mk.inj e2).2.symm
    · exact absurd (by rw [← e1]) (hd.1 _ g2)
    · exact absurd (by rw [← e2]) (hd.1 _ g1)
    · exact ih hd.2 g1 g2
theorem fnd_yes {k : Int} {v : β} (h : (k, v) ∈ m) (hd : (m.map (·.1)).Nodup) (nb : Nat) : ∃ i, i < (chn m nb (bkt k nb)).length ∧ fnd (chn m nb (bkt k nb)) k = (i : Nat) ∧ (chn m nb (bkt k nb)).reverse[i]? = some (k, v) := by
  have hm : (k, v) ∈ chn m nb (bkt k nb) := mem_chn.2 ⟨h, rfl⟩
  rcases fnd_spec (chn m nb (bkt k nb)) k with ⟨_, h2⟩ | ⟨i, v', h1, h2, h3⟩
  · exact absurd rfl (h2 _ hm)
  · refine ⟨i, h1, h2, ?_⟩
    have hm' : (k, v') ∈ m := (mem_chn.1 (by have := List.mem_of_getElem? h3; simpa using this)).1
    rw [h3]
    have : v' = v := key_uniq hd hm' h
    rw [this]
/-- a key's value, another -/
def upd1 (m : List (Int × β)) (k : Int) (v : β) : List (Int × β) := m.map fun e => if e.1 = k then (k, v) else e

theorem upd1_keys (m : List (Int × β)) (k : Int) (v : β) : (upd1 m k v).map (·.1) = m.map (·.1) := by
  induction m with
  | nil => rfl
  | cons e m ih =>
    simp only [upd1, List.map_cons] at *
    rw [ih]
    by_cases h : e.1 = k
    · rw [if_pos h, h]
    · rw [if_neg h]
theorem upd1_len (m : List (Int × β)) (k : Int) (v : β) : (upd1 m k v).length = m.length := by simp [upd1]
theorem chn_upd1 (m : List (Int × β)) (k : Int) (v : β) (nb b : Nat) : chn (upd1 m k v) nb b = upd1 (chn m nb b) k v := by
  induction m with
  | nil => rfl
  | cons e m ih =>
    have hc : upd1 (e :: m) k v = (if e.1 = k then (k, v) else e) :: upd1 m k v := rfl
    rw [hc, chn_cons, chn_cons, ih]
    by_cases h : e.1 = k
    · rw [if_pos h, h]
      by_cases hb : bkt k nb = b
      · rw [if_pos hb, if_pos hb]
        show _ = (if e.1 = k then (k, v) else e) :: upd1 (chn m nb b) k v
        rw [if_pos h]
      · rw [if_neg hb, if_neg hb]
    · rw [if_neg h]
      by_cases hb : bkt e.1 nb = b
      · rw [if_pos hb, if_pos hb]
        show _ = (if e.1 = k then (k, v) else e) :: upd1 (chn m nb b) k v
        rw [if_neg h]
      · rw [if_neg hb, if_neg hb]
theorem upd1_other {l : List (Int × β)} {k : Int} {v : β} (h : ∀ e ∈ l, e.1 ≠ k) : upd1 l k v = l := by
  induction l with
  | nil => rfl
  | cons e l ih =>
    show (if e.1 = k then (k, v) else e) :: upd1 l k v = _
    rw [if_neg (h e (by simp)), ih (fun x hx => h x (by simp [hx]))]
theorem chn_upd1_other (m : List (Int × β)) (k : Int) (v : β) {nb b : Nat} (h : b ≠ bkt k nb) : chn (upd1 m k v) nb b = chn m nb b := by
  rw [chn_upd1, upd1_other]
  intro e he hk
  have := (mem_chn.1 he).2
  rw [hk] at this
  exact h this.symm
theorem upd1_set {l : List (Int × β)} {k : Int} {u v : β} {i : Nat} (hd : (l.map (·.1)).Nodup) (h : l[i]? = some (k, u)) : upd1 l k v = l.set i (k, v) := by
  induction l generalizing i with
  | nil => simp at h
  | cons e l ih =>
    simp only [List.map_cons, List.nodup_cons, List.mem_map, not_exists, not_and] at hd
    show (if e.1 = k then (k, v) else e) :: upd1 l k v = _
    cases i with
    | zero =>
      simp at h
      subst h
      rw [if_pos rfl, upd1_other (fun x hx e => hd.1 x hx e)]
      rfl
    | succ i =>
      simp at h
      have hm := List.mem_of_getElem? h
      rw [if_neg (fun e => hd.1 _ hm e.symm), ih hd.2 h]
      rfl
theorem ecells_set (enc : β → Value) {l : List (Int × β)} {k : Int} {u : β} (v : β) {i : Nat} (h : l[i]? = some (k, u)) : ecells enc (l.set i (k, v)) = (ecells enc l).set (i * 2 + 1) (enc v) := by
  induction l generalizing i with
  | nil => simp at h
  | cons e l ih =>
    cases i with
    | zero => simp at h; subst h; simp [ecells]
    | succ i =>
      simp at h
      have := ih h
      simp only [List.set_cons_succ, ecells, List.flatMap_cons] at *
      rw [this, show (i + 1) * 2 + 1 = i * 2 + 1 + 2 from by omega]
      rfl
theorem chn_nodup (m : List (Int × β)) (nb b : Nat) (h : (m.map (·.1)).Nodup) : ((chn m nb b).map (·.1)).Nodup := h.sublist (List.filter_sublist.map _)
theorem upd1_reverse (l : List (Int × β)) (k : Int) (v : β) : (upd1 l k v).reverse = upd1 l.reverse k v := by simp [upd1]
theorem grownBy_setAt (w : World) (b o : Nat) (v : Value) : w.grownBy (w.setCell ⟨b, o, none⟩ v) (some b) :=
  ⟨rfl, rfl, rfl, by simp [World.setCell], fun k _ hk => Below.heap_setCell _ _ _ k (fun e => hk (by rw [e]))⟩
/-- a slice's row, one cell another -/
theorem row_set {base te n g cap j : Nat} {xs : List Value} {x : Value} (h : w.ownsRow base te 2 (.slice (some ⟨g, 0, none⟩) n cap) n xs) (hj : j < n * 2) : (w.setCell ⟨g, j, none⟩ x).ownsRow base te 2 (.slice (some ⟨g, 0, none⟩) n cap) n (xs.set j x) := by
  have hl := h.1
  rcases h.2 with ⟨h', _⟩ | ⟨g', cap', cur, h', hb, hg, hn, hm, hs, ht⟩
  · simp at h'
  · simp only [Value.slice.injEq, Option.some.injEq, Addr.mk.injEq, and_true, true_and] at h'
    obtain ⟨rfl, rfl⟩ := h'
    refine ⟨by simpa using hl, .inr ⟨g, cap, cur.setIfInBounds j x, rfl, hb, _root_.Go.Joins.block_setCell hg x, hn, hm, by simpa using hs, ?_⟩⟩
    rw [← ht]
    simp [List.take_set]
/-- behind a store of a key's value -/
theorem Tab.stored {k : Int} {u v : β} {i g cap : Nat} (h : Tab enc tt te ts w T G nb room m ch) (hi : (chn m nb (bkt k nb)).reverse[i]? = some (k, u)) (hc : ch (bkt k nb) = .slice (some ⟨g, 0, none⟩) (chn m nb (bkt k nb)).length cap) (h1 : tt ≠ te) (h2 : ts ≠ te) :
    Tab enc tt te ts (w.setCell ⟨g, i * 2 + 1, none⟩ (enc v)) T G nb room (upd1 m k v) ch ∧ Step w (w.setCell ⟨g, i * 2 + 1, none⟩ (enc v)) T G nb ch ch := by
  have hb := bkt_lt k nb h.lo
  have hg : (ch (bkt k nb)).ownBlock = some g := by rw [hc]; rfl
  have hne : ∀ q, q ≠ g → (w.setCell ⟨g, i * 2 + 1, none⟩ (enc v)).heap[q]? = w.heap[q]? := fun q hq => Below.heap_setCell _ _ _ q hq
  have hTg : T ≠ g := fun e => h.nT h1 hb (by rw [e]; exact hg)
  have hGg : G ≠ g := fun e => h.nG h2 hb (by rw [e]; exact hg)
  have hil : i < (chn m nb (bkt k nb)).length := by have := (List.getElem?_eq_some_iff.1 hi).1; simpa using this
  have hch : upd ch (bkt k nb) (ch (bkt k nb)) = ch := by
    funext c
    by_cases e : c = bkt k nb
    · rw [e, upd_same]
    · rw [upd_other _ _ e]
  have hS : Chg w (w.setCell ⟨g, i * 2 + 1, none⟩ (enc v)) (Mine T G nb ch) := Chg.grown (grownBy_setAt w g _ _) (fun q e => by cases e; exact .inr (.inr ⟨_, hb, hg⟩))
  refine ⟨?_, hS, fun q hq => .inl hq⟩
  have hd := chn_nodup m nb (bkt k nb) h.nd
  have hr := h.own _ hb
  rw [hc] at hr
  have := Tab.swap (m' := upd1 m k v) (b := bkt k nb) (v := ch (bkt k nb)) (w' := w.setCell ⟨g, i * 2 + 1, none⟩ (enc v)) h (by rw [upd1_len, hne T hTg]; exact h.top) (by rw [hch, hne G hGg]; exact h.row) hb ?_ (fun q e => .inl e)
    (fun c _ e => chn_upd1_other m k v e) (fun q _ _ _ e => hne q (fun e' => e (by rw [e']; exact hg))) (by rw [upd1_len]; exact h.cnt) (by rw [upd1_keys]; exact h.nd) h1 h2
  · rw [hch] at this; exact this
  · rw [chn_upd1, upd1_len, upd1_reverse, upd1_set (by rw [List.map_reverse]; exact List.pairwise_reverse.2 (hd.imp Ne.symm)) hi, ecells_set enc v hi, hc]
    exact row_set hr (by omega)

theorem ecells_one (enc : β → Value) (he : ∀ x, (enc x).oneCell' = true) (l : List (Int × β)) : ∀ u ∈ ecells enc l, u.oneCell' = true := by
  intro u hu
  simp only [ecells, List.mem_flatMap] at hu
  obtain ⟨e, _, hu⟩ := hu
  simp at hu
  rcases hu with rfl | rfl
  · rfl
  · exact he _
/-- behind a new key -/
theorem Tab.pushed {w0 w2 : World} {k : Int} {v : β} {g cap : Nat} (h : Tab enc tt te ts w T G nb room m ch) (hk : ¬ has m k) (hn : m.length < room) (hb0 : Below w.heap.size w w0) (hgrow : w0.grownBy w2 (ch (bkt k nb)).ownBlock)
    (hown : w2.ownsRow 0 te 2 (.slice (some ⟨g, 0, none⟩) ((chn m nb (bkt k nb)).length + 1) cap) ((chn m nb (bkt k nb)).length + 1) (ecells enc (chn m nb (bkt k nb)).reverse ++ [.int .u64 k, enc v]))
    (hat : (ch (bkt k nb)).ownBlock = some g ∨ w.heap.size ≤ g) (h1 : tt ≠ te) (h2 : ts ≠ te) (h3 : tt ≠ ts) :
    Tab enc tt te ts ((w2.setCell ⟨G, bkt k nb, none⟩ (.slice (some ⟨g, 0, none⟩) ((chn m nb (bkt k nb)).length + 1) cap)).setCell ⟨T, 2, none⟩ (.int .i64 ((m.length : Int) + 1))) T G nb room ((k, v) :: m) (upd ch (bkt k nb) (.slice (some ⟨g, 0, none⟩) ((chn m nb (bkt k nb)).length + 1) cap)) ∧
    Step w ((w2.setCell ⟨G, bkt k nb, none⟩ (.slice (some ⟨g, 0, none⟩) ((chn m nb (bkt k nb)).length + 1) cap)).setCell ⟨T, 2, none⟩ (.int .i64 ((m.length : Int) + 1))) T G nb ch (upd ch (bkt k nb) (.slice (some ⟨g, 0, none⟩) ((chn m nb (bkt k nb)).length + 1) cap)) := by
  have hb := bkt_lt k nb h.lo
  have hTG := h.nTG h3
  have hT := h.nT h1 hb
  have hG := h.nG h2 hb
  have lT := h.ltT
  have lG := h.ltG
  have gT : g ≠ T := by rintro rfl; rcases hat with e | e; exact hT e; omega
  have gG : g ≠ G := by rintro rfl; rcases hat with e | e; exact hG e; omega
  generalize hv : Value.slice (some ⟨g, 0, none⟩) ((chn m nb (bkt k nb)).length + 1) cap = nv at *
  have hog : nv.ownBlock = some g := by rw [← hv]; rfl
  generalize hbb : bkt k nb = b at *
  -- the blocks of the last world
  have s1 : ∀ q, q ≠ G → (w2.setCell ⟨G, b, none⟩ nv).heap[q]? = w2.heap[q]? := fun q hq => Below.heap_setCell _ _ _ q hq
  have s2 : ∀ q, q ≠ T → ((w2.setCell ⟨G, b, none⟩ nv).setCell ⟨T, 2, none⟩ (.int .i64 ((m.length : Int) + 1))).heap[q]? = (w2.setCell ⟨G, b, none⟩ nv).heap[q]? := fun q hq => Below.heap_setCell _ _ _ q hq
  have old : ∀ q, q < w.heap.size → (ch b).ownBlock ≠ some q → w2.heap[q]? = w.heap[q]? := fun q hq ho => (hgrow.block q (Nat.lt_of_lt_of_le hq hb0.size) (fun e => ho e.symm)).trans (hb0.block q hq)
  have eT := Go.Joins.block_setCell (i := 2) ((s1 T hTG).trans ((old T lT hT).trans h.top)) (.int .i64 ((m.length : Int) + 1))
  have eG := Go.Joins.block_setCell (i := b) ((old G lG hG).trans h.row) nv
  rw [range_upd] at eG
  have hS : Chg w ((w2.setCell ⟨G, b, none⟩ nv).setCell ⟨T, 2, none⟩ (.int .i64 ((m.length : Int) + 1))) (Mine T G nb ch) := by
    refine ⟨hgrow.os.trans hb0.os, hgrow.tape.trans hb0.tape, hgrow.output.trans hb0.output, ?_, fun q hq ho => ?_⟩
    · have := Nat.le_trans hb0.size hgrow.size
      simpa [World.setCell] using this
    · rw [s2 q (fun e => ho (.inl e)), s1 q (fun e => ho (.inr (.inl e)))]
      exact old q hq (fun e => ho (.inr (.inr ⟨b, hb, e⟩)))
  have hvv : ∀ q, nv.ownBlock = some q → (ch b).ownBlock = some q ∨ w.heap.size ≤ q := fun q e => by rw [hog] at e; cases e; exact hat
  refine ⟨?_, step_swap hb hS hvv⟩
  have ce : chn ((k, v) :: m) nb b = (k, v) :: chn m nb b := by rw [chn_cons]; exact if_pos hbb
  refine Tab.swap h ?_ ((s2 G (fun e => hTG e.symm)).trans eG) hb ?_ hvv (fun c _ hc => ?_) (fun q hq q1 q2 q3 => ?_) ?_ ?_ h1 h2
  · rw [eT]; simp
  · rw [ce, List.length_cons, List.reverse_cons, ecells_append]
    have hown' : w2.ownsRow 0 te 2 nv ((chn m nb b).length + 1) (ecells enc (chn m nb b).reverse ++ ecells enc [(k, v)]) := by simpa [ecells] using hown
    exact (hown'.kept (grownBy_setAt w2 G b nv) (.inr (by rw [hog]; exact fun e => gG (Option.some.inj e)))).kept (grownBy_setAt _ T 2 _) (.inr (by rw [hog]; exact fun e => gT (Option.some.inj e)))
  · rw [chn_cons]
    exact if_neg (fun e => hc (by rw [← e]; exact hbb))
  · rw [s2 q q1, s1 q q2]; exact old q hq q3
  · simp; omega
  · rw [List.map_cons, List.nodup_cons]
    refine ⟨fun hm => ?_, h.nd⟩
    obtain ⟨e, he, hek⟩ := List.mem_map.1 hm
    exact hk ⟨e.2, by dsimp only at hek; rw [← hek]; exact he⟩
theorem own_fr {base te n g cap : Nat} {v : Value} {xs : List Value} (h : w.ownsRow base te 2 v n xs) (hv : v = .slice (some ⟨g, 0, none⟩) n cap) (j : Nat) : w.frozen? ⟨g, j, none⟩ = false := by
  subst hv
  rcases h.2 with ⟨h', _⟩ | ⟨g', cap', cur, h', hb, hg, hn, hm, hs, ht⟩
  · simp at h'
  · simp only [Value.slice.injEq, Option.some.injEq, Addr.mk.injEq, and_true, true_and] at h'
    obtain ⟨rfl, rfl⟩ := h'
    simp [World.frozen?, hg]
theorem far_block {w w' : World} {o : Obj} {r : Option Nat} {q : Nat} (h : ((w.alloc o).drew).grownBy w' r) (hq : q < w.heap.size) (hr : r ≠ some q) : w'.heap[q]? = w.heap[q]? :=
  (h.block q (by simp; omega) (fun e => hr e.symm)).trans (Below.heap_alloc w o q hq)
theorem below_drewN (n : Nat) (w : World) (a : Nat) : Below n w (w.drewN a) := ⟨rfl, rfl, rfl, Nat.le_refl _, fun _ _ => rfl⟩
end Go.Proofs.Ytkkaogdcodmpcaa
