/- Buckets: a row out of which an entry is struck: plain facts. -/
import Derived.Test.YtkkaogdcodmpcaaLst
import Derived.Laws.IdiomCopy
namespace Go.Proofs.Ytkkaogdcodmpcaa
open Go.RowKit
set_option linter.unusedVariables false
variable {β : Type} {enc : β → Value} {te : TypeId} {w : World}

theorem owns_some {base n size g cap : Nat} {xs : List Value} (h : w.ownsRow base te size (.slice (some ⟨g, 0, none⟩) n cap) n xs) : ∃ cur, w.heap[g]? = some (.cells cur te (0, 0)) ∧ n ≤ cap ∧ cap ≤ maxLen ∧ cur.size = cap * size ∧ cur.toList.take (n * size) = xs := by
  rcases h.2 with ⟨h', _⟩ | ⟨g', cap', cur, h', hb, hg, hn, hm, hs, ht⟩
  · simp at h'
  · simp only [Value.slice.injEq, Option.some.injEq, Addr.mk.injEq, and_true, true_and] at h'
    obtain ⟨rfl, rfl⟩ := h'
    exact ⟨cur, hg, hn, hm, hs, ht⟩
/-- cells laid into an array -/
def layA (d : Array Value) : Nat → List Value → Array Value
  | _, [] => d
  | o, v :: r => layA (d.setIfInBounds o v) (o + 1) r
theorem layA_size (d : Array Value) (o : Nat) (vs : List Value) : (layA d o vs).size = d.size := by
  induction vs generalizing d o with
  | nil => rfl
  | cons v r ih => unfold layA; rw [ih]; simp
theorem layA_get (d : Array Value) (o : Nat) (vs : List Value) (k : Nat) : (layA d o vs)[k]? = if o ≤ k ∧ k < o + vs.length ∧ k < d.size then vs[k - o]? else d[k]? := by
  induction vs generalizing d o with
  | nil => unfold layA; rw [if_neg (by simp; omega)]
  | cons v r ih =>
    unfold layA
    rw [ih, Array.getElem?_setIfInBounds]
    simp only [List.length_cons, Array.size_setIfInBounds]
    by_cases h0 : o = k
    · subst h0
      rw [if_neg (by omega)]
      by_cases h1 : o < d.size
      · rw [if_pos rfl, if_pos h1, if_pos (by omega)]; simp
      · rw [if_pos rfl, if_neg h1, if_neg (by omega), Array.getElem?_eq_none (by omega)]
    · by_cases h1 : o + 1 ≤ k ∧ k < o + 1 + r.length ∧ k < d.size
      · rw [if_pos h1, if_pos (by omega), show k - o = (k - (o + 1)) + 1 from by omega]; simp
      · rw [if_neg h1, if_neg h0]
        rw [if_neg (by omega)]
theorem block_setCells {g : Nat} {d : Array Value} {t : TypeId} {fr : Nat × Nat} (h : w.heap[g]? = some (.cells d t fr)) (vs : List Value) (o : Nat) : (w.setCells g o vs).heap[g]? = some (.cells (layA d o vs) t fr) := by
  induction vs generalizing w d o with
  | nil => exact h
  | cons v r ih => exact ih (Go.Joins.block_setCell h v) (o + 1)
theorem grown_trans {a b c : World} {r : Option Nat} (h : a.grownBy b r) (k : b.grownBy c r) : a.grownBy c r :=
  ⟨k.os.trans h.os, k.tape.trans h.tape, k.output.trans h.output, Nat.le_trans h.size k.size, fun q hq hr => (k.block q (Nat.lt_of_lt_of_le hq h.size) hr).trans (h.block q hq hr)⟩
theorem grown_setCells (w : World) (g o : Nat) (vs : List Value) : w.grownBy (w.setCells g o vs) (some g) := by
  induction vs generalizing w o with
  | nil => exact World.grownBy.refl w _
  | cons v r ih => exact grown_trans (grownBy_setAt w g o v) (ih _ _)
theorem run_clear_one {P : Program} (w : World) (t e ty : TypeId) (z : Value) (ht : P.underlying t = some (.slice e)) (hv : ∀ w, (zeroValue e).run P w = .ok z w) (zs : List Value) (hz : z.cells = zs.toArray) (h1 : ∀ u ∈ zs, u.oneCell' = true) (b o c : Nat)
    (hc : ∀ j, j < zs.length → (w.cell? ⟨b, o + j, none⟩).isSome = true) (hf : ∀ j, j < zs.length → w.frozen? ⟨b, o + j, none⟩ = false) :
    (Builtin.clear_ #[t] ty #[.slice (some ⟨b, o, none⟩) 1 c]).run P w = .ok (.tuple #[]) (w.setCells b o zs) := by
  have hzc : (Builtin.zeroCells z.cells 1).toList = zs := by
    rw [hz]
    simp [Builtin.zeroCells]
    apply List.ext_getElem
    · simp
    · intro i h1 h2
      simp at h1
      simp [Nat.mod_eq_of_lt h1, h1]
  have hst := run_storeCells_cells (P := P) b o zs 0 w (by simpa using hc) (by simpa using hf) h1
  simp only [Nat.add_zero] at hst
  simp [Builtin.clear_, run_underlying ht, hv, hzc, hst]
theorem ecells_erase (enc : β → Value) (l : List (Int × β)) (i : Nat) : ecells enc (l.eraseIdx i) = (ecells enc l).take (i * 2) ++ (ecells enc l).drop ((i + 1) * 2) := by
  induction l generalizing i with
  | nil => simp [ecells]
  | cons e l ih =>
    cases i with
    | zero => simp [ecells]
    | succ i =>
      have := ih i
      simp only [List.eraseIdx_cons_succ, ecells, List.flatMap_cons] at *
      rw [this, show (i + 1) * 2 = i * 2 + 2 from by omega, show (i + 1 + 1) * 2 = (i * 2 + 2) + 2 from by omega]
      simp
theorem erased {g n cap i : Nat} {l : List (Int × β)} {cur : Array Value} {news zs : List Value} {W1 : World} (hl : l.length = n) (hi : i < n) (hcap : n ≤ cap) (hm : cap ≤ maxLen) (hs : cur.size = cap * 2) (ht : cur.toList.take (n * 2) = ecells enc l) (hnews : news = (ecells enc l).drop ((i + 1) * 2))
    (hg : W1.heap[g]? = some (.cells (layA cur (i * 2) news) te (0, 0))) : (W1.setCells g ((n - 1) * 2) zs).ownsRow 0 te 2 (.slice (some ⟨g, 0, none⟩) (n - 1) cap) (n - 1) (ecells enc (l.eraseIdx i)) := by
  have hel : (ecells enc l).length = n * 2 := by rw [ecells_len, hl]
  have hnl : news.length = (n - (i + 1)) * 2 := by rw [hnews, List.length_drop, hel]; omega
  have hlen : (ecells enc (l.eraseIdx i)).length = (n - 1) * 2 := by rw [ecells_len, List.length_eraseIdx_of_lt (by omega), hl]
  refine ⟨hlen, .inr ⟨g, cap, _, rfl, Nat.zero_le _, block_setCells hg _ _, by omega, hm, by rw [layA_size, layA_size, hs], ?_⟩⟩
  apply List.ext_getElem?
  intro k
  by_cases hk : k < (n - 1) * 2
  · rw [List.getElem?_take_of_lt hk, Array.getElem?_toList, layA_get, if_neg (by omega), layA_get, ecells_erase, hnl, hs]
    have hcur : ∀ t, t < n * 2 → cur[t]? = (ecells enc l)[t]? := fun t h => by rw [← ht, List.getElem?_take_of_lt h]; simp
    by_cases h1 : k < i * 2
    · rw [if_neg (by omega), hcur k (by omega), List.getElem?_append_left (by rw [List.length_take, hel]; omega), List.getElem?_take_of_lt h1]
    · rw [if_pos (by omega), hnews, List.getElem?_append_right (by rw [List.length_take, hel]; omega), List.length_take, hel, show min (i * 2) (n * 2) = i * 2 from by omega]
  · rw [List.getElem?_eq_none (by rw [List.length_take]; omega), List.getElem?_eq_none (by omega)]

variable {tt ts : TypeId} {T G nb room : Nat} {m : List (Int × β)} {ch : Nat → Value}
/-- without a key -/
def del (m : List (Int × β)) (k : Int) : List (Int × β) := m.filter fun e => !(e.1 == k)
theorem del_no {k : Int} (h : ¬ has m k) : del m k = m := by
  unfold del
  rw [List.filter_eq_self]
  intro e he
  have : e.1 ≠ k := fun e' => h ⟨e.2, by rw [← e']; exact he⟩
  simp [this]
theorem chn_del (m : List (Int × β)) (k : Int) (nb b : Nat) : chn (del m k) nb b = del (chn m nb b) k := by
  unfold chn del
  rw [List.filter_filter, List.filter_filter]
  congr 1
  funext e
  exact Bool.and_comm _ _
theorem del_reverse (l : List (Int × β)) (k : Int) : (del l k).reverse = del l.reverse k := by simp [del]
theorem del_at {l : List (Int × β)} {k : Int} {u : β} {i : Nat} (hd : (l.map (·.1)).Nodup) (h : l[i]? = some (k, u)) : del l k = l.eraseIdx i := by
  induction l generalizing i with
  | nil => simp at h
  | cons e l ih =>
    simp only [List.map_cons, List.nodup_cons, List.mem_map, not_exists, not_and] at hd
    cases i with
    | zero =>
      simp at h
      subst h
      have hno : ¬ has l k := fun ⟨v, hv⟩ => hd.1 _ hv rfl
      show List.filter _ (_ :: l) = _
      rw [List.filter_cons_of_neg (by simp)]
      exact del_no hno
    | succ i =>
      simp at h
      have hm := List.mem_of_getElem? h
      have hne : e.1 ≠ k := fun e' => hd.1 _ hm e'.symm
      show List.filter _ (e :: l) = _
      rw [List.filter_cons_of_pos (by simp [hne]), List.eraseIdx_cons_succ]
      exact congrArg _ (ih hd.2 h)
theorem del_nodup (k : Int) (h : (m.map (·.1)).Nodup) : ((del m k).map (·.1)).Nodup := h.sublist (List.filter_sublist.map _)
theorem del_len {k : Int} {u : β} (hd : (m.map (·.1)).Nodup) (h : (k, u) ∈ m) : (del m k).length = m.length - 1 := by
  obtain ⟨i, hi, e⟩ := List.mem_iff_getElem.1 h
  rw [del_at hd (by rw [List.getElem?_eq_getElem hi, e]), List.length_eraseIdx_of_lt hi]
theorem has_del (m : List (Int × β)) (k : Int) : ¬ has (del m k) k := fun ⟨v, hv⟩ => by simp [del] at hv
theorem mem_del {e : Int × β} {k : Int} : e ∈ del m k ↔ e ∈ m ∧ e.1 ≠ k := by simp [del]
/-- behind a key that is struck -/
theorem Tab.erased {w0 w2 : World} {k : Int} {u : β} {i g cap : Nat} (h : Tab enc tt te ts w T G nb room m ch) (hi : (chn m nb (bkt k nb)).reverse[i]? = some (k, u)) (hv : ch (bkt k nb) = .slice (some ⟨g, 0, none⟩) (chn m nb (bkt k nb)).length cap) (hb0 : Below w.heap.size w w0) (hgrow : w0.grownBy w2 (some g))
    (hown : w2.ownsRow 0 te 2 (.slice (some ⟨g, 0, none⟩) ((chn m nb (bkt k nb)).length - 1) cap) ((chn m nb (bkt k nb)).length - 1) (ecells enc ((chn m nb (bkt k nb)).reverse.eraseIdx i))) (h1 : tt ≠ te) (h2 : ts ≠ te) (h3 : tt ≠ ts) :
    Tab enc tt te ts ((w2.setCell ⟨G, bkt k nb, none⟩ (.slice (some ⟨g, 0, none⟩) ((chn m nb (bkt k nb)).length - 1) cap)).setCell ⟨T, 2, none⟩ (.int .i64 ((m.length : Int) - 1))) T G nb room (del m k) (upd ch (bkt k nb) (.slice (some ⟨g, 0, none⟩) ((chn m nb (bkt k nb)).length - 1) cap)) ∧
    Step w ((w2.setCell ⟨G, bkt k nb, none⟩ (.slice (some ⟨g, 0, none⟩) ((chn m nb (bkt k nb)).length - 1) cap)).setCell ⟨T, 2, none⟩ (.int .i64 ((m.length : Int) - 1))) T G nb ch (upd ch (bkt k nb) (.slice (some ⟨g, 0, none⟩) ((chn m nb (bkt k nb)).length - 1) cap)) := by
  have hb := bkt_lt k nb h.lo
  have hg : (ch (bkt k nb)).ownBlock = some g := by rw [hv]; rfl
  have hTG := h.nTG h3
  have hT := h.nT h1 hb
  have hG := h.nG h2 hb
  have lT := h.ltT
  have lG := h.ltG
  have gT : g ≠ T := by rintro rfl; exact hT hg
  have gG : g ≠ G := by rintro rfl; exact hG hg
  have hkm : (k, u) ∈ m := (mem_chn.1 (by have := List.mem_of_getElem? hi; simpa using this)).1
  have hml : (del m k).length = m.length - 1 := del_len h.nd hkm
  have hmp : 1 ≤ m.length := by have := List.length_pos_of_mem hkm; omega
  have hdc := chn_nodup m nb (bkt k nb) h.nd
  have hil : i < (chn m nb (bkt k nb)).length := by have := (List.getElem?_eq_some_iff.1 hi).1; simpa using this
  have hrev : (chn (del m k) nb (bkt k nb)).reverse = (chn m nb (bkt k nb)).reverse.eraseIdx i := by
    rw [chn_del, del_reverse, del_at (by rw [List.map_reverse]; exact List.pairwise_reverse.2 (hdc.imp Ne.symm)) hi]
  have hcl : (chn (del m k) nb (bkt k nb)).length = (chn m nb (bkt k nb)).length - 1 := by
    have := congrArg List.length hrev
    rw [List.length_reverse, List.length_eraseIdx_of_lt (by simpa using hil), List.length_reverse] at this
    exact this
  have hoth : ∀ c, c ≠ bkt k nb → chn (del m k) nb c = chn m nb c := fun c hc => by
    rw [chn_del]
    exact del_no (fun ⟨v, hv'⟩ => hc ((mem_chn.1 hv').2).symm)
  clear hi hv
  generalize hnv : Value.slice (some ⟨g, 0, none⟩) ((chn m nb (bkt k nb)).length - 1) cap = nv at *
  have hog : nv.ownBlock = some g := by rw [← hnv]; rfl
  generalize hbb : bkt k nb = b at *
  have s1 : ∀ q, q ≠ G → (w2.setCell ⟨G, b, none⟩ nv).heap[q]? = w2.heap[q]? := fun q hq => Below.heap_setCell _ _ _ q hq
  have s2 : ∀ q, q ≠ T → ((w2.setCell ⟨G, b, none⟩ nv).setCell ⟨T, 2, none⟩ (.int .i64 ((m.length : Int) - 1))).heap[q]? = (w2.setCell ⟨G, b, none⟩ nv).heap[q]? := fun q hq => Below.heap_setCell _ _ _ q hq
  have old : ∀ q, q < w.heap.size → q ≠ g → w2.heap[q]? = w.heap[q]? := fun q hq ho => (hgrow.block q (Nat.lt_of_lt_of_le hq hb0.size) (fun e => ho (Option.some.inj e))).trans (hb0.block q hq)
  have eT := Go.Joins.block_setCell (i := 2) ((s1 T hTG).trans ((old T lT (fun e => gT e.symm)).trans h.top)) (.int .i64 ((m.length : Int) - 1))
  have eG := Go.Joins.block_setCell (i := b) ((old G lG (fun e => gG e.symm)).trans h.row) nv
  rw [range_upd] at eG
  have hS : Chg w ((w2.setCell ⟨G, b, none⟩ nv).setCell ⟨T, 2, none⟩ (.int .i64 ((m.length : Int) - 1))) (Mine T G nb ch) := by
    refine ⟨hgrow.os.trans hb0.os, hgrow.tape.trans hb0.tape, hgrow.output.trans hb0.output, ?_, fun q hq ho => ?_⟩
    · have := Nat.le_trans hb0.size hgrow.size
      simpa [World.setCell] using this
    · rw [s2 q (fun e => ho (.inl e)), s1 q (fun e => ho (.inr (.inl e)))]
      exact old q hq (fun e => ho (.inr (.inr ⟨b, hb, by rw [e]; exact hg⟩)))
  have hvv : ∀ q, nv.ownBlock = some q → (ch b).ownBlock = some q ∨ w.heap.size ≤ q := fun q e => by rw [hog] at e; cases e; exact .inl hg
  refine ⟨?_, step_swap hb hS hvv⟩
  refine Tab.swap h ?_ ((s2 G (fun e => hTG e.symm)).trans eG) hb ?_ hvv (fun c _ hc => hoth c hc) (fun q hq q1 q2 q3 => ?_) (by have := h.cnt; omega) (del_nodup k h.nd) h1 h2
  · rw [eT, hml]
    simp
    omega
  · rw [hcl, hrev]
    exact (hown.kept (grownBy_setAt w2 G b nv) (.inr (by rw [hog]; exact fun e => gG (Option.some.inj e)))).kept (grownBy_setAt _ T 2 _) (.inr (by rw [hog]; exact fun e => gT (Option.some.inj e)))
  · rw [s2 q q1, s1 q q2]
    exact old q hq (fun e => q3 (by rw [e]; exact hg))
end Go.Proofs.Ytkkaogdcodmpcaa
