/- The document's list of keys in memory; Find. -/
import Derived.Test.YtkpenhichgkdkaaRkI
import Derived.Laws.AppendOwnNone
namespace Go.Proofs.Ytkpenhichgkdkaa
open Go.RowKit
set_option linter.unusedVariables false
set_option linter.unusedSectionVars false

abbrev SI := St Int
def kc (top : Int) (l : SI) : List Value := l.flatMap fun e => [.int .i64 e.1, .int .i64 e.2.1, .int .i64 top, .bool e.2.2]
theorem kc_len (top : Int) (l : SI) : (kc top l).length = l.length * 4 := by
  induction l with
  | nil => rfl
  | cons a l ih => simp only [kc, List.flatMap_cons, List.length_append] at ih ⊢; rw [ih]; simp; omega
theorem kc_app (top : Int) (l l' : SI) : kc top (l ++ l') = kc top l ++ kc top l' := by simp [kc]
theorem kc_one (top : Int) (l : SI) : ∀ u ∈ kc top l, u.oneCell' = true := by
  intro u hu
  simp only [kc, List.mem_flatMap] at hu
  obtain ⟨e, _, h⟩ := hu
  simp at h
  rcases h with rfl | rfl | rfl | rfl <;> rfl
theorem kc_get (top : Int) {l : SI} {i : Nat} {e : Int × Int × Bool} (h : l[i]? = some e) : (kc top l)[i * 4]? = some (.int .i64 e.1) ∧ (kc top l)[i * 4 + 1]? = some (.int .i64 e.2.1) ∧ (kc top l)[i * 4 + 2]? = some (.int .i64 top) ∧ (kc top l)[i * 4 + 3]? = some (.bool e.2.2) := by
  induction l generalizing i with
  | nil => simp at h
  | cons a l ih =>
    cases i with
    | zero => simp at h; subst h; simp [kc]
    | succ i =>
      simp at h
      have := ih h
      simpa [kc, Nat.succ_mul] using this
def KL (w : World) (v : Value) (top : Int) (l : SI) : Prop := w.ownsRow 0 69 4 v l.length (kc top l)
theorem _root_.Go.RowKit.Below.grownNone {w w' : World} (h : Below w.heap.size w w') : w.grownBy w' none := ⟨h.os, h.tape, h.output, h.size, fun k hk _ => h.block k hk⟩
theorem own_ne_none (v : Value) : v.ownBlock = none ∨ v.ownBlock ≠ none := by cases v.ownBlock <;> simp
theorem KL.below {w w' : World} {v : Value} {top : Int} {l : SI} (h : KL w v top l) (b : Below w.heap.size w w') : KL w' v top l := World.ownsRow.kept h b.grownNone (own_ne_none _)
theorem KL.cells {w : World} {v : Value} {top : Int} {l : SI} (h : KL w v top l) : (v = .slice none 0 0 ∧ l = []) ∨ ∃ g cap, v = .slice (some ⟨g, 0, none⟩) l.length cap ∧ g < w.heap.size ∧ l.length ≤ cap ∧ cap ≤ maxLen ∧ (∀ j e, l[j]? = some e → w.cell? ⟨g, j * 4, none⟩ = some (.int .i64 e.1) ∧ w.cell? ⟨g, j * 4 + 1, none⟩ = some (.int .i64 e.2.1) ∧ w.cell? ⟨g, j * 4 + 2, none⟩ = some (.int .i64 top) ∧ w.cell? ⟨g, j * 4 + 3, none⟩ = some (.bool e.2.2)) := by
  rcases h.2 with ⟨rfl, h0⟩ | ⟨g, cap, cur, rfl, hb, hg, hn, hm, hs, ht⟩
  · exact .inl ⟨rfl, List.eq_nil_of_length_eq_zero h0⟩
  · refine .inr ⟨g, cap, rfl, (Array.getElem?_eq_some_iff.1 hg).1, hn, hm, fun j e hj => ?_⟩
    have hjl : j < l.length := (List.getElem?_eq_some_iff.1 hj).1
    have := kc_get top hj
    rw [← ht] at this
    have hc : ∀ q v, q < l.length * 4 → (cur.toList.take (l.length * 4))[q]? = some v → w.cell? ⟨g, q, none⟩ = some v := by
      intro q v hq hv
      rw [List.getElem?_take_of_lt hq] at hv
      simpa [World.cell?, hg] using hv
    exact ⟨hc _ _ (by omega) this.1, hc _ _ (by omega) this.2.1, hc _ _ (by omega) this.2.2.1, hc _ _ (by omega) this.2.2.2⟩

/-- the key's place; below 0: nowhere -/
def kidx : SI → Int → Int
  | [], _ => -1
  | e :: m, k => if e.1 = k then 0 else if kidx m k < 0 then -1 else kidx m k + 1
theorem kidx_spec (m : SI) (k : Int) : (kidx m k = -1 ∧ look m k = none) ∨ ∃ (i : Nat) (c : Int × Bool), i < m.length ∧ kidx m k = i ∧ m[i]? = some (k, c) ∧ look m k = some c ∧ ∀ j, j < i → ∀ e, m[j]? = some e → e.1 ≠ k := by
  induction m with
  | nil => exact .inl ⟨rfl, rfl⟩
  | cons e m ih =>
    unfold kidx look
    by_cases h : e.1 = k
    · rw [if_pos h, if_pos h]
      exact .inr ⟨0, e.2, by simp, rfl, by simp [← h], rfl, fun j hj => by omega⟩
    · rw [if_neg h, if_neg h]
      rcases ih with ⟨h1, h2⟩ | ⟨i, c, h1, h2, h3, h5, h4⟩
      · rw [h1, if_pos (by decide)]
        exact .inl ⟨rfl, h2⟩
      · rw [h2, if_neg (by omega)]
        refine .inr ⟨i + 1, c, by simp; omega, by omega, by simpa using h3, h5, fun j hj x hx => ?_⟩
        cases j with
        | zero => simp at hx; rw [← hx]; exact h
        | succ j => exact h4 j (by omega) x (by simpa using hx)
theorem kidx_is {m : SI} {k : Int} {c : Int × Bool} {i : Nat} (h : m[i]? = some (k, c)) (h' : ∀ j, j < i → ∀ e, m[j]? = some e → e.1 ≠ k) : kidx m k = i := by
  rcases kidx_spec m k with ⟨_, h2⟩ | ⟨j, u, h1, h2, h3, _, h4⟩
  · exact absurd (List.mem_of_getElem? h) (look_none h2 c)
  · rw [h2]
    have : j = i := by
      rcases Nat.lt_trichotomy i j with a | a | a
      · exact absurd rfl (h4 i a _ h)
      · exact a.symm
      · exact absurd rfl (h' j a _ h3)
    rw [this]
theorem kidx_none {m : SI} {k : Int} (h : ∀ (j : Nat) (e : Int × Int × Bool), m[j]? = some e → e.1 ≠ k) : kidx m k = -1 := by
  rcases kidx_spec m k with ⟨h1, _⟩ | ⟨j, u, h1, h2, h3, _, h4⟩
  · exact h1
  · exact absurd rfl (h j _ h3)

set_option maxHeartbeats 2000000 in
theorem refFind (m : SI) (top k : Int) (v : Value) (w : World) (h : KL w v top m) (hm : m.length ≤ 64) : Calls Try.prog 30 #[v, .int .i64 k] w fun e w' => e = .returned (.int .i64 (kidx m k)) ∧ w = w' := by
  rcases h.cells with ⟨rfl, rfl⟩ | ⟨g, cap, rfl, hg, hcap, _, hc⟩
  · go_enter Try.func30, Try.ntmps30
    go_wp2_with fail
    go_loop [5] (fun i => i = .int .i64 0) (fun _ => 0)
    case atStart => rfl
    case round =>
      subst hrel
      go_wp2_with fail
      go_ret
      exact ⟨rfl, rfl⟩
  · have HC := Lib.hid hc
    clear hc h
    obtain ⟨L, hL⟩ : ∃ L, L = m.length := ⟨_, rfl⟩
    have HL := Lib.hid hL
    rw [← hL] at hm hcap ⊢
    clear hL
    go_enter Try.func30, Try.ntmps30
    go_wp2_with fail
    go_loop [5] (fun i => ∃ j : Nat, j ≤ L ∧ i = .int .i64 j ∧ Hid (∀ q, q < j → ∀ e, m[q]? = some e → e.1 ≠ k)) (fun i => L - (intOf i).toNat)
    case atStart => exact ⟨0, by omega, rfl, Lib.hid (fun q hq => by omega)⟩
    case round =>
      obtain ⟨j, hj, rfl, HQ⟩ := hrel
      by_cases hlt : j < L
      · have hjm : j < m.length := by rw [← HL.out]; exact hlt
        have hj2 := HC.out j _ (List.getElem?_eq_getElem hjm)
        have c0 := hj2.1
        have HE := Lib.hid (List.getElem?_eq_getElem hjm)
        clear hj2
        generalize m[j] = x at *
        by_cases hx : x.1 = k
        · have hd : (x.1 == k) = true := by rw [hx]; exact beq_self_eq_true k
          have HX := Lib.hid hx
          clear hx
          go_wp2_with fail
          go_ret
          exact ⟨by rw [kidx_is (c := x.2) (by rw [HE.out, ← HX.out]) HQ.out]; rfl, rfl⟩
        · have hd : (x.1 == k) = false := beq_eq_false_iff_ne.2 hx
          go_wp2_with fail
          go_round
          case rel =>
            refine ⟨j + 1, by omega, by go_num, Lib.hid (fun q hq e he => ?_)⟩
            by_cases e' : q = j
            · subst e'; rw [HE.out] at he; cases he; exact hx
            · exact HQ.out q (by omega) e he
          case measure => simp only [intOf]; omega
      · obtain rfl : j = L := by omega
        go_wp2_with fail
        go_ret
        exact ⟨by rw [kidx_none (fun q e he => HQ.out q (by have := (List.getElem?_eq_some_iff.1 he).1; rw [HL.out]; exact this) e he)]; rfl, rfl⟩
theorem info69 : (Try.prog.info? 69).map (fun i => (i.zero, i.size, i.bytes)) = some (some (.agg #[.int .i64 0, .int .i64 0, .int .i64 0, .bool false]), 4, 32) := by kernel_rfl
end Go.Proofs.Ytkpenhichgkdkaa
