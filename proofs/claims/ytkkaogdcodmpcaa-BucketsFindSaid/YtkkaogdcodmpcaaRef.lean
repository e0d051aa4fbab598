/- The document's buckets: its functions by contracts. -/
import Derived.Test.YtkkaogdcodmpcaaLst
import Derived.Test.YtkkaogdcodmpcaaErs
namespace Go.Proofs.Ytkkaogdcodmpcaa
open Go.RowKit
set_option linter.unusedVariables false
abbrev MI := List (Int × Int)

theorem u64_div (x : Int) : IntKind.u64.wrap ((IntKind.u64.wrap x).tdiv 4294967296) = IntKind.u64.wrap x / 4294967296 := by
  have h := dm_u64 x
  rw [Int.tdiv_eq_ediv_of_nonneg h.1]
  rw [IntKind.wrap_u64 (IntKind.u64.wrap x / 4294967296)]
  omega
theorem refBucket (k : Int) (nb : Nat) (w : World) (h1 : 1 ≤ nb) (h2 : nb ≤ 64) : Calls Try.prog 20 #[.int .u64 k, .int .i64 nb] w fun e w' => e = .returned (.int .i64 (bkt k nb)) ∧ w = w' := by
  have hb := Lib.hid (bkt_is k nb h1 h2)
  go_enter Try.func20, Try.ntmps20
  go_wp2
  go_ret
  exact ⟨ret_int (by rw [u64_div, hb.out]), rfl⟩

/-- the document's list in memory -/
def RL (w : World) (v : Value) (m : MI) : Prop := w.ownsRow 0 53 2 v m.length (ecells (Value.int .i64) m)
theorem RL.kept {w w' : World} {v : Value} {m : MI} {r : Option Nat} (h : RL w v m) (g : w.grownBy w' r) (hne : v.ownBlock = none ∨ v.ownBlock ≠ r) : RL w' v m := World.ownsRow.kept h g hne
theorem RL.below {w w' : World} {v : Value} {m : MI} (h : RL w v m) (b : Below w.heap.size w w') : RL w' v m := World.ownsRow.kept h b.grownNone (own_ne_none _)
theorem RL.cells {w : World} {v : Value} {m : MI} (h : RL w v m) : (v = .slice none 0 0 ∧ m = []) ∨ ∃ g cap, v = .slice (some ⟨g, 0, none⟩) m.length cap ∧ g < w.heap.size ∧ m.length ≤ cap ∧ cap ≤ maxLen ∧ (∀ j e, m[j]? = some e → w.cell? ⟨g, j * 2, none⟩ = some (.int .u64 e.1) ∧ w.cell? ⟨g, j * 2 + 1, none⟩ = some (.int .i64 e.2)) ∧ ∀ j, w.frozen? ⟨g, j, none⟩ = false := by
  rcases h.2 with ⟨rfl, h0⟩ | ⟨g, cap, cur, rfl, hb, hg, hn, hm, hs, ht⟩
  · exact .inl ⟨rfl, List.eq_nil_of_length_eq_zero h0⟩
  · refine .inr ⟨g, cap, rfl, (Array.getElem?_eq_some_iff.1 hg).1, hn, hm, fun j e hj => ?_, fun j => by simp [World.frozen?, hg]⟩
    have hjl : j < m.length := (List.getElem?_eq_some_iff.1 hj).1
    have := ecells_get (Value.int .i64) hj
    rw [← ht] at this
    constructor
    · have := this.1
      rw [List.getElem?_take_of_lt (by omega)] at this
      simpa [World.cell?, hg] using this
    · have := this.2
      rw [List.getElem?_take_of_lt (by omega)] at this
      simpa [World.cell?, hg] using this

/-- the first place of a key; below 0: nowhere -/
def ridx : MI → Int → Int
  | [], _ => -1
  | e :: m, k => if e.1 = k then 0 else if ridx m k < 0 then -1 else ridx m k + 1
theorem ridx_spec (m : MI) (k : Int) : (ridx m k = -1 ∧ ¬ has m k) ∨ ∃ (i : Nat) (v : Int), i < m.length ∧ ridx m k = i ∧ m[i]? = some (k, v) ∧ ∀ j, j < i → ∀ e, m[j]? = some e → e.1 ≠ k := by
  induction m with
  | nil => exact .inl ⟨rfl, fun ⟨v, h⟩ => by simp at h⟩
  | cons e m ih =>
    unfold ridx
    by_cases h : e.1 = k
    · rw [if_pos h]
      exact .inr ⟨0, e.2, by simp, rfl, by simp [← h], fun j hj => by omega⟩
    · rw [if_neg h]
      rcases ih with ⟨h1, h2⟩ | ⟨i, v, h1, h2, h3, h4⟩
      · rw [h1, if_pos (by decide)]
        exact .inl ⟨rfl, fun ⟨v, hv⟩ => by
          rcases List.mem_cons.1 hv with e' | e'
          · exact h (by rw [← e'])
          · exact h2 ⟨v, e'⟩⟩
      · rw [h2, if_neg (by omega)]
        refine .inr ⟨i + 1, v, by simp; omega, by omega, by simpa using h3, fun j hj x hx => ?_⟩
        cases j with
        | zero => simp at hx; rw [← hx]; exact h
        | succ j => exact h4 j (by omega) x (by simpa using hx)
/-- the key's place, told by its fellows -/
theorem ridx_is {m : MI} {k v : Int} {i : Nat} (h : m[i]? = some (k, v)) (h' : ∀ j, j < i → ∀ e, m[j]? = some e → e.1 ≠ k) : ridx m k = i := by
  rcases ridx_spec m k with ⟨_, h2⟩ | ⟨j, u, h1, h2, h3, h4⟩
  · exact absurd ⟨v, List.mem_of_getElem? h⟩ h2
  · rw [h2]
    have : j = i := by
      rcases Nat.lt_trichotomy i j with a | a | a
      · exact absurd rfl (h4 i a _ h)
      · exact a.symm
      · exact absurd rfl (h' j a _ h3)
    rw [this]
theorem ridx_none {m : MI} {k : Int} (h : ∀ (j : Nat) (e : Int × Int), m[j]? = some e → e.1 ≠ k) : ridx m k = -1 := by
  rcases ridx_spec m k with ⟨h1, _⟩ | ⟨j, u, h1, h2, h3, h4⟩
  · exact h1
  · exact absurd rfl (h j _ h3)

set_option maxHeartbeats 2000000 in
theorem refFind (m : MI) (k : Int) (v : Value) (w : World) (h : RL w v m) (hm : m.length ≤ 64) : Calls Try.prog 17 #[v, .int .u64 k] w fun e w' => e = .returned (.int .i64 (ridx m k)) ∧ w = w' := by
  rcases h.cells with ⟨rfl, rfl⟩ | ⟨g, cap, rfl, hg, hcap, _, hc, _⟩
  · go_enter Try.func17, Try.ntmps17
    go_wp2_with fail
    go_loop [5] (fun i => i = .int .i64 0) (fun _ => 0)
    case atStart => rfl
    case round =>
      subst hrel
      go_wp2_with fail
      go_ret
      exact ⟨rfl, rfl⟩
  · have HC := Lib.hid hc
    clear hc h
    obtain ⟨L, hL⟩ : ∃ L, L = m.length := ⟨_, rfl⟩
    have HL := Lib.hid hL
    rw [← hL] at hm hcap ⊢
    clear hL
    go_enter Try.func17, Try.ntmps17
    go_wp2_with fail
    go_loop [5] (fun i => ∃ j : Nat, j ≤ L ∧ i = .int .i64 j ∧ Hid (∀ q, q < j → ∀ e, m[q]? = some e → e.1 ≠ k)) (fun i => L - (intOf i).toNat)
    case atStart => exact ⟨0, by omega, rfl, Lib.hid (fun q hq => by omega)⟩
    case round =>
      obtain ⟨j, hj, rfl, HQ⟩ := hrel
      by_cases hlt : j < L
      · have hjm : j < m.length := by rw [← HL.out]; exact hlt
        have hj2 := HC.out j _ (List.getElem?_eq_getElem hjm)
        have c0 := hj2.1
        have HE := Lib.hid (List.getElem?_eq_getElem hjm)
        clear hj2
        generalize m[j] = x at *
        by_cases hx : x.1 = k
        · have hd : (x.1 == k) = true := by rw [hx]; exact beq_self_eq_true k
          have HX := Lib.hid hx
          clear hx
          go_wp2_with fail
          go_ret
          exact ⟨by rw [ridx_is (v := x.2) (by rw [HE.out, ← HX.out]) HQ.out]; rfl, rfl⟩
        · have hd : (x.1 == k) = false := beq_eq_false_iff_ne.2 hx
          go_wp2_with fail
          go_round
          case rel =>
            refine ⟨j + 1, by omega, by go_num, Lib.hid (fun q hq e he => ?_)⟩
            by_cases e' : q = j
            · subst e'; rw [HE.out] at he; cases he; exact hx
            · exact HQ.out q (by omega) e he
          case measure => simp only [intOf]; omega
      · obtain rfl : j = L := by omega
        go_wp2_with fail
        go_ret
        exact ⟨by rw [ridx_none (fun q e he => HQ.out q (by have := (List.getElem?_eq_some_iff.1 he).1; rw [HL.out]; exact this) e he)]; rfl, rfl⟩
end Go.Proofs.Ytkkaogdcodmpcaa
