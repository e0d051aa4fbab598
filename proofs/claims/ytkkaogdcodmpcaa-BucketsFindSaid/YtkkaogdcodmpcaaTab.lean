/- Buckets: what a table is in memory; plain facts on chains. -/
import Derived.Test.YtkkaogdcodmpcaaRows
import Derived.WalkKit
import Derived.ProofKit
import Derived.Handy
import Derived.Lib.Hide
import Derived.BigQuiet
import Derived.Deep.QuietTactic
import Derived.Outline
import Derived.Deep.OwnRows
import Derived.Maps.AppendAt
namespace Go.Proofs.Ytkkaogdcodmpcaa
open Go.RowKit
set_option linter.unusedVariables false

theorem dm_u64 (x : Int) : 0 ≤ IntKind.u64.wrap x ∧ IntKind.u64.wrap x ≤ 18446744073709551615 := by rw [IntKind.wrap_u64]; omega

theorem ret_int {k : IntKind} {a b : Int} (h : a = b) : Ending.returned (.int k a) = .returned (.int k b) := by rw [h]
/-- a key, mixed -/
def mix (k : Int) : Int := IntKind.u64.wrap (k * 11400714819323198485) / 4294967296
/-- a key's bucket -/
def bkt (k : Int) (nb : Nat) : Nat := (mix k % nb).toNat
theorem mix_bd (k : Int) : 0 ≤ mix k ∧ mix k ≤ 4294967295 := by have := dm_u64 (k * 11400714819323198485); unfold mix; omega
theorem bkt_lt (k : Int) (nb : Nat) (h : 1 ≤ nb) : bkt k nb < nb := by
  have h1 := Int.emod_nonneg (mix k) (show (nb : Int) ≠ 0 by omega)
  have h2 := Int.emod_lt_of_pos (mix k) (show 0 < (nb : Int) by omega)
  unfold bkt; omega
theorem bkt_is (k : Int) (nb : Nat) (h : 1 ≤ nb) (hb : nb ≤ 64) : wrap64 ((IntKind.u64.wrap (k * 11400714819323198485) / 4294967296).tmod nb) = bkt k nb := by
  have hm := mix_bd k
  have h1 := Int.emod_nonneg (mix k) (show (nb : Int) ≠ 0 by omega)
  have h2 := Int.emod_lt_of_pos (mix k) (show 0 < (nb : Int) by omega)
  show wrap64 ((mix k).tmod nb) = _
  rw [Int.tmod_eq_emod_of_nonneg hm.1]
  unfold bkt
  rw [Int.toNat_of_nonneg h1]
  unfold wrap64
  omega

/-- a key's place in a chain, counted from the end; below 0: nowhere -/
def fnd {β : Type} : List (Int × β) → Int → Int
  | [], _ => -1
  | e :: r, k => if e.1 = k then (r.length : Int) else fnd r k
/-- a bucket's keys, the last that came first -/
def chn {β : Type} (m : List (Int × β)) (nb b : Nat) : List (Int × β) := m.filter fun e => bkt e.1 nb == b
def ecells {β : Type} (enc : β → Value) (l : List (Int × β)) : List Value := l.flatMap fun e => [.int .u64 e.1, enc e.2]
theorem ecells_len {β : Type} (enc : β → Value) (l : List (Int × β)) : (ecells enc l).length = l.length * 2 := by
  induction l with
  | nil => rfl
  | cons e l ih => simp [ecells] at *; omega
theorem fnd_lo {β : Type} (r : List (Int × β)) (k : Int) : -1 ≤ fnd r k ∧ fnd r k < r.length := by
  induction r with
  | nil => simp [fnd]
  | cons e r ih =>
    unfold fnd
    split
    · simp; omega
    · simp; omega

/-- a table of so many buckets -/
structure Tab {β : Type} (enc : β → Value) (tt te ts : TypeId) (w : World) (T G nb room : Nat) (m : List (Int × β)) (ch : Nat → Value) : Prop where
  top : w.heap[T]? = some (.cells #[.slice (some ⟨G, 0, none⟩) nb nb, .int .i64 room, .int .i64 m.length] tt (0, 0))
  row : w.heap[G]? = some (.cells ((List.range nb).map ch).toArray ts (0, 0))
  own : ∀ b, b < nb → w.ownsRow 0 te 2 (ch b) (chn m nb b).length (ecells enc (chn m nb b).reverse)
  apart : ∀ b, b < nb → ∀ c, c < nb → b ≠ c → (ch b).ownBlock = none ∨ (ch b).ownBlock ≠ (ch c).ownBlock
  lo : 1 ≤ nb
  hi : nb ≤ 64
  rm : room ≤ 64
  cnt : m.length ≤ room
  nd : (m.map (·.1)).Nodup

variable {β : Type} {enc : β → Value} {tt te ts : TypeId} {w : World} {T G nb room : Nat} {m : List (Int × β)} {ch : Nat → Value}
theorem Tab.c0 (h : Tab enc tt te ts w T G nb room m ch) : w.cell? ⟨T, 0, none⟩ = some (.slice (some ⟨G, 0, none⟩) nb nb) := by have := h.top; simp [World.cell?, this]
theorem Tab.c1 (h : Tab enc tt te ts w T G nb room m ch) : w.cell? ⟨T, 1, none⟩ = some (.int .i64 room) := by have := h.top; simp [World.cell?, this]
theorem Tab.c2 (h : Tab enc tt te ts w T G nb room m ch) : w.cell? ⟨T, 2, none⟩ = some (.int .i64 m.length) := by have := h.top; simp [World.cell?, this]
theorem Tab.ft (h : Tab enc tt te ts w T G nb room m ch) (j : Nat) : w.frozen? ⟨T, j, none⟩ = false := by have := h.top; simp [World.frozen?, this]
theorem Tab.cg (h : Tab enc tt te ts w T G nb room m ch) {b : Nat} (hb : b < nb) : w.cell? ⟨G, b, none⟩ = some (ch b) := by have := h.row; simp [World.cell?, this, hb]
theorem Tab.fg (h : Tab enc tt te ts w T G nb room m ch) (j : Nat) : w.frozen? ⟨G, j, none⟩ = false := by have := h.row; simp [World.frozen?, this]

theorem ecells_get (enc : β → Value) {l : List (Int × β)} {i : Nat} {e : Int × β} (h : l[i]? = some e) : (ecells enc l)[i * 2]? = some (.int .u64 e.1) ∧ (ecells enc l)[i * 2 + 1]? = some (enc e.2) := by
  induction l generalizing i with
  | nil => simp at h
  | cons a l ih =>
    cases i with
    | zero => simp at h; subst h; simp [ecells]
    | succ i =>
      simp at h
      have := ih h
      simpa [ecells, Nat.succ_mul] using this
/-- a slice that holds a chain -/
def Row (enc : β → Value) (n₀ : Nat) (W : World) (v : Value) (r : List (Int × β)) : Prop :=
  (v = .slice none 0 0 ∧ r = []) ∨ ∃ g cap, v = .slice (some ⟨g, 0, none⟩) r.length cap ∧ g < n₀ ∧ r.length ≤ cap ∧ ∀ j e, r[j]? = some e → W.cell? ⟨g, (r.length - 1 - j) * 2, none⟩ = some (.int .u64 e.1) ∧ W.cell? ⟨g, (r.length - 1 - j) * 2 + 1, none⟩ = some (enc e.2)
theorem Row.below {n₀ : Nat} {W W' : World} {v : Value} {r : List (Int × β)} (h : Row enc n₀ W v r) (b : Below n₀ W W') : Row enc n₀ W' v r := by
  rcases h with h | ⟨g, cap, e, hg, hcap, hc⟩
  · exact .inl h
  · exact .inr ⟨g, cap, e, hg, hcap, fun j x hj => ⟨(b.cell (p := ⟨g, _, none⟩) hg).trans (hc j x hj).1, (b.cell (p := ⟨g, _, none⟩) hg).trans (hc j x hj).2⟩⟩
theorem row_of_owns {v : Value} {r : List (Int × β)} {base : Nat} (h : w.ownsRow base te 2 v r.length (ecells enc r.reverse)) : Row enc w.heap.size w v r := by
  rcases h.2 with ⟨rfl, h0⟩ | ⟨g, cap, cur, rfl, hb, hg, hn, hm, hs, ht⟩
  · exact .inl ⟨rfl, List.eq_nil_of_length_eq_zero h0⟩
  · refine .inr ⟨g, cap, rfl, (Array.getElem?_eq_some_iff.1 hg).1, hn, fun j e hj => ?_⟩
    have hjl : j < r.length := (List.getElem?_eq_some_iff.1 hj).1
    have h2 : r.reverse[r.length - 1 - j]? = some e := by
      rw [List.getElem?_reverse (by omega), show r.length - 1 - (r.length - 1 - j) = j from by omega]; exact hj
    have := ecells_get enc h2
    rw [← ht] at this
    constructor
    · have := this.1
      rw [List.getElem?_take_of_lt (by omega)] at this
      simpa [World.cell?, hg] using this
    · have := this.2
      rw [List.getElem?_take_of_lt (by omega)] at this
      simpa [World.cell?, hg] using this
theorem Tab.chain (h : Tab enc tt te ts w T G nb room m ch) {b : Nat} (hb : b < nb) : Row enc w.heap.size w (ch b) (chn m nb b) := row_of_owns (h.own b hb)
theorem chn_len (m : List (Int × β)) (nb b : Nat) : (chn m nb b).length ≤ m.length := List.length_filter_le _ _
theorem Tab.ltT (h : Tab enc tt te ts w T G nb room m ch) : T < w.heap.size := (Array.getElem?_eq_some_iff.1 h.top).1
theorem Tab.ltG (h : Tab enc tt te ts w T G nb room m ch) : G < w.heap.size := (Array.getElem?_eq_some_iff.1 h.row).1
/-- the table stands where its blocks do -/
def Mine (T G nb : Nat) (ch : Nat → Value) (k : Nat) : Prop := k = T ∨ k = G ∨ ∃ b, b < nb ∧ (ch b).ownBlock = some k
theorem Tab.ownlt (h : Tab enc tt te ts w T G nb room m ch) {k : Nat} (hk : Mine T G nb ch k) : k < w.heap.size := by
  rcases hk with rfl | rfl | ⟨b, hb, e⟩
  · exact h.ltT
  · exact h.ltG
  · exact ((h.own b hb).lt k e).2
theorem Tab.same {w' : World} (h : Tab enc tt te ts w T G nb room m ch) (b : ∀ k, Mine T G nb ch k → w'.heap[k]? = w.heap[k]?) : Tab enc tt te ts w' T G nb room m ch := by
  refine ⟨(b T (.inl rfl)).trans h.top, (b G (.inr (.inl rfl))).trans h.row, fun c hc => ?_, h.apart, h.lo, h.hi, h.rm, h.cnt, h.nd⟩
  have ho := h.own c hc
  refine ⟨ho.1, ?_⟩
  rcases ho.2 with hn | ⟨g, cap, cur, e, h1, h2, h3⟩
  · exact .inl hn
  · exact .inr ⟨g, cap, cur, e, h1, (b g (.inr (.inr ⟨c, hc, by rw [e]; rfl⟩))).trans h2, h3⟩
theorem Tab.kept {w' : World} (h : Tab enc tt te ts w T G nb room m ch) (b : Below w.heap.size w w') : Tab enc tt te ts w' T G nb room m ch := h.same fun k hk => b.block k (h.ownlt hk)
end Go.Proofs.Ytkkaogdcodmpcaa
