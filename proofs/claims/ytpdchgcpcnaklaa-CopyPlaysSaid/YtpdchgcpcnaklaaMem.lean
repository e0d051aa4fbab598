/- A user's memory: what it is in memory, and its methods that change no bytes, each by a contract. -/
import Derived.Test.YtpdchgcpcnaklaaRows
import Derived.WalkKit
import Derived.ProofKit
import Derived.Handy
import Derived.Lib.Hide
import Derived.BigQuiet
import Derived.Deep.QuietTactic
import Derived.Outline
import Derived.Deep.OwnRows
namespace Go.Proofs.Ytpdchgcpcnaklaa
open Go.RowKit
set_option linter.unusedVariables false

/-- the sixteen states of pages, as cells -/
def pcells (ps : List Int) : List Value := ps.map (Value.int .i64)
def bcells (bs : List Int) : List Value := bs.map (Value.int .u8)
/-- block M is a memory whose bytes lie in block D -/
structure IsMem (w : World) (M D : Nat) (bs ps : List Int) : Prop where
  mem : w.heap[M]? = some (.cells (Value.slice (some ⟨D, 0, none⟩) bs.length bs.length :: pcells ps).toArray 73 (0, 0))
  dat : w.heap[D]? = some (.cells (bcells bs).toArray 5 (0, 0))
  plen : ps.length = 16
  ne : M ≠ D
/-- what the numbers are -/
structure Fine (bs ps : List Int) : Prop where
  len : ∃ p : Nat, 1 ≤ p ∧ p ≤ 16 ∧ bs.length = 16 * p
  bytes : ∀ x ∈ bs, 0 ≤ x ∧ x ≤ 255
  states : ∀ x ∈ ps, 0 ≤ x ∧ x ≤ 2

theorem IsMem.c0 {w : World} {M D : Nat} {bs ps : List Int} (h : IsMem w M D bs ps) : w.cell? ⟨M, 0, none⟩ = some (.slice (some ⟨D, 0, none⟩) bs.length bs.length) := by have := h.mem; simp [World.cell?, this]
theorem IsMem.cp {w : World} {M D : Nat} {bs ps : List Int} (h : IsMem w M D bs ps) (j : Nat) (hj : j < 16) : w.cell? ⟨M, 1 + j, none⟩ = some (.int .i64 (ps.getD j 0)) := by
  have h1 := h.mem
  have h2 := h.plen
  rw [Nat.add_comm 1 j]
  simp [World.cell?, h1, pcells, List.getD]
  rw [List.getElem?_eq_getElem (by omega)]
  simp
theorem IsMem.fr {w : World} {M D : Nat} {bs ps : List Int} (h : IsMem w M D bs ps) (j : Nat) : w.frozen? ⟨M, j, none⟩ = false := by have := h.mem; simp [World.frozen?, this]
theorem IsMem.cd {w : World} {M D : Nat} {bs ps : List Int} (h : IsMem w M D bs ps) (j : Nat) (hj : j < bs.length) : w.cell? ⟨D, j, none⟩ = some (.int .u8 (bs.getD j 0)) := by
  have h1 := h.dat
  simp [World.cell?, h1, bcells, List.getD, List.getElem?_eq_getElem hj]
theorem IsMem.kept {w w' : World} {M D k : Nat} {bs ps : List Int} (h : IsMem w M D bs ps) (b : Below k w w') (hM : M < k) (hD : D < k) : IsMem w' M D bs ps :=
  ⟨(b.block M hM).trans h.mem, (b.block D hD).trans h.dat, h.plen, h.ne⟩
theorem IsMem.ltM {w : World} {M D : Nat} {bs ps : List Int} (h : IsMem w M D bs ps) : M < w.heap.size := lt_of_block h.mem
theorem IsMem.ltD {w : World} {M D : Nat} {bs ps : List Int} (h : IsMem w M D bs ps) : D < w.heap.size := lt_of_block h.dat
theorem block_setCell {w : World} {b o : Nat} {v : Value} {cs : Array Value} {t : TypeId} {fr : Nat × Nat} (h : w.heap[b]? = some (.cells cs t fr)) : (w.setCell ⟨b, o, none⟩ v).heap[b]? = some (.cells (cs.setIfInBounds o v) t fr) := by
  have hlt := lt_of_block h
  have h' : w.heap[b] = .cells cs t fr := by simpa [Array.getElem?_eq_getElem hlt] using h
  show (w.heap.modify b _)[b]? = _
  rw [Array.getElem?_eq_getElem (by simpa using hlt), Array.getElem_modify_self, h']
  simp
theorem IsMem.setP {w : World} {M D : Nat} {bs ps : List Int} (h : IsMem w M D bs ps) (j : Nat) (v : Int) : IsMem (w.setCell ⟨M, 1 + j, none⟩ (.int .i64 v)) M D bs (ps.set j v) := by
  refine ⟨?_, (Below.heap_setCell w ⟨M, 1 + j, none⟩ _ D (fun e => h.ne e.symm)).trans h.dat, by rw [List.length_set]; exact h.plen, h.ne⟩
  rw [block_setCell h.mem, Nat.add_comm 1 j]
  simp [pcells, List.map_set]
theorem Fine.setP {bs ps : List Int} (h : Fine bs ps) (j : Nat) {v : Int} (v0 : 0 ≤ v) (v1 : v ≤ 2) : Fine bs (ps.set j v) := by
  refine ⟨h.len, h.bytes, fun x hx => ?_⟩
  rcases List.mem_or_eq_of_mem_set hx with hx | rfl
  · exact h.states x hx
  · exact ⟨v0, v1⟩

/-- is a piece outside? -/
def outB (addr n L : Int) : Bool := decide (addr < 0 ∨ n < 0 ∨ L < addr ∨ L - addr < n)
def outE (addr n L : Int) : Int := if outB addr n L = true then 2 else 0
/-- is there no such page? -/
def pageB (p L : Int) : Bool := decide (p < 0 ∨ L / 16 ≤ p)
def pageE (p L : Int) : Int := if pageB p L = true then 2 else 0

theorem ret_e {x y : Int} (h : x = y) : Ending.returned (.int .i64 x) = .returned (.int .i64 y) := by rw [h]

theorem memWithin (M D : Nat) (bs ps : List Int) (addr n : Int) (w : World) (h : IsMem w M D bs ps) (hL : bs.length ≤ 256) :
    Calls Try.prog 36 #[.pointer (some ⟨M, 0, none⟩), .int .i64 addr, .int .i64 n] w fun e w' => e = .returned (.int .i64 (outE addr n bs.length)) ∧ w = w' := by
  have c0 := h.c0
  clear h
  by_cases a : addr < 0
  · have hv := Lib.hid (show outE addr n bs.length = 2 from by unfold outE outB; simp [a])
    have d1 : decide (addr < 0) = true := decide_eq_true a
    go_enter Try.func36, Try.ntmps36
    go_wp2
    go_ret
    exact ⟨by rw [hv.out]; rfl, rfl⟩
  · have d1 : decide (addr < 0) = false := decide_eq_false a
    by_cases b : n < 0
    · have hv := Lib.hid (show outE addr n bs.length = 2 from by unfold outE outB; simp [b])
      have d2 : decide (n < 0) = true := decide_eq_true b
      go_enter Try.func36, Try.ntmps36
      go_wp2
      go_ret
      exact ⟨by rw [hv.out]; rfl, rfl⟩
    · have d2 : decide (n < 0) = false := decide_eq_false b
      obtain ⟨k, rfl⟩ := Int.eq_ofNat_of_zero_le (show 0 ≤ addr by omega)
      by_cases c : bs.length < k
      · have hv := Lib.hid (show outE k n bs.length = 2 from by unfold outE outB; simp [c])
        have d3 : decide (bs.length < k) = true := decide_eq_true c
        go_enter Try.func36, Try.ntmps36
        go_wp2
        go_ret
        exact ⟨by rw [hv.out]; rfl, rfl⟩
      · have d3 : decide (bs.length < k) = false := decide_eq_false c
        by_cases d : (bs.length : Int) - k < n
        · have hv := Lib.hid (show outE k n bs.length = 2 from by unfold outE outB; simp [d])
          have d4 : decide ((bs.length : Int) - k < n) = true := decide_eq_true d
          go_enter Try.func36, Try.ntmps36
          go_wp2
          go_ret
          exact ⟨by rw [hv.out]; rfl, rfl⟩
        · have hv := Lib.hid (show outE k n bs.length = 0 from by unfold outE outB; rw [decide_eq_false (by omega)]; simp)
          have d4 : decide ((bs.length : Int) - k < n) = false := decide_eq_false d
          go_enter Try.func36, Try.ntmps36
          go_wp2
          go_ret
          exact ⟨by rw [hv.out]; rfl, rfl⟩

theorem memPage (M D : Nat) (bs ps : List Int) (p : Int) (w : World) (h : IsMem w M D bs ps) (hL : bs.length ≤ 256) :
    Calls Try.prog 38 #[.pointer (some ⟨M, 0, none⟩), .int .i64 p] w fun e w' => e = .returned (.int .i64 (pageE p bs.length)) ∧ w = w' := by
  have c0 := h.c0
  clear h
  by_cases a : p < 0
  · have hv := Lib.hid (show pageE p bs.length = 2 from by unfold pageE pageB; simp [a])
    have d1 : decide (p < 0) = true := decide_eq_true a
    go_enter Try.func38, Try.ntmps38
    go_wp2
    go_ret
    exact ⟨by rw [hv.out]; rfl, rfl⟩
  · have d1 : decide (p < 0) = false := decide_eq_false a
    by_cases b : (bs.length : Int) / 16 ≤ p
    · have hv := Lib.hid (show pageE p bs.length = 2 from by unfold pageE pageB; rw [decide_eq_true (by omega)]; simp)
      have d2 : decide ((bs.length : Int) / 16 ≤ p) = true := decide_eq_true b
      go_enter Try.func38, Try.ntmps38
      go_wp2
      go_ret
      exact ⟨by rw [hv.out]; rfl, rfl⟩
    · have hv := Lib.hid (show pageE p bs.length = 0 from by unfold pageE pageB; rw [decide_eq_false (by omega)]; simp)
      have d2 : decide ((bs.length : Int) / 16 ≤ p) = false := decide_eq_false b
      go_enter Try.func38, Try.ntmps38
      go_wp2
      go_ret
      exact ⟨by rw [hv.out]; rfl, rfl⟩
end Go.Proofs.Ytpdchgcpcnaklaa
