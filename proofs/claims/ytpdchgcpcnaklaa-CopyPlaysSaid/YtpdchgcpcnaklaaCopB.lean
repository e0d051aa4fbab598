/- A copy: a new one, its bytes, its touch, each by a contract. -/
import Derived.Test.YtpdchgcpcnaklaaCop
namespace Go.Proofs.Ytpdchgcpcnaklaa
open Go.RowKit Go.ChangeShapes Go.WideShapes
set_option linter.unusedVariables false

/-- what is handed back is a slice of these bytes, new -/
def NewBytes (w : World) (a : Option Addr) (xs : List Int) (w' : World) : Prop := 0 < xs.length → ∃ b off, a = some ⟨b, off, none⟩ ∧ w.heap.size ≤ b ∧ b < w'.heap.size ∧ ∀ j, j < xs.length → w'.cell? ⟨b, off + j, none⟩ = some (.int .u8 (xs.getD j 0))
theorem NewBytes.holds {w w' : World} {a : Option Addr} {xs : List Int} (h : NewBytes w a xs w') : Holds w' a xs := fun h0 => by
  obtain ⟨b, off, e, _, hlt, hc⟩ := h h0
  exact ⟨b, off, e, hlt, hc⟩
theorem NewBytes.holdsX {w w' : World} {a : Option Addr} {xs : List Int} {M D C : Nat} (h : NewBytes w a xs w') (h1 : M < w.heap.size) (h2 : D < w.heap.size) (h3 : C < w.heap.size) : HoldsX w' a xs M D C := fun h0 => by
  obtain ⟨b, off, e, hb, hlt, hc⟩ := h h0
  exact ⟨b, off, e, hlt, by omega, by omega, by omega, hc⟩
theorem OwnBytes.news {w w' : World} {v : Value} {xs : List Int} (h : OwnBytes w v w' xs) : ∃ a cap, v = .slice a xs.length cap ∧ NewBytes w a xs w' := by
  have h1 := h.1
  rcases h.1 with ⟨hl, ⟨rfl, hn⟩ | ⟨g, cap, cur, rfl, hg, hb, _⟩⟩
  · exact ⟨none, 0, by rw [hn], fun h0 => by omega⟩
  · refine ⟨_, cap, rfl, fun h0 => ⟨g, 0, rfl, hg, lt_of_block hb, fun j hj => ?_⟩⟩
    rw [Nat.zero_add]
    rw [World.ownsRow.cellAt h1 j (by simp; exact hj)]
    simp [bcells, List.getD, List.getElem?_eq_getElem hj]

def CloneAny (w : World) (xs : List Int) (e : Ending) (w' : World) : Prop := ∃ a cap, e = .returned (.slice a xs.length cap) ∧ NewBytes w a xs w' ∧ Below w.heap.size w w'

theorem bytesCloneNil (w : World) (c : Nat) : Calls Try.prog 37 #[.slice none 0 c] w fun e w' => e = .returned (.slice none 0 0) ∧ w = w' := by
  have hnil := fun w => Lib.run_eql_slice_nil (P := Try.prog) w 22 5 none 0 c 0 0 Try.underlying22
  go_enter Try.func37, Try.ntmps37
  go_wp2_with fail
  go_ret
  exact ⟨rfl, rfl⟩

theorem bytesCloneAny (a : Option Addr) (c m : Nat) (xs : List Int) (w : World) (hm : m = xs.length) (h : Holds w a xs) (hL : m ≤ 256) : Calls Try.prog 37 #[.slice a m c] w (CloneAny w xs) := by
  cases a with
  | none =>
    have h0 : xs.length = 0 := by
      by_cases h0 : 0 < xs.length
      · obtain ⟨b, off, e, _⟩ := h h0
        cases e
      · omega
    obtain rfl : m = 0 := by omega
    exact (bytesCloneNil w c).mono fun e w' ⟨he, hw⟩ => ⟨none, 0, by rw [he, h0], fun h => by omega, hw ▸ Below.refl _ _⟩
  | some ad =>
    refine (bytesClone ad c xs w m hm ?_ hL).mono fun e w' ⟨v, he, hv⟩ => ?_
    · intro j u hu
      have hj : j < xs.length := by have := (List.getElem?_eq_some_iff.1 hu).1; simpa [bcells] using this
      obtain ⟨b, off, e, _, hc⟩ := h (by omega)
      cases e
      rw [add_is, hc j hj, ← hu]
      simp [bcells, List.getD, List.getElem?_eq_getElem hj]
    · obtain ⟨a, cap, rfl, hn⟩ := hv.news
      exact ⟨a, cap, he, hn, hv.2⟩

theorem cpBytes (M D C : Nat) (addr n : Int) (out : Bool) (s : CS) (w : World) (h : Cpy w M D C addr n out s) (hL : s.xs.length ≤ 256) : Calls Try.prog 31 #[.pointer (some ⟨C, 0, none⟩)] w (CloneAny w s.xs) := by
  obtain ⟨a, cap, h1, h2⟩ := h.is
  have c5 := h1.c5
  have HC := Lib.hid (bytesCloneAny a cap _ s.xs w rfl h2.holds hL)
  clear h1 h h2
  generalize s.xs = xs at *
  go_enter Try.func31, Try.ntmps31
  go_wp2_with fail
  refine HC.out.mono ?_
  rintro e w' ⟨a', cap', rfl, h1, h2⟩
  have H1 := Lib.hid h1
  have H2 := Lib.hid h2
  clear h1 h2
  go_wp2_with fail
  go_ret
  exact ⟨a', cap', rfl, H1.out, H2.out⟩

theorem cpMade (C : Nat) (addr n page tries : Int) (out over waits : Bool) (a : Option Addr) (len cap : Nat) (w : World) (h : IsCp w C addr n out over waits a len cap page tries) (h0 : 0 ≤ n) (h1 : n ≤ 64) :
    Calls Try.prog 43 #[.pointer (some ⟨C, 0, none⟩)] w fun e w' => e = .returned (.tuple #[.pointer (some ⟨C, 0, none⟩), .int .i64 0]) ∧ w = w' := by
  have c1 := h.c1
  have d1 : decide (n < 0) = false := decide_eq_false (by omega)
  have d2 : decide (64 < n) = false := decide_eq_false (by omega)
  clear h
  go_enter Try.func43, Try.ntmps43
  go_wp2
  go_ret2
  exact ⟨rfl, rfl⟩
theorem cpMadeBad (C : Nat) (addr n page tries : Int) (out over waits : Bool) (a : Option Addr) (len cap : Nat) (w : World) (h : IsCp w C addr n out over waits a len cap page tries) (h0 : n < 0 ∨ 64 < n) :
    Calls Try.prog 43 #[.pointer (some ⟨C, 0, none⟩)] w fun e w' => e = .returned (.tuple #[.pointer none, .int .i64 1]) ∧ w = w' := by
  have c1 := h.c1
  clear h
  by_cases h1 : n < 0
  · have d1 : decide (n < 0) = true := decide_eq_true h1
    clear h0
    go_enter Try.func43, Try.ntmps43
    go_wp2
    go_ret2
    exact ⟨rfl, rfl⟩
  · have d1 : decide (n < 0) = false := decide_eq_false h1
    have d2 : decide (64 < n) = true := decide_eq_true (by omega)
    clear h0
    go_enter Try.func43, Try.ntmps43
    go_wp2
    go_ret2
    exact ⟨rfl, rfl⟩

theorem cpInBad (addr n : Int) (w : World) (h0 : n < 0 ∨ 64 < n) : Calls Try.prog 27 #[.int .i64 addr, .int .i64 n] w fun e w' => e = .returned (.tuple #[.pointer none, .int .i64 1]) ∧ Below w.heap.size w w' := by
  have HM := Lib.hid (fun (o : Obj) (ho : o = .cells #[.int .i64 addr, .int .i64 n, .bool false, .bool false, .bool false, .slice none 0 0, .int .i64 0, .int .i64 0] 88 (0, 0)) => cpMadeBad w.heap.size addr n 0 0 false false false none 0 0 (w.alloc o) (by rw [ho]; exact heap_alloc_new w _) h0)
  have BA := Lib.hid (below_alloc w (.cells #[.int .i64 addr, .int .i64 n, .bool false, .bool false, .bool false, .slice none 0 0, .int .i64 0, .int .i64 0] 88))
  clear h0
  go_enter Try.func27, Try.ntmps27
  go_wp2_with fail
  refine (HM.out _ rfl).mono ?_; rintro e w' ⟨rfl, rfl⟩
  go_wp2_with fail
  go_ret2
  exact ⟨rfl, BA.out⟩
theorem cpIn (addr n : Int) (w : World) (h0 : 0 ≤ n) (h1 : n ≤ 64) : Calls Try.prog 27 #[.int .i64 addr, .int .i64 n] w fun e w' => e = .returned (.tuple #[.pointer (some ⟨w.heap.size, 0, none⟩), .int .i64 0]) ∧ Below w.heap.size w w' ∧ IsCp w' w.heap.size addr n false false false none 0 0 0 0 := by
  have HM := Lib.hid (fun (o : Obj) (ho : o = .cells #[.int .i64 addr, .int .i64 n, .bool false, .bool false, .bool false, .slice none 0 0, .int .i64 0, .int .i64 0] 88 (0, 0)) => cpMade w.heap.size addr n 0 0 false false false none 0 0 (w.alloc o) (by rw [ho]; exact heap_alloc_new w _) h0 h1)
  have BA := Lib.hid (below_alloc w (.cells #[.int .i64 addr, .int .i64 n, .bool false, .bool false, .bool false, .slice none 0 0, .int .i64 0, .int .i64 0] 88))
  have HI := Lib.hid (show IsCp (w.alloc (.cells #[.int .i64 addr, .int .i64 n, .bool false, .bool false, .bool false, .slice none 0 0, .int .i64 0, .int .i64 0] 88)) w.heap.size addr n false false false none 0 0 0 0 from heap_alloc_new w _)
  clear h0 h1
  go_enter Try.func27, Try.ntmps27
  go_wp2_with fail
  refine (HM.out _ rfl).mono ?_; rintro e w' ⟨rfl, rfl⟩
  go_wp2_with fail
  go_ret2
  exact ⟨rfl, BA.out, HI.out⟩
end Go.Proofs.Ytpdchgcpcnaklaa
