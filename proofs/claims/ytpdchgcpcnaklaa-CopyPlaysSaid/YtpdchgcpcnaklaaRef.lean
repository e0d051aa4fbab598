/- The document's memory: its cells, and its functions, each by a contract. -/
import Derived.Test.YtpdchgcpcnaklaaView
namespace Go.Proofs.Ytpdchgcpcnaklaa
open Go.RowKit Go.ChangeShapes Go.WideShapes
set_option linter.unusedVariables false

/-- the cells of n bytes f with the states g -/
def rcells (n : Nat) (f g : Nat → Int) : List Value := (List.range (n * 2)).map fun i => if i % 2 = 0 then Value.int .u8 (f (i / 2)) else Value.int .i64 (g (i / 2))
theorem rcells_len (n : Nat) (f g : Nat → Int) : (rcells n f g).length = n * 2 := by simp [rcells]
theorem rcells_b {n : Nat} (f g : Nat → Int) {j : Nat} (h : j < n) : (rcells n f g)[j * 2]? = some (.int .u8 (f j)) := by
  simp [rcells, List.getElem?_range (show j * 2 < n * 2 by omega)]
theorem rcells_s {n : Nat} (f g : Nat → Int) {j : Nat} (h : j < n) : (rcells n f g)[j * 2 + 1]? = some (.int .i64 (g j)) := by
  simp [rcells, List.getElem?_range (show j * 2 + 1 < n * 2 by omega), show (j * 2 + 1) % 2 = 1 by omega, show (j * 2 + 1) / 2 = j by omega]
theorem rcells_congr {n : Nat} {f g f' g' : Nat → Int} (hf : ∀ j, j < n → f j = f' j) (hg : ∀ j, j < n → g j = g' j) : rcells n f g = rcells n f' g' := by
  unfold rcells
  apply List.map_congr_left
  intro i hi
  have hi := List.mem_range.1 hi
  rw [hf (i / 2) (by omega), hg (i / 2) (by omega)]
/-- a row of such cells -/
def RefAt (w : World) (R c n : Nat) (f g : Nat → Int) : Prop := w.ownsRow R 82 2 (.slice (some ⟨R, 0, none⟩) n c) n (rcells n f g)
theorem RefAt.b {w : World} {R c n : Nat} {f g : Nat → Int} (h : RefAt w R c n f g) {j : Nat} (hj : j < n) : w.cell? ⟨R, j * 2, none⟩ = some (.int .u8 (f j)) := by rw [World.ownsRow.cellAt h _ (by omega)]; exact rcells_b f g hj
theorem RefAt.s {w : World} {R c n : Nat} {f g : Nat → Int} (h : RefAt w R c n f g) {j : Nat} (hj : j < n) : w.cell? ⟨R, j * 2 + 1, none⟩ = some (.int .i64 (g j)) := by rw [World.ownsRow.cellAt h _ (by omega)]; exact rcells_s f g hj
theorem RefAt.congr {w : World} {R c n : Nat} {f g f' g' : Nat → Int} (h : RefAt w R c n f g) (hf : ∀ j, j < n → f j = f' j) (hg : ∀ j, j < n → g j = g' j) : RefAt w R c n f' g' := by unfold RefAt; rw [← rcells_congr hf hg]; exact h
theorem RefAt.lt {w : World} {R c n : Nat} {f g : Nat → Int} (h : RefAt w R c n f g) : R < w.heap.size := (World.ownsRow.lt h R rfl).2

theorem refWithin (a : Option Addr) (n c : Nat) (p q : Int) (w : World) (hn : n ≤ 256) : Calls Try.prog 42 #[.slice a n c, .int .i64 p, .int .i64 q] w fun e w' => e = .returned (.bool (!outB p q n)) ∧ w = w' := by
  by_cases a1 : p < 0
  · have hv := Lib.hid (show outB p q n = true from by unfold outB; simp [a1])
    go_enter Try.func42, Try.ntmps42
    go_wp2
    go_ret
    exact ⟨by rw [hv.out]; rfl, rfl⟩
  · by_cases a2 : q < 0
    · have hv := Lib.hid (show outB p q n = true from by unfold outB; simp [a2])
      go_enter Try.func42, Try.ntmps42
      go_wp2
      go_ret
      exact ⟨by rw [hv.out]; rfl, rfl⟩
    · obtain ⟨k, rfl⟩ := Int.eq_ofNat_of_zero_le (show 0 ≤ p by omega)
      by_cases a3 : n < k
      · have hv := Lib.hid (show outB k q n = true from by unfold outB; simp [a3])
        go_enter Try.func42, Try.ntmps42
        go_wp2
        go_ret
        exact ⟨by rw [hv.out]; rfl, rfl⟩
      · by_cases a4 : (n : Int) - k < q
        · have hv := Lib.hid (show outB k q n = true from by unfold outB; simp [a4])
          have d4 : decide (q ≤ (n : Int) - k) = false := decide_eq_false (by omega)
          go_enter Try.func42, Try.ntmps42
          go_wp2
          go_ret
          exact ⟨by rw [hv.out]; rfl, rfl⟩
        · have hv := Lib.hid (show outB k q n = false from decide_eq_false (by omega))
          have d4 : decide (q ≤ (n : Int) - k) = true := decide_eq_true (by omega)
          go_enter Try.func42, Try.ntmps42
          go_wp2
          go_ret
          exact ⟨by rw [hv.out]; rfl, rfl⟩

theorem info82 : (Try.prog.info? 82).map (fun i => (i.zero, i.size, i.bytes)) = some (some (.agg #[.int .u8 0, .int .i64 0]), 2, 16) := by kernel_rfl
theorem madeCells_ref (n : Nat) : (madeCells #[Value.int .u8 0, .int .i64 0] (n * 2)).toList = rcells n (fun _ => 0) (fun _ => 0) := by
  apply List.ext_getElem?
  intro i
  by_cases h : i < n * 2
  · rcases Nat.mod_two_eq_zero_or_one i with e | e <;> simp [madeCells, rcells, h, e]
  · simp [madeCells, rcells, h]

theorem refNew (p : Nat) (w : World) (h1 : 1 ≤ p) (h2 : p ≤ 16) :
    Calls Try.prog 17 #[.int .i64 p] w fun e w' => e = .returned (.slice (some ⟨w.heap.size, 0, none⟩) (16 * p) (16 * p)) ∧ Below w.heap.size w w' ∧ RefAt w' w.heap.size (16 * p) (16 * p) (fun _ => 0) (fun _ => 0) := by
  obtain ⟨i, hi, hzz⟩ := Option.map_eq_some_iff.1 info82
  simp only [Prod.mk.injEq] at hzz
  obtain ⟨hz, hs, hb⟩ := hzz
  have hmk := fun w => run_make (P := Try.prog) w 35 82 i _ Try.underlying35 hi hz .i64 .i64 ((p : Int) * 16) ((p : Int) * 16) (by omega) (by omega) (by rw [hb]; omega) (by omega)
  have tn : ((p : Int) * 16).toNat = 16 * p := by omega
  rw [tn, hs, show (Value.agg #[Value.int .u8 0, Value.int .i64 0]).cells = #[.int .u8 0, .int .i64 0] from by kernel_rfl] at hmk
  have hown := Lib.hid (World.ownsRow_lit (base := w.heap.size) (e := 82) (size := 2) w (madeCells #[.int .u8 0, .int .i64 0] (16 * p * 2)) (16 * p) (Nat.le_refl _) (by unfold maxLen; omega) (by rw [size_madeCells]))
  rw [madeCells_ref] at hown
  clear hi hz hs hb
  go_enter Try.func17, Try.ntmps17
  go_wp2
  go_ret
  exact ⟨rfl, by go_grown, hown.out⟩

theorem refStateBad (a : Option Addr) (n c : Nat) (p : Int) (w : World) (hn : n ≤ 256) (h : pageB p n = true) : Calls Try.prog 21 #[.slice a n c, .int .i64 p] w fun e w' => e = .returned (.int .i64 2) ∧ w = w' := by
  have h' := of_decide_eq_true h
  clear h
  by_cases a1 : p < 0
  · clear h'
    go_enter Try.func21, Try.ntmps21
    go_wp2
    go_ret
    exact ⟨rfl, rfl⟩
  · have a2 : (n : Int) / 16 ≤ p := by omega
    clear h'
    go_enter Try.func21, Try.ntmps21
    go_wp2
    go_ret
    exact ⟨rfl, rfl⟩
theorem refState (R c n k : Nat) (f g : Nat → Int) (w : World) (h : RefAt w R c n f g) (hn : n ≤ 256) (hk : pageB k n = false) : Calls Try.prog 21 #[.slice (some ⟨R, 0, none⟩) n c, .int .i64 k] w fun e w' => e = .returned (.int .i64 (g (k * 16))) ∧ w = w' := by
  have h' := of_decide_eq_false hk
  have a1 : (k : Int) < (n : Int) / 16 := by omega
  have hlt : k * 16 < n := by omega
  have hc := h.s hlt
  have HG := Lib.hid h'
  generalize g (k * 16) = s at *
  clear h h' hk HG
  go_enter Try.func21, Try.ntmps21
  go_wp2
  go_ret
  exact ⟨rfl, rfl⟩
end Go.Proofs.Ytpdchgcpcnaklaa
