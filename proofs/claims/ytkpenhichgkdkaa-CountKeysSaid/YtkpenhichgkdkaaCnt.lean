/- A count's methods and the reference's, each by a contract. -/
import Derived.Test.YtkpenhichgkdkaaRows
import Derived.WalkKit
import Derived.ProofKit
import Derived.Handy
import Derived.Lib.Hide
import Derived.BigQuiet
import Derived.Deep.QuietTactic
import Derived.Outline
namespace Go.Proofs.Ytkpenhichgkdkaa
open Go.RowKit
set_option linter.unusedVariables false

/-- block B is a count -/
def IsCnt (w : World) (B : Nat) (n top : Int) (s : Bool) : Prop := w.heap[B]? = some (.cells #[.int .i64 n, .int .i64 top, .bool s] 75 (0, 0))
theorem IsCnt.c0 {w : World} {B : Nat} {n top : Int} {s : Bool} (h : IsCnt w B n top s) : w.cell? ⟨B, 0, none⟩ = some (.int .i64 n) := by unfold IsCnt at h; simp [World.cell?, h]
theorem IsCnt.c1 {w : World} {B : Nat} {n top : Int} {s : Bool} (h : IsCnt w B n top s) : w.cell? ⟨B, 1, none⟩ = some (.int .i64 top) := by unfold IsCnt at h; simp [World.cell?, h]
theorem IsCnt.c2 {w : World} {B : Nat} {n top : Int} {s : Bool} (h : IsCnt w B n top s) : w.cell? ⟨B, 2, none⟩ = some (.bool s) := by unfold IsCnt at h; simp [World.cell?, h]
theorem IsCnt.f0 {w : World} {B : Nat} {n top : Int} {s : Bool} (h : IsCnt w B n top s) : w.frozen? ⟨B, 0, none⟩ = false := by unfold IsCnt at h; simp [World.frozen?, h]
theorem IsCnt.f2 {w : World} {B : Nat} {n top : Int} {s : Bool} (h : IsCnt w B n top s) : w.frozen? ⟨B, 2, none⟩ = false := by unfold IsCnt at h; simp [World.frozen?, h]
theorem IsCnt.set0 {w : World} {B : Nat} {n top m : Int} {s : Bool} (h : IsCnt w B n top s) : IsCnt (w.setCell ⟨B, 0, none⟩ (.int .i64 m)) B m top s := by
  have hlt := lt_of_block h
  have h' : w.heap[B] = .cells #[.int .i64 n, .int .i64 top, .bool s] 75 (0, 0) := by simpa [IsCnt, Array.getElem?_eq_getElem hlt] using h
  show (w.heap.modify B _)[B]? = _
  rw [Array.getElem?_eq_getElem (by simpa using hlt), Array.getElem_modify_self, h']
  rfl
theorem IsCnt.set2 {w : World} {B : Nat} {n top : Int} {s r : Bool} (h : IsCnt w B n top s) : IsCnt (w.setCell ⟨B, 2, none⟩ (.bool r)) B n top r := by
  have hlt := lt_of_block h
  have h' : w.heap[B] = .cells #[.int .i64 n, .int .i64 top, .bool s] 75 (0, 0) := by simpa [IsCnt, Array.getElem?_eq_getElem hlt] using h
  show (w.heap.modify B _)[B]? = _
  rw [Array.getElem?_eq_getElem (by simpa using hlt), Array.getElem_modify_self, h']
  rfl
theorem IsCnt.drewN {w : World} {B : Nat} {n top : Int} {s : Bool} (h : IsCnt w B n top s) (q : Nat) : IsCnt (w.drewN q) B n top s := h
theorem grownBy_refl (w : World) (r : Option Nat) : w.grownBy w r := ⟨rfl, rfl, rfl, Nat.le_refl _, fun _ _ _ => rfl⟩
theorem grownBy_trans {a b c : World} {r : Option Nat} (h : a.grownBy b r) (k : b.grownBy c r) : a.grownBy c r :=
  ⟨k.os.trans h.os, k.tape.trans h.tape, k.output.trans h.output, Nat.le_trans h.size k.size, fun i hi hr => (k.block i (Nat.lt_of_lt_of_le hi h.size) hr).trans (h.block i hi hr)⟩
theorem grownBy_set (w : World) (B o : Nat) (v : Value) : w.grownBy (w.setCell ⟨B, o, none⟩ v) (some B) :=
  ⟨rfl, rfl, rfl, by simp [World.setCell], fun k _ hr => Below.heap_setCell _ _ _ _ (fun e => hr (by rw [e]))⟩
theorem grownBy_drewN (w : World) (q : Nat) (r : Option Nat) : w.grownBy (w.drewN q) r := ⟨rfl, rfl, rfl, Nat.le_refl _, fun _ _ _ => rfl⟩

theorem cntOut (B : Nat) (n : Int) (w : World) (h : w.cell? ⟨B, 0, none⟩ = some (.int .i64 n)) : Calls Try.prog 31 #[.pointer (some ⟨B, 0, none⟩)] w fun e w' => e = .returned (.bool (n == 0)) ∧ w = w' := by
  go_enter Try.func31, Try.ntmps31
  go_wp2
  go_ret
  exact ⟨rfl, rfl⟩

theorem cntFull (B : Nat) (n top : Int) (w : World) (h : w.cell? ⟨B, 0, none⟩ = some (.int .i64 n)) (h1 : w.cell? ⟨B, 1, none⟩ = some (.int .i64 top)) :
    Calls Try.prog 32 #[.pointer (some ⟨B, 0, none⟩)] w fun e w' => e = .returned (.bool (n == top)) ∧ ∃ q, w' = w.drewN q := by
  go_enter Try.func32, Try.ntmps32
  go_wp2
  go_quiet (fail)
  go_wp2
  go_ret
  exact ⟨rfl, _, rfl⟩

/-- behind one more: the number, whether it sticks, the error -/
def getN (n top : Int) (s : Bool) : Int := if n = 0 ∨ s = true ∨ n = top then n else n + 1
def getS (n top : Int) (s : Bool) : Bool := if n = 0 then s else s || n == top
def getE (n top : Int) (s : Bool) : Int := if n = 0 then 4 else if s = true ∨ n = top then 13 else 0

theorem cntGet (B : Nat) (n top : Int) (s : Bool) (w : World) (h : IsCnt w B n top s) (n0 : 0 ≤ n) (n1 : n ≤ top) (t1 : top ≤ 65535) :
    Calls Try.prog 13 #[.pointer (some ⟨B, 0, none⟩)] w fun e w' => e = .returned (.int .i64 (getE n top s)) ∧ w.grownBy w' (some B) ∧ IsCnt w' B (getN n top s) top (getS n top s) := by
  have c0 := h.c0
  have c1 := h.c1
  have c2 := h.c2
  have f0 := h.f0
  have f2 := h.f2
  by_cases hz : n = 0
  · subst hz
    rw [show getE 0 top s = 4 from rfl, show getN 0 top s = 0 from rfl, show getS 0 top s = s from rfl]
    go_enter Try.func13, Try.ntmps13
    go_wp2_with (go_at_call 31; refine (cntOut B _ _ (by assumption)).mono ?_; rintro e w' ⟨rfl, rfl⟩)
    go_ret
    exact ⟨rfl, grownBy_refl _ _, h⟩
  · have e0 : (n == 0) = false := by rw [beq_eq_false_iff_ne]; exact hz
    by_cases ht : n = top
    · subst ht
      rw [show getE n n s = 13 from by unfold getE; simp [hz], show getN n n s = n from by unfold getN; simp, show getS n n s = true from by unfold getS; simp [hz]]
      have e1 : (n == n) = true := by simp
      have HE := Lib.hid h
      clear h hz
      go_enter Try.func13, Try.ntmps13
      go_wp2_with (first
        | (go_at_call 31; refine (cntOut B _ _ (by assumption)).mono ?_; rintro e w' ⟨rfl, rfl⟩)
        | (go_at_call 32; refine (cntFull B _ _ _ (by assumption) (by assumption)).mono ?_; rintro e w' ⟨rfl, q, rfl⟩))
      go_ret
      exact ⟨rfl, grownBy_trans (grownBy_drewN w q _) (grownBy_set _ _ _ _), (HE.out.drewN q).set2⟩
    · have e1 : (n == top) = false := by rw [beq_eq_false_iff_ne]; exact ht
      cases s
      · rw [show getE n top false = 0 from by unfold getE; simp [hz, ht], show getN n top false = n + 1 from by unfold getN; simp [hz, ht], show getS n top false = false from by unfold getS; simp [hz, ht]]
        have HE := Lib.hid h
        clear h hz ht
        go_enter Try.func13, Try.ntmps13
        go_wp2_with (first
          | (go_at_call 31; refine (cntOut B _ _ (by assumption)).mono ?_; rintro e w' ⟨rfl, rfl⟩)
          | (go_at_call 32; refine (cntFull B _ _ _ (by assumption) (by assumption)).mono ?_; rintro e w' ⟨rfl, q, rfl⟩))
        go_ret
        exact ⟨rfl, grownBy_trans (grownBy_drewN w q _) (grownBy_set _ _ _ _), (HE.out.drewN q).set0⟩
      · rw [show getE n top true = 13 from by unfold getE; simp [hz], show getN n top true = n from by unfold getN; simp, show getS n top true = true from by unfold getS; simp]
        have HE := Lib.hid h
        clear h hz ht
        go_enter Try.func13, Try.ntmps13
        go_wp2_with (first
          | (go_at_call 31; refine (cntOut B _ _ (by assumption)).mono ?_; rintro e w' ⟨rfl, rfl⟩)
          | (go_at_call 32; refine (cntFull B _ _ _ (by assumption) (by assumption)).mono ?_; rintro e w' ⟨rfl, q, rfl⟩))
        go_ret
        exact ⟨rfl, grownBy_drewN w q _, HE.out.drewN q⟩
end Go.Proofs.Ytkpenhichgkdkaa
