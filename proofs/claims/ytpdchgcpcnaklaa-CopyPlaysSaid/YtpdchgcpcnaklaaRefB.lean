/- The document's memory: Touch, Peek, Same, each by a contract. -/
import Derived.Test.YtpdchgcpcnaklaaRef
namespace Go.Proofs.Ytpdchgcpcnaklaa
open Go.RowKit Go.ChangeShapes Go.WideShapes
set_option linter.unusedVariables false

theorem refTouchBad (a : Option Addr) (n c : Nat) (p q : Int) (w : World) (hn : n ≤ 256) (h : outB p q n = true) : Calls Try.prog 41 #[.slice a n c, .int .i64 p, .int .i64 q] w fun e w' => e = .returned (.tuple #[.int .i64 0, .int .i64 2]) ∧ w = w' := by
  have HW := Lib.hid (refWithin a n c p q w hn)
  rw [h] at HW
  clear h
  go_enter Try.func41, Try.ntmps41
  go_wp2_with (go_at_call 42; refine HW.out.mono ?_; rintro e w' ⟨rfl, rfl⟩)
  go_ret2
  exact ⟨rfl, rfl⟩

/-- the first page from a byte on, in so many bytes, that isn't present; and why: of states byte by byte -/
def rtch (g : Nat → Int) : Nat → Nat → Int × Int
  | _, 0 => (0, 0)
  | k, m + 1 => if g k = 2 then (((k / 16 : Nat) : Int), 14) else if g k = 0 then (((k / 16 : Nat) : Int), 15) else rtch g (k + 1) m
theorem rtch_is (ps : List Int) (k m : Nat) : rtch (fun j => ps.getD (j / 16) 0) k m = tch ps k m := by
  induction m generalizing k with
  | zero => rfl
  | succ m ih => unfold rtch tch; rw [ih]

set_option maxHeartbeats 1600000 in
theorem refTouch (R c n : Nat) (f g : Nat → Int) (k m : Nat) (w : World) (h : RefAt w R c n f g) (hs : ∀ j, j < n → 0 ≤ g j ∧ g j ≤ 2) (hn : n ≤ 256) (hk : k + m ≤ n) :
    Calls Try.prog 41 #[.slice (some ⟨R, 0, none⟩) n c, .int .i64 k, .int .i64 m] w fun e w' => e = .returned (.tuple #[.int .i64 (rtch g k m).1, .int .i64 (rtch g k m).2]) ∧ w = w' := by
  have HW := Lib.hid (refWithin (some ⟨R, 0, none⟩) n c k m w hn)
  rw [show outB k m n = false from decide_eq_false (by omega)] at HW
  have HE := Lib.hid h
  have HS := Lib.hid hs
  clear h hs
  go_enter Try.func41, Try.ntmps41
  go_wp2_with (go_at_call 42; refine HW.out.mono ?_; rintro e w' ⟨rfl, rfl⟩)
  go_loop [8] (fun i => ∃ j : Nat, j ≤ m ∧ i = .int .i64 j ∧ rtch g k m = rtch g (k + j) (m - j)) (fun i => m - (intOf i).toNat)
  case atStart => exact ⟨0, by omega, rfl, rfl⟩
  case round =>
    obtain ⟨j, hj1, rfl, ht⟩ := hrel
    have HT := Lib.hid ht
    clear ht
    by_cases hlt : j < m
    · have cp := HE.out.s (j := k + j) (by omega)
      have hb := HS.out (k + j) (by omega)
      have HN := Lib.hid (show rtch g (k + j) (m - j) = if g (k + j) = 2 then ((((k + j) / 16 : Nat) : Int), (14 : Int)) else if g (k + j) = 0 then ((((k + j) / 16 : Nat) : Int), (15 : Int)) else rtch g (k + (j + 1)) (m - (j + 1)) from by
        rw [show m - j = (m - (j + 1)) + 1 from by omega]; rfl)
      generalize g (k + j) = s at *
      rcases three hb.1 hb.2 with rfl | rfl | rfl
      · go_wp2_with fail
        go_ret2
        have hf : rtch g k m = ((((k + j) / 16 : Nat) : Int), (15 : Int)) := by rw [HT.out, HN.out]; rfl
        rw [hf]
        exact ⟨rfl, rfl⟩
      · go_wp2_with fail
        refine ⟨?_, ?_⟩
        · exact ⟨j + 1, by omega, by simp, by rw [HT.out, HN.out]; rfl⟩
        · simp only [intOf]; omega
      · go_wp2_with fail
        go_ret2
        have hf : rtch g k m = ((((k + j) / 16 : Nat) : Int), (14 : Int)) := by rw [HT.out, HN.out]; rfl
        rw [hf]
        exact ⟨rfl, rfl⟩
    · go_wp2_with fail
      go_ret2
      have hf : rtch g k m = ((0 : Int), (0 : Int)) := by rw [HT.out, show m - j = 0 from by omega]; rfl
      rw [hf]
      exact ⟨rfl, rfl⟩

theorem Holds.below {w w' : World} {a : Option Addr} {xs : List Int} (h : Holds w a xs) (b : Below w.heap.size w w') : Holds w' a xs := by
  intro h0
  obtain ⟨B, off, e, hlt, hc⟩ := h h0
  exact ⟨B, off, e, Nat.lt_of_lt_of_le hlt b.size, fun j hj => (b.cell (p := ⟨B, off + j, none⟩) hlt).trans (hc j hj)⟩

set_option maxHeartbeats 1600000 in
theorem refSame (a b : Option Addr) (ca cb : Nat) (xs : List Int) (w : World) (m : Nat) (hm : xs.length = m) (hL : m ≤ 256) (ha : Holds w a xs) (hb : Holds w b xs) :
    Calls Try.prog 23 #[.slice a m ca, .slice b m cb] w fun e w' => e = .returned (.bool true) ∧ Below w.heap.size w w' := by
  have HA := Lib.hid ha
  have HB := Lib.hid hb
  have HM := Lib.hid hm
  clear ha hb hm
  go_enter Try.func23, Try.ntmps23
  go_wp2_with fail
  go_loopw [5] (fun i wr => ∃ j : Nat, j ≤ m ∧ i = .int .i64 j ∧ Below w.heap.size w wr) (fun i _ => m - (intOf i).toNat)
  case atStart => exact ⟨0, by omega, rfl, Below.refl _ _⟩
  case round =>
    obtain ⟨j, hj1, rfl, hbw⟩ := hrel
    have HBW := Lib.hid hbw
    clear hbw
    by_cases hlt : j < m
    · obtain ⟨B1, o1, hs1, hl1, hc1⟩ := HA.out.below HBW.out (by rw [HM.out]; omega)
      obtain ⟨B2, o2, hs2, hl2, hc2⟩ := HB.out.below HBW.out (by rw [HM.out]; omega)
      have hx1 := hc1 j (by rw [HM.out]; exact hlt)
      have hx2 := hc2 j (by rw [HM.out]; exact hlt)
      subst hs1
      subst hs2
      clear hc1 hc2
      generalize xs.getD j 0 = q at hx1 hx2
      go_wp2_with fail
      go_region
      go_wp2_with fail
      go_roundw
      case rel => exact ⟨j + 1, by omega, by simp, HBW.out.drew⟩
      case measure => simp only [intOf]; omega
    · go_wp2_with fail
      go_ret
      exact ⟨rfl, HBW.out⟩
end Go.Proofs.Ytpdchgcpcnaklaa
