/- A user's memory: Touch, and the chapter's example, each by a contract. -/
import Derived.Test.YtpdchgcpcnaklaaPeek
import Derived.WalkMore
namespace Go.Proofs.Ytpdchgcpcnaklaa
open Go.RowKit
set_option linter.unusedVariables false

/-- the first page from a byte on, in so many bytes, that isn't present; and why -/
def tch (ps : List Int) : Nat → Nat → Int × Int
  | _, 0 => (0, 0)
  | k, m + 1 => if ps.getD (k / 16) 0 = 2 then ((k / 16 : Nat), 14) else if ps.getD (k / 16) 0 = 0 then ((k / 16 : Nat), 15) else tch ps (k + 1) m

theorem memTouchBad (M D : Nat) (bs ps : List Int) (addr n : Int) (w : World) (h : IsMem w M D bs ps) (hL : bs.length ≤ 256) (ho : outB addr n bs.length = true) :
    Calls Try.prog 19 #[.pointer (some ⟨M, 0, none⟩), .int .i64 addr, .int .i64 n] w fun e w' => e = .returned (.tuple #[.int .i64 0, .int .i64 2]) ∧ w = w' := by
  have HW := Lib.hid (memWithin M D bs ps addr n w h hL)
  rw [show outE addr n bs.length = 2 from by unfold outE; rw [ho]; rfl] at HW
  clear ho
  go_enter Try.func19, Try.ntmps19
  go_wp2_with fail
  go_step3
  go_wp2_with (go_at_call 36; refine HW.out.mono ?_; rintro e w' ⟨rfl, rfl⟩)
  rw [Exit.noGoto_ret]
  go_ret2
  exact ⟨rfl, rfl⟩

theorem ret_ii {x y p q : Int} (h : (x, p) = (y, q)) : Ending.returned (.tuple #[.int .i64 x, .int .i64 p]) = .returned (.tuple #[.int .i64 y, .int .i64 q]) := by
  rw [(Prod.mk.inj h).1, (Prod.mk.inj h).2]

set_option maxHeartbeats 1600000 in
theorem memTouch (M D : Nat) (bs ps : List Int) (k m : Nat) (w : World) (h : IsMem w M D bs ps) (f : Fine bs ps) (hL : bs.length ≤ 256) (hk : k + m ≤ bs.length) :
    Calls Try.prog 19 #[.pointer (some ⟨M, 0, none⟩), .int .i64 k, .int .i64 m] w fun e w' => e = .returned (.tuple #[.int .i64 (tch ps k m).1, .int .i64 (tch ps k m).2]) ∧ w = w' := by
  have HW := Lib.hid (memWithin M D bs ps k m w h hL)
  rw [show outE k m bs.length = 0 from by unfold outE outB; rw [decide_eq_false (by omega)]; simp] at HW
  have HE := Lib.hid h
  have HF := Lib.hid f
  clear h f
  go_enter Try.func19, Try.ntmps19
  go_wp2_with fail
  go_step3
  go_wp2_with (go_at_call 36; refine HW.out.mono ?_; rintro e w' ⟨rfl, rfl⟩)
  go_step3
  go_wp2_with fail
  go_loop [9, 10, 11] (fun a b i => ∃ j : Nat, k ≤ j ∧ j ≤ k + m ∧ i = .int .i64 j ∧ a = .int .i64 0 ∧ b = .int .i64 0 ∧ tch ps k m = tch ps j (k + m - j)) (fun _ _ i => k + m - (intOf i).toNat)
  case atStart => exact ⟨k, by omega, by omega, rfl, rfl, rfl, by congr 1; omega⟩
  case round =>
    obtain ⟨j, hj0, hj1, rfl, rfl, rfl, ht⟩ := hrel
    have HT := Lib.hid ht
    clear ht
    by_cases hlt : j < k + m
    · have cp := HE.out.cp (j / 16) (by omega)
      have hb := state_bd HF.out (k := j / 16) (by rw [HE.out.plen]; omega)
      have HN := Lib.hid (show tch ps j (k + m - j) = if ps.getD (j / 16) 0 = 2 then (((j / 16 : Nat) : Int), (14 : Int)) else if ps.getD (j / 16) 0 = 0 then (((j / 16 : Nat) : Int), (15 : Int)) else tch ps (j + 1) (k + m - (j + 1)) from by
        rw [show k + m - j = (k + m - (j + 1)) + 1 from by omega]; rfl)
      generalize ps.getD (j / 16) 0 = s at *
      rcases three hb.1 hb.2 with rfl | rfl | rfl
      · go_wp2_with fail
        try rw [Exit.noGoto_ret]
        go_ret2
        have hf : tch ps k m = (((j / 16 : Nat) : Int), (15 : Int)) := by rw [HT.out, HN.out]; rfl
        rw [hf]
        go_ways
        exact ⟨rfl, rfl⟩
      · go_wp2_with fail
        refine ⟨?_, ?_⟩
        · exact ⟨j + 1, by omega, by omega, by simp, rfl, rfl, by rw [HT.out, HN.out]; rfl⟩
        · simp only [intOf]; omega
      · go_wp2_with fail
        try rw [Exit.noGoto_ret]
        go_ret2
        have hf : tch ps k m = (((j / 16 : Nat) : Int), (14 : Int)) := by rw [HT.out, HN.out]; rfl
        rw [hf]
        go_ways
        exact ⟨rfl, rfl⟩
    · go_wp2_with fail
      try rw [Exit.noGoto_ret]
      go_ret2
      have hf : tch ps k m = ((0 : Int), (0 : Int)) := by rw [HT.out, show k + m - j = 0 from by omega]; rfl
      rw [hf]
      go_ways
      exact ⟨rfl, rfl⟩
end Go.Proofs.Ytpdchgcpcnaklaa
