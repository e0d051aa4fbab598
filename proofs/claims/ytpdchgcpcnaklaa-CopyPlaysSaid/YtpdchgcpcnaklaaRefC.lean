/- The document's memory: Peek, by a contract. -/
import Derived.Test.YtpdchgcpcnaklaaRefB
namespace Go.Proofs.Ytpdchgcpcnaklaa
open Go.RowKit Go.ChangeShapes Go.WideShapes
set_option linter.unusedVariables false

theorem refPeekBad (a : Option Addr) (n c : Nat) (p q : Int) (w : World) (hn : n ≤ 256) (h : outB p q n = true) : Calls Try.prog 22 #[.slice a n c, .int .i64 p, .int .i64 q] w fun e w' => e = .returned (.tuple #[.slice none 0 0, .int .i64 2]) ∧ w = w' := by
  have HW := Lib.hid (refWithin a n c p q w hn)
  rw [h] at HW
  clear h
  go_enter Try.func22, Try.ntmps22
  go_wp2_with (go_at_call 42; refine HW.out.mono ?_; rintro e w' ⟨rfl, rfl⟩)
  go_ret2
  exact ⟨rfl, rfl⟩

set_option maxHeartbeats 1600000 in
theorem refPeek (R c n : Nat) (f g : Nat → Int) (k m : Nat) (w : World) (h : RefAt w R c n f g) (hn : n ≤ 256) (hk : k + m ≤ n) :
    Calls Try.prog 22 #[.slice (some ⟨R, 0, none⟩) n c, .int .i64 k, .int .i64 m] w fun e w' => ∃ v, e = .returned (.tuple #[v, .int .i64 0]) ∧ OwnBytes w v w' ((List.range m).map fun j => f (k + j)) := by
  have HW := Lib.hid (refWithin (some ⟨R, 0, none⟩) n c k m w hn)
  rw [show outB k m n = false from decide_eq_false (by omega)] at HW
  have HE := Lib.hid h
  clear h
  go_enter Try.func22, Try.ntmps22
  go_wp2_with (go_at_call 42; refine HW.out.mono ?_; rintro e w' ⟨rfl, rfl⟩)
  obtain ⟨i0, hi, hz0, hz1, hz2⟩ := info_parts info5
  go_loopw [8, 9] (fun o i wr => ∃ j : Nat, j ≤ m ∧ i = .int .i64 j ∧ Below w.heap.size w wr ∧ wr.ownsRow w.heap.size 5 1 o j (bcells ((List.range j).map fun j => f (k + j)))) (fun _ i _ => m - (intOf i).toNat)
  case atStart => exact ⟨0, by omega, rfl, Below.refl _ _, World.ownsRow_nil _ _ _ _⟩
  case round =>
    obtain ⟨j, hj1, rfl, hbw, ho⟩ := hrel
    have HBW := Lib.hid hbw
    have HO := Lib.hid ho
    clear hbw ho
    by_cases hlt : j < m
    · have hx := (HBW.out.cell (p := ⟨R, (k + j) * 2, none⟩) HE.out.lt).trans (HE.out.b (j := k + j) (by omega))
      have HN := Lib.hid (show ∀ (q : Nat) (u : Value), [Value.int .u8 (f (k + j))][q]? = some u → (wr.alloc (.cells #[Value.int .u8 (f (k + j))] 5)).cell? ((⟨wr.heap.size, 0, none⟩ : Addr).add q) = some u from by
        intro q u hq
        match q with
        | 0 =>
          have hq' : Value.int .u8 (f (k + j)) = u := by simpa using hq
          rw [add_is, ← hq']
          unfold World.cell?
          simp only [heap_alloc_new]
          rfl
        | q + 1 => simp at hq)
      have H1 := Lib.hid (show ∀ u ∈ [Value.int .u8 (f (k + j))], u.oneCell' = true from by intro u hu; rw [List.mem_singleton.1 hu]; rfl)
      have HS := HBW.out.size
      go_wp2_with (at_builtin; refine wpList_append_own _ rfl (.tmp 20) (.tmp 28) 22 rfl w.heap.size 5 i0 (.int .u8 0) 1 1 Try.underlying22 hi hz0 hz1 hz2 rfl (by decide) _ _ _ rfl (World.ownsRow.alloc HO.out _) ⟨wr.heap.size, 0, none⟩ 1 1 [Value.int .u8 (f (k + j))] rfl rfl HN.out H1.out (by unfold maxLen; omega) (by omega) (by simp; omega) ?_; intro v' w1 hown hgrow _)
      have HG := Lib.hid ((HBW.out.alloc HS (.cells #[Value.int .u8 (f (k + j))] 5)).grown hgrow (by simp; omega) (fun q hq => (World.ownsRow.lt HO.out q hq).1))
      have HO2 := Lib.hid (show w1.ownsRow w.heap.size 5 1 v' (j + 1) (bcells ((List.range (j + 1)).map fun j => f (k + j))) from by
        rw [List.range_succ, List.map_append]; unfold bcells at hown ⊢; rw [List.map_append]; exact hown)
      clear hown hgrow
      go_roundw
      case rel => exact ⟨j + 1, by omega, by simp, HG.out, HO2.out⟩
      case measure => simp only [intOf]; omega
    · go_wp2_with fail
      go_ret2
      obtain rfl : j = m := by omega
      exact ⟨_, rfl, by have h := HO.out; simpa using h, HBW.out⟩
end Go.Proofs.Ytpdchgcpcnaklaa
