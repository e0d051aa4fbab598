/- A clock's methods by contracts. -/
import Derived.Test.YtcoimnajoihlnaaClock
import Derived.OpenShut
import Derived.Outline
import Derived.Deep.RegionWith
namespace Go.Proofs.Ytcoimnajoihlnaa
open Go.RowKit
set_option linter.unusedVariables false

/-- block B is a clock that shows m -/
def IsClk (w : World) (B : Nat) (m : Int) : Prop := w.heap[B]? = some (.cells #[.int .u64 m] 65 (0, 0))

theorem clkAt (a : Int) (w : World) : Calls Try.prog 24 #[.int .u64 a] w fun e w' => e = .returned (.pointer (some ⟨w.heap.size, 0, none⟩)) ∧ w.alloc (.cells #[.int .u64 a] 65) = w' := by
  go_enter Try.func24, Try.ntmps24
  go_wp2
  go_ret
  exact ⟨rfl, rfl⟩

theorem clkNow (B : Nat) (m : Int) (w : World) (h : IsClk w B m) : Calls Try.prog 25 #[.pointer (some ⟨B, 0, none⟩)] w fun e w' => e = .returned (.int .u64 m) ∧ w = w' := by
  have hc := cell_of_one h
  clear h
  go_enter Try.func25, Try.ntmps25
  go_wp2
  go_ret
  exact ⟨rfl, rfl⟩

theorem clkStopped (B : Nat) (m : Int) (w : World) (h : IsClk w B m) : Calls Try.prog 26 #[.pointer (some ⟨B, 0, none⟩)] w fun e w' => e = .returned (.bool (m == 18446744073709551615)) ∧ w = w' := by
  go_enter Try.func26, Try.ntmps26
  go_wp2_with (go_at_call 25; refine (clkNow B m _ h).mono ?_; rintro e w' ⟨rfl, rfl⟩)
  go_ret
  exact ⟨rfl, rfl⟩

theorem fold_take (m : Int) (xs : List Int) (k : Nat) (h : k < xs.length) : (xs.take (k + 1)).foldl addV m = addV ((xs.take k).foldl addV m) (xs.getD k 0) := by
  rw [List.take_succ_eq_append_getElem h, List.foldl_append]
  simp [List.getD, List.getElem?_eq_getElem h]

theorem fold_bd (xs : List Int) : ∀ (m : Int), 0 ≤ m → m ≤ 18446744073709551615 → (∀ x ∈ xs, 0 ≤ x ∧ x ≤ 18446744073709551615) → m ≤ xs.foldl addV m ∧ 0 ≤ xs.foldl addV m ∧ xs.foldl addV m ≤ 18446744073709551615 := by
  induction xs with
  | nil => intro m h1 h2 _; exact ⟨Int.le_refl _, h1, h2⟩
  | cons x xs ih =>
    intro m h1 h2 hx
    have h3 := hx x (List.mem_cons_self ..)
    have h4 := addV_bd (a := m) (b := x) h1 h2 h3.1
    have h5 := ih (addV m x) h4.2.1 h4.2.2 (fun y hy => hx y (List.mem_cons_of_mem _ hy))
    rw [List.foldl_cons]
    omega

theorem grownBy_refl (w : World) (r : Option Nat) : w.grownBy w r := ⟨rfl, rfl, rfl, Nat.le_refl _, fun _ _ _ => rfl⟩
theorem grownBy_trans {a b c : World} {r : Option Nat} (h : a.grownBy b r) (k : b.grownBy c r) : a.grownBy c r :=
  ⟨k.os.trans h.os, k.tape.trans h.tape, k.output.trans h.output, Nat.le_trans h.size k.size, fun i hi hr => (k.block i (Nat.lt_of_lt_of_le hi h.size) hr).trans (h.block i hi hr)⟩
theorem grownBy_set (w : World) (B o : Nat) (v : Value) : w.grownBy (w.setCell ⟨B, o, none⟩ v) (some B) :=
  ⟨rfl, rfl, rfl, by simp [World.setCell], fun k _ hr => Below.heap_setCell _ _ _ _ (fun e => hr (by rw [e]))⟩

theorem clkStep (B : Nat) (m : Int) (w : World) (h : IsClk w B m) (hm0 : 0 ≤ m) (hm1 : m ≤ 18446744073709551615) (b off n cap : Nat) (xs : List Int) (hn : n = xs.length) (hb : 0 < n → b ≠ B)
    (hx : ∀ j, j < n → w.cell? ⟨b, off + j, none⟩ = some (.int .u64 (xs.getD j 0))) (hw : ∀ x ∈ xs, 0 ≤ x ∧ x ≤ 18446744073709551615) (hm : n ≤ 9223372036854775807) :
    Calls Try.prog 27 #[.pointer (some ⟨B, 0, none⟩), .slice (some ⟨b, off, none⟩) n cap] w fun e w' => e = .returned (.int .u64 (xs.foldl addV m)) ∧ w.grownBy w' (some B) ∧ IsClk w' B (xs.foldl addV m) := by
  subst hn
  go_enter Try.func27, Try.ntmps27
  go_wp2_with fail
  go_loopw [11] (fun i wr => ∃ k : Nat, k ≤ xs.length ∧ i = .int .i64 k ∧ w.grownBy wr (some B) ∧ IsClk wr B ((xs.take k).foldl addV m)) (fun i _ => xs.length - (intOf i).toNat)
  case atStart => exact ⟨0, Nat.zero_le _, rfl, grownBy_refl _ _, h⟩
  case round =>
    obtain ⟨k, hk, rfl, hg, hc0⟩ := hrel
    have hc := cell_of_one hc0
    have hf := free_of_one hc0
    by_cases hlt : k < xs.length
    · have hcx : wr.cell? ⟨b, off + k, none⟩ = some (.int .u64 (xs.getD k 0)) := hg.cell (hx k hlt) (by have := hb (by omega); simp; omega)
      have hbk := fold_bd (xs.take k) m hm0 hm1 (fun x hx => hw x (List.mem_of_mem_take hx))
      have hxk := hw (xs.getD k 0) (by rw [List.getD_eq_getElem?_getD, List.getElem?_eq_getElem hlt]; exact List.getElem_mem hlt)
      have HT := Lib.hid (fold_take m xs k hlt)
      have HH := Lib.hid hc0
      clear hc0 hb
      obtain ⟨x, hxe⟩ : ∃ x, x = xs.getD k 0 := ⟨_, rfl⟩
      rw [← hxe] at hcx hxk
      have HX := Lib.hid hxe
      clear hxe
      generalize hv : (xs.take k).foldl addV m = v at *
      clear hv
      go_wp2_with (go_at_call 18; refine (clkAdd v x _ hbk.2.1 hbk.2.2 hxk.1 hxk.2).mono ?_; rintro e w' ⟨rfl, rfl⟩)
      go_roundw
      case rel => exact ⟨k + 1, by omega, by go_num, grownBy_trans hg (grownBy_set _ _ _ _), by rw [HT.out, ← HX.out]; exact one_setCell HH.out⟩
      case measure => simp [intOf]; omega
    · have hke : k = xs.length := by omega
      rw [hke, List.take_length] at hc0 hc
      clear hke
      go_wp2
      go_ret
      exact ⟨rfl, hg, hc0⟩

theorem clkStep0 (B : Nat) (m : Int) (w : World) (h : IsClk w B m) (a : Option Addr) (cap : Nat) :
    Calls Try.prog 27 #[.pointer (some ⟨B, 0, none⟩), .slice a 0 cap] w fun e w' => e = .returned (.int .u64 m) ∧ w = w' := by
  have hc := cell_of_one h
  go_enter Try.func27, Try.ntmps27
  go_wp2_with fail
  go_rounds 1
  go_ret
  exact ⟨rfl, rfl⟩
end Go.Proofs.Ytcoimnajoihlnaa
