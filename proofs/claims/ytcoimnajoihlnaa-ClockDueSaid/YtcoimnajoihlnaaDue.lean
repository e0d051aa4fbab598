/- How many ticks are due: the closure, the count and the method, each by a contract. -/
import Derived.Test.YtcoimnajoihlnaaGoes
namespace Go.Proofs.Ytcoimnajoihlnaa
open Go.RowKit
set_option linter.unusedVariables false

/-- how many of the ticks are no later than m -/
def dueN (m : Int) (xs : List Int) : Int := (xs.filter (fun x => decide (x ≤ m))).length
/-- is the tick no later than m? -/
def dueIs (m x : Int) : Bool := decide (x ≤ m)

theorem dueN_take (m : Int) (xs : List Int) (k : Nat) (h : k < xs.length) : dueN m (xs.take (k + 1)) = dueN m (xs.take k) + if dueIs m (xs.getD k 0) = true then 1 else 0 := by
  unfold dueN dueIs
  rw [List.take_succ_eq_append_getElem h, List.filter_append, List.length_append]
  have : xs.getD k 0 = xs[k] := by simp [List.getD, List.getElem?_eq_getElem h]
  rw [this]
  by_cases c : xs[k] ≤ m <;> simp [c]
theorem dueN_bd (m : Int) (xs : List Int) : 0 ≤ dueN m xs ∧ dueN m xs ≤ xs.length := by
  unfold dueN; exact ⟨by omega, by have := List.length_filter_le (fun x => decide (x ≤ m)) xs; omega⟩
theorem dueN_mono {m m' : Int} (h : m ≤ m') (xs : List Int) : dueN m xs ≤ dueN m' xs := by
  unfold dueN
  induction xs with
  | nil => simp
  | cons x xs ih =>
    by_cases c : x ≤ m
    · have c' : x ≤ m' := by omega
      simp only [List.filter_cons, decide_eq_true c, decide_eq_true c', if_true, List.length_cons]; omega
    · by_cases c' : x ≤ m'
      · simp only [List.filter_cons, decide_eq_false c, decide_eq_true c', if_true, List.length_cons]; simp; omega
      · simp only [List.filter_cons, decide_eq_false c, decide_eq_false c']; simpa using ih
theorem dueN_one (m x : Int) : dueN m [x] = if dueIs m x = true then 1 else 0 := by
  unfold dueN dueIs; by_cases c : x ≤ m <;> simp [c]

theorem dueFn (m x : Int) (B C : Nat) (w : World) (hc : w.cell? ⟨C, 0, none⟩ = some (.pointer (some ⟨B, 0, none⟩))) (hb : w.cell? ⟨B, 0, none⟩ = some (.int .u64 m)) :
    Calls Try.prog 41 #[.int .u64 x, .pointer (some ⟨C, 0, none⟩)] w fun e w' => e = .returned (.bool (dueIs m x)) ∧ w = w' := by
  unfold dueIs
  go_enter Try.func41, Try.ntmps41
  go_wp2
  go_ret
  exact ⟨rfl, rfl⟩

theorem dueMany (m : Int) (B C : Nat) (w : World) (hc : w.cell? ⟨C, 0, none⟩ = some (.pointer (some ⟨B, 0, none⟩))) (hb : w.cell? ⟨B, 0, none⟩ = some (.int .u64 m))
    (b off n cap : Nat) (xs : List Int) (hn : n = xs.length) (hx : ∀ j, j < n → w.cell? ⟨b, off + j, none⟩ = some (.int .u64 (xs.getD j 0))) (hm : n ≤ 9223372036854775807) :
    Calls Try.prog 40 #[.slice (some ⟨b, off, none⟩) n cap, .func (.func 41) #[] #[.pointer (some ⟨C, 0, none⟩)]] w fun e w' => e = .returned (.int .i64 (dueN m xs)) ∧ w = w' := by
  subst hn
  go_enter Try.func40, Try.ntmps40
  go_wp2_with fail
  go_loop [5, 10] (fun v i => ∃ k : Nat, k ≤ xs.length ∧ i = .int .i64 k ∧ v = .int .i64 (dueN m (xs.take k))) (fun _ i => xs.length - (intOf i).toNat)
  case atStart => exact ⟨0, Nat.zero_le _, rfl, rfl⟩
  case round =>
    obtain ⟨k, hk, rfl, rfl⟩ := hrel
    have hbd := dueN_bd m (xs.take k)
    have hlk : (xs.take k).length ≤ k := List.length_take_le _ _
    by_cases hlt : k < xs.length
    · have hcx := hx k hlt
      have HT := Lib.hid (dueN_take m xs k hlt)
      obtain ⟨x, hxe⟩ : ∃ x, x = xs.getD k 0 := ⟨_, rfl⟩
      rw [← hxe] at hcx
      have HXE := Lib.hid hxe
      have HX := Lib.hid hx
      clear hxe hx
      generalize hv : dueN m (xs.take k) = v at *
      clear hv
      cases hd : dueIs m x
      all_goals
        have HD := Lib.hid hd
        have HF := Lib.hid (hd ▸ dueFn m x B C w hc hb)
        clear hd
        go_wp2_with (go_at_call 41; refine HF.out.mono ?_; rintro e w' ⟨rfl, rfl⟩)
        go_round
        case rel => exact ⟨k + 1, by omega, by go_num, by rw [HT.out, ← HXE.out, HD.out]; first | rfl | simp⟩
        case measure => simp [intOf]; omega
    · have hall : xs.take k = xs := List.take_of_length_le (by omega)
      rw [hall]
      clear hall
      go_wp2
      go_ret
      exact ⟨rfl, rfl⟩

theorem dueMany0 (B C : Nat) (w : World) (a : Option Addr) (cap : Nat) :
    Calls Try.prog 40 #[.slice a 0 cap, .func (.func 41) #[] #[.pointer (some ⟨C, 0, none⟩)]] w fun e w' => e = .returned (.int .i64 0) ∧ w = w' := by
  go_enter Try.func40, Try.ntmps40
  go_wp2_with fail
  refine wp_loop_rounds 1 ?_
  rw [rounds_succ]
  go_wp2
  go_ret
  exact ⟨rfl, rfl⟩

theorem clkDue (m : Int) (B : Nat) (w : World) (h : IsClk w B m) (b off n cap : Nat) (xs : List Int) (hn : n = xs.length)
    (hx : ∀ j, j < n → w.cell? ⟨b, off + j, none⟩ = some (.int .u64 (xs.getD j 0))) (hm : n ≤ 9223372036854775807) :
    Calls Try.prog 28 #[.pointer (some ⟨B, 0, none⟩), .slice (some ⟨b, off, none⟩) n cap] w fun e w' => e = .returned (.int .i64 (dueN m xs)) ∧ w.alloc (.cells #[.pointer (some ⟨B, 0, none⟩)] 36) = w' := by
  have h1 : (w.alloc (.cells #[.pointer (some ⟨B, 0, none⟩)] 36)).cell? ⟨w.heap.size, 0, none⟩ = some (.pointer (some ⟨B, 0, none⟩)) := cell_of_one (heap_alloc_new w _)
  have h2 : (w.alloc (.cells #[.pointer (some ⟨B, 0, none⟩)] 36)).cell? ⟨B, 0, none⟩ = some (.int .u64 m) := cell_of_one (isClk_alloc h _)
  have h3 : ∀ j, j < n → (w.alloc (.cells #[.pointer (some ⟨B, 0, none⟩)] 36)).cell? ⟨b, off + j, none⟩ = some (.int .u64 (xs.getD j 0)) := fun j hj => (World.grownBy_alloc w _ none).cell (hx j hj) (by simp)
  have HM := Lib.hid (dueMany m B w.heap.size _ h1 h2 b off n cap xs hn h3 hm)
  clear h3 hx hn
  go_enter Try.func28, Try.ntmps28
  go_wp2_with (go_at_call 40; refine HM.out.mono ?_; rintro e w' ⟨rfl, rfl⟩)
  go_ret
  exact ⟨rfl, rfl⟩

theorem clkDue0 (m : Int) (B : Nat) (w : World) (h : IsClk w B m) (a : Option Addr) (cap : Nat) :
    Calls Try.prog 28 #[.pointer (some ⟨B, 0, none⟩), .slice a 0 cap] w fun e w' => e = .returned (.int .i64 0) ∧ w.alloc (.cells #[.pointer (some ⟨B, 0, none⟩)] 36) = w' := by
  go_enter Try.func28, Try.ntmps28
  go_wp2_with (go_at_call 40; refine (dueMany0 B w.heap.size _ _ _).mono ?_; rintro e w' ⟨rfl, rfl⟩)
  go_ret
  exact ⟨rfl, rfl⟩

theorem nilNow (w : World) : Calls Try.prog 25 #[.pointer none] w fun e w' => e = .returned (.int .u64 0) ∧ w = w' := by
  go_enter Try.func25, Try.ntmps25
  go_wp2
  go_ret
  exact ⟨rfl, rfl⟩
theorem nilStep (v : Value) (w : World) : Calls Try.prog 27 #[.pointer none, v] w fun e w' => e = .returned (.int .u64 0) ∧ w = w' := by
  go_enter Try.func27, Try.ntmps27
  go_wp2
  go_ret
  exact ⟨rfl, rfl⟩
theorem nilStopped (w : World) : Calls Try.prog 26 #[.pointer none] w fun e w' => e = .returned (.bool false) ∧ w = w' := by
  go_enter Try.func26, Try.ntmps26
  go_wp2_with (go_at_call 25; refine (nilNow _).mono ?_; rintro e w' ⟨rfl, rfl⟩)
  go_ret
  exact ⟨rfl, rfl⟩
theorem nilDue (v : Value) (w : World) : Calls Try.prog 28 #[.pointer none, v] w fun e w' => e = .returned (.int .i64 0) ∧ w.alloc (.cells #[.pointer none] 36) = w' := by
  go_enter Try.func28, Try.ntmps28
  go_wp2
  go_ret
  exact ⟨rfl, rfl⟩
theorem walk_ClockNil (v : Value) (w : World) : Calls Try.prog 7 #[v] w fun e w' => e = .returned (.bool true) ∧ Below w.heap.size w w' := by
  go_enter Try.func7, Try.ntmps7
  go_wp2_with (first
    | (go_at_call 17; refine (clkKnown _).mono ?_; rintro e w' ⟨rfl, rfl⟩)
    | (go_at_call 25; refine (nilNow _).mono ?_; rintro e w' ⟨rfl, rfl⟩)
    | (go_at_call 26; refine (nilStopped _).mono ?_; rintro e w' ⟨rfl, rfl⟩)
    | (go_at_call 27; refine (nilStep _ _).mono ?_; rintro e w' ⟨rfl, rfl⟩)
    | (go_at_call 28; refine (nilDue _ _).mono ?_; rintro e w' ⟨rfl, rfl⟩))
  go_ret
  exact ⟨rfl, (Below.refl _ _).alloc (Nat.le_refl _) _⟩
end Go.Proofs.Ytcoimnajoihlnaa
