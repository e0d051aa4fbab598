/- A copy: one of bytes, its touch, what is done at its end, each by a contract. -/
import Derived.Test.YtpdchgcpcnaklaaCopB
namespace Go.Proofs.Ytpdchgcpcnaklaa
open Go.RowKit Go.ChangeShapes Go.WideShapes
set_option linter.unusedVariables false

theorem Cpy.new {w' : World} {M D C : Nat} {addr n : Int} {out : Bool} {a : Option Addr} {cap : Nat} {xs : List Int} (h : IsCp w' C addr n out false false a xs.length cap 0 0) (hx : HoldsX w' a xs M D C) (h1 : C ≠ M) (h2 : C ≠ D) : Cpy w' M D C addr n out ⟨false, false, 0, 0, xs⟩ :=
  ⟨⟨a, cap, h, hx⟩, h1, h2⟩

theorem cpOutBad (addr : Int) (a : Option Addr) (c m : Nat) (xs : List Int) (w : World) (hm : xs.length = m) (h : Holds w a xs) (hL : m ≤ 256) (h0 : 64 < m) : Calls Try.prog 34 #[.int .i64 addr, .slice a m c] w fun e w' => e = .returned (.tuple #[.pointer none, .int .i64 1]) ∧ Below w.heap.size w w' := by
  have HC := Lib.hid (bytesCloneAny a c m xs w hm.symm h hL)
  have HM := Lib.hid (fun (w1 : World) (a' : Option Addr) (cap' : Nat) (o : Obj) (ho : o = .cells #[.int .i64 addr, .int .i64 m, .bool true, .bool false, .bool false, .slice a' m cap', .int .i64 0, .int .i64 0] 88 (0, 0)) => cpMadeBad w1.heap.size addr m 0 0 true false false a' m cap' (w1.alloc o) (by rw [ho]; exact heap_alloc_new w1 _) (by omega))
  have HML := Lib.hid hm
  clear h hm
  go_enter Try.func34, Try.ntmps34
  go_wp2_with fail
  refine HC.out.mono ?_
  rintro e w1 ⟨a', cap', rfl, h1, h2⟩
  rw [HML.out]
  have H2 := Lib.hid h2
  have H3 := Lib.hid (h2.alloc h2.size (.cells #[.int .i64 addr, .int .i64 m, .bool true, .bool false, .bool false, .slice a' m cap', .int .i64 0, .int .i64 0] 88))
  clear h1 h2
  go_wp2_with fail
  refine (HM.out _ _ _ _ rfl).mono ?_; rintro e w' ⟨rfl, rfl⟩
  go_wp2_with fail
  go_ret2
  exact ⟨rfl, H3.out⟩

def OutPost (addr : Int) (xs : List Int) (w : World) (e : Ending) (w' : World) : Prop := ∃ C, e = .returned (.tuple #[.pointer (some ⟨C, 0, none⟩), .int .i64 0]) ∧ w.heap.size ≤ C ∧ Below w.heap.size w w' ∧ ∀ M D, M < w.heap.size → D < w.heap.size → Cpy w' M D C addr xs.length true ⟨false, false, 0, 0, xs⟩
theorem cpOut (addr : Int) (a : Option Addr) (c m : Nat) (xs : List Int) (w : World) (hm : xs.length = m) (h : Holds w a xs) (h0 : m ≤ 64) : Calls Try.prog 34 #[.int .i64 addr, .slice a m c] w (OutPost addr xs w) := by
  have HC := Lib.hid (bytesCloneAny a c m xs w hm.symm h (by omega))
  have HM := Lib.hid (fun (w1 : World) (a' : Option Addr) (cap' : Nat) (o : Obj) (ho : o = .cells #[.int .i64 addr, .int .i64 m, .bool true, .bool false, .bool false, .slice a' m cap', .int .i64 0, .int .i64 0] 88 (0, 0)) => cpMade w1.heap.size addr m 0 0 true false false a' m cap' (w1.alloc o) (by rw [ho]; exact heap_alloc_new w1 _) (by omega) (by omega))
  have HML := Lib.hid hm
  clear h hm
  go_enter Try.func34, Try.ntmps34
  go_wp2_with fail
  refine HC.out.mono ?_
  rintro e w1 ⟨a', cap', rfl, h1, h2⟩
  rw [HML.out]
  have H1 := Lib.hid h1
  have H2 := Lib.hid h2
  have H3 := Lib.hid (h2.alloc h2.size (.cells #[.int .i64 addr, .int .i64 m, .bool true, .bool false, .bool false, .slice a' m cap', .int .i64 0, .int .i64 0] 88))
  have H4 := Lib.hid (show IsCp (w1.alloc (.cells #[.int .i64 addr, .int .i64 m, .bool true, .bool false, .bool false, .slice a' m cap', .int .i64 0, .int .i64 0] 88)) w1.heap.size addr m true false false a' m cap' 0 0 from heap_alloc_new w1 _)
  have HBA := Lib.hid (below_alloc w1 (.cells #[.int .i64 addr, .int .i64 m, .bool true, .bool false, .bool false, .slice a' m cap', .int .i64 0, .int .i64 0] 88))
  clear h1 h2
  go_wp2_with fail
  refine (HM.out _ _ _ _ rfl).mono ?_; rintro e w' ⟨rfl, rfl⟩
  go_wp2_with fail
  go_ret2
  refine ⟨_, rfl, H2.out.size, H3.out, fun M D h1 h2 => ?_⟩
  have hs := H2.out.size
  refine Cpy.new (by rw [HML.out]; exact H4.out) (fun h0 => ?_) (by omega) (by omega)
  obtain ⟨b, off, e, hb, hlt, hc⟩ := H1.out h0
  exact ⟨b, off, e, Nat.lt_of_lt_of_le hlt HBA.out.size, by omega, by omega, by omega, fun j hj => (HBA.out.cell (p := ⟨b, off + j, none⟩) hlt).trans (hc j hj)⟩

/-- the first page of a piece that isn't present, and why it can't be copied -/
def touchR (bs ps : List Int) (addr n : Int) : Int × Int := if outB addr n bs.length = true then (0, 14) else tch ps addr.toNat n.toNat
theorem tch_why (ps : List Int) (k m : Nat) : (tch ps k m).2 = 0 ∨ (tch ps k m).2 = 14 ∨ (tch ps k m).2 = 15 := by
  induction m generalizing k with
  | zero => exact .inl rfl
  | succ m ih =>
    unfold tch
    split
    · exact .inr (.inl rfl)
    · split
      · exact .inr (.inr rfl)
      · exact ih (k + 1)
theorem touchR_why (bs ps : List Int) (addr n : Int) : (touchR bs ps addr n).2 = 0 ∨ (touchR bs ps addr n).2 = 14 ∨ (touchR bs ps addr n).2 = 15 := by
  unfold touchR
  split
  · exact .inr (.inl rfl)
  · exact tch_why _ _ _

theorem cpTouch (M D : Nat) (bs ps : List Int) (addr n : Int) (w : World) (h : IsMem w M D bs ps) (f : Fine bs ps) (hL : bs.length ≤ 256) :
    Calls Try.prog 44 #[.agg #[.int .i64 addr, .int .i64 n], .pointer (some ⟨M, 0, none⟩)] w fun e w' => e = .returned (.tuple #[.int .i64 (touchR bs ps addr n).1, .int .i64 (touchR bs ps addr n).2]) ∧ Below w.heap.size w w' := by
  have BA := Lib.hid (below_alloc w (.cells #[.int .i64 addr, .int .i64 n] 86))
  cases ho : outB addr n bs.length with
  | true =>
    have hv := Lib.hid (show touchR bs ps addr n = (0, 14) from by unfold touchR; rw [if_pos ho])
    have HM := Lib.hid (fun w1 (b : Below w.heap.size w w1) => memTouchBad M D bs ps addr n w1 (h.kept b h.ltM h.ltD) hL ho)
    clear h ho
    go_enter Try.func44, Try.ntmps44
    go_wp2_with fail
    refine (HM.out _ (by exact BA.out)).mono ?_; rintro e w' ⟨rfl, rfl⟩
    go_wp2_with fail
    go_ret2
    exact ⟨by rw [hv.out]; rfl, BA.out⟩
  | false =>
    have hw := touchR_why bs ps addr n
    obtain ⟨k, m, rfl, rfl, hkm⟩ := piece_good ho
    have hv : touchR bs ps k m = tch ps k m := by unfold touchR; rw [if_neg (by rw [ho]; simp)]; rfl
    rw [hv] at hw ⊢
    have HM := fun w1 (b : Below w.heap.size w w1) => memTouch M D bs ps k m w1 (h.kept b h.ltM h.ltD) f hL hkm
    generalize tch ps k m = t at *
    obtain ⟨t1, t2⟩ := t
    dsimp only at *
    clear h ho hv
    rcases hw with rfl | rfl | rfl
    all_goals
      replace HM := Lib.hid HM
      go_enter Try.func44, Try.ntmps44
      go_wp2_with fail
      refine (HM.out _ (by exact BA.out)).mono ?_; rintro e w' ⟨rfl, rfl⟩
      go_wp2_with fail
      go_ret2
      exact ⟨rfl, BA.out⟩
theorem cpTouchNil (addr n : Int) (w : World) : Calls Try.prog 44 #[.agg #[.int .i64 addr, .int .i64 n], .pointer none] w fun e w' => e = .returned (.tuple #[.int .i64 0, .int .i64 14]) ∧ Below w.heap.size w w' := by
  have BA := Lib.hid (below_alloc w (.cells #[.int .i64 addr, .int .i64 n] 86))
  have HM := Lib.hid (fun w1 => nilTouch addr n w1)
  go_enter Try.func44, Try.ntmps44
  go_wp2_with fail
  refine (HM.out _).mono ?_; rintro e w' ⟨rfl, rfl⟩
  go_wp2_with fail
  go_ret2
  exact ⟨rfl, BA.out⟩
end Go.Proofs.Ytpdchgcpcnaklaa
