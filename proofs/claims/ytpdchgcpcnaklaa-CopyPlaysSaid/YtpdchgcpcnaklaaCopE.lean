/- A copy: what is done when it can be, by a contract. -/
import Derived.Test.YtpdchgcpcnaklaaCopD
namespace Go.Proofs.Ytpdchgcpcnaklaa
open Go.RowKit Go.ChangeShapes Go.WideShapes
attribute [local go_sem ↓] Go.wp_at_zero Go.wp_at_succ
set_option linter.unusedVariables false

theorem ne_b {b c o p : Nat} (h : b ≠ c) : (⟨b, o, none⟩ : Addr) ≠ ⟨c, p, none⟩ := fun e => h (Addr.mk.inj e).1
theorem ne_o {b c o p : Nat} (h : o ≠ p) : (⟨b, o, none⟩ : Addr) ≠ ⟨c, p, none⟩ := fun e => h (Addr.mk.inj e).2.1
theorem cell_other {w : World} {p q : Addr} {v : Value} (h : p ≠ q) : (w.setCell p v).cell? q = w.cell? q := by rw [World.cell?_setCell_other]; exact h
theorem below_drewL {B : Nat} {w w1 : World} (h : Below B w.drew w1) : Below B w w1 := ⟨h.os, h.tape, h.output, h.size, h.block⟩

set_option maxHeartbeats 1600000 in
theorem cpDone1In (Bc Bm C M D : Nat) (bs ps : List Int) (page tries : Int) (k m : Nat) (over waits : Bool) (a : Option Addr) (len cap : Nat) (w : World) (hb : w.heap[Bc]? = some (.cells #[.pointer (some ⟨C, 0, none⟩)] 52 (0, 0))) (hm : w.heap[Bm]? = some (.cells #[.pointer (some ⟨M, 0, none⟩)] 24 (0, 0)))
    (h : IsCp w C k m false over waits a len cap page tries) (i : IsMem w M D bs ps) (hL : bs.length ≤ 256) (hkm : k + m ≤ bs.length) (hCM : C ≠ M) (hCD : C ≠ D) :
    Calls Try.prog 48 #[.pointer (some ⟨Bc, 0, none⟩), .pointer (some ⟨Bm, 0, none⟩)] w fun e w' => e = .returned (.tuple #[]) ∧ w.grownBy w' (some C) ∧ ∃ a' cap', IsCp w' C k m false over waits a' m cap' page tries ∧ NewBytes w a' (sub bs k m) w' := by
  have cb := cell_of_one hb
  have cm := cell_of_one hm
  have c2 := h.c2
  have c0 := h.c0
  have c1 := h.c1
  have c5 := h.c5
  have f5 := h.fr 5
  have HI := Lib.hid h
  have lb := lt_of_block hb
  have lm := lt_of_block hm
  have lc := lt_of_block h
  have n1 : Bc ≠ C := by rintro rfl; rw [IsCp] at h; rw [hb] at h; simp at h
  have n2 : Bm ≠ C := by rintro rfl; rw [IsCp] at h; rw [hm] at h; simp at h
  have HSL := Lib.hid (sub_len hkm)
  have HP := Lib.hid (fun w1 (b : Below w.heap.size w w1) => memPeek M D bs ps k m w1 (i.kept b i.ltM i.ltD) hL hkm)
  clear h hb hm i
  go_enter Try.func48, Try.ntmps48
  go_wp2_with fail
  go_region_held3 (fun w' => w'.cell? ⟨Bm, 0, none⟩ = some (.pointer (some ⟨M, 0, none⟩)) ∧ w'.cell? ⟨Bc, 0, none⟩ = some (.pointer (some ⟨C, 0, none⟩)) ∧ w'.cell? ⟨C, 0, none⟩ = some (.int .i64 k) ∧ w'.cell? ⟨C, 1, none⟩ = some (.int .i64 m))
    (first | go_keep | exact ⟨gm, gb, g0, g1⟩ | exact ⟨(cell_other (ne_b (Ne.symm n2))).trans gm, (cell_other (ne_b (Ne.symm n1))).trans gb, (cell_other (ne_o (by omega))).trans g0, (cell_other (ne_o (by omega))).trans g1⟩)
    (first | (go_at_call 14; refine (HP.out _ (by exact (Below.refl _ _).drew)).mono ?_; rintro e w1 ⟨v, rfl, hv⟩; have hb2 : Below w.heap.size w w1 := below_drewL hv.2; obtain ⟨a', cap', rfl, hn⟩ := hv.news; clear hv; have gm := (hb2.cell (p := ⟨Bm, 0, none⟩) lm).trans cm; have gb := (hb2.cell (p := ⟨Bc, 0, none⟩) lb).trans cb; have g0 := (hb2.cell (p := ⟨C, 0, none⟩) lc).trans c0; have g1 := (hb2.cell (p := ⟨C, 1, none⟩) lc).trans c1; have g5 := (hb2.cell (p := ⟨C, 5, none⟩) lc).trans c5; have gf := (hb2.frozen (p := ⟨C, 5, none⟩) lc).trans f5))
  all_goals
    go_end0
    rw [HSL.out]
    refine ⟨rfl, ?_, a', cap', ?_, ?_⟩
    · exact grownBy_trans ⟨hb2.os, hb2.tape, hb2.output, hb2.size, fun q hq _ => hb2.block q hq⟩ (grownBy_set _ C 5 _)
    · exact (HI.out.kept hb2).set5 _ _ _
    · intro h0
      obtain ⟨b, off, e, hb, hlt, hc⟩ := hn h0
      refine ⟨b, off, e, hb, by simpa [World.setCell] using hlt, fun j hj => ?_⟩
      rw [cell_other (ne_b (by intro e; subst e; exact absurd hb (by simp; omega)))]
      exact hc j hj

theorem grown_cell {w w' : World} {D b o : Nat} {v : Value} (g : w.grownBy w' (some D)) (hb : b < w.heap.size) (hn : b ≠ D) (h : w.cell? ⟨b, o, none⟩ = some v) : w'.cell? ⟨b, o, none⟩ = some v :=
  (World.cell?_of_block (w := w) (g.block b hb (fun e => hn (Option.some.inj e)))).trans h
theorem grownBy_drewL {w w1 : World} {r : Option Nat} (h : w.drew.grownBy w1 r) : w.grownBy w1 r := ⟨h.os, h.tape, h.output, h.size, h.block⟩

set_option maxHeartbeats 1600000 in
theorem cpDone1Out (Bc Bm C M D : Nat) (bs ps : List Int) (page tries n : Int) (k m : Nat) (over waits : Bool) (a : Option Addr) (cap : Nat) (xs : List Int) (w : World) (hb : w.heap[Bc]? = some (.cells #[.pointer (some ⟨C, 0, none⟩)] 52 (0, 0))) (hm : w.heap[Bm]? = some (.cells #[.pointer (some ⟨M, 0, none⟩)] 24 (0, 0)))
    (h : IsCp w C k n true over waits a m cap page tries) (hl : m = xs.length) (hx : HoldsX w a xs M D C) (i : IsMem w M D bs ps) (hL : bs.length ≤ 256) (hkm : k + m ≤ bs.length) (hCM : C ≠ M) (hCD : C ≠ D) :
    Calls Try.prog 48 #[.pointer (some ⟨Bc, 0, none⟩), .pointer (some ⟨Bm, 0, none⟩)] w fun e w' => e = .returned (.tuple #[]) ∧ w.grownBy w' (some D) ∧ IsMem w' M D (pok bs k xs) ps := by
  have cb := cell_of_one hb
  have cm := cell_of_one hm
  have c2 := h.c2
  have c0 := h.c0
  have c5 := h.c5
  have lb := lt_of_block hb
  have lm := lt_of_block hm
  have lc := lt_of_block h
  have n1 : Bc ≠ D := by rintro rfl; rw [i.dat] at hb; simp at hb
  have n2 : Bm ≠ D := by rintro rfl; rw [i.dat] at hm; simp at hm
  have HP := Lib.hid (fun w1 (b : Below w.heap.size w w1) => memPoke M D bs ps k a cap xs w1 m hl (i.kept b i.ltM i.ltD) hL hkm (by have q := hx.holds.kept b (m := m) (by omega); rw [hl, List.take_length] at q; rw [hl]; exact q))
  clear h hb hm i hx hl
  go_enter Try.func48, Try.ntmps48
  go_wp2_with fail
  go_region_held3 (fun w' => w'.cell? ⟨Bm, 0, none⟩ = some (.pointer (some ⟨M, 0, none⟩)) ∧ w'.cell? ⟨Bc, 0, none⟩ = some (.pointer (some ⟨C, 0, none⟩)) ∧ w'.cell? ⟨C, 0, none⟩ = some (.int .i64 k) ∧ w'.cell? ⟨C, 5, none⟩ = some (.slice a m cap))
    (first | go_keep | exact ⟨gm, gb, g0, g1⟩)
    (first | (go_at_call 13; refine (HP.out _ (by exact (Below.refl _ _).drew)).mono ?_; rintro e w1 ⟨rfl, hg, hi⟩; have hb2 := Lib.hid (And.intro (grownBy_drewL hg) hi); have gm := grown_cell (grownBy_drewL hg) lm n2 cm; have gb := grown_cell (grownBy_drewL hg) lb n1 cb; have g0 := grown_cell (grownBy_drewL hg) lc hCD c0; have g1 := grown_cell (grownBy_drewL hg) lc hCD c5; clear hg hi))
  all_goals
    go_wp2_with fail
    exact bodyPost_ret (v := .tuple #[]) (by simp [results, Try.results48, go_sem]) rfl ⟨rfl, hb2.out.1, hb2.out.2⟩
end Go.Proofs.Ytpdchgcpcnaklaa
