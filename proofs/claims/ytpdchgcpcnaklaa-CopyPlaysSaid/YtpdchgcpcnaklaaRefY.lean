/- The document's copy: a try, by a contract. -/
import Derived.Test.YtpdchgcpcnaklaaLawG
namespace Go.Proofs.Ytpdchgcpcnaklaa
open Go.RowKit Go.ChangeShapes Go.WideShapes
set_option linter.unusedVariables false

/-- what a slice holds: one of old, or a new one -/
def HoldsN (w : World) (a : Option Addr) (xs0 : List Int) (w' : World) (a' : Option Addr) (xs : List Int) : Prop := 0 < xs.length → ∃ b off, a' = some ⟨b, off, none⟩ ∧ b < w'.heap.size ∧ (a = some ⟨b, off, none⟩ ∧ xs = xs0 ∨ w.heap.size ≤ b) ∧ ∀ j, j < xs.length → w'.cell? ⟨b, off + j, none⟩ = some (.int .u8 (xs.getD j 0))
theorem HoldsN.same {w w' : World} {a : Option Addr} {xs : List Int} (h : Holds w' a xs) : HoldsN w a xs w' a xs := fun h0 => by
  obtain ⟨b, off, e, hlt, hc⟩ := h h0
  exact ⟨b, off, e, hlt, .inl ⟨e, rfl⟩, hc⟩
theorem NewBytes.toN {w W0 w1 W : World} {a a' : Option Addr} {xs xs0 : List Int} (h : NewBytes W0 a' xs w1) (hs : w.heap.size + 2 ≤ W0.heap.size) (b : Apart3 w.heap.size (w.heap.size + 1) w.heap.size w1 W) : HoldsN w a xs0 W a' xs := fun h0 => by
  obtain ⟨B, off, e, hb, hlt, hc⟩ := h h0
  exact ⟨B, off, e, Nat.lt_of_lt_of_le hlt b.size, .inr (by omega), fun j hj => (World.cell?_of_block (w := w1) (b.block B hlt (by omega) (by omega) (by omega))).trans (hc j hj)⟩
/-- what a try of the document's hands back -/
def RTry (w : World) (a : Option Addr) (xs0 : List Int) (R L : Nat) (ps : List Int) (addr n : Int) (out : Bool) (t : List Int × CS × Int) (e : Ending) (w' : World) : Prop :=
  ∃ R' c' a' cap', e = .returned (.tuple #[.slice (some ⟨R', 0, none⟩) L c', .agg #[.bool out, .bool t.2.1.over, .bool t.2.1.waits, .int .i64 addr, .int .i64 n, .int .i64 t.2.1.page, .int .i64 t.2.1.tries, .slice a' t.2.1.xs.length cap'], .int .i64 t.2.2]) ∧
    Below w.heap.size w w' ∧ RefAt w' R' c' L (fun j => t.1.getD j 0) (fun j => ps.getD (j / 16) 0) ∧ HoldsN w a xs0 w' a' t.2.1.xs ∧ (R' = R ∨ w.heap.size ≤ R')
theorem rtry_same {w w' : World} {R L c : Nat} {bs ps : List Int} {addr n : Int} {out : Bool} {s : CS} {err : Int} {a : Option Addr} {cap : Nat} {e : Ending} (h : RefAt w R c L (fun j => bs.getD j 0) (fun j => ps.getD (j / 16) 0)) (hb : Holds w a s.xs) (b : Below w.heap.size w w')
    (he : e = .returned (.tuple #[.slice (some ⟨R, 0, none⟩) L c, .agg #[.bool out, .bool s.over, .bool s.waits, .int .i64 addr, .int .i64 n, .int .i64 s.page, .int .i64 s.tries, .slice a s.xs.length cap], .int .i64 err])) : RTry w a s.xs R L ps addr n out (bs, s, err) e w' :=
  ⟨R, c, a, cap, he, b, h.kept b h.lt, HoldsN.same (hb.below b), .inl rfl⟩
theorem rtry_new {w w' : World} {R L c : Nat} {bs ps : List Int} {addr n : Int} {out : Bool} {s : CS} {err : Int} {a a' : Option Addr} {xs0 : List Int} {cap : Nat} {e : Ending} (h : RefAt w R c L (fun j => bs.getD j 0) (fun j => ps.getD (j / 16) 0)) (hb : HoldsN w a xs0 w' a' s.xs) (b : Below w.heap.size w w')
    (he : e = .returned (.tuple #[.slice (some ⟨R, 0, none⟩) L c, .agg #[.bool out, .bool s.over, .bool s.waits, .int .i64 addr, .int .i64 n, .int .i64 s.page, .int .i64 s.tries, .slice a' s.xs.length cap], .int .i64 err])) : RTry w a xs0 R L ps addr n out (bs, s, err) e w' :=
  ⟨R, c, a', cap, he, b, h.kept b h.lt, hb, .inl rfl⟩

set_option maxHeartbeats 3200000 in
theorem refTryOver (R c : Nat) (bs ps : List Int) (addr n page tries : Int) (out wait waits : Bool) (a : Option Addr) (cap : Nat) (xs : List Int) (w : World) (h : RefAt w R c bs.length (fun j => bs.getD j 0) (fun j => ps.getD (j / 16) 0)) (hb : Holds w a xs) :
    Calls Try.prog 35 #[.slice (some ⟨R, 0, none⟩) bs.length c, .agg #[.bool out, .bool true, .bool waits, .int .i64 addr, .int .i64 n, .int .i64 page, .int .i64 tries, .slice a xs.length cap], .bool wait] w (RTry w a xs R bs.length ps addr n out (bs, ⟨true, waits, page, tries, xs⟩, 6)) := by
  have HR := Lib.hid h
  have HB := Lib.hid hb
  clear h hb
  go_enter Try.func35, Try.ntmps35
  go_wp2_with fail
  go_region
  all_goals
    go_wp2_with fail
    exact bodyPost_ret (v := .tuple #[.slice (some ⟨R, 0, none⟩) bs.length c, .agg #[.bool out, .bool true, .bool waits, .int .i64 addr, .int .i64 n, .int .i64 page, .int .i64 tries, .slice a xs.length cap], .int .i64 6]) (by simp [results, Try.results35, go_sem]) rfl (rtry_same HR.out HB.out (by go_grown) rfl)

theorem holdsMade (w : World) (n : Nat) : Holds (w.alloc (.cells (madeCells #[.int .u8 0] n) 5)) (some ⟨w.heap.size, 0, none⟩) (List.replicate n 0) := (newBytes_made w _ n (heap_alloc_new w _)).holds

theorem Holds.drewn {w : World} {a : Option Addr} {xs : List Int} (h : Holds w a xs) : Holds w.drew a xs := h.below (Below.refl _ _).drew
theorem holdsMadeN (w0 w : World) (a : Option Addr) (xs0 : List Int) (n k : Nat) (hk : w.heap.size = k) (h0 : w0.heap.size ≤ k) : HoldsN w0 a xs0 (w.alloc (.cells (madeCells #[.int .u8 0] n) 5)).drew (some ⟨k, 0, none⟩) (List.replicate n 0) := by
  intro hl
  obtain ⟨b, off, e, hlt, hc⟩ := ((holdsMade w n).drewn) hl
  subst hk
  cases e
  exact ⟨w.heap.size, 0, rfl, hlt, .inr h0, hc⟩
theorem holdsMade' (w : World) (n k : Nat) (hk : w.heap.size = k) : Holds (w.alloc (.cells (madeCells #[.int .u8 0] n) 5)).drew (some ⟨k, 0, none⟩) (List.replicate n 0) := by subst hk; exact (holdsMade w n).drewn
set_option maxHeartbeats 3200000 in
/-- a try that fails: the document's touch tells e, which is no 0, and no 15 if it may wait -/
theorem refTryFault (R c : Nat) (bs ps : List Int) (addr page tries t1 e : Int) (m : Nat) (out wait waits : Bool) (a : Option Addr) (cap : Nat) (xs : List Int) (w : World) (h : RefAt w R c bs.length (fun j => bs.getD j 0) (fun j => ps.getD (j / 16) 0)) (hb : Holds w a xs) (hm : m ≤ 64) (ht0 : 0 ≤ tries) (ht1 : tries ≤ 1000)
    (hT : ∀ w1, Below w.heap.size w w1 → Calls Try.prog 41 #[.slice (some ⟨R, 0, none⟩) bs.length c, .int .i64 addr, .int .i64 m] w1 fun e' w' => e' = .returned (.tuple #[.int .i64 t1, .int .i64 e]) ∧ w1 = w') (he : (e == 0) = false) (he' : (e != 0) = true) (hw : (e == 15) = false ∨ ((e == 15) = true ∧ wait = false)) :
    Calls Try.prog 35 #[.slice (some ⟨R, 0, none⟩) bs.length c, .agg #[.bool out, .bool false, .bool waits, .int .i64 addr, .int .i64 m, .int .i64 page, .int .i64 tries, .slice a xs.length cap], .bool wait] w (RTry w a xs R bs.length ps addr m out (bs, ⟨true, false, 0, tries + 1, if out = true then xs else List.replicate m 0⟩, 14)) := by
  have HR := Lib.hid h
  have HB := Lib.hid hb
  have HT := Lib.hid hT
  have hmk := fun w => run_make_row' (P := Try.prog) 22 5 (.int .u8 0) 1 Try.underlying22 info5 rfl .i64 .i64 m (by omega) (by omega) w
  clear h hb hT
  cases out with
  | true =>
    rw [if_pos rfl]
    rcases hw with hw | ⟨hw, rfl⟩
    all_goals
      go_enter Try.func35, Try.ntmps35
      go_wp2_with fail
      refine (HT.out _ (by go_grown)).mono ?_
      rintro e' w' ⟨rfl, rfl⟩
      go_wp2_with fail
      go_region
      all_goals
        go_wp2_with fail
        exact bodyPost_ret (v := .tuple #[.slice (some ⟨R, 0, none⟩) bs.length c, .agg #[.bool true, .bool true, .bool false, .int .i64 addr, .int .i64 m, .int .i64 0, .int .i64 (tries + 1), .slice a xs.length cap], .int .i64 14]) (by simp [results, Try.results35, go_sem]) rfl (rtry_same HR.out HB.out (by go_grown) rfl)
  | false =>
    rw [if_neg (by decide)]
    rcases hw with hw | ⟨hw, rfl⟩
    all_goals
      go_enter Try.func35, Try.ntmps35
      go_wp2_with fail
      refine (HT.out _ (by go_grown)).mono ?_
      rintro e' w' ⟨rfl, rfl⟩
      go_wp2_with fail
      go_region
      all_goals
        go_wp2_with fail
        exact bodyPost_ret (v := .tuple #[.slice (some ⟨R, 0, none⟩) bs.length c, .agg #[.bool false, .bool true, .bool false, .int .i64 addr, .int .i64 m, .int .i64 0, .int .i64 (tries + 1), .slice (some ⟨w.heap.size + 1 + 1, 0, none⟩) m m], .int .i64 14]) (by simp [results, Try.results35, go_sem]) rfl (rtry_new HR.out (holdsMadeN _ _ _ _ m (w.heap.size + 1 + 1) (by simp) (by omega)) (by go_grown) (by dsimp only; rw [List.length_replicate]))

theorem box_at {w1 : World} {b : Nat} {cs : Array Value} {t : TypeId} (h : w1.heap[b]? = some (.cells cs t (0, 0))) (i : Nat) : w1.cell? ⟨b, i, none⟩ = cs[i]? := by simp [World.cell?, h]
theorem box_fr {w1 : World} {b : Nat} {cs : Array Value} {t : TypeId} (h : w1.heap[b]? = some (.cells cs t (0, 0))) (i : Nat) : w1.frozen? ⟨b, i, none⟩ = false := by simp [World.frozen?, h]
theorem two_boxes {w w1 : World} {o1 o2 : Obj} (b : Below ((w.alloc o1).alloc o2).heap.size ((w.alloc o1).alloc o2) w1) : w1.heap[w.heap.size]? = some o1 ∧ w1.heap[w.heap.size + 1]? = some o2 := by
  have hs : (w.alloc o1).heap.size = w.heap.size + 1 := by simp
  have hs2 : ((w.alloc o1).alloc o2).heap.size = w.heap.size + 2 := by simp
  have h2 := heap_alloc_new (w.alloc o1) o2
  rw [hs] at h2
  exact ⟨(b.block _ (by omega)).trans ((alloc_old _ _ _ (by omega)).trans (heap_alloc_new w o1)), (b.block _ (by omega)).trans h2⟩
theorem rtry_fin {w w1 W : World} {R R' L c' : Nat} {bs ps : List Int} {addr n : Int} {out : Bool} {s : CS} {err : Int} {a : Option Addr} {cap : Nat} {e : Ending} (hb : Holds W a s.xs) (b : Below w.heap.size w w1) (r : RefAt w1 R' c' L (fun j => bs.getD j 0) (fun j => ps.getD (j / 16) 0)) (hR : R' ≠ w.heap.size + 1) (hR2 : R' = R ∨ w.heap.size ≤ R') (hs : w.heap.size ≤ w1.heap.size)
    (g : w1.grownBy W (some (w.heap.size + 1)))
    (he : e = .returned (.tuple #[.slice (some ⟨R', 0, none⟩) L c', .agg #[.bool out, .bool s.over, .bool s.waits, .int .i64 addr, .int .i64 n, .int .i64 s.page, .int .i64 s.tries, .slice a s.xs.length cap], .int .i64 err])) : RTry w a s.xs R L ps addr n out (bs, s, err) e W :=
  ⟨R', c', a, cap, he, b.grown g hs (fun k hk => by have h := Option.some.inj hk; omega), Apart.ref (M := w.heap.size + 1) (D := w.heap.size + 1) r (Apart.grownM g) hR hR, HoldsN.same hb, hR2⟩
theorem sizes (bs : List Int) (k m : Nat) (h : k + m ≤ bs.length) : (sub bs k m).length = m := sub_len h

set_option maxHeartbeats 3200000 in
/-- a try that waits -/
theorem refTryWait (R c : Nat) (bs ps : List Int) (addr page tries t1 : Int) (m : Nat) (out waits : Bool) (a : Option Addr) (cap : Nat) (xs : List Int) (w : World) (h : RefAt w R c bs.length (fun j => bs.getD j 0) (fun j => ps.getD (j / 16) 0)) (hb : Holds w a xs) (ht0 : 0 ≤ tries) (ht1 : tries ≤ 1000)
    (hT : ∀ w1, Below w.heap.size w w1 → Calls Try.prog 41 #[.slice (some ⟨R, 0, none⟩) bs.length c, .int .i64 addr, .int .i64 m] w1 fun e' w' => e' = .returned (.tuple #[.int .i64 t1, .int .i64 15]) ∧ w1 = w') :
    Calls Try.prog 35 #[.slice (some ⟨R, 0, none⟩) bs.length c, .agg #[.bool out, .bool false, .bool waits, .int .i64 addr, .int .i64 m, .int .i64 page, .int .i64 tries, .slice a xs.length cap], .bool true] w (RTry w a xs R bs.length ps addr m out (bs, ⟨false, true, t1, tries + 1, xs⟩, 15)) := by
  have HR := Lib.hid h
  have HB := Lib.hid hb
  have HT := Lib.hid hT
  clear h hb hT
  go_enter Try.func35, Try.ntmps35
  go_wp2_with fail
  refine (HT.out _ (by go_grown)).mono ?_
  rintro e' w' ⟨rfl, rfl⟩
  go_wp2_with fail
  go_region
  all_goals
    go_wp2_with fail
    exact bodyPost_ret (v := .tuple #[.slice (some ⟨R, 0, none⟩) bs.length c, .agg #[.bool out, .bool false, .bool true, .int .i64 addr, .int .i64 m, .int .i64 t1, .int .i64 (tries + 1), .slice a xs.length cap], .int .i64 15]) (by simp [results, Try.results35, go_sem]) rfl (rtry_same HR.out HB.out (by go_grown) rfl)

set_option maxHeartbeats 3200000 in
/-- a try out that is done -/
theorem refTryOut (R c : Nat) (bs ps : List Int) (page tries : Int) (k m : Nat) (wait waits : Bool) (a : Option Addr) (cap : Nat) (xs : List Int) (w : World) (h : RefAt w R c bs.length (fun j => bs.getD j 0) (fun j => ps.getD (j / 16) 0)) (hb : Holds w a xs) (hl : xs.length = m) (h0 : 0 < bs.length) (hL : bs.length ≤ 256) (hk : k + m ≤ bs.length) (ht0 : 0 ≤ tries) (ht1 : tries ≤ 1000)
    (hT : ∀ w1, Below w.heap.size w w1 → Calls Try.prog 41 #[.slice (some ⟨R, 0, none⟩) bs.length c, .int .i64 k, .int .i64 m] w1 fun e' w' => e' = .returned (.tuple #[.int .i64 0, .int .i64 0]) ∧ w1 = w') :
    Calls Try.prog 35 #[.slice (some ⟨R, 0, none⟩) bs.length c, .agg #[.bool true, .bool false, .bool waits, .int .i64 k, .int .i64 m, .int .i64 page, .int .i64 tries, .slice a m cap], .bool wait] w (RTry w a xs R bs.length ps k m true (pok bs k xs, ⟨true, false, 0, tries + 1, xs⟩, 0)) := by
  have HR := Lib.hid h
  have HB := Lib.hid hb
  have HT := Lib.hid hT
  have HXL := Lib.hid hl
  have HP := Lib.hid (fun w1 (b : Below w.heap.size w w1) => refPoke R c bs.length _ _ k m a cap xs w1 (h.kept b h.lt) h0 hL hk hl (hb.below b))
  have HG := Lib.hid (show ∀ j, (if k ≤ j ∧ j - k < m then xs.getD (j - k) 0 else bs.getD j 0) = (pok bs k xs).getD j 0 from fun j => by rw [pok_get (by omega), hl])
  clear h hb hT hl
  go_enter Try.func35, Try.ntmps35
  go_wp2_with fail
  refine (HT.out _ (by go_grown)).mono ?_
  rintro e' w' ⟨rfl, rfl⟩
  go_wp2_with fail
  refine (HP.out _ (by go_grown)).mono ?_
  rintro e' w1 ⟨R', c', rfl, hR, b1, r1⟩
  have hbx := two_boxes b1
  have HB1 := Lib.hid hbx.1
  have HB2 := Lib.hid hbx.2
  have H1 := Lib.hid (show w.heap.size + 2 ≤ R' from by have := hR; simp at this; omega)
  have B1 := Lib.hid (show Below w.heap.size w w1 from (show Below w.heap.size w _ from by go_grown).trans (b1.mono (by simp; omega)))
  have R1 := Lib.hid (r1.congr (fun j _ => HG.out j) (fun _ _ => rfl))
  have hsz : w.heap.size + 1 < w1.heap.size := lt_of_block hbx.2
  clear hbx hR b1 r1
  have c0 := box_at HB1.out 0
  have c1 := box_at HB1.out 1
  have c2 := box_at HB1.out 2
  have c3 := box_at HB1.out 3
  have c4 := box_at HB1.out 4
  have c5 := box_at HB1.out 5
  have c6 := box_at HB1.out 6
  have c7 := box_at HB1.out 7
  have d0 := box_at HB2.out 0
  have d1 := box_at HB2.out 1
  have d2 := box_at HB2.out 2
  have d3 := box_at HB2.out 3
  have d4 := box_at HB2.out 4
  have d5 := box_at HB2.out 5
  have d6 := box_at HB2.out 6
  have d7 := box_at HB2.out 7
  have f0 := box_fr HB2.out 0
  have f1 := box_fr HB2.out 1
  have f2 := box_fr HB2.out 2
  have f3 := box_fr HB2.out 3
  have f4 := box_fr HB2.out 4
  have f5 := box_fr HB2.out 5
  have f6 := box_fr HB2.out 6
  have f7 := box_fr HB2.out 7
  simp only [List.getElem?_toArray, List.getElem?_cons_zero, List.getElem?_cons_succ] at c0 c1 c2 c3 c4 c5 c6 c7 d0 d1 d2 d3 d4 d5 d6 d7
  go_wp2_with fail
  go_region
  all_goals
    go_wp2_with fail
    have g : w1.grownBy (((((((((w1.setCell ⟨w.heap.size + 1, 0, none⟩ (.bool true)).setCell ⟨w.heap.size + 1, 1, none⟩ (.bool true)).setCell ⟨w.heap.size + 1, 2, none⟩ (.bool false)).setCell ⟨w.heap.size + 1, 3, none⟩ (.int .i64 k)).setCell ⟨w.heap.size + 1, 4, none⟩ (.int .i64 m)).setCell ⟨w.heap.size + 1, 5, none⟩ (.int .i64 0)).setCell ⟨w.heap.size + 1, 6, none⟩ (.int .i64 (tries + 1))).setCell ⟨w.heap.size + 1, 7, none⟩ (.slice a m cap)).drew) (some (w.heap.size + 1)) := grownBy_drew (grownBy_trans (grownBy_trans (grownBy_trans (grownBy_trans (grownBy_trans (grownBy_trans (grownBy_trans (grownBy_set _ _ _ _) (grownBy_set _ _ _ _)) (grownBy_set _ _ _ _)) (grownBy_set _ _ _ _)) (grownBy_set _ _ _ _)) (grownBy_set _ _ _ _)) (grownBy_set _ _ _ _)) (grownBy_set _ _ _ _))
    have G := Lib.hid g
    have HL := Lib.hid (HB.out.below (B1.out.grown g B1.out.size (fun k hk => by have h := Option.some.inj hk; omega)))
    clear g
    refine bodyPost_ret (v := .tuple #[.slice (some ⟨R', 0, none⟩) bs.length c', .agg #[.bool true, .bool true, .bool false, .int .i64 k, .int .i64 m, .int .i64 0, .int .i64 (tries + 1), .slice a m cap], .int .i64 0]) (by simp [results, Try.results35, go_sem, d0, d1, d2, d3, d4, d5, d6, d7]) rfl ?_
    have hfin := H1.out
    exact rtry_fin (s := ⟨true, false, 0, tries + 1, xs⟩) HL.out B1.out R1.out (by omega) (.inr (by omega)) B1.out.size G.out (by dsimp only; rw [HXL.out])

set_option maxHeartbeats 3200000 in
/-- a try in that is done -/
theorem refTryIn (R c : Nat) (bs ps : List Int) (page tries : Int) (k m : Nat) (wait waits : Bool) (a : Option Addr) (xs0 : List Int) (len cap : Nat) (w : World) (h : RefAt w R c bs.length (fun j => bs.getD j 0) (fun j => ps.getD (j / 16) 0)) (hL : bs.length ≤ 256) (hk : k + m ≤ bs.length) (ht0 : 0 ≤ tries) (ht1 : tries ≤ 1000)
    (hT : ∀ w1, Below w.heap.size w w1 → Calls Try.prog 41 #[.slice (some ⟨R, 0, none⟩) bs.length c, .int .i64 k, .int .i64 m] w1 fun e' w' => e' = .returned (.tuple #[.int .i64 0, .int .i64 0]) ∧ w1 = w') :
    Calls Try.prog 35 #[.slice (some ⟨R, 0, none⟩) bs.length c, .agg #[.bool false, .bool false, .bool waits, .int .i64 k, .int .i64 m, .int .i64 page, .int .i64 tries, .slice a len cap], .bool wait] w (RTry w a xs0 R bs.length ps k m false (bs, ⟨true, false, 0, tries + 1, sub bs k m⟩, 0)) := by
  have HR := Lib.hid h
  have HT := Lib.hid hT
  have HXL := Lib.hid (sub_len hk)
  have HP := fun w1 (b : Below w.heap.size w w1) => refPeek R c bs.length _ _ k m w1 (h.kept b h.lt) hL hk
  rw [sub_is bs k m hk] at HP
  replace HP := Lib.hid HP
  clear h hT
  go_enter Try.func35, Try.ntmps35
  go_wp2_with fail
  refine (HT.out _ (by go_grown)).mono ?_
  rintro e' w' ⟨rfl, rfl⟩
  go_wp2_with fail
  refine (HP.out _ (by go_grown)).mono ?_
  rintro e' w1 ⟨v1, rfl, hv⟩
  obtain ⟨a', cap', rfl, n1⟩ := hv.news
  rw [HXL.out]
  have b1 := hv.2
  have hbx := two_boxes b1
  have HB1 := Lib.hid hbx.1
  have HB2 := Lib.hid hbx.2
  have B1 := Lib.hid (show Below w.heap.size w w1 from (show Below w.heap.size w _ from by go_grown).trans (b1.mono (by simp; omega)))
  have N1 := Lib.hid (fun W a0 => n1.toN (w := w) (W := W) (a := a0) (xs0 := xs0) (by simp))
  have hsz : w.heap.size + 1 < w1.heap.size := lt_of_block hbx.2
  clear hbx b1 n1 hv
  have c0 := box_at HB1.out 0
  have c1 := box_at HB1.out 1
  have c2 := box_at HB1.out 2
  have c3 := box_at HB1.out 3
  have c4 := box_at HB1.out 4
  have c5 := box_at HB1.out 5
  have c6 := box_at HB1.out 6
  have c7 := box_at HB1.out 7
  have k7 := box_fr HB1.out 7
  have d0 := box_at HB2.out 0
  have d1 := box_at HB2.out 1
  have d2 := box_at HB2.out 2
  have d3 := box_at HB2.out 3
  have d4 := box_at HB2.out 4
  have d5 := box_at HB2.out 5
  have d6 := box_at HB2.out 6
  have d7 := box_at HB2.out 7
  have f0 := box_fr HB2.out 0
  have f1 := box_fr HB2.out 1
  have f2 := box_fr HB2.out 2
  have f3 := box_fr HB2.out 3
  have f4 := box_fr HB2.out 4
  have f5 := box_fr HB2.out 5
  have f6 := box_fr HB2.out 6
  have f7 := box_fr HB2.out 7
  simp only [List.getElem?_toArray, List.getElem?_cons_zero, List.getElem?_cons_succ] at c0 c1 c2 c3 c4 c5 c6 c7 d0 d1 d2 d3 d4 d5 d6 d7
  go_wp2_with fail
  go_region
  all_goals
    go_wp2_with fail
    have g1 : w1.grownBy (w1.setCell ⟨w.heap.size, 7, none⟩ (.slice a' m cap')) (some w.heap.size) := grownBy_set _ _ _ _
    have g2 : (w1.setCell ⟨w.heap.size, 7, none⟩ (.slice a' m cap')).grownBy ((((((((((w1.setCell ⟨w.heap.size, 7, none⟩ (.slice a' m cap')).setCell ⟨w.heap.size + 1, 0, none⟩ (.bool false)).setCell ⟨w.heap.size + 1, 1, none⟩ (.bool true)).setCell ⟨w.heap.size + 1, 2, none⟩ (.bool false)).setCell ⟨w.heap.size + 1, 3, none⟩ (.int .i64 k)).setCell ⟨w.heap.size + 1, 4, none⟩ (.int .i64 m)).setCell ⟨w.heap.size + 1, 5, none⟩ (.int .i64 0)).setCell ⟨w.heap.size + 1, 6, none⟩ (.int .i64 (tries + 1))).setCell ⟨w.heap.size + 1, 7, none⟩ (.slice a' m cap')).drew) (some (w.heap.size + 1)) := grownBy_drew (grownBy_trans (grownBy_trans (grownBy_trans (grownBy_trans (grownBy_trans (grownBy_trans (grownBy_trans (grownBy_set _ _ _ _) (grownBy_set _ _ _ _)) (grownBy_set _ _ _ _)) (grownBy_set _ _ _ _)) (grownBy_set _ _ _ _)) (grownBy_set _ _ _ _)) (grownBy_set _ _ _ _)) (grownBy_set _ _ _ _))
    have B2 := Lib.hid ((B1.out.grown g1 B1.out.size (fun k hk => by have h := Option.some.inj hk; omega)).grown g2 (Nat.le_trans B1.out.size g1.size) (fun k hk => by have h := Option.some.inj hk; omega))
    have N2 := Lib.hid (N1.out _ a ((Apart3.grownM g1).trans (.grownD g2)))
    clear g1 g2
    refine bodyPost_ret (v := .tuple #[.slice (some ⟨R, 0, none⟩) bs.length c, .agg #[.bool false, .bool true, .bool false, .int .i64 k, .int .i64 m, .int .i64 0, .int .i64 (tries + 1), .slice a' m cap'], .int .i64 0]) (by simp [results, Try.results35, go_sem, d0, d1, d2, d3, d4, d5, d6, d7]) rfl ?_
    exact rtry_new (s := ⟨true, false, 0, tries + 1, sub bs k m⟩) HR.out N2.out B2.out (by dsimp only; rw [HXL.out])

theorem tch_zero (ps : List Int) (k m : Nat) (h : (tch ps k m).2 = 0) : (tch ps k m).1 = 0 := by
  induction m generalizing k with
  | zero => rfl
  | succ m ih =>
    unfold tch at h ⊢
    by_cases a : ps.getD (k / 16) 0 = 2
    · rw [if_pos a] at h; simp at h
    · rw [if_neg a] at h ⊢
      by_cases b : ps.getD (k / 16) 0 = 0
      · rw [if_pos b] at h; simp at h
      · rw [if_neg b] at h ⊢
        exact ih (k + 1) h
/-- a try of the document's -/
theorem refTry (R c : Nat) (bs ps : List Int) (addr : Int) (m : Nat) (out wait : Bool) (s : CS) (a : Option Addr) (cap : Nat) (w : World) (h : RefAt w R c bs.length (fun j => bs.getD j 0) (fun j => ps.getD (j / 16) 0)) (hs : ∀ j, j < bs.length → 0 ≤ ps.getD (j / 16) 0 ∧ ps.getD (j / 16) 0 ≤ 2) (hb : Holds w a s.xs)
    (h0 : 0 < bs.length) (hL : bs.length ≤ 256) (hm : m ≤ 64) (hx : out = true → s.xs.length = m) (ht0 : 0 ≤ s.tries) (ht1 : s.tries ≤ 1000) :
    Calls Try.prog 35 #[.slice (some ⟨R, 0, none⟩) bs.length c, .agg #[.bool out, .bool s.over, .bool s.waits, .int .i64 addr, .int .i64 m, .int .i64 s.page, .int .i64 s.tries, .slice a s.xs.length cap], .bool wait] w (RTry w a s.xs R bs.length ps addr m out (tryS bs ps addr m out wait s)) := by
  obtain ⟨over, waits, page, tries, xs⟩ := s
  dsimp only at *
  cases over with
  | true => exact refTryOver R c bs ps addr m page tries out wait waits a cap xs w h hb
  | false =>
    have hv : tryS bs ps addr m out wait ⟨false, waits, page, tries, xs⟩ = if (touchR bs ps addr m).2 = 0 then
      (if out = true then (pok bs addr.toNat xs, ⟨true, false, 0, tries + 1, xs⟩, 0) else (bs, ⟨true, false, 0, tries + 1, sub bs addr.toNat m⟩, 0))
      else if (touchR bs ps addr m).2 = 15 ∧ wait = true then (bs, ⟨false, true, (touchR bs ps addr m).1, tries + 1, xs⟩, 15)
      else (bs, ⟨true, false, 0, tries + 1, if out = true then xs else List.replicate m 0⟩, 14) := rfl
    rw [hv]
    cases ho : outB addr m bs.length with
    | true =>
      have hr : touchR bs ps addr m = (0, 14) := by unfold touchR; rw [if_pos ho]
      rw [hr, if_neg (by decide), if_neg (by simp)]
      exact refTryFault R c bs ps addr page tries 0 2 m out wait waits a cap xs w h hb hm ht0 ht1 (fun w1 b => refTouchBad _ _ _ addr m w1 hL ho) (by decide) (by decide) (.inl (by decide))
    | false =>
      obtain ⟨k, m', rfl, hm', hkm⟩ := piece_good ho
      obtain rfl : m = m' := by omega
      have hT := fun w1 (b : Below w.heap.size w w1) => refTouch R c bs.length _ _ k m w1 (h.kept b h.lt) hs hL hkm
      rw [rtch_is] at hT
      rw [touch_in hkm]
      have hw := tch_why ps k m
      have hz := tch_zero ps k m
      generalize tch ps k m = t at *
      obtain ⟨t1, t2⟩ := t
      dsimp only at *
      rcases hw with rfl | rfl | rfl
      · obtain rfl := hz rfl
        rw [if_pos rfl]
        cases out with
        | true =>
          rw [if_pos rfl]
          have hl := hx rfl
          have r := refTryOut R c bs ps page tries k m wait waits a cap xs w h hb hl h0 hL hkm ht0 ht1 hT
          rw [← hl] at r ⊢
          exact r
        | false =>
          rw [if_neg (by decide)]
          exact refTryIn R c bs ps page tries k m wait waits a xs xs.length cap w h hL hkm ht0 ht1 hT
      · rw [if_neg (by decide), if_neg (by simp)]
        exact refTryFault R c bs ps k page tries t1 14 m out wait waits a cap xs w h hb hm ht0 ht1 hT (by decide) (by decide) (.inl (by decide))
      · cases wait with
        | true =>
          rw [if_neg (by decide), if_pos ⟨rfl, rfl⟩]
          exact refTryWait R c bs ps k page tries t1 m out waits a cap xs w h hb ht0 ht1 hT
        | false =>
          rw [if_neg (by decide), if_neg (by simp)]
          exact refTryFault R c bs ps k page tries t1 15 m out false waits a cap xs w h hb hm ht0 ht1 hT (by decide) (by decide) (.inr ⟨by decide, rfl⟩)
end Go.Proofs.Ytpdchgcpcnaklaa
