/- A call on both: a poke. -/
import Derived.Test.YtpdchgcpcnaklaaTwin
namespace Go.Proofs.Ytpdchgcpcnaklaa
open Go.RowKit Go.ChangeShapes Go.WideShapes
set_option linter.unusedVariables false

theorem below_alloc (w : World) (o : Obj) : Below w.heap.size w (w.alloc o) := (Below.refl _ _).alloc (Nat.le_refl _) o

set_option maxHeartbeats 1600000 in
theorem doPokeBad (M D R c : Nat) (bs ps : List Int) (kd pg ad q : Int) (a : Option Addr) (len cap m : Nat) (w : World) (h : Twin w M D R c bs ps) (hc : len ≤ cap) (h63 : len ≤ 9223372036854775807) (hm : m = min len 300)
    (hk : IntKind.u64.wrap kd % 6 = 0) (ho : outB ad m bs.length = true) :
    Calls Try.prog 18 #[.pointer (some ⟨M, 0, none⟩), .slice (some ⟨R, 0, none⟩) bs.length c, .agg #[.int .i64 kd, .int .i64 pg, .int .i64 ad, .int .i64 q, .slice a len cap]] w (DoPost w M D R bs.length) := by
  have hl := h.len
  have HT := Lib.hid (fun w1 (b : Below w.heap.size w w1) => h.kept b)
  have HM := Lib.hid (fun w1 (b : Below w.heap.size w w1) => memPokeBad M D bs ps ad a m cap w1 (h.kept b).mem (by omega) ho)
  have HR := Lib.hid (fun w1 => refPokeBad (some ⟨R, 0, none⟩) bs.length c ad a m cap w1 (by omega) ho)
  have e0 : (IntKind.u64.wrap kd % 6 == 0) = true := by rw [hk]; rfl
  have hz := dm_u64 kd
  generalize hzz : IntKind.u64.wrap kd = z at *
  clear ho hk h
  by_cases h3 : len ≤ 300
  · obtain rfl : m = len := by omega
    clear hm
    go_enter Try.func18, Try.ntmps18
    go_wp2_with fail
    refine (HR.out _).mono ?_; rintro e w' ⟨rfl, rfl⟩
    go_wp2_with fail
    refine (HM.out _ (by exact below_alloc _ _)).mono ?_; rintro e w' ⟨rfl, rfl⟩
    go_wp2_with fail
    go_ret2
    exact ⟨R, c, bs, ps, rfl, rfl, HT.out _ (below_alloc _ _), Apart.of (below_alloc _ _), .inl rfl⟩
  · obtain rfl : m = 300 := by omega
    clear hm
    go_enter Try.func18, Try.ntmps18
    go_wp2_with fail
    refine (HR.out _).mono ?_; rintro e w' ⟨rfl, rfl⟩
    go_wp2_with fail
    refine (HM.out _ (by exact below_alloc _ _)).mono ?_; rintro e w' ⟨rfl, rfl⟩
    go_wp2_with fail
    go_ret2
    exact ⟨R, c, bs, ps, rfl, rfl, HT.out _ (below_alloc _ _), Apart.of (below_alloc _ _), .inl rfl⟩

theorem Holds.takes {w w' : World} {a : Option Addr} {xs : List Int} (h : Holds w a xs) (b : Below w.heap.size w w') (m : Nat) (hm : m ≤ xs.length) : Holds w' a (xs.take m) := by
  intro h0
  have hl : (xs.take m).length = m := by simp; omega
  obtain ⟨B, off, e, hlt, hc⟩ := h (by omega)
  refine ⟨B, off, e, Nat.lt_of_lt_of_le hlt b.size, fun j hj => ?_⟩
  rw [b.cell (p := ⟨B, off + j, none⟩) hlt, hc j (by omega)]
  simp only [List.getD_eq_getElem?_getD, List.getElem?_take]
  rw [if_pos (by omega)]

set_option maxHeartbeats 1600000 in
theorem doPoke (M D R c : Nat) (bs ps : List Int) (kd pg q : Int) (k : Nat) (a : Option Addr) (len cap m : Nat) (xs : List Int) (w : World) (h : Twin w M D R c bs ps) (hc : len ≤ cap) (h63 : len ≤ 9223372036854775807) (hx : xs.length = len) (hb : ∀ x ∈ xs, 0 ≤ x ∧ x ≤ 255) (hxs : Holds w a xs) (hm : m = min len 300)
    (hk : IntKind.u64.wrap kd % 6 = 0) (ho : k + m ≤ bs.length) :
    Calls Try.prog 18 #[.pointer (some ⟨M, 0, none⟩), .slice (some ⟨R, 0, none⟩) bs.length c, .agg #[.int .i64 kd, .int .i64 pg, .int .i64 k, .int .i64 q, .slice a len cap]] w (DoPost w M D R bs.length) := by
  have hl := h.len
  have hml : (xs.take m).length = m := by simp; omega
  have HT := Lib.hid h
  have HL := Lib.hid (show (pok bs k (xs.take m)).length = bs.length from pok_len (by omega))
  have HM := Lib.hid (fun w1 w2 (b : Below w.heap.size w w1) (b2 : Below w1.heap.size w1 w2) => memPoke M D bs ps k a cap (xs.take m) w2 m hml.symm ((h.kept b).kept b2).mem (by omega) ho ((hxs.kept (b.trans (b2.mono b.size))) (by omega)))
  have HR := Lib.hid (fun w1 (b : Below w.heap.size w w1) => refPoke R c bs.length _ _ k m a cap (xs.take m) w1 (h.kept b).ref (by omega) (by omega) ho hml (hxs.takes b m (by omega)))
  have HF := Lib.hid (fun w1 w2 w3 R' c' (b : Below w.heap.size w w1) => (h.kept b).poke (R' := R') (c' := c') (w1 := w2) (w2 := w3) ho hml (fun x hx' => hb x (List.mem_of_mem_take hx')))
  have BA := Lib.hid (below_alloc w (.cells #[.int .i64 kd, .int .i64 pg, .int .i64 k, .int .i64 q, .slice a len cap] 40))
  have HC2 := Lib.hid (fun w1 (b : Below (w.alloc (.cells #[.int .i64 kd, .int .i64 pg, .int .i64 k, .int .i64 q, .slice a len cap] 40)).heap.size (w.alloc (.cells #[.int .i64 kd, .int .i64 pg, .int .i64 k, .int .i64 q, .slice a len cap] 40)) w1) => (b.cell (p := ⟨w.heap.size, 2, none⟩) (by simp)).trans (show _ = some (.int .i64 k) from by unfold World.cell?; rw [heap_alloc_new]; rfl))
  have e0 : (IntKind.u64.wrap kd % 6 == 0) = true := by rw [hk]; rfl
  have hz := dm_u64 kd
  generalize hzz : IntKind.u64.wrap kd = z at *
  clear hk h hml hx hb hxs
  obtain rfl : m = len := by omega
  clear hm
  go_enter Try.func18, Try.ntmps18
  go_wp2_with fail
  refine (HR.out _ (by exact BA.out)).mono ?_; rintro e w1 ⟨R', c', rfl, hR, b1, r1⟩
  have B1 := Lib.hid b1
  have H1 := Lib.hid hR
  have R1 := Lib.hid r1
  clear b1 hR r1
  have c2 := HC2.out _ B1.out
  go_wp2_with fail
  refine (HM.out _ _ (by exact BA.out) (by exact B1.out)).mono ?_; rintro e w2 ⟨rfl, g2, m2⟩
  have G2 := Lib.hid g2
  have M2 := Lib.hid m2
  clear g2 m2
  go_wp2_with fail
  go_ret2
  refine ⟨R', c', _, ps, rfl, HL.out, HF.out _ _ _ _ _ BA.out B1.out H1.out R1.out G2.out M2.out, ((Apart.of BA.out).trans (Apart.of B1.out)).trans (Apart.grownD G2.out), .inr ?_⟩
  have := H1.out
  simp at this
  omega
end Go.Proofs.Ytpdchgcpcnaklaa
