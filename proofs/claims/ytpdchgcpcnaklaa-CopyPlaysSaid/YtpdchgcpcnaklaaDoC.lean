/- A call on both: a peek, a touch. -/
import Derived.Test.YtpdchgcpcnaklaaDoB
namespace Go.Proofs.Ytpdchgcpcnaklaa
open Go.RowKit Go.ChangeShapes Go.WideShapes
set_option linter.unusedVariables false

theorem OwnBytes.holds {w w' : World} {v : Value} {xs : List Int} (h : OwnBytes w v w' xs) : ∃ a cap, v = .slice a xs.length cap ∧ Holds w' a xs := by
  have h1 := h.1
  rcases h.1 with ⟨hl, ⟨rfl, hn⟩ | ⟨g, cap, cur, rfl, hg, hb, _⟩⟩
  · exact ⟨none, 0, by rw [hn], fun h0 => by omega⟩
  · refine ⟨_, cap, rfl, fun h0 => ⟨g, 0, rfl, lt_of_block hb, fun j hj => ?_⟩⟩
    rw [Nat.zero_add]
    rw [World.ownsRow.cellAt h1 j (by simp; exact hj)]
    simp [bcells, List.getD, List.getElem?_eq_getElem hj]
theorem sub_is (bs : List Int) (k m : Nat) (h : k + m ≤ bs.length) : (List.range m).map (fun j => bs.getD (k + j) 0) = sub bs k m := by
  apply List.ext_getElem
  · rw [sub_len h]; simp
  · intro i h1 h2
    rw [sub_len h] at h2
    simp [sub, List.getD, List.getElem?_eq_getElem (show k + i < bs.length by omega)]
theorem piece_good {p q : Int} {L : Nat} (h : outB p q L = false) : ∃ k m : Nat, p = k ∧ q = m ∧ k + m ≤ L := by
  have h' := of_decide_eq_false h
  exact ⟨p.toNat, q.toNat, by omega, by omega, by omega⟩

set_option maxHeartbeats 1600000 in
theorem doPeekBad (M D R c : Nat) (bs ps : List Int) (kd pg ad q : Int) (a : Option Addr) (len cap : Nat) (w : World) (h : Twin w M D R c bs ps) (hc : len ≤ cap) (h63 : len ≤ 9223372036854775807)
    (hk : IntKind.u64.wrap kd % 6 = 4) (ho : outB ad q bs.length = true) :
    Calls Try.prog 18 #[.pointer (some ⟨M, 0, none⟩), .slice (some ⟨R, 0, none⟩) bs.length c, .agg #[.int .i64 kd, .int .i64 pg, .int .i64 ad, .int .i64 q, .slice a len cap]] w (DoPost w M D R bs.length) := by
  have hl := h.len
  have HT := Lib.hid (fun w1 (b : Below w.heap.size w w1) => h.kept b)
  have HM := Lib.hid (fun w1 (b : Below w.heap.size w w1) => memPeekBad M D bs ps ad q w1 (h.kept b).mem (by omega) ho)
  have HR := Lib.hid (fun w1 => refPeekBad (some ⟨R, 0, none⟩) bs.length c ad q w1 (by omega) ho)
  have HS := Lib.hid (fun w1 => refSame none none 0 0 [] w1 0 rfl (by omega) (fun h => by simp at h) (fun h => by simp at h))
  have e0 : (IntKind.u64.wrap kd % 6 == 0) = false := by rw [hk]; rfl
  have e1 : (IntKind.u64.wrap kd % 6 == 1) = false := by rw [hk]; rfl
  have e2 : (IntKind.u64.wrap kd % 6 == 2) = false := by rw [hk]; rfl
  have e3 : (IntKind.u64.wrap kd % 6 == 3) = false := by rw [hk]; rfl
  have e4 : (IntKind.u64.wrap kd % 6 == 4) = true := by rw [hk]; rfl
  have BA := Lib.hid (below_alloc w (.cells #[.int .i64 kd, .int .i64 pg, .int .i64 ad, .int .i64 q, .slice a len cap] 40))
  have hz := dm_u64 kd
  generalize hzz : IntKind.u64.wrap kd = z at *
  clear ho hk h
  by_cases h3 : len ≤ 300
  all_goals
    go_enter Try.func18, Try.ntmps18
    go_wp2_with fail
    refine (HR.out _).mono ?_; rintro e w' ⟨rfl, rfl⟩
    go_wp2_with fail
    refine (HM.out _ (by exact BA.out)).mono ?_; rintro e w' ⟨rfl, rfl⟩
    go_wp2_with fail
    refine (HS.out _).mono ?_; rintro e w1 ⟨rfl, b1⟩
    have B1 := Lib.hid (BA.out.trans (b1.mono (by simp)))
    clear b1
    go_wp2_with fail
    go_ret2
    exact ⟨R, c, bs, ps, rfl, rfl, HT.out _ B1.out, Apart.of B1.out, .inl rfl⟩

set_option maxHeartbeats 1600000 in
theorem doPeek (M D R c : Nat) (bs ps : List Int) (kd pg : Int) (k m : Nat) (a : Option Addr) (len cap : Nat) (w : World) (h : Twin w M D R c bs ps) (hc : len ≤ cap) (h63 : len ≤ 9223372036854775807)
    (hk : IntKind.u64.wrap kd % 6 = 4) (ho : k + m ≤ bs.length) :
    Calls Try.prog 18 #[.pointer (some ⟨M, 0, none⟩), .slice (some ⟨R, 0, none⟩) bs.length c, .agg #[.int .i64 kd, .int .i64 pg, .int .i64 k, .int .i64 m, .slice a len cap]] w (DoPost w M D R bs.length) := by
  have hl := h.len
  have hsl := sub_len ho
  have HT := Lib.hid (fun w1 (b : Below w.heap.size w w1) => h.kept b)
  have HM := Lib.hid (fun w1 (b : Below w.heap.size w w1) => memPeek M D bs ps k m w1 (h.kept b).mem (by omega) ho)
  have HR := fun w1 (b : Below w.heap.size w w1) => refPeek R c bs.length _ _ k m w1 (h.kept b).ref (by omega) ho
  rw [sub_is bs k m ho] at HR
  replace HR := Lib.hid HR
  have HS := Lib.hid (fun w1 a b ca cb (h1 : Holds w1 a (sub bs k m)) h2 => refSame a b ca cb (sub bs k m) w1 m hsl (by omega) h1 h2)
  have HSL := Lib.hid hsl
  have BA := Lib.hid (below_alloc w (.cells #[.int .i64 kd, .int .i64 pg, .int .i64 k, .int .i64 m, .slice a len cap] 40))
  have HC2 := Lib.hid (fun w1 (b : Below (w.alloc (.cells #[.int .i64 kd, .int .i64 pg, .int .i64 k, .int .i64 m, .slice a len cap] 40)).heap.size (w.alloc (.cells #[.int .i64 kd, .int .i64 pg, .int .i64 k, .int .i64 m, .slice a len cap] 40)) w1) => And.intro ((b.cell (p := ⟨w.heap.size, 2, none⟩) (by simp)).trans (show _ = some (.int .i64 k) from by unfold World.cell?; rw [heap_alloc_new]; rfl)) ((b.cell (p := ⟨w.heap.size, 3, none⟩) (by simp)).trans (show _ = some (.int .i64 m) from by unfold World.cell?; rw [heap_alloc_new]; rfl)))
  have e0 : (IntKind.u64.wrap kd % 6 == 0) = false := by rw [hk]; rfl
  have e1 : (IntKind.u64.wrap kd % 6 == 1) = false := by rw [hk]; rfl
  have e2 : (IntKind.u64.wrap kd % 6 == 2) = false := by rw [hk]; rfl
  have e3 : (IntKind.u64.wrap kd % 6 == 3) = false := by rw [hk]; rfl
  have e4 : (IntKind.u64.wrap kd % 6 == 4) = true := by rw [hk]; rfl
  have hz := dm_u64 kd
  generalize hzz : IntKind.u64.wrap kd = z at *
  clear hk h hsl
  by_cases h3 : len ≤ 300
  all_goals
    go_enter Try.func18, Try.ntmps18
    go_wp2_with fail
    refine (HR.out _ (by exact BA.out)).mono ?_; rintro e w1 ⟨v1, rfl, hv⟩
    obtain ⟨a1, cap1, rfl, hh1⟩ := hv.holds
    rw [HSL.out]
    have B1 := Lib.hid hv.2
    have H1 := Lib.hid hh1
    clear hh1 hv
    obtain ⟨c2, c3⟩ := HC2.out _ B1.out
    go_wp2_with fail
    refine (HM.out _ (by exact (BA.out.trans (B1.out.mono (by simp))))).mono ?_; rintro e w2 ⟨v2, rfl, hv⟩
    obtain ⟨a2, cap2, rfl, hh2⟩ := hv.holds
    rw [HSL.out]
    have B2 := Lib.hid hv.2
    have H2 := Lib.hid hh2
    clear hh2 hv c2 c3
    go_wp2_with fail
    refine (HS.out _ _ _ _ _ (by exact H1.out.below B2.out) (by exact H2.out)).mono ?_; rintro e w3 ⟨rfl, b3⟩
    have B3 := Lib.hid (((BA.out.trans (B1.out.mono (by simp))).trans (B2.out.mono (BA.out.trans (B1.out.mono (by simp))).size)).trans (b3.mono (Nat.le_trans (BA.out.trans (B1.out.mono (by simp))).size B2.out.size)))
    clear b3
    go_wp2_with fail
    go_ret2
    exact ⟨R, c, bs, ps, rfl, rfl, HT.out _ B3.out, Apart.of B3.out, .inl rfl⟩

set_option maxHeartbeats 1600000 in
theorem doTouchBad (M D R c : Nat) (bs ps : List Int) (kd pg ad q : Int) (a : Option Addr) (len cap : Nat) (w : World) (h : Twin w M D R c bs ps) (hc : len ≤ cap) (h63 : len ≤ 9223372036854775807)
    (hk : IntKind.u64.wrap kd % 6 = 5) (ho : outB ad q bs.length = true) :
    Calls Try.prog 18 #[.pointer (some ⟨M, 0, none⟩), .slice (some ⟨R, 0, none⟩) bs.length c, .agg #[.int .i64 kd, .int .i64 pg, .int .i64 ad, .int .i64 q, .slice a len cap]] w (DoPost w M D R bs.length) := by
  have hl := h.len
  have HT := Lib.hid (fun w1 (b : Below w.heap.size w w1) => h.kept b)
  have HM := Lib.hid (fun w1 (b : Below w.heap.size w w1) => memTouchBad M D bs ps ad q w1 (h.kept b).mem (by omega) ho)
  have HR := Lib.hid (fun w1 => refTouchBad (some ⟨R, 0, none⟩) bs.length c ad q w1 (by omega) ho)
  have e0 : (IntKind.u64.wrap kd % 6 == 0) = false := by rw [hk]; rfl
  have e1 : (IntKind.u64.wrap kd % 6 == 1) = false := by rw [hk]; rfl
  have e2 : (IntKind.u64.wrap kd % 6 == 2) = false := by rw [hk]; rfl
  have e3 : (IntKind.u64.wrap kd % 6 == 3) = false := by rw [hk]; rfl
  have e4 : (IntKind.u64.wrap kd % 6 == 4) = false := by rw [hk]; rfl
  have BA := Lib.hid (below_alloc w (.cells #[.int .i64 kd, .int .i64 pg, .int .i64 ad, .int .i64 q, .slice a len cap] 40))
  have hz := dm_u64 kd
  generalize hzz : IntKind.u64.wrap kd = z at *
  clear ho hk h
  by_cases h3 : len ≤ 300
  all_goals
    go_enter Try.func18, Try.ntmps18
    go_wp2_with fail
    refine (HR.out _).mono ?_; rintro e w' ⟨rfl, rfl⟩
    go_wp2_with fail
    refine (HM.out _ (by exact BA.out)).mono ?_; rintro e w' ⟨rfl, rfl⟩
    go_wp2_with fail
    go_ret2
    exact ⟨R, c, bs, ps, rfl, rfl, HT.out _ BA.out, Apart.of BA.out, .inl rfl⟩

set_option maxHeartbeats 1600000 in
theorem doTouch (M D R c : Nat) (bs ps : List Int) (kd pg : Int) (k m : Nat) (a : Option Addr) (len cap : Nat) (w : World) (h : Twin w M D R c bs ps) (hc : len ≤ cap) (h63 : len ≤ 9223372036854775807)
    (hk : IntKind.u64.wrap kd % 6 = 5) (ho : k + m ≤ bs.length) :
    Calls Try.prog 18 #[.pointer (some ⟨M, 0, none⟩), .slice (some ⟨R, 0, none⟩) bs.length c, .agg #[.int .i64 kd, .int .i64 pg, .int .i64 k, .int .i64 m, .slice a len cap]] w (DoPost w M D R bs.length) := by
  have hl := h.len
  have HT := Lib.hid (fun w1 (b : Below w.heap.size w w1) => h.kept b)
  have HM := fun w1 (b : Below w.heap.size w w1) => memTouch M D bs ps k m w1 (h.kept b).mem h.fine (by omega) ho
  have HR := fun w1 (b : Below w.heap.size w w1) => refTouch R c bs.length _ _ k m w1 (h.kept b).ref h.states (by omega) ho
  rw [rtch_is] at HR
  generalize tch ps k m = t at *
  obtain ⟨t1, t2⟩ := t
  replace HM := Lib.hid HM
  replace HR := Lib.hid HR
  have e0 : (IntKind.u64.wrap kd % 6 == 0) = false := by rw [hk]; rfl
  have e1 : (IntKind.u64.wrap kd % 6 == 1) = false := by rw [hk]; rfl
  have e2 : (IntKind.u64.wrap kd % 6 == 2) = false := by rw [hk]; rfl
  have e3 : (IntKind.u64.wrap kd % 6 == 3) = false := by rw [hk]; rfl
  have e4 : (IntKind.u64.wrap kd % 6 == 4) = false := by rw [hk]; rfl
  have BA := Lib.hid (below_alloc w (.cells #[.int .i64 kd, .int .i64 pg, .int .i64 k, .int .i64 m, .slice a len cap] 40))
  have hz := dm_u64 kd
  generalize hzz : IntKind.u64.wrap kd = z at *
  clear ho hk h
  by_cases h3 : len ≤ 300
  all_goals
    go_enter Try.func18, Try.ntmps18
    go_wp2_with fail
    refine (HR.out _ (by exact BA.out)).mono ?_; rintro e w' ⟨rfl, rfl⟩
    go_wp2_with fail
    refine (HM.out _ (by exact BA.out)).mono ?_; rintro e w' ⟨rfl, rfl⟩
    go_wp2_with fail
    go_ret2
    exact ⟨R, c, bs, ps, rfl, rfl, HT.out _ BA.out, Apart.of BA.out, .inl rfl⟩
end Go.Proofs.Ytpdchgcpcnaklaa
