/- A call on both: a page brought, evicted, broken. -/
import Derived.Test.YtpdchgcpcnaklaaDo
namespace Go.Proofs.Ytpdchgcpcnaklaa
open Go.RowKit Go.ChangeShapes Go.WideShapes
set_option linter.unusedVariables false

theorem turnS_no {kd : Nat} {s : Int} (h0 : 0 ≤ s) (h1 : s ≤ 2) (hk : kd < 3) (h : turnE kd s ≠ 0) : turnS kd s = s := by
  obtain rfl | rfl | rfl : kd = 0 ∨ kd = 1 ∨ kd = 2 := by omega
  all_goals
    rcases three h0 h1 with rfl | rfl | rfl
  all_goals first
    | rfl
    | exact absurd rfl h

set_option maxHeartbeats 1600000 in
theorem doBringBad (M D R c : Nat) (bs ps : List Int) (kd pg ad q : Int) (a : Option Addr) (len cap : Nat) (w : World) (h : Twin w M D R c bs ps) (hc : len ≤ cap) (h63 : len ≤ 9223372036854775807)
    (hk : IntKind.u64.wrap kd % 6 = 1) (ho : pageB pg bs.length = true) :
    Calls Try.prog 18 #[.pointer (some ⟨M, 0, none⟩), .slice (some ⟨R, 0, none⟩) bs.length c, .agg #[.int .i64 kd, .int .i64 pg, .int .i64 ad, .int .i64 q, .slice a len cap]] w (DoPost w M D R bs.length) := by
  have hl := h.len
  have HT := Lib.hid (fun w1 (b : Below w.heap.size w w1) => h.kept b)
  have HM := Lib.hid (fun w1 (b : Below w.heap.size w w1) => memBringBad M D bs ps pg w1 (h.kept b).mem (by omega) ho)
  have HR := Lib.hid (fun w1 => refTurnBad (some ⟨R, 0, none⟩) bs.length c pg 0 w1 (by omega) ho)
  have e0 : (IntKind.u64.wrap kd % 6 == 0) = false := by rw [hk]; rfl
  have e1 : (IntKind.u64.wrap kd % 6 == 1) = true := by rw [hk]; rfl
  have hz := dm_u64 kd
  generalize hzz : IntKind.u64.wrap kd = z at *
  clear ho hk h
  by_cases h3 : len ≤ 300
  all_goals
    go_enter Try.func18, Try.ntmps18
    go_wp2_with fail
    refine (HR.out _).mono ?_; rintro e w' ⟨rfl, rfl⟩
    go_wp2_with fail
    refine (HM.out _ (by exact below_alloc _ _)).mono ?_; rintro e w' ⟨rfl, rfl⟩
    go_wp2_with fail
    go_ret2
    exact ⟨R, c, bs, ps, rfl, rfl, HT.out _ (below_alloc _ _), Apart.of (below_alloc _ _), .inl rfl⟩

set_option maxHeartbeats 1600000 in
theorem doBringNo (M D R c : Nat) (bs ps : List Int) (kd ad q : Int) (k : Nat) (a : Option Addr) (len cap : Nat) (w : World) (h : Twin w M D R c bs ps) (hc : len ≤ cap) (h63 : len ≤ 9223372036854775807)
    (hk : IntKind.u64.wrap kd % 6 = 1) (ho : pageB k bs.length = false) (h16 : k < 16) (hn : turnE 0 (ps.getD k 0) ≠ 0) :
    Calls Try.prog 18 #[.pointer (some ⟨M, 0, none⟩), .slice (some ⟨R, 0, none⟩) bs.length c, .agg #[.int .i64 kd, .int .i64 k, .int .i64 ad, .int .i64 q, .slice a len cap]] w (DoPost w M D R bs.length) := by
  have hl := h.len
  have HT := Lib.hid h
  have hs := state_bd h.fine (k := k) (by rw [h.mem.plen]; exact h16)
  have HM := fun w1 (b : Below w.heap.size w w1) => memBring M D bs ps k w1 (h.kept b).mem h.fine (by omega) ho h16
  have HR := fun w1 (b : Below w.heap.size w w1) => refTurnNo R c bs.length k _ _ 0 w1 (h.kept b).ref h.states (by omega) ho (by omega) (by rw [Nat.mul_div_cancel _ (by omega)]; exact hn)
  rw [turnS_no hs.1 hs.2 (by omega) hn, set_same rfl (by rw [h.mem.plen]; exact h16)] at HM
  rw [Nat.mul_div_cancel _ (by omega)] at HR
  generalize turnE 0 (ps.getD k 0) = t at *
  replace HM := Lib.hid HM
  replace HR := Lib.hid HR
  have BA := Lib.hid (below_alloc w (.cells #[.int .i64 kd, .int .i64 k, .int .i64 ad, .int .i64 q, .slice a len cap] 40))
  have e0 : (IntKind.u64.wrap kd % 6 == 0) = false := by rw [hk]; rfl
  have e1 : (IntKind.u64.wrap kd % 6 == 1) = true := by rw [hk]; rfl
  have hz := dm_u64 kd
  generalize hzz : IntKind.u64.wrap kd = z at *
  clear ho hk h hn hs
  by_cases h3 : len ≤ 300
  all_goals
    go_enter Try.func18, Try.ntmps18
    go_wp2_with fail
    refine (HR.out _ (by exact BA.out)).mono ?_; rintro e w' ⟨rfl, rfl⟩
    go_wp2_with fail
    refine (HM.out _ (by exact BA.out)).mono ?_; rintro e w' ⟨rfl, g2, m2⟩
    have G2 := Lib.hid g2
    have M2 := Lib.hid m2
    clear g2 m2
    go_wp2_with fail
    go_ret2
    have hA : Apart M D _ _ := Apart.grownM G2.out
    exact ⟨R, c, bs, ps, rfl, rfl, ⟨M2.out, HT.out.fine, Apart.ref (HT.out.kept BA.out).ref hA HT.out.nM HT.out.nD, HT.out.nM, HT.out.nD⟩, (Apart.of BA.out).trans hA, .inl rfl⟩

set_option maxHeartbeats 1600000 in
theorem doBring (M D R c : Nat) (bs ps : List Int) (kd ad q : Int) (k : Nat) (a : Option Addr) (len cap : Nat) (w : World) (h : Twin w M D R c bs ps) (hc : len ≤ cap) (h63 : len ≤ 9223372036854775807)
    (hk : IntKind.u64.wrap kd % 6 = 1) (ho : pageB k bs.length = false) (h16 : k < 16) (hn : turnE 0 (ps.getD k 0) = 0) :
    Calls Try.prog 18 #[.pointer (some ⟨M, 0, none⟩), .slice (some ⟨R, 0, none⟩) bs.length c, .agg #[.int .i64 kd, .int .i64 k, .int .i64 ad, .int .i64 q, .slice a len cap]] w (DoPost w M D R bs.length) := by
  have hl := h.len
  have hL : k * 16 + 16 ≤ bs.length := by have := of_decide_eq_false ho; omega
  have HM := fun w1 w2 (b : Below w.heap.size w w1) (b2 : Below w1.heap.size w1 w2) => memBring M D bs ps k w2 ((h.kept b).kept b2).mem h.fine (by omega) ho h16
  rw [hn] at HM
  replace HM := Lib.hid HM
  have HR := Lib.hid (fun w1 (b : Below w.heap.size w w1) => refTurn R c bs.length k _ _ 0 w1 (h.kept b).ref h.states (by omega) hL ho (by omega) (by rw [Nat.mul_div_cancel _ (by omega)]; exact hn))
  have HF := Lib.hid (fun w1 w2 w3 R' c' (b : Below w.heap.size w w1) => (h.kept b).turn (R' := R') (c' := c') (w1 := w2) (w2 := w3) (kd := 0) hL)
  have BA := Lib.hid (below_alloc w (.cells #[.int .i64 kd, .int .i64 k, .int .i64 ad, .int .i64 q, .slice a len cap] 40))
  have HC2 := Lib.hid (fun w1 (b : Below (w.alloc (.cells #[.int .i64 kd, .int .i64 k, .int .i64 ad, .int .i64 q, .slice a len cap] 40)).heap.size (w.alloc (.cells #[.int .i64 kd, .int .i64 k, .int .i64 ad, .int .i64 q, .slice a len cap] 40)) w1) => (b.cell (p := ⟨w.heap.size, 1, none⟩) (by simp)).trans (show _ = some (.int .i64 k) from by unfold World.cell?; rw [heap_alloc_new]; rfl))
  have e0 : (IntKind.u64.wrap kd % 6 == 0) = false := by rw [hk]; rfl
  have e1 : (IntKind.u64.wrap kd % 6 == 1) = true := by rw [hk]; rfl
  have hz := dm_u64 kd
  generalize hzz : IntKind.u64.wrap kd = z at *
  clear ho hk h hn
  by_cases h3 : len ≤ 300
  all_goals
    go_enter Try.func18, Try.ntmps18
    go_wp2_with fail
    refine (HR.out _ (by exact BA.out)).mono ?_; rintro e w1 ⟨R', c', rfl, hR, b1, r1⟩
    have B1 := Lib.hid b1
    have H1 := Lib.hid hR
    have R1 := Lib.hid r1
    clear b1 hR r1
    have c2 := HC2.out _ B1.out
    go_wp2_with fail
    refine (HM.out _ _ (by exact BA.out) (by exact B1.out)).mono ?_; rintro e w2 ⟨rfl, g2, m2⟩
    have G2 := Lib.hid g2
    have M2 := Lib.hid m2
    clear g2 m2
    go_wp2_with fail
    go_ret2
    refine ⟨R', c', bs, _, rfl, rfl, HF.out _ _ _ _ _ BA.out B1.out H1.out R1.out G2.out M2.out, ((Apart.of BA.out).trans (Apart.of B1.out)).trans (Apart.grownM G2.out), .inr ?_⟩
    have := H1.out
    simp at this
    omega

set_option maxHeartbeats 1600000 in
theorem doEvictBad (M D R c : Nat) (bs ps : List Int) (kd pg ad q : Int) (a : Option Addr) (len cap : Nat) (w : World) (h : Twin w M D R c bs ps) (hc : len ≤ cap) (h63 : len ≤ 9223372036854775807)
    (hk : IntKind.u64.wrap kd % 6 = 2) (ho : pageB pg bs.length = true) :
    Calls Try.prog 18 #[.pointer (some ⟨M, 0, none⟩), .slice (some ⟨R, 0, none⟩) bs.length c, .agg #[.int .i64 kd, .int .i64 pg, .int .i64 ad, .int .i64 q, .slice a len cap]] w (DoPost w M D R bs.length) := by
  have hl := h.len
  have HT := Lib.hid (fun w1 (b : Below w.heap.size w w1) => h.kept b)
  have HM := Lib.hid (fun w1 (b : Below w.heap.size w w1) => memEvictBad M D bs ps pg w1 (h.kept b).mem (by omega) ho)
  have HR := Lib.hid (fun w1 => refTurnBad (some ⟨R, 0, none⟩) bs.length c pg 1 w1 (by omega) ho)
  have e0 : (IntKind.u64.wrap kd % 6 == 0) = false := by rw [hk]; rfl
  have e1 : (IntKind.u64.wrap kd % 6 == 1) = false := by rw [hk]; rfl
  have e2 : (IntKind.u64.wrap kd % 6 == 2) = true := by rw [hk]; rfl
  have hz := dm_u64 kd
  generalize hzz : IntKind.u64.wrap kd = z at *
  clear ho hk h
  by_cases h3 : len ≤ 300
  all_goals
    go_enter Try.func18, Try.ntmps18
    go_wp2_with fail
    refine (HR.out _).mono ?_; rintro e w' ⟨rfl, rfl⟩
    go_wp2_with fail
    refine (HM.out _ (by exact below_alloc _ _)).mono ?_; rintro e w' ⟨rfl, rfl⟩
    go_wp2_with fail
    go_ret2
    exact ⟨R, c, bs, ps, rfl, rfl, HT.out _ (below_alloc _ _), Apart.of (below_alloc _ _), .inl rfl⟩

set_option maxHeartbeats 1600000 in
theorem doEvictNo (M D R c : Nat) (bs ps : List Int) (kd ad q : Int) (k : Nat) (a : Option Addr) (len cap : Nat) (w : World) (h : Twin w M D R c bs ps) (hc : len ≤ cap) (h63 : len ≤ 9223372036854775807)
    (hk : IntKind.u64.wrap kd % 6 = 2) (ho : pageB k bs.length = false) (h16 : k < 16) (hn : turnE 1 (ps.getD k 0) ≠ 0) :
    Calls Try.prog 18 #[.pointer (some ⟨M, 0, none⟩), .slice (some ⟨R, 0, none⟩) bs.length c, .agg #[.int .i64 kd, .int .i64 k, .int .i64 ad, .int .i64 q, .slice a len cap]] w (DoPost w M D R bs.length) := by
  have hl := h.len
  have HT := Lib.hid h
  have hs := state_bd h.fine (k := k) (by rw [h.mem.plen]; exact h16)
  have HM := fun w1 (b : Below w.heap.size w w1) => memEvict M D bs ps k w1 (h.kept b).mem h.fine (by omega) ho h16
  have HR := fun w1 (b : Below w.heap.size w w1) => refTurnNo R c bs.length k _ _ 1 w1 (h.kept b).ref h.states (by omega) ho (by omega) (by rw [Nat.mul_div_cancel _ (by omega)]; exact hn)
  rw [turnS_no hs.1 hs.2 (by omega) hn, set_same rfl (by rw [h.mem.plen]; exact h16)] at HM
  rw [Nat.mul_div_cancel _ (by omega)] at HR
  generalize turnE 1 (ps.getD k 0) = t at *
  replace HM := Lib.hid HM
  replace HR := Lib.hid HR
  have BA := Lib.hid (below_alloc w (.cells #[.int .i64 kd, .int .i64 k, .int .i64 ad, .int .i64 q, .slice a len cap] 40))
  have e0 : (IntKind.u64.wrap kd % 6 == 0) = false := by rw [hk]; rfl
  have e1 : (IntKind.u64.wrap kd % 6 == 1) = false := by rw [hk]; rfl
  have e2 : (IntKind.u64.wrap kd % 6 == 2) = true := by rw [hk]; rfl
  have hz := dm_u64 kd
  generalize hzz : IntKind.u64.wrap kd = z at *
  clear ho hk h hn hs
  by_cases h3 : len ≤ 300
  all_goals
    go_enter Try.func18, Try.ntmps18
    go_wp2_with fail
    refine (HR.out _ (by exact BA.out)).mono ?_; rintro e w' ⟨rfl, rfl⟩
    go_wp2_with fail
    refine (HM.out _ (by exact BA.out)).mono ?_; rintro e w' ⟨rfl, g2, m2⟩
    have G2 := Lib.hid g2
    have M2 := Lib.hid m2
    clear g2 m2
    go_wp2_with fail
    go_ret2
    have hA : Apart M D _ _ := Apart.grownM G2.out
    exact ⟨R, c, bs, ps, rfl, rfl, ⟨M2.out, HT.out.fine, Apart.ref (HT.out.kept BA.out).ref hA HT.out.nM HT.out.nD, HT.out.nM, HT.out.nD⟩, (Apart.of BA.out).trans hA, .inl rfl⟩

set_option maxHeartbeats 1600000 in
theorem doEvict (M D R c : Nat) (bs ps : List Int) (kd ad q : Int) (k : Nat) (a : Option Addr) (len cap : Nat) (w : World) (h : Twin w M D R c bs ps) (hc : len ≤ cap) (h63 : len ≤ 9223372036854775807)
    (hk : IntKind.u64.wrap kd % 6 = 2) (ho : pageB k bs.length = false) (h16 : k < 16) (hn : turnE 1 (ps.getD k 0) = 0) :
    Calls Try.prog 18 #[.pointer (some ⟨M, 0, none⟩), .slice (some ⟨R, 0, none⟩) bs.length c, .agg #[.int .i64 kd, .int .i64 k, .int .i64 ad, .int .i64 q, .slice a len cap]] w (DoPost w M D R bs.length) := by
  have hl := h.len
  have hL : k * 16 + 16 ≤ bs.length := by have := of_decide_eq_false ho; omega
  have HM := fun w1 w2 (b : Below w.heap.size w w1) (b2 : Below w1.heap.size w1 w2) => memEvict M D bs ps k w2 ((h.kept b).kept b2).mem h.fine (by omega) ho h16
  rw [hn] at HM
  replace HM := Lib.hid HM
  have HR := Lib.hid (fun w1 (b : Below w.heap.size w w1) => refTurn R c bs.length k _ _ 1 w1 (h.kept b).ref h.states (by omega) hL ho (by omega) (by rw [Nat.mul_div_cancel _ (by omega)]; exact hn))
  have HF := Lib.hid (fun w1 w2 w3 R' c' (b : Below w.heap.size w w1) => (h.kept b).turn (R' := R') (c' := c') (w1 := w2) (w2 := w3) (kd := 1) hL)
  have BA := Lib.hid (below_alloc w (.cells #[.int .i64 kd, .int .i64 k, .int .i64 ad, .int .i64 q, .slice a len cap] 40))
  have HC2 := Lib.hid (fun w1 (b : Below (w.alloc (.cells #[.int .i64 kd, .int .i64 k, .int .i64 ad, .int .i64 q, .slice a len cap] 40)).heap.size (w.alloc (.cells #[.int .i64 kd, .int .i64 k, .int .i64 ad, .int .i64 q, .slice a len cap] 40)) w1) => (b.cell (p := ⟨w.heap.size, 1, none⟩) (by simp)).trans (show _ = some (.int .i64 k) from by unfold World.cell?; rw [heap_alloc_new]; rfl))
  have e0 : (IntKind.u64.wrap kd % 6 == 0) = false := by rw [hk]; rfl
  have e1 : (IntKind.u64.wrap kd % 6 == 1) = false := by rw [hk]; rfl
  have e2 : (IntKind.u64.wrap kd % 6 == 2) = true := by rw [hk]; rfl
  have hz := dm_u64 kd
  generalize hzz : IntKind.u64.wrap kd = z at *
  clear ho hk h hn
  by_cases h3 : len ≤ 300
  all_goals
    go_enter Try.func18, Try.ntmps18
    go_wp2_with fail
    refine (HR.out _ (by exact BA.out)).mono ?_; rintro e w1 ⟨R', c', rfl, hR, b1, r1⟩
    have B1 := Lib.hid b1
    have H1 := Lib.hid hR
    have R1 := Lib.hid r1
    clear b1 hR r1
    have c2 := HC2.out _ B1.out
    go_wp2_with fail
    refine (HM.out _ _ (by exact BA.out) (by exact B1.out)).mono ?_; rintro e w2 ⟨rfl, g2, m2⟩
    have G2 := Lib.hid g2
    have M2 := Lib.hid m2
    clear g2 m2
    go_wp2_with fail
    go_ret2
    refine ⟨R', c', bs, _, rfl, rfl, HF.out _ _ _ _ _ BA.out B1.out H1.out R1.out G2.out M2.out, ((Apart.of BA.out).trans (Apart.of B1.out)).trans (Apart.grownM G2.out), .inr ?_⟩
    have := H1.out
    simp at this
    omega

set_option maxHeartbeats 1600000 in
theorem doBreakBad (M D R c : Nat) (bs ps : List Int) (kd pg ad q : Int) (a : Option Addr) (len cap : Nat) (w : World) (h : Twin w M D R c bs ps) (hc : len ≤ cap) (h63 : len ≤ 9223372036854775807)
    (hk : IntKind.u64.wrap kd % 6 = 3) (ho : pageB pg bs.length = true) :
    Calls Try.prog 18 #[.pointer (some ⟨M, 0, none⟩), .slice (some ⟨R, 0, none⟩) bs.length c, .agg #[.int .i64 kd, .int .i64 pg, .int .i64 ad, .int .i64 q, .slice a len cap]] w (DoPost w M D R bs.length) := by
  have hl := h.len
  have HT := Lib.hid (fun w1 (b : Below w.heap.size w w1) => h.kept b)
  have HM := Lib.hid (fun w1 (b : Below w.heap.size w w1) => memBreakBad M D bs ps pg w1 (h.kept b).mem (by omega) ho)
  have HR := Lib.hid (fun w1 => refTurnBad (some ⟨R, 0, none⟩) bs.length c pg 2 w1 (by omega) ho)
  have e0 : (IntKind.u64.wrap kd % 6 == 0) = false := by rw [hk]; rfl
  have e1 : (IntKind.u64.wrap kd % 6 == 1) = false := by rw [hk]; rfl
  have e2 : (IntKind.u64.wrap kd % 6 == 2) = false := by rw [hk]; rfl
  have e3 : (IntKind.u64.wrap kd % 6 == 3) = true := by rw [hk]; rfl
  have hz := dm_u64 kd
  generalize hzz : IntKind.u64.wrap kd = z at *
  clear ho hk h
  by_cases h3 : len ≤ 300
  all_goals
    go_enter Try.func18, Try.ntmps18
    go_wp2_with fail
    refine (HR.out _).mono ?_; rintro e w' ⟨rfl, rfl⟩
    go_wp2_with fail
    refine (HM.out _ (by exact below_alloc _ _)).mono ?_; rintro e w' ⟨rfl, rfl⟩
    go_wp2_with fail
    go_ret2
    exact ⟨R, c, bs, ps, rfl, rfl, HT.out _ (below_alloc _ _), Apart.of (below_alloc _ _), .inl rfl⟩

set_option maxHeartbeats 1600000 in
theorem doBreakNo (M D R c : Nat) (bs ps : List Int) (kd ad q : Int) (k : Nat) (a : Option Addr) (len cap : Nat) (w : World) (h : Twin w M D R c bs ps) (hc : len ≤ cap) (h63 : len ≤ 9223372036854775807)
    (hk : IntKind.u64.wrap kd % 6 = 3) (ho : pageB k bs.length = false) (h16 : k < 16) (hn : turnE 2 (ps.getD k 0) ≠ 0) :
    Calls Try.prog 18 #[.pointer (some ⟨M, 0, none⟩), .slice (some ⟨R, 0, none⟩) bs.length c, .agg #[.int .i64 kd, .int .i64 k, .int .i64 ad, .int .i64 q, .slice a len cap]] w (DoPost w M D R bs.length) := by
  have hl := h.len
  have HT := Lib.hid h
  have hs := state_bd h.fine (k := k) (by rw [h.mem.plen]; exact h16)
  have HM := fun w1 (b : Below w.heap.size w w1) => memBreak M D bs ps k w1 (h.kept b).mem h.fine (by omega) ho h16
  have HR := fun w1 (b : Below w.heap.size w w1) => refTurnNo R c bs.length k _ _ 2 w1 (h.kept b).ref h.states (by omega) ho (by omega) (by rw [Nat.mul_div_cancel _ (by omega)]; exact hn)
  rw [turnS_no hs.1 hs.2 (by omega) hn, set_same rfl (by rw [h.mem.plen]; exact h16)] at HM
  rw [Nat.mul_div_cancel _ (by omega)] at HR
  generalize turnE 2 (ps.getD k 0) = t at *
  replace HM := Lib.hid HM
  replace HR := Lib.hid HR
  have BA := Lib.hid (below_alloc w (.cells #[.int .i64 kd, .int .i64 k, .int .i64 ad, .int .i64 q, .slice a len cap] 40))
  have e0 : (IntKind.u64.wrap kd % 6 == 0) = false := by rw [hk]; rfl
  have e1 : (IntKind.u64.wrap kd % 6 == 1) = false := by rw [hk]; rfl
  have e2 : (IntKind.u64.wrap kd % 6 == 2) = false := by rw [hk]; rfl
  have e3 : (IntKind.u64.wrap kd % 6 == 3) = true := by rw [hk]; rfl
  have hz := dm_u64 kd
  generalize hzz : IntKind.u64.wrap kd = z at *
  clear ho hk h hn hs
  by_cases h3 : len ≤ 300
  all_goals
    go_enter Try.func18, Try.ntmps18
    go_wp2_with fail
    refine (HR.out _ (by exact BA.out)).mono ?_; rintro e w' ⟨rfl, rfl⟩
    go_wp2_with fail
    refine (HM.out _ (by exact BA.out)).mono ?_; rintro e w' ⟨rfl, g2, m2⟩
    have G2 := Lib.hid g2
    have M2 := Lib.hid m2
    clear g2 m2
    go_wp2_with fail
    go_ret2
    have hA : Apart M D _ _ := Apart.grownM G2.out
    exact ⟨R, c, bs, ps, rfl, rfl, ⟨M2.out, HT.out.fine, Apart.ref (HT.out.kept BA.out).ref hA HT.out.nM HT.out.nD, HT.out.nM, HT.out.nD⟩, (Apart.of BA.out).trans hA, .inl rfl⟩

set_option maxHeartbeats 1600000 in
theorem doBreak (M D R c : Nat) (bs ps : List Int) (kd ad q : Int) (k : Nat) (a : Option Addr) (len cap : Nat) (w : World) (h : Twin w M D R c bs ps) (hc : len ≤ cap) (h63 : len ≤ 9223372036854775807)
    (hk : IntKind.u64.wrap kd % 6 = 3) (ho : pageB k bs.length = false) (h16 : k < 16) (hn : turnE 2 (ps.getD k 0) = 0) :
    Calls Try.prog 18 #[.pointer (some ⟨M, 0, none⟩), .slice (some ⟨R, 0, none⟩) bs.length c, .agg #[.int .i64 kd, .int .i64 k, .int .i64 ad, .int .i64 q, .slice a len cap]] w (DoPost w M D R bs.length) := by
  have hl := h.len
  have hL : k * 16 + 16 ≤ bs.length := by have := of_decide_eq_false ho; omega
  have HM := fun w1 w2 (b : Below w.heap.size w w1) (b2 : Below w1.heap.size w1 w2) => memBreak M D bs ps k w2 ((h.kept b).kept b2).mem h.fine (by omega) ho h16
  rw [hn] at HM
  replace HM := Lib.hid HM
  have HR := Lib.hid (fun w1 (b : Below w.heap.size w w1) => refTurn R c bs.length k _ _ 2 w1 (h.kept b).ref h.states (by omega) hL ho (by omega) (by rw [Nat.mul_div_cancel _ (by omega)]; exact hn))
  have HF := Lib.hid (fun w1 w2 w3 R' c' (b : Below w.heap.size w w1) => (h.kept b).turn (R' := R') (c' := c') (w1 := w2) (w2 := w3) (kd := 2) hL)
  have BA := Lib.hid (below_alloc w (.cells #[.int .i64 kd, .int .i64 k, .int .i64 ad, .int .i64 q, .slice a len cap] 40))
  have HC2 := Lib.hid (fun w1 (b : Below (w.alloc (.cells #[.int .i64 kd, .int .i64 k, .int .i64 ad, .int .i64 q, .slice a len cap] 40)).heap.size (w.alloc (.cells #[.int .i64 kd, .int .i64 k, .int .i64 ad, .int .i64 q, .slice a len cap] 40)) w1) => (b.cell (p := ⟨w.heap.size, 1, none⟩) (by simp)).trans (show _ = some (.int .i64 k) from by unfold World.cell?; rw [heap_alloc_new]; rfl))
  have e0 : (IntKind.u64.wrap kd % 6 == 0) = false := by rw [hk]; rfl
  have e1 : (IntKind.u64.wrap kd % 6 == 1) = false := by rw [hk]; rfl
  have e2 : (IntKind.u64.wrap kd % 6 == 2) = false := by rw [hk]; rfl
  have e3 : (IntKind.u64.wrap kd % 6 == 3) = true := by rw [hk]; rfl
  have hz := dm_u64 kd
  generalize hzz : IntKind.u64.wrap kd = z at *
  clear ho hk h hn
  by_cases h3 : len ≤ 300
  all_goals
    go_enter Try.func18, Try.ntmps18
    go_wp2_with fail
    refine (HR.out _ (by exact BA.out)).mono ?_; rintro e w1 ⟨R', c', rfl, hR, b1, r1⟩
    have B1 := Lib.hid b1
    have H1 := Lib.hid hR
    have R1 := Lib.hid r1
    clear b1 hR r1
    have c2 := HC2.out _ B1.out
    go_wp2_with fail
    refine (HM.out _ _ (by exact BA.out) (by exact B1.out)).mono ?_; rintro e w2 ⟨rfl, g2, m2⟩
    have G2 := Lib.hid g2
    have M2 := Lib.hid m2
    clear g2 m2
    go_wp2_with fail
    go_ret2
    refine ⟨R', c', bs, _, rfl, rfl, HF.out _ _ _ _ _ BA.out B1.out H1.out R1.out G2.out M2.out, ((Apart.of BA.out).trans (Apart.of B1.out)).trans (Apart.grownM G2.out), .inr ?_⟩
    have := H1.out
    simp at this
    omega
end Go.Proofs.Ytpdchgcpcnaklaa
