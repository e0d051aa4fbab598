/- The law CountKeys, walked. -/
import Derived.Test.YtkpenhichgkdkaaKj
import Derived.Test.YtkpenhichgkdkaaLawNames
namespace Go.Proofs.Ytkpenhichgkdkaa
open Go.RowKit
set_option linter.unusedVariables false

theorem holdL_okI {P : Int → Prop} {top : Int} {l : SI} {k : Int} (h : ∀ e ∈ l, P e.1) (hk : P k) : ∀ e ∈ (holdL top l k).1, P e.1 := by
  intro e he
  unfold holdL at he
  split at he
  · rcases mem_updt.1 he with ⟨_, h1⟩ | ⟨h1, _⟩
    · exact h e h1
    · rw [h1]; exact hk
  · split at he
    · exact h e he
    · rcases mem_ins.1 he with h1 | h1
      · rw [h1]; exact hk
      · exact h e h1
theorem dropL_okI {P : Int → Prop} {l : SI} {k : Int} (h : ∀ e ∈ l, P e.1) (hk : P k) : ∀ e ∈ (dropL l k).1, P e.1 := by
  intro e he
  unfold dropL at he
  split at he
  · dsimp only at he
    split at he
    · exact h e (mem_del.1 he).1
    · rcases mem_updt.1 he with ⟨_, h1⟩ | ⟨h1, _⟩
      · exact h e h1
      · rw [h1]; exact hk
  · exact h e he
theorem cell_new {w : World} {cs : Array Value} {t : TypeId} {i : Nat} {v : Value} (fr : Nat × Nat) (h : cs[i]? = some v) : (w.alloc (.cells cs t fr)).cell? ⟨w.heap.size, i, none⟩ = some v := by
  have h1 := (MapKept.heap_alloc w (.cells cs t fr)).1
  simp only [World.cell?, h1, h]
  rfl
set_option maxRecDepth 100000 in
theorem keys_bad (p0 k2 : Int) (a1 : Option Addr) (l1 c1 : Nat) (w : World) (h : p0 < 1 ∨ 65535 < p0) : Calls Try.prog 8 #[.int .i64 p0, .slice a1 l1 c1, .int .i64 k2] w fun e w' => e = .returned (.bool true) ∧ Below w.heap.size w w' := by
  have HN := Lib.hid (newIBad p0 w h)
  by_cases h1 : p0 < 1
  · have d1 : decide (p0 < 1) = true := decide_eq_true h1
    clear h h1
    go_enter Try.func8, Try.ntmps8
    go_wp2_with fail
    refine HN.out.mono ?_; rintro e w' ⟨rfl, rfl⟩
    go_wp2_with fail
    refine (cntKnown _).mono ?_
    rintro e w1 ⟨rfl, b1⟩
    have B1 := Lib.hid b1
    clear b1
    go_wp2_with fail
    go_ret
    exact ⟨rfl, B1.out⟩
  · have d1 : decide (p0 < 1) = false := decide_eq_false h1
    have d2 : decide (65535 < p0) = true := decide_eq_true (by omega)
    clear h h1
    go_enter Try.func8, Try.ntmps8
    go_wp2_with fail
    refine HN.out.mono ?_; rintro e w' ⟨rfl, rfl⟩
    go_wp2_with fail
    refine (cntKnown _).mono ?_
    rintro e w1 ⟨rfl, b1⟩
    have B1 := Lib.hid b1
    clear b1
    go_wp2_with fail
    go_ret
    exact ⟨rfl, B1.out⟩
set_option maxRecDepth 100000 in
set_option maxHeartbeats 8000000 in
theorem keysLaw (t k2 : Int) (a1 : Option Addr) (l1 c1 : Nat) (x : Nat → KA) (w : World) (t1 : 1 ≤ t) (t2 : t ≤ 65535) (k1 : l1 ≤ 9223372036854775807) (hx : KAsAt w a1 l1 x) (hk2 : (Lit.int .i64 k2).wf = true) :
    Calls Try.prog 8 #[.int .i64 t, .slice a1 l1 c1, .int .i64 k2] w fun e w' => e = .returned (.bool true) ∧ Below w.heap.size w w' := by
  have d1 : decide (t < 1) = false := decide_eq_false (by omega)
  have d2 : decide (65535 < t) = false := decide_eq_false (by omega)
  have HX := Lib.hid hx
  have HK2 := Lib.hid hk2
  obtain ⟨blk, hblk⟩ : ∃ blk : Int → Nat, blk = fun _ => 0 := ⟨_, rfl⟩
  clear hx hk2 hblk
  go_enter Try.func8, Try.ntmps8
  go_wp2_with fail
  refine (newI t w t1 t2 blk).mono ?_
  rintro e w1 ⟨rfl, tA, b1⟩
  have HA1 := Lib.hid tA
  have HB1 := Lib.hid b1
  clear tA b1
  obtain ⟨FA, hFA⟩ : ∃ FA, FA = w.heap.size + 1 := ⟨_, rfl⟩
  obtain ⟨MA, hMA⟩ : ∃ MA, MA = w.heap.size := ⟨_, rfl⟩
  rw [← hFA] at HA1 ⊢
  rw [show Tbl 3 85 w1 FA w.heap.size t ([] : SI) blk = Tbl 3 85 w1 FA MA t [] blk from by rw [hMA]] at HA1
  have HFM := Lib.hid (And.intro hFA hMA)
  clear hFA hMA
  have HO1 := Lib.hid (show ∀ j, Own FA MA ([] : SI) blk j → w.heap.size ≤ j from fun j ho => by
    have := HFM.out
    rcases ho with h | h | ⟨k, c, hk, _⟩
    · omega
    · omega
    · simp at hk)
  go_wp2_with fail
  go_loopw [9, 10] (fun v i wr => ∃ (j : Nat) (l : SI) (bk : Int → Nat), j ≤ l1 ∧ j ≤ 120 ∧ i = .int .i64 j ∧ Hid (Tbl 3 85 wr FA MA t l bk) ∧ Hid (KL wr v t l) ∧ Hid (Below w.heap.size w wr) ∧ Hid (∀ q, Own FA MA l bk q → w.heap.size ≤ q) ∧ Hid (∀ e ∈ l, (Lit.int .i64 e.1).wf = true)) (fun v i _ => l1 - (intOf i).toNat)
  case atStart => exact ⟨0, [], blk, by omega, by omega, rfl, HA1, Lib.hid (kl_nil _ _), HB1, HO1, Lib.hid (fun e he => by simp at he)⟩
  case round =>
    obtain ⟨j, l, bk, hj, hj2, rfl, HT, HK, HW, HO, HF⟩ := hrel
    obtain ⟨wx, rfl⟩ : ∃ wx : World, wx = wr := ⟨_, rfl⟩
    by_cases hgo : j < l1 ∧ j < 120
    · obtain ⟨hlt, h120⟩ := hgo
      have dj1 : decide ((j : Int) < (l1 : Int)) = true := decide_eq_true (by omega)
      have dj2 : decide ((j : Int) < 120) = true := decide_eq_true (by omega)
      obtain ⟨b, off, rfl, hb, hcs⟩ := HX.out.cells (by omega)
      have hok := Lib.hid (HX.out.ok j hlt)
      obtain ⟨p, q⟩ := hcs j hlt
      have c0 := (HW.out.cell (p := ⟨b, off + j * 2, none⟩) hb).trans p
      have c1' := (HW.out.cell (p := ⟨b, off + j * 2 + 1, none⟩) hb).trans q
      clear p q hcs hb
      generalize x j = y at *
      obtain ⟨kd, k⟩ := y
      dsimp only at c0 c1' hok
      have hz := dm_u64 kd
      generalize hzk : IntKind.u64.wrap kd = z at *
      have g1 : (0 : Int) ≤ (j : Int) := by omega
      have g2 : (j : Int) < (l1 : Int) := by omega
      have BX := Lib.hid ((Below.refl wx.heap.size wx).alloc (Nat.le_refl _) (.cells #[.int .i64 kd, .int .i64 k] 63))
      by_cases hev : z % 2 = 0
      · have he : (z % 2 == 0) = true := by rw [hev]; rfl
        clear hev
        go_wp2_with fail
        refine (refHold l t k _ _ (HK.out.below BX.out) HT.out).mono ?_
        rintro e w3 ⟨v3, rfl, kl3, b3⟩
        have hT3 := (HT.out.kept BX.out).kept b3
        have hB3 := BX.out.trans (b3.mono BX.out.size)
        have HT3 := Lib.hid hT3
        have HB3 := Lib.hid hB3
        have c2 := (b3.cell (p := ⟨wx.heap.size, 1, none⟩) (by simp)).trans (show (wx.alloc (.cells #[.int .i64 kd, .int .i64 k] 63)).cell? ⟨wx.heap.size, 1, none⟩ = some (.int .i64 k) from cell_new _ rfl)
        have HKL3 := Lib.hid kl3
        clear hT3 hB3 kl3 b3 c0 c1'
        have HCALL := Lib.hid (holdsI (w := w3.alloc (.cells #[.int .i64 k] 3)) (some ⟨w3.heap.size, 0, none⟩) 1 1 (fun _ => k) (HT3.out.kept ((Below.refl _ _).alloc (Nat.le_refl _) _)) (by omega) (fun j k' e _ => by rw [e]; exact hok.out) (fun _ => ⟨w3.heap.size, 0, rfl, by simp, fun ho => by have := HT3.out.ownlt ho; omega, fun i hi => by
          obtain rfl : i = 0 := by omega
          have := cell_one_new w3 (.int .i64 k) 3 0 _ rfl
          rw [addr_addK] at this
          exact this⟩))
        rw [holdFI_one] at HCALL
        have B4 := Lib.hid ((Below.refl w3.heap.size w3).alloc (Nat.le_refl _) (.cells #[.int .i64 k] 3))
        go_wp2_with fail
        refine HCALL.out.mono ?_
        rintro e w5 ⟨b5, rfl, t5, s5⟩
        have HT5 := Lib.hid t5
        have HK5 := Lib.hid (KL.other (HKL3.out.below B4.out) (HT3.out.kept B4.out) s5.chg)
        have hstep : Step wx w5 FA MA l (holdL t l k).1 bk b5 := (Step.refl (HB3.out.trans (B4.out.mono HB3.out.size))).trans s5
        have HS5 := Lib.hid (hstep.below HO.out HW.out.size)
        have HB5 := Lib.hid (HW.out.trans HS5.out.1)
        have HO5 := Lib.hid HS5.out.2
        have HWF := Lib.hid (holdL_okI (P := fun k => (Lit.int .i64 k).wf = true) (top := t) HF.out hok.out)
        clear t5 s5 hstep HCALL HF HK HT HO HW HKL3 HT3 HB3 BX B4 HS5 c2
        generalize holdL t l k = g at *
        obtain ⟨l', E⟩ := g
        dsimp only at HT5 HK5 HO5 HWF ⊢
        have eE : (E != E) = false := by simp
        go_wp2_with fail
        refine (keysI HT5.out).mono ?_
        rintro e5 w6 ⟨vx, rfl, lx, b6⟩
        obtain ⟨ax, cx, rfl, hxs⟩ := lx.view
        have HL := Lib.hid hxs
        have HT6 := Lib.hid (HT5.out.kept b6)
        have HK6 := Lib.hid (HK5.out.below b6)
        have HB6 := Lib.hid (HB5.out.trans (b6.mono HB5.out.size))
        clear lx b6 hxs HT5 HK5 HB5
        have hml : ((l'.map (·.1)).map (Value.int .i64)).length = l'.length := by rw [List.length_map, List.length_map]
        rw [hml] at HL ⊢
        clear hml
        have hm64 := HT6.out.len
        rcases HK6.out.cells with ⟨rfl, hnil⟩ | ⟨gv, cv, rfl, hgv, hcv, hcm, hcells⟩
        · have h0 : l'.length = 0 := by rw [hnil]; rfl
          have HN := Lib.hid hnil
          clear hnil
          rw [h0] at HL ⊢
          clear h0 hm64
          have e0 : ((0 : Int) != 0) = false := by rfl
          go_wp2_with fail
          go_loopw [20] (fun i wr => i = .int .i64 0 ∧ Hid (Below w6.heap.size w6 wr)) (fun i _ => 0)
          case atStart => exact ⟨rfl, Lib.hid (Below.refl _ _)⟩
          case round =>
            obtain ⟨rfl, HW6⟩ := hrel
            obtain ⟨wz, rfl⟩ : ∃ wz : World, wz = wr := ⟨_, rfl⟩
            rcases kidx_look (m := l') (k := k2) with ⟨h1, h2, h3⟩ | h1
            · have HV := Lib.hid (valueI k2 (HT6.out.kept HW6.out) HK2.out)
              have HS := Lib.hid (stuckI k2 (HT6.out.kept HW6.out) HK2.out)
              rw [h2] at HV
              rw [h3] at HS
              have d7 : decide (kidx l' k2 < 0) = true := decide_eq_true h1
              clear h1 h2 h3
              go_wp2_with (first
                | (go_at_call 30; refine (refFind l' t k2 _ _ (HK6.out.below HW6.out) HT6.out.len).mono ?_; rintro e8 w8 ⟨rfl, rfl⟩)
                | (go_at_call 24; refine HV.out.mono ?_; rintro e8 w8 ⟨rfl, rfl⟩)
                | (go_at_call 25; refine HS.out.mono ?_; rintro e8 w8 ⟨rfl, rfl⟩))
              go_roundw
              case rel => exact ⟨j + 1, l', b5, by omega, by omega, by go_num, Lib.hid (HT6.out.kept HW6.out), Lib.hid (HK6.out.below HW6.out), Lib.hid (HB6.out.trans (HW6.out.mono HB6.out.size)), HO5, HWF⟩
              case measure => simp only [intOf]; omega
            · have d7 : decide (kidx l' k2 < 0) = false := decide_eq_false (by omega)
              clear h1
              go_wp2_with (go_at_call 30; refine (refFind l' t k2 _ _ (HK6.out.below HW6.out) HT6.out.len).mono ?_; rintro e8 w8 ⟨rfl, rfl⟩)
              go_roundw
              case rel => exact ⟨j + 1, l', b5, by omega, by omega, by go_num, Lib.hid (HT6.out.kept HW6.out), Lib.hid (HK6.out.below HW6.out), Lib.hid (HB6.out.trans (HW6.out.mono HB6.out.size)), HO5, HWF⟩
              case measure => simp only [intOf]; omega


        · have HC := Lib.hid hcells
          clear hcells
          obtain ⟨m, hm⟩ : ∃ m, m = l'.length := ⟨_, rfl⟩
          rw [← hm] at HL hm64 hcv HK6 ⊢
          have HM := Lib.hid hm
          clear hm
          have e2 : ((m : Int) != (m : Int)) = false := by simp
          go_wp2_with fail
          go_loopw [20] (fun i wr => ∃ q : Nat, q ≤ m ∧ i = .int .i64 q ∧ Hid (Below w6.heap.size w6 wr)) (fun i _ => m - (intOf i).toNat)
          case atStart => exact ⟨0, by omega, rfl, Lib.hid (Below.refl _ _)⟩
          case round =>
            obtain ⟨q, hq, rfl, HW6⟩ := hrel
            obtain ⟨wz, rfl⟩ : ∃ wz : World, wz = wr := ⟨_, rfl⟩
            by_cases hql : q < m
            · have hqL : q < l'.length := by have := HM.out; omega
              obtain ⟨kq, nq, sq, hkq⟩ : ∃ k n s, l'[q]? = some (k, n, s) := ⟨_, _, _, List.getElem?_eq_getElem hqL⟩
              obtain ⟨gx, rfl, hgx, hcx⟩ := HL.out (by omega)
              have c0 := (HW6.out.cell (p := ⟨gx, q, none⟩) hgx).trans (hcx q (.int .i64 kq) (by simp [List.getElem?_map, hkq]))
              obtain ⟨p0', p1', p2', p3'⟩ := HC.out q _ hkq
              have m0 := (HW6.out.cell (p := ⟨gv, q * 4, none⟩) hgv).trans p0'
              have m1 := (HW6.out.cell (p := ⟨gv, q * 4 + 1, none⟩) hgv).trans p1'
              have m3 := (HW6.out.cell (p := ⟨gv, q * 4 + 3, none⟩) hgv).trans p3'
              have hlk : look l' kq = some (nq, sq) := look_of_mem HT6.out.sorted (List.mem_of_getElem? hkq)
              have hwf := HWF.out _ (List.mem_of_getElem? hkq)
              have HVA := Lib.hid (show ∀ r, Calls Try.prog 24 #[.pointer (some ⟨FA, 0, none⟩), .int .i64 kq] (wz.drewN r) fun e w' => e = .returned (.int .i64 nq) ∧ w' = wz.drewN r from fun r =>
                (valueI kq (HT6.out.kept (below_drewN HW6.out r)) hwf).mono fun e w' h => ⟨h.1.trans (by unfold valLI; rw [hlk]), h.2.symm⟩)
              have HVB := Lib.hid (show ∀ r, Calls Try.prog 25 #[.pointer (some ⟨FA, 0, none⟩), .int .i64 kq] (wz.drewN r) fun e w' => e = .returned (.bool sq) ∧ w' = wz.drewN r from fun r =>
                (stuckI kq (HT6.out.kept (below_drewN HW6.out r)) hwf).mono fun e w' h => ⟨h.1.trans (by unfold stLI; rw [hlk]), h.2.symm⟩)
              have g3 : (0 : Int) ≤ (q : Int) := by omega
              have g4 : (q : Int) < (m : Int) := by omega
              have e3 : (kq != kq) = false := by simp
              have e4 : (nq != nq) = false := by simp
              have e5 : (sq != sq) = false := by simp
              have dq : decide ((q : Int) < (m : Int)) = true := decide_eq_true g4
              clear hkq hcx p0' p1' p2' p3' hlk hwf hqL
              go_wp2_with fail
              go_quiet ((first | (go_at_call 24; refine Calls.quiet_of_same (HVA.out _)) | (go_at_call 25; refine Calls.quiet_of_same (HVB.out _))))
              go_wp2_with fail
              go_roundw
              case rel => exact ⟨q + 1, by omega, by go_num, Lib.hid (below_drewN HW6.out _)⟩
              case measure => simp only [intOf]; omega
            · obtain rfl : q = m := by omega
              rcases kidx_look (m := l') (k := k2) with ⟨h1, h2, h3⟩ | h1
              · have HV := Lib.hid (valueI k2 (HT6.out.kept HW6.out) HK2.out)
                have HS := Lib.hid (stuckI k2 (HT6.out.kept HW6.out) HK2.out)
                rw [h2] at HV
                rw [h3] at HS
                have d7 : decide (kidx l' k2 < 0) = true := decide_eq_true h1
                clear h1 h2 h3
                go_wp2_with (first
                  | (go_at_call 30; refine (refFind l' t k2 _ _ (HK6.out.below HW6.out) HT6.out.len).mono ?_; rintro e8 w8 ⟨rfl, rfl⟩)
                  | (go_at_call 24; refine HV.out.mono ?_; rintro e8 w8 ⟨rfl, rfl⟩)
                  | (go_at_call 25; refine HS.out.mono ?_; rintro e8 w8 ⟨rfl, rfl⟩))
                go_roundw
                case rel => exact ⟨j + 1, l', b5, by omega, by omega, by go_num, Lib.hid (HT6.out.kept HW6.out), Lib.hid (HK6.out.below HW6.out), Lib.hid (HB6.out.trans (HW6.out.mono HB6.out.size)), HO5, HWF⟩
                case measure => simp only [intOf]; omega
              · have d7 : decide (kidx l' k2 < 0) = false := decide_eq_false (by omega)
                clear h1
                go_wp2_with (go_at_call 30; refine (refFind l' t k2 _ _ (HK6.out.below HW6.out) HT6.out.len).mono ?_; rintro e8 w8 ⟨rfl, rfl⟩)
                go_roundw
                case rel => exact ⟨j + 1, l', b5, by omega, by omega, by go_num, Lib.hid (HT6.out.kept HW6.out), Lib.hid (HK6.out.below HW6.out), Lib.hid (HB6.out.trans (HW6.out.mono HB6.out.size)), HO5, HWF⟩
                case measure => simp only [intOf]; omega




      · have he : (z % 2 == 0) = false := by rw [beq_eq_false_iff_ne]; exact hev
        clear hev
        go_wp2_with fail
        refine (refDropT l t k _ _ (HK.out.below BX.out) HT.out).mono ?_
        rintro e w3 ⟨v3, rfl, kl3, b3⟩
        have hT3 := (HT.out.kept BX.out).kept b3
        have hB3 := BX.out.trans (b3.mono BX.out.size)
        have HT3 := Lib.hid hT3
        have HB3 := Lib.hid hB3
        have c2 := (b3.cell (p := ⟨wx.heap.size, 1, none⟩) (by simp)).trans (show (wx.alloc (.cells #[.int .i64 kd, .int .i64 k] 63)).cell? ⟨wx.heap.size, 1, none⟩ = some (.int .i64 k) from cell_new _ rfl)
        have HKL3 := Lib.hid kl3
        clear hT3 hB3 kl3 b3 c0 c1'
        go_wp2_with fail
        refine (dropI k HT3.out hok.out).mono ?_
        rintro e w5 ⟨rfl, t5, s5⟩
        obtain ⟨b5, hb5⟩ : ∃ b5, b5 = bk := ⟨_, rfl⟩
        rw [← hb5] at t5
        have HT5 := Lib.hid t5
        have HK5 := Lib.hid (KL.other HKL3.out HT3.out s5.chg)
        have hstep : Step wx w5 FA MA l (dropL l k).1 bk bk := (Step.refl HB3.out).trans s5
        rw [show Step wx w5 FA MA l (dropL l k).1 bk bk = Step wx w5 FA MA l (dropL l k).1 bk b5 from by rw [hb5]] at hstep
        have HS5 := Lib.hid (hstep.below HO.out HW.out.size)
        have HB5 := Lib.hid (HW.out.trans HS5.out.1)
        have HO5 := Lib.hid HS5.out.2
        have HWF := Lib.hid (dropL_okI (P := fun k => (Lit.int .i64 k).wf = true) HF.out hok.out)
        clear t5 s5 hstep HF HK HT HO HW HKL3 HT3 HB3 BX HS5 c2 hb5
        generalize dropL l k = g at *
        obtain ⟨l', X, E⟩ := g
        dsimp only at HT5 HK5 HO5 HWF ⊢
        have eE : (E != E) = false := by simp
        have eX : (X != X) = false := by simp
        go_wp2_with fail
        refine (keysI HT5.out).mono ?_
        rintro e5 w6 ⟨vx, rfl, lx, b6⟩
        obtain ⟨ax, cx, rfl, hxs⟩ := lx.view
        have HL := Lib.hid hxs
        have HT6 := Lib.hid (HT5.out.kept b6)
        have HK6 := Lib.hid (HK5.out.below b6)
        have HB6 := Lib.hid (HB5.out.trans (b6.mono HB5.out.size))
        clear lx b6 hxs HT5 HK5 HB5
        have hml : ((l'.map (·.1)).map (Value.int .i64)).length = l'.length := by rw [List.length_map, List.length_map]
        rw [hml] at HL ⊢
        clear hml
        have hm64 := HT6.out.len
        rcases HK6.out.cells with ⟨rfl, hnil⟩ | ⟨gv, cv, rfl, hgv, hcv, hcm, hcells⟩
        · have h0 : l'.length = 0 := by rw [hnil]; rfl
          have HN := Lib.hid hnil
          clear hnil
          rw [h0] at HL ⊢
          clear h0 hm64
          have e0 : ((0 : Int) != 0) = false := by rfl
          go_wp2_with fail
          go_loopw [20] (fun i wr => i = .int .i64 0 ∧ Hid (Below w6.heap.size w6 wr)) (fun i _ => 0)
          case atStart => exact ⟨rfl, Lib.hid (Below.refl _ _)⟩
          case round =>
            obtain ⟨rfl, HW6⟩ := hrel
            obtain ⟨wz, rfl⟩ : ∃ wz : World, wz = wr := ⟨_, rfl⟩
            rcases kidx_look (m := l') (k := k2) with ⟨h1, h2, h3⟩ | h1
            · have HV := Lib.hid (valueI k2 (HT6.out.kept HW6.out) HK2.out)
              have HS := Lib.hid (stuckI k2 (HT6.out.kept HW6.out) HK2.out)
              rw [h2] at HV
              rw [h3] at HS
              have d7 : decide (kidx l' k2 < 0) = true := decide_eq_true h1
              clear h1 h2 h3
              go_wp2_with (first
                | (go_at_call 30; refine (refFind l' t k2 _ _ (HK6.out.below HW6.out) HT6.out.len).mono ?_; rintro e8 w8 ⟨rfl, rfl⟩)
                | (go_at_call 24; refine HV.out.mono ?_; rintro e8 w8 ⟨rfl, rfl⟩)
                | (go_at_call 25; refine HS.out.mono ?_; rintro e8 w8 ⟨rfl, rfl⟩))
              go_roundw
              case rel => exact ⟨j + 1, l', b5, by omega, by omega, by go_num, Lib.hid (HT6.out.kept HW6.out), Lib.hid (HK6.out.below HW6.out), Lib.hid (HB6.out.trans (HW6.out.mono HB6.out.size)), HO5, HWF⟩
              case measure => simp only [intOf]; omega
            · have d7 : decide (kidx l' k2 < 0) = false := decide_eq_false (by omega)
              clear h1
              go_wp2_with (go_at_call 30; refine (refFind l' t k2 _ _ (HK6.out.below HW6.out) HT6.out.len).mono ?_; rintro e8 w8 ⟨rfl, rfl⟩)
              go_roundw
              case rel => exact ⟨j + 1, l', b5, by omega, by omega, by go_num, Lib.hid (HT6.out.kept HW6.out), Lib.hid (HK6.out.below HW6.out), Lib.hid (HB6.out.trans (HW6.out.mono HB6.out.size)), HO5, HWF⟩
              case measure => simp only [intOf]; omega


        · have HC := Lib.hid hcells
          clear hcells
          obtain ⟨m, hm⟩ : ∃ m, m = l'.length := ⟨_, rfl⟩
          rw [← hm] at HL hm64 hcv HK6 ⊢
          have HM := Lib.hid hm
          clear hm
          have e2 : ((m : Int) != (m : Int)) = false := by simp
          go_wp2_with fail
          go_loopw [20] (fun i wr => ∃ q : Nat, q ≤ m ∧ i = .int .i64 q ∧ Hid (Below w6.heap.size w6 wr)) (fun i _ => m - (intOf i).toNat)
          case atStart => exact ⟨0, by omega, rfl, Lib.hid (Below.refl _ _)⟩
          case round =>
            obtain ⟨q, hq, rfl, HW6⟩ := hrel
            obtain ⟨wz, rfl⟩ : ∃ wz : World, wz = wr := ⟨_, rfl⟩
            by_cases hql : q < m
            · have hqL : q < l'.length := by have := HM.out; omega
              obtain ⟨kq, nq, sq, hkq⟩ : ∃ k n s, l'[q]? = some (k, n, s) := ⟨_, _, _, List.getElem?_eq_getElem hqL⟩
              obtain ⟨gx, rfl, hgx, hcx⟩ := HL.out (by omega)
              have c0 := (HW6.out.cell (p := ⟨gx, q, none⟩) hgx).trans (hcx q (.int .i64 kq) (by simp [List.getElem?_map, hkq]))
              obtain ⟨p0', p1', p2', p3'⟩ := HC.out q _ hkq
              have m0 := (HW6.out.cell (p := ⟨gv, q * 4, none⟩) hgv).trans p0'
              have m1 := (HW6.out.cell (p := ⟨gv, q * 4 + 1, none⟩) hgv).trans p1'
              have m3 := (HW6.out.cell (p := ⟨gv, q * 4 + 3, none⟩) hgv).trans p3'
              have hlk : look l' kq = some (nq, sq) := look_of_mem HT6.out.sorted (List.mem_of_getElem? hkq)
              have hwf := HWF.out _ (List.mem_of_getElem? hkq)
              have HVA := Lib.hid (show ∀ r, Calls Try.prog 24 #[.pointer (some ⟨FA, 0, none⟩), .int .i64 kq] (wz.drewN r) fun e w' => e = .returned (.int .i64 nq) ∧ w' = wz.drewN r from fun r =>
                (valueI kq (HT6.out.kept (below_drewN HW6.out r)) hwf).mono fun e w' h => ⟨h.1.trans (by unfold valLI; rw [hlk]), h.2.symm⟩)
              have HVB := Lib.hid (show ∀ r, Calls Try.prog 25 #[.pointer (some ⟨FA, 0, none⟩), .int .i64 kq] (wz.drewN r) fun e w' => e = .returned (.bool sq) ∧ w' = wz.drewN r from fun r =>
                (stuckI kq (HT6.out.kept (below_drewN HW6.out r)) hwf).mono fun e w' h => ⟨h.1.trans (by unfold stLI; rw [hlk]), h.2.symm⟩)
              have g3 : (0 : Int) ≤ (q : Int) := by omega
              have g4 : (q : Int) < (m : Int) := by omega
              have e3 : (kq != kq) = false := by simp
              have e4 : (nq != nq) = false := by simp
              have e5 : (sq != sq) = false := by simp
              have dq : decide ((q : Int) < (m : Int)) = true := decide_eq_true g4
              clear hkq hcx p0' p1' p2' p3' hlk hwf hqL
              go_wp2_with fail
              go_quiet ((first | (go_at_call 24; refine Calls.quiet_of_same (HVA.out _)) | (go_at_call 25; refine Calls.quiet_of_same (HVB.out _))))
              go_wp2_with fail
              go_roundw
              case rel => exact ⟨q + 1, by omega, by go_num, Lib.hid (below_drewN HW6.out _)⟩
              case measure => simp only [intOf]; omega
            · obtain rfl : q = m := by omega
              rcases kidx_look (m := l') (k := k2) with ⟨h1, h2, h3⟩ | h1
              · have HV := Lib.hid (valueI k2 (HT6.out.kept HW6.out) HK2.out)
                have HS := Lib.hid (stuckI k2 (HT6.out.kept HW6.out) HK2.out)
                rw [h2] at HV
                rw [h3] at HS
                have d7 : decide (kidx l' k2 < 0) = true := decide_eq_true h1
                clear h1 h2 h3
                go_wp2_with (first
                  | (go_at_call 30; refine (refFind l' t k2 _ _ (HK6.out.below HW6.out) HT6.out.len).mono ?_; rintro e8 w8 ⟨rfl, rfl⟩)
                  | (go_at_call 24; refine HV.out.mono ?_; rintro e8 w8 ⟨rfl, rfl⟩)
                  | (go_at_call 25; refine HS.out.mono ?_; rintro e8 w8 ⟨rfl, rfl⟩))
                go_roundw
                case rel => exact ⟨j + 1, l', b5, by omega, by omega, by go_num, Lib.hid (HT6.out.kept HW6.out), Lib.hid (HK6.out.below HW6.out), Lib.hid (HB6.out.trans (HW6.out.mono HB6.out.size)), HO5, HWF⟩
                case measure => simp only [intOf]; omega
              · have d7 : decide (kidx l' k2 < 0) = false := decide_eq_false (by omega)
                clear h1
                go_wp2_with (go_at_call 30; refine (refFind l' t k2 _ _ (HK6.out.below HW6.out) HT6.out.len).mono ?_; rintro e8 w8 ⟨rfl, rfl⟩)
                go_roundw
                case rel => exact ⟨j + 1, l', b5, by omega, by omega, by go_num, Lib.hid (HT6.out.kept HW6.out), Lib.hid (HK6.out.below HW6.out), Lib.hid (HB6.out.trans (HW6.out.mono HB6.out.size)), HO5, HWF⟩
                case measure => simp only [intOf]; omega




    · have hcond : l1 = j ∨ (j < l1 ∧ j = 120) := by omega
      clear hgo
      rcases hcond with rfl | ⟨hlt, rfl⟩
      · go_wp2_with fail
        refine (cntKnown _).mono ?_
        rintro e7 w7 ⟨rfl, b7⟩
        have HB7 := Lib.hid (HW.out.trans (b7.mono HW.out.size))
        clear b7
        go_wp2_with fail
        go_ret
        exact ⟨rfl, HB7.out⟩
      · have d0 : decide ((120 : Int) < (l1 : Int)) = true := decide_eq_true (by omega)
        go_wp2_with fail
        refine (cntKnown _).mono ?_
        rintro e7 w7 ⟨rfl, b7⟩
        have HB7 := Lib.hid (HW.out.trans (b7.mono HW.out.size))
        clear b7
        go_wp2_with fail
        go_ret
        exact ⟨rfl, HB7.out⟩
theorem walk_CountKeys (p0 k2 : Int) (v : Value) (w : World) (h : KAs w v) (hk2 : (Lit.int .i64 k2).wf = true) : Calls Try.prog 8 #[.int .i64 p0, v, .int .i64 k2] w fun e w' => e = .returned (.bool true) ∧ Below w.heap.size w w' := by
  obtain ⟨a1, l1, c1, x, rfl, u1, k1, hx⟩ := h
  by_cases hp : 1 ≤ p0 ∧ p0 ≤ 65535
  · exact keysLaw p0 k2 a1 l1 c1 x w hp.1 hp.2 k1 hx hk2
  · exact keys_bad p0 k2 a1 l1 c1 w (by omega)
end Go.Proofs.Ytkpenhichgkdkaa
