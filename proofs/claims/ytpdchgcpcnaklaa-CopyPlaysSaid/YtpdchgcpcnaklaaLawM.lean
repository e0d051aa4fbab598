/- The law CopyPlays, walked: a copy that is taken. -/
import Derived.Test.YtpdchgcpcnaklaaPair
import Derived.Test.YtpdchgcpcnaklaaLawK
namespace Go.Proofs.Ytpdchgcpcnaklaa
open Go.RowKit Go.ChangeShapes Go.WideShapes
attribute [local go_sem ↓] Go.wp_at_zero Go.wp_at_succ
set_option linter.unusedVariables false

set_option maxRecDepth 100000 in
set_option maxHeartbeats 8000000 in
theorem plays14In2 (p0 addr  : Int) (a1 : Option Addr) (len1 cap1 : Nat) (x1 : Nat → AD) (a5 : Option Addr) (l5 c5 : Nat) (xs5 : List Int) (a6 : Option Addr) (len6 cap6 : Nat) (x6 : Nat → AE) (w : World) (k1 : len1 ≤ 9223372036854775807) (hx1 : ActsAt w a1 len1 x1) (k5 : l5 ≤ c5) (k5' : l5 ≤ 9223372036854775807) (hl5 : xs5.length = l5) (hb5 : ∀ x ∈ xs5, 0 ≤ x ∧ x ≤ 255) (hx5 : Holds w a5 xs5) (k6 : len6 ≤ 9223372036854775807) (hx6 : TriesAt w a6 len6 x6) (p : Nat) (h1 : 1 ≤ p) (h2 : p ≤ 16) (hp : (p : Int) = 1 + IntKind.u64.wrap p0 % 16) (m : Nat) (hm : m ≤ 64) (g5 : ¬ l5 ≤ 80) :
    Calls Try.prog 11 #[.int .i64 p0, .slice a1 len1 cap1, .bool false, .int .i64 addr, .int .i64 m, .slice a5 l5 c5, .slice a6 len6 cap6] w fun e w' => e = .returned (.bool true) ∧ Below w.heap.size w w' := by
  have ha := dm_u64 p0
  generalize hza : IntKind.u64.wrap p0 = z at *
  have HP := Lib.hid hp
  have HN := Lib.hid (memNew p w h1 h2)
  have HX := Lib.hid hx1
  have HX6 := Lib.hid hx6
  have HX5 := Lib.hid hx5
  have HRN := Lib.hid (fun w1 => refNew p w1 h1 h2)
  have HL0 := Lib.hid (show (List.replicate (16 * p) (0 : Int)).length = 16 * p by simp)
  clear hx1 hx6 hx5 hp
  all_goals
    go_enter Try.func11, Try.ntmps11
    go_wp2_with fail
    rw [← HP.out]
    refine HN.out.mono ?_
    rintro e w1 ⟨rfl, b1, m1⟩
    have B1 := Lib.hid b1
    have M1 := Lib.hid m1
    clear b1 m1
    go_wp2_with fail
    refine (HRN.out _).mono ?_
    rintro e w2 ⟨rfl, b2, r2⟩
    have T2 := Lib.hid (twin_new h1 h2 M1.out rfl b2 r2)
    have B2 := Lib.hid (B1.out.trans (b2.mono B1.out.size))
    clear b2 r2
    go_wp2_with fail
    go_loopw [17, 18] (fun r i wr => ∃ (j R c : Nat) (bs ps : List Int), j ≤ len1 ∧ i = .int .i64 j ∧ r = .slice (some ⟨R, 0, none⟩) (16 * p) c ∧ Hid (Twin wr (w.heap.size + 1) w.heap.size R c bs ps) ∧ Hid (bs.length = 16 * p) ∧ Hid (Below w.heap.size w wr)) (fun _ i _ => len1 - (intOf i).toNat)
    case atStart => exact ⟨0, _, _, _, _, by omega, rfl, rfl, T2, HL0, B2⟩
    case round =>
      obtain ⟨j, R, c, bs, ps, hj, rfl, rfl, HT, HL, HB⟩ := hrel
      clear T2 B2 M1 B1
      by_cases hlt : j < len1 ∧ j < 30
      · obtain ⟨hlt, hlt2⟩ := hlt
        have hxw := HX.out.below HB.out
        obtain ⟨bk, off, rfl, hbk, hcs⟩ := hxw.cells (by omega)
        have hok := Lib.hid (hxw.ok j hlt)
        obtain ⟨c0, c1, c2, c3, c4⟩ := hcs j hlt
        have HD := Lib.hid (fun (h : Twin wr (w.heap.size + 1) w.heap.size R c bs ps) => doAny _ _ _ _ bs ps (x1 j) wr h hok.out)
        rw [HL.out] at HD
        clear hxw hcs
        go_wp2_with fail
        refine (HD.out HT.out).mono ?_
        rintro e w3 ⟨R', c', bs', ps', rfl, hl', ht', ha', hr'⟩
        clear hr' c0 c1 c2 c3 c4
        have HL' := Lib.hid hl'
        have HT' := Lib.hid ht'
        have HB' := Lib.hid (HB.out.trans (ha'.below (by omega) (by omega) HB.out.size))
        clear hl' ht' ha'
        go_wp2_with fail
        go_roundw
        case rel => exact ⟨j + 1, R', c', bs', ps', by omega, by go_num, rfl, HT', HL', HB'⟩
        case measure => simp only [intOf]; omega
      · by_cases hlt2 : j < len1
        all_goals
          first
            | (have dA : decide ((j : Int) < 30) = false := decide_eq_false (by omega))
            | (have dA : decide (j < len1) = false := decide_eq_false hlt2)
          go_wp2_with fail
          refine (cpIn addr m _ (by omega) (by omega)).mono ?_
          rintro e w3 ⟨rfl, b3, c3⟩
          have B3 := Lib.hid (HB.out.trans (b3.mono HB.out.size))
          have T3 := Lib.hid (HT.out.kept b3)
          have C3 := Lib.hid (Cpy.empty (M := w.heap.size + 1) (D := w.heap.size) c3 (Nat.ne_of_gt HT.out.mem.ltM) (Nat.ne_of_gt HT.out.mem.ltD))
          have hgC : w.heap.size ≤ wr.heap.size := HB.out.size
          clear b3 c3
          obtain ⟨C, hC⟩ : ∃ C, C = wr.heap.size := ⟨_, rfl⟩
          rw [← hC] at C3 hgC ⊢
          clear hC
          have hm1 : decide ((m : Int) < 0) = false := decide_eq_false (by omega)
          have hm2 : decide ((64 : Int) < (m : Int)) = false := decide_eq_false (by omega)
          have P0 := Lib.hid (Pair.fresh T3.out C3.out (by omega) : Pair (w3.alloc _) (w.heap.size + 1) w.heap.size C w3.heap.size R c bs ps false addr m _ _ _)
          have BP := Lib.hid (B3.out.alloc B3.out.size (.cells #[.bool false, .bool false, .bool false, .int .i64 addr, .int .i64 m, .int .i64 0, .int .i64 0, .slice none 0 0] 65))
          have hgX : w.heap.size ≤ w3.heap.size := B3.out.size
          obtain ⟨X, hX⟩ : ∃ X, X = w3.heap.size := ⟨_, rfl⟩
          rw [← hX] at P0 hgX
          have HXX := Lib.hid hX
          clear hX T3 C3
          go_wp2_with fail
          rw [← HXX.out]
          go_loopw [17, 22] (fun r i wr => ∃ (j R c : Nat) (bs ps : List Int) (s : CS) (a : Option Addr) (cap : Nat), j ≤ len6 ∧ j ≤ 30 ∧ i = .int .i64 j ∧ r = .slice (some ⟨R, 0, none⟩) (16 * p) c ∧ Hid (Pair wr (w.heap.size + 1) w.heap.size C X R c bs ps false addr m s a cap) ∧ Hid (bs.length = 16 * p) ∧ Hid (Below w.heap.size w wr) ∧ Hid (0 ≤ s.tries ∧ s.tries ≤ j)) (fun _ i _ => len6 - (intOf i).toNat)
          case atStart => exact ⟨0, _, _, _, _, _, _, _, by omega, by omega, rfl, rfl, P0, HL, BP, Lib.hid ⟨by simp, by simp⟩⟩
          case round =>
            obtain ⟨j, R, c, bs, ps, s, a, cap, hj, hj30, rfl, rfl, HPr, HL, HB, HTs⟩ := hrel
            clear P0 BP
            by_cases hlt : j < len6 ∧ j < 30
            · obtain ⟨hlt, hlt2⟩ := hlt
              have hxw := HX6.out.below HB.out
              obtain ⟨bk0, off0, ha6, hbk0, _⟩ := HX6.out.cells (by omega)
              obtain ⟨bk, off, rfl, hbk, hcs⟩ := hxw.cells (by omega)
              obtain ⟨rfl, rfl⟩ : bk = bk0 ∧ off = off0 := by simpa using ha6
              clear ha6
              have hok := hxw.ok j hlt
              have hct := hcs j hlt
              generalize x6 j = y at hok hct
              obtain ⟨tr, wt, d⟩ := y
              obtain ⟨t0, t1, c0, c1, c2, c3, c4⟩ := hct
              dsimp only at hok t0 t1 c0 c1 c2 c3 c4
              have HOk := Lib.hid hok
              clear hxw hcs hok
              cases tr with
              | false =>
                have HD := Lib.hid (fun (h : Twin wr (w.heap.size + 1) w.heap.size R c bs ps) => doAny _ _ _ _ bs ps d wr h HOk.out)
                rw [HL.out] at HD
                go_wp2_with fail
                refine (HD.out HPr.out.twin).mono ?_
                rintro e w3 ⟨R', c', bs', ps', rfl, hl', ht', ha', hr'⟩
                clear hr' t0 t1 c0 c1 c2 c3 c4
                have HL' := Lib.hid hl'
                have HP' := Lib.hid (HPr.out.done ht' ha')
                have HB' := Lib.hid (HB.out.trans (ha'.below (by omega) (by omega) HB.out.size))
                clear hl' ht' ha'
                go_wp2_with fail
                go_roundw
                case rel => exact ⟨j + 1, R', c', bs', ps', s, a, cap, by omega, by omega, by go_num, rfl, HP', HL', HB', Lib.hid ⟨HTs.out.1, by have := HTs.out.2; omega⟩⟩
                case measure => simp only [intOf]; omega
              | true =>
                have HRT := fun w1 (b : Below wr.heap.size wr w1) => refTry R c bs ps addr m false wt s a cap w1 (HPr.out.twin.ref.kept b HPr.out.twin.ref.lt) HPr.out.twin.states (HPr.out.h4.holds.below b) (by rw [HL.out]; omega) (by rw [HL.out]; omega) hm HPr.out.hx HTs.out.1 (by have := HTs.out.2; omega)
                rw [HL.out] at HRT
                replace HRT := Lib.hid HRT
                have HRC := Lib.hid (show wr.heap[X]? = _ from HPr.out.rc)
                have d0 := box_at HRC.out 0
                have d1 := box_at HRC.out 1
                have d2 := box_at HRC.out 2
                have d3 := box_at HRC.out 3
                have d4 := box_at HRC.out 4
                have d5 := box_at HRC.out 5
                have d6 := box_at HRC.out 6
                have d7 := box_at HRC.out 7
                simp only [List.getElem?_toArray, List.getElem?_cons_zero, List.getElem?_cons_succ] at d0 d1 d2 d3 d4 d5 d6 d7
                have f0 := box_fr HRC.out 0
                have f1 := box_fr HRC.out 1
                have f2 := box_fr HRC.out 2
                have f3 := box_fr HRC.out 3
                have f4 := box_fr HRC.out 4
                have f5 := box_fr HRC.out 5
                have f6 := box_fr HRC.out 6
                have f7 := box_fr HRC.out 7
                have j0 : (0 : Int) ≤ (j : Int) := by omega
                have j1 : (j : Int) < (len6 : Int) := by omega
                clear c0 c1 c2 c3 c4
                go_wp2_with fail
                refine wp_region_noPanic ?_
                refine wp_region_held_drew (S := fun _ => True) (by kernel_rfl) trivial (fun hHeld => ?_)
                clear hHeld
                refine takeD 0 137 (v := ?_) rfl (by kernel_rfl) (by kernel_rfl) (by kernel_rfl) (fun _ _ _ h => h) (Or.inl ⟨by rfl, ?_⟩) trivial rfl ?_
                rotate_left
                · intro w hSw
                  go_simp
                  try with_reducible rfl
                simp only [List.setIfInBounds_toArray, List.set_cons_zero, List.set_cons_succ]
                refine takeD 2 139 (v := ?_) rfl (by kernel_rfl) (by kernel_rfl) (by kernel_rfl) (fun _ _ _ h => h) (Or.inl ⟨by rfl, ?_⟩) trivial rfl ?_
                rotate_left
                · intro w hSw
                  go_simp
                  try with_reducible rfl
                simp only [List.setIfInBounds_toArray, List.set_cons_zero, List.set_cons_succ]
                refine takeD 3 140 (v := ?_) rfl (by kernel_rfl) (by kernel_rfl) (by kernel_rfl) (fun _ _ _ h => h) (Or.inl ⟨by rfl, ?_⟩) trivial rfl ?_
                rotate_left
                · intro w hSw
                  go_simp
                  try with_reducible rfl
                simp only [List.setIfInBounds_toArray, List.set_cons_zero, List.set_cons_succ]
                refine takeD 4 141 (v := ?_) rfl (by kernel_rfl) (by kernel_rfl) (by kernel_rfl) (fun _ _ _ h => h) (Or.inl ⟨by rfl, ?_⟩) trivial rfl ?_
                rotate_left
                · intro w hSw
                  go_simp
                  try with_reducible rfl
                simp only [List.setIfInBounds_toArray, List.set_cons_zero, List.set_cons_succ]
                refine takeD 5 142 (v := ?_) rfl (by kernel_rfl) (by kernel_rfl) (by kernel_rfl) (fun _ _ _ h => h) (Or.inl ⟨by rfl, ?_⟩) trivial rfl ?_
                rotate_left
                · intro w hSw
                  go_simp
                  try with_reducible rfl
                simp only [List.setIfInBounds_toArray, List.set_cons_zero, List.set_cons_succ]
                apply share
                · intro key
                  refine wpAnyH_ready (rs := [1, 6]) (by kernel_rfl) (by simp) ?_
                  refine AllReadyH.cons rfl (fun K hK => ?_) ?_
                  · go_simp
                    refine hK.out _ _ trivial (fun hHeld => ?_)
                    clear hK K hHeld
                    refine wpAnyH_ready (rs := [6]) (by kernel_rfl) (by simp) ?_
                    refine AllReadyH.cons rfl (fun K hK => ?_) ?_
                    · go_simp
                      refine hK.out _ _ trivial (fun hHeld => ?_)
                      clear hK K hHeld
                      exact key
                    exact AllReadyH.nil
                  refine AllReadyH.cons rfl (fun K hK => ?_) ?_
                  · go_simp
                    refine hK.out _ _ trivial (fun hHeld => ?_)
                    clear hK K hHeld
                    refine wpAnyH_ready (rs := [1]) (by kernel_rfl) (by simp) ?_
                    refine AllReadyH.cons rfl (fun K hK => ?_) ?_
                    · go_simp
                      refine hK.out _ _ trivial (fun hHeld => ?_)
                      clear hK K hHeld
                      exact key
                    exact AllReadyH.nil
                  exact AllReadyH.nil
                · refine wpAnyH_ready (rs := [7]) (by kernel_rfl) (by simp) ?_
                  refine AllReadyH.cons rfl (fun K hK => ?_) ?_
                  · go_simp
                    refine (HRT.out _ (by exact (Below.refl _ _).drew)).mono ?_
                    rintro e w2 ⟨R', c', a', cap', rfl, b2, r2, n2, hr2⟩
                    obtain ⟨t, ht⟩ : ∃ t, t = tryS bs ps addr m false wt s := ⟨_, rfl⟩
                    rw [← ht] at r2 n2 ⊢
                    obtain ⟨tb, ts, er⟩ := t
                    obtain ⟨ov, ws, pg, tr, xs⟩ := ts
                    have HTS := Lib.hid ht
                    dsimp only at r2 n2 ⊢
                    have B2 := Lib.hid (below_drewL b2)
                    have R2 := Lib.hid r2
                    have N2 := Lib.hid n2
                    have HRC2 := Lib.hid ((B2.out.block X (lt_of_block HRC.out)).trans HRC.out)
                    have e0 := box_at HRC2.out 0
                    have e1 := box_at HRC2.out 1
                    have e2 := box_at HRC2.out 2
                    have e3 := box_at HRC2.out 3
                    have e4 := box_at HRC2.out 4
                    have e5 := box_at HRC2.out 5
                    have e6 := box_at HRC2.out 6
                    have e7 := box_at HRC2.out 7
                    simp only [List.getElem?_toArray, List.getElem?_cons_zero, List.getElem?_cons_succ] at e0 e1 e2 e3 e4 e5 e6 e7
                    have h0 := box_fr HRC2.out 0
                    have h1 := box_fr HRC2.out 1
                    have h2 := box_fr HRC2.out 2
                    have h3 := box_fr HRC2.out 3
                    have h4 := box_fr HRC2.out 4
                    have h5 := box_fr HRC2.out 5
                    have h6 := box_fr HRC2.out 6
                    have h7 := box_fr HRC2.out 7
                    have q1 := (B2.out.cell (p := ⟨bk, off + j * 7 + 1, none⟩) hbk).trans t1
                    clear b2 r2 n2 hr2 ht
                    go_wp2_with fail
                    refine hK.out _ _ trivial (fun hHeld => ?_)
                    clear hK K hHeld
                    refine takeD 8 136 (v := ?_) rfl (by kernel_rfl) (by kernel_rfl) (by kernel_rfl) (fun _ _ _ h => h) (Or.inl ⟨by rfl, ?_⟩) trivial rfl ?_
                    rotate_left
                    · intro w hSw
                      go_simp
                      try with_reducible rfl
                    simp only [List.setIfInBounds_toArray, List.set_cons_zero, List.set_cons_succ]
                    refine takeD 9 145 (v := ?_) rfl (by kernel_rfl) (by kernel_rfl) (by kernel_rfl) (fun _ _ _ h => h) (Or.inl ⟨by rfl, ?_⟩) trivial rfl ?_
                    rotate_left
                    · intro w hSw
                      go_simp
                      try with_reducible rfl
                    simp only [List.setIfInBounds_toArray, List.set_cons_zero, List.set_cons_succ]
                    refine takeD 10 146 (v := ?_) rfl (by kernel_rfl) (by kernel_rfl) (by kernel_rfl) (fun _ _ _ h => h) (Or.inl ⟨by rfl, ?_⟩) trivial rfl ?_
                    rotate_left
                    · intro w hSw
                      go_simp
                      try with_reducible rfl
                    simp only [List.setIfInBounds_toArray, List.set_cons_zero, List.set_cons_succ]
                    refine takeD 11 147 (v := ?_) rfl (by kernel_rfl) (by kernel_rfl) (by kernel_rfl) (fun _ _ _ h => h) (Or.inl ⟨by rfl, ?_⟩) trivial rfl ?_
                    rotate_left
                    · intro w hSw
                      go_simp
                      try with_reducible rfl
                    simp only [List.setIfInBounds_toArray, List.set_cons_zero, List.set_cons_succ]
                    refine takeD 12 17 (v := ?_) rfl (by kernel_rfl) (by kernel_rfl) (by kernel_rfl) (fun _ _ _ h => h) (Or.inl ⟨by rfl, ?_⟩) trivial rfl ?_
                    rotate_left
                    · intro w hSw
                      go_simp
                      try with_reducible rfl
                    simp only [List.setIfInBounds_toArray, List.set_cons_zero, List.set_cons_succ]
                    refine wpAnyH_ready (rs := [13]) (by kernel_rfl) (by simp) ?_
                    refine AllReadyH.cons rfl (fun K hK => ?_) ?_
                    · go_simp
                      refine hK.out _ _ trivial (fun hHeld => ?_)
                      clear hK K hHeld
                      refine takeD 14 23 (v := ?_) rfl (by kernel_rfl) (by kernel_rfl) (by kernel_rfl) (fun _ _ _ h => h) (Or.inl ⟨by rfl, ?_⟩) trivial rfl ?_
                      rotate_left
                      · intro w hSw
                        go_simp
                        try with_reducible rfl
                      simp only [List.setIfInBounds_toArray, List.set_cons_zero, List.set_cons_succ]
                      refine wpAnyH_done (by kernel_rfl) ?_ _
                      refine NoPanic.normal ?_
                      have ST := Lib.hid (stored HRC2.out false ov ws addr m pg tr a' xs.length cap')
                      have MID := Lib.hid (HPr.out.mid B2.out ST.out.2)
                      have hbX : bk ≠ X := by omega
                      go_wp2_with fail
                      refine (cpTry (w.heap.size + 1) w.heap.size C bs ps addr m false wt s _ MID.out.1 MID.out.2 HPr.out.twin.fine (by rw [HL.out]; omega) (by omega) (by omega) (fun h => by have := HPr.out.hx h; omega) HTs.out.1 (by have := HTs.out.2; omega)).mono ?_
                      rintro e w4 ⟨rfl, q4, i4, k4⟩
                      rw [← HTS.out] at i4 k4 ⊢
                      have P4 := Lib.hid (HPr.out.tried hm HTS.out B2.out (by rw [HL.out]; exact R2.out) N2.out ST.out.2 ST.out.1 q4 i4 k4)
                      have G4 := Lib.hid (((HB.out.trans (B2.out.mono HB.out.size)).grown ST.out.2 (Nat.le_trans HB.out.size B2.out.size) (fun k e => by cases e; exact hgX)).trans (q4.below (by omega) (by omega) hgC (Nat.le_trans HB.out.size (Nat.le_trans B2.out.size ST.out.2.size))))
                      have hpr := tryS_props (bs := bs) (ps := ps) (addr := addr) (m := m) (out := false) (wait := wt) (s := s) HPr.out.twin.fine hm HPr.out.hx HPr.out.hl HPr.out.hb
                      rw [← HTS.out] at hpr
                      have HL4 := Lib.hid (show tb.length = 16 * p from hpr.1.trans HL.out)
                      have HT4 : 0 ≤ tr ∧ tr ≤ (j : Int) + 1 := by have h1 := hpr.2.2.2.2.2; have h2 := HTs.out; dsimp only at h1; omega
                      clear q4 i4 k4 hpr
                      try dsimp only
                      go_wp2_with fail
                      refine (cpPage _ _ C _ _ _ _ _ P4.out.cpy).mono ?_
                      rintro e w5 ⟨rfl, b5⟩
                      have P5 := Lib.hid (P4.out.kept b5)
                      have G5 := Lib.hid (G4.out.trans (b5.mono G4.out.size))
                      clear b5
                      try dsimp only
                      go_wp2_with fail
                      have RC5 := Lib.hid P5.out.rc
                      have k1 := box_at (show w5.heap[X]? = _ from RC5.out) 1
                      have k2 := box_at (show w5.heap[X]? = _ from RC5.out) 2
                      have k5 := box_at (show w5.heap[X]? = _ from RC5.out) 5
                      have k6 := box_at (show w5.heap[X]? = _ from RC5.out) 6
                      have k7 := box_at (show w5.heap[X]? = _ from RC5.out) 7
                      simp only [List.getElem?_toArray, List.getElem?_cons_zero, List.getElem?_cons_succ] at k1 k2 k5 k6 k7
                      have ltX : X < w5.heap.size := lt_of_block RC5.out
                      go_region_held3 (fun w' => w'.cell? ⟨X, 1, none⟩ = some (.bool ov) ∧ w'.cell? ⟨X, 6, none⟩ = some (.int .i64 tr) ∧ w'.cell? ⟨X, 5, none⟩ = some (.int .i64 pg) ∧ w'.cell? ⟨X, 2, none⟩ = some (.bool ws) ∧ w'.cell? ⟨X, 7, none⟩ = some (.slice a' xs.length cap')) (first | go_keep | (go_split_ands; refine ⟨?_, ?_, ?_, ?_, ?_⟩ <;> (rw [b7.cell (by simp; omega)]; assumption)) | (go_split_ands; refine ⟨?_, ?_, ?_, ?_, ?_⟩ <;> (rw [b8.cell (by simp; omega)]; assumption)))
                        (first
                          | (go_at_call 33; refine (cpOver (w.heap.size + 1) w.heap.size C addr m false ⟨ov, ws, pg, tr, xs⟩ _ ?_).mono ?_; (first | exact P5.out.cpy | exact P5.out.cpy.drew); rintro e w' ⟨rfl, rfl⟩)
                          | (go_at_call 32; refine (cpTries (w.heap.size + 1) w.heap.size C addr m false ⟨ov, ws, pg, tr, xs⟩ _ ?_).mono ?_; (first | exact P5.out.cpy | exact P5.out.cpy.drew); rintro e w' ⟨rfl, rfl⟩)
                          | (go_at_call 31; refine (cpBytes (w.heap.size + 1) w.heap.size C addr m false ⟨ov, ws, pg, tr, xs⟩ _ ?_ ?_).mono ?_; (first | exact P5.out.cpy | exact P5.out.cpy.drew); (have h := P5.out.hl; dsimp only at h ⊢; omega); rintro e w7 ⟨a7, cap7, rfl, n7, b7⟩; have z7 : X < w7.heap.size := by have h := b7.size; simp at h; omega)
                          | (go_at_call 23; refine (refSame _ _ _ _ xs _ xs.length rfl (by have h := P5.out.hl; dsimp only at h; omega) ?_ ?_).mono ?_; exact n7.holds; exact ((P5.out.h4.holds.below (Below.refl _ _).drew).below b7); rintro e w8 ⟨rfl, b8⟩))
                      have bb8 := below_drewL b7
                      have P8 := Lib.hid (P5.out.kept (bb8.trans (b8.mono bb8.size)))
                      have G8 := Lib.hid (G5.out.trans ((bb8.trans (b8.mono bb8.size)).mono G5.out.size))
                      clear k1 k2 k5 k6 k7 n7 b7 b8 bb8 z7 ltX
                      have HRP := fun (_ : True) => refPeek R' c' tb.length _ _ 0 (16 * p) w8 P8.out.twin.ref (by rw [HL4.out]; omega) (by rw [HL4.out]; omega)
                      have HMP := fun w4 (b : Below w8.heap.size w8 w4) => memPeek _ _ tb ps 0 (16 * p) w4 (P8.out.twin.kept b).mem (by rw [HL4.out]; omega) (by rw [HL4.out]; omega)
                      rw [sub_is tb 0 (16 * p) (by rw [HL4.out]; omega)] at HRP
                      rw [HL4.out] at HRP
                      have hsb : sub tb 0 (16 * p) = tb := by rw [← HL4.out]; exact peek_all
                      have hc16 : ((16 * p : Nat) : Int) = 16 * (p : Int) := by omega
                      rw [hsb, hc16] at HRP HMP
                      replace HRP := Lib.hid HRP
                      replace HMP := Lib.hid HMP
                      have HS := Lib.hid (fun w1 a b ca cb h1 h2 => refSame a b ca cb tb w1 (16 * p) HL4.out (by omega) h1 h2)
                      clear hsb hc16
                      go_wp2_with fail
                      refine (HRP.out trivial).mono ?_
                      rintro e w9 ⟨v1, rfl, hv⟩
                      obtain ⟨a9, cap9, rfl, hh1⟩ := hv.holds
                      rw [HL4.out]
                      have B9 := Lib.hid hv.2
                      have H9 := Lib.hid hh1
                      clear hh1 hv
                      go_wp2_with fail
                      refine (HMP.out _ (by exact B9.out)).mono ?_
                      rintro e w10 ⟨v2, rfl, hv⟩
                      obtain ⟨a10, cap10, rfl, hh2⟩ := hv.holds
                      rw [HL4.out]
                      have B10 := Lib.hid hv.2
                      have H10 := Lib.hid hh2
                      clear hh2 hv
                      go_wp2_with fail
                      refine (HS.out _ _ _ _ _ (by exact H10.out) (by exact H9.out.below B10.out)).mono ?_
                      rintro e w11 ⟨rfl, b11⟩
                      have B11 := Lib.hid (B9.out.trans ((B10.out.trans (b11.mono B10.out.size)).mono B9.out.size))
                      clear b11
                      go_wp2_with fail
                      go_roundw
                      case rel => exact ⟨j + 1, R', c', tb, ps, ⟨ov, ws, pg, tr, xs⟩, a', cap', by omega, by omega, by go_num, rfl, Lib.hid (P8.out.kept B11.out), HL4, Lib.hid (G8.out.trans (B11.out.mono G8.out.size)), Lib.hid ⟨HT4.1, by have := HT4.2; dsimp only; omega⟩⟩
                      case measure => simp only [intOf]; omega
                    exact AllReadyH.nil
                  exact AllReadyH.nil

            · by_cases hlt2 : j < len6
              all_goals
                first
                  | (have dA : decide ((j : Int) < 30) = false := decide_eq_false (by omega))
                  | (have dA : decide (j < len6) = false := decide_eq_false hlt2)
                go_wp2_with fail
                refine (knownCopy _).mono ?_
                rintro e w5 ⟨rfl, b5⟩
                have G5 := Lib.hid (HB.out.trans (b5.mono HB.out.size))
                clear b5
                go_wp2_with fail
                go_ret
                exact ⟨rfl, G5.out⟩

end Go.Proofs.Ytpdchgcpcnaklaa
