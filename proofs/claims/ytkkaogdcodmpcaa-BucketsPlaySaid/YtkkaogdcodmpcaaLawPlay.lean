/- The law BucketsPlay, walked. -/
import Derived.Test.YtkkaogdcodmpcaaPly
namespace Go.Proofs.Ytkkaogdcodmpcaa
open Go.RowKit
set_option linter.unusedVariables false

set_option maxRecDepth 100000 in
set_option maxHeartbeats 4000000 in
theorem play_bad (n r : Int) (a : Option Addr) (len cap : Nat) (w : World) (h : n < 1 ∨ 64 < n ∨ r < 1 ∨ 64 < r) :
    Calls Try.prog 4 #[.int .i64 n, .int .i64 r, .slice a len cap] w fun e w' => e = .returned (.bool true) ∧ Below w.heap.size w w' := by
  have HN := Lib.hid (InewBad n r w h)
  have hc : (decide (n < 1) = true) ∨ (decide (n < 1) = false ∧ decide (64 < n) = true) ∨ (decide (n < 1) = false ∧ decide (64 < n) = false ∧ decide (r < 1) = true) ∨ (decide (n < 1) = false ∧ decide (64 < n) = false ∧ decide (r < 1) = false ∧ decide (64 < r) = true) := by
    simp only [decide_eq_true_eq, decide_eq_false_iff_not]
    omega
  rcases hc with d1 | ⟨d1, d2⟩ | ⟨d1, d2, d3⟩ | ⟨d1, d2, d3, d4⟩
  all_goals
    clear h
    go_enter Try.func4, Try.ntmps4
    go_wp2_with fail
    refine HN.out.mono ?_
    rintro e w' ⟨rfl, rfl⟩
    go_wp2_with fail
    refine (known w).mono ?_
    rintro e w1 ⟨rfl, b1⟩
    have B1 := Lib.hid b1
    clear b1
    go_wp2_with fail
    go_ret
    exact ⟨rfl, B1.out⟩
set_option maxRecDepth 100000 in
set_option maxHeartbeats 16000000 in
theorem play_good (nb room : Nat) (a : Option Addr) (len cap : Nat) (x : Nat → BA) (w : World) (q1 : 1 ≤ nb) (q2 : nb ≤ 64) (r1 : 1 ≤ room) (r2 : room ≤ 64) (k63 : len ≤ 9223372036854775807) (hx : ActsAt w a len x) :
    Calls Try.prog 4 #[.int .i64 nb, .int .i64 room, .slice a len cap] w fun e w' => e = .returned (.bool true) ∧ Below w.heap.size w w' := by
  have HN := Inew nb room w (by omega) (by omega) (by omega) (by omega)
  rw [Int.toNat_natCast, Int.toNat_natCast] at HN
  replace HN := Lib.hid HN
  have HX := Lib.hid hx
  have d1 : decide ((nb : Int) < 1) = false := decide_eq_false (by omega)
  have d2 : decide ((64 : Int) < nb) = false := decide_eq_false (by omega)
  have d3 : decide ((room : Int) < 1) = false := decide_eq_false (by omega)
  have d4 : decide ((64 : Int) < room) = false := decide_eq_false (by omega)
  clear hx
  go_enter Try.func4, Try.ntmps4
  go_wp2_with fail
  refine HN.out.mono ?_
  rintro e w1 ⟨T, G, ch0, rfl, b1, t1, m1⟩
  have B1 := Lib.hid b1
  have T1 := Lib.hid t1
  have M1 := Lib.hid m1
  clear b1 t1 m1
  go_wp2_with fail
  go_loopw [9, 10] (fun s i wr => ∃ (j : Nat) (v : Value) (mj : MI) (ch : Nat → Value), j ≤ len ∧ j ≤ 100 ∧ i = .int .i64 j ∧ s = v ∧ Hid (RL wr v mj) ∧ Hid (Tab (Value.int .i64) 80 82 83 wr T G nb room mj ch) ∧ Hid (Off T G nb ch v) ∧ Hid (∀ k, Mine T G nb ch k → w.heap.size ≤ k) ∧ Hid (Below w.heap.size w wr)) (fun _ i _ => len - (intOf i).toNat)
  case atStart => exact ⟨0, _, [], ch0, by omega, by omega, rfl, rfl, Lib.hid (World.ownsRow_nil _ _ _ _), T1, Lib.hid (fun g e => by simp [Value.ownBlock] at e), M1, B1⟩
  case round =>
    obtain ⟨j, v0, mj, ch, hj, hj1, rfl, rfl, HR, HT, HO, HM, HB⟩ := hrel
    clear T1 M1 B1
    obtain ⟨av, cv, rfl⟩ := HR.out.len
    have hm64 : mj.length ≤ 64 := Nat.le_trans HT.out.cnt HT.out.rm
    by_cases hlt : j < len ∧ j < 100
    · obtain ⟨hlt, hlt2⟩ := hlt
      obtain ⟨bk, off, rfl, hbk, hcs⟩ := HX.out (by omega)
      obtain ⟨c0, c1, c2⟩ := hcs j hlt
      have e0 := (HB.out.cell (p := ⟨bk, off + j * 3, none⟩) hbk).trans c0
      have e1 := (HB.out.cell (p := ⟨bk, off + j * 3 + 1, none⟩) hbk).trans c1
      have e2 := (HB.out.cell (p := ⟨bk, off + j * 3 + 2, none⟩) hbk).trans c2
      clear hcs c0 c1 c2
      generalize x j = y at *
      obtain ⟨kd, k, v⟩ := y
      dsimp only at e0 e1 e2
      have hz := dm_u64 kd
      have hr : IntKind.u64.wrap kd % 4 = 0 ∨ IntKind.u64.wrap kd % 4 = 1 ∨ IntKind.u64.wrap kd % 4 = 2 ∨ IntKind.u64.wrap kd % 4 = 3 := by omega
      generalize hzz : IntKind.u64.wrap kd = z at *
      have hr2 : (z % 4 == 0) = true ∨ ((z % 4 == 0) = false ∧ (z % 4 == 1) = true) ∨ ((z % 4 == 0) = false ∧ (z % 4 == 1) = false ∧ (z % 4 == 2) = true) ∨ ((z % 4 == 0) = false ∧ (z % 4 == 1) = false ∧ (z % 4 == 2) = false) := by
        rcases hr with h | h | h | h <;> rw [h] <;> decide
      clear hr
      rcases hr2 with f0 | ⟨f0, f1⟩ | ⟨f0, f1, f2⟩ | ⟨f0, f1, f2⟩
      · go_wp2_with fail
        refine (refPut mj k v room _ _ (HR.out.below (below_alloc _ _)) hm64 (by omega) HT.out.nd).mono ?_
        rintro e w1 ⟨v1, rfl, r1, b1, o1⟩
        have HR1 := Lib.hid r1
        have b0 := (below_alloc wr _).trans (b1.mono (by simp))
        have HO1 := Lib.hid (show Off T G nb ch v1 from fun g e hk => by
          rcases o1 with rfl | o1
          · exact HO.out g e hk
          · have h1 := o1 g e
            have h2 := HT.out.ownlt hk
            simp at h1
            omega)
        have HT1 := Lib.hid (HT.out.kept b0)
        have HBW := Lib.hid (HB.out.trans (b0.mono HB.out.size))
        have hbx := (b1.block wr.heap.size (by simp)).trans (heap_alloc_new wr _)
        have kk : w1.cell? ⟨wr.heap.size, 1, none⟩ = some (.int .u64 k) := by simp [World.cell?, hbx]
        have kv : w1.cell? ⟨wr.heap.size, 2, none⟩ = some (.int .i64 v) := by simp [World.cell?, hbx]
        have hltw : wr.heap.size < w1.heap.size := (Array.getElem?_eq_some_iff.1 hbx).1
        clear r1 b1 b0 o1 hbx
        have HPA := Lib.hid (IputAny T G nb room k v mj ch w1 HT1.out)
        generalize rput mj k v room = t at *
        obtain ⟨m2, was, err⟩ := t
        dsimp only at HR1 HPA ⊢
        go_wp2_with fail
        refine HPA.out.mono ?_
        rintro e wX ⟨ch2, rfl, t2, s2⟩
        have HT2 := Lib.hid t2
        have s3 := Lib.hid (HR1.out.step HO1.out s2)
        have HR2 := Lib.hid s3.out.1
        have HO2 := Lib.hid s3.out.2
        have q3 := s2.below HM.out HBW.out.size
        have HB2 := Lib.hid (HBW.out.trans q3.1)
        have HM2 := Lib.hid q3.2
        have ka := (World.cell?_of_block (a := ⟨wr.heap.size, 1, none⟩) (s2.chg.block wr.heap.size (by omega) (fun hk => Nat.lt_irrefl _ (HT.out.ownlt hk)))).trans kk
        clear kk kv t2 s2 s3 q3
        dsimp only
        obtain ⟨a2, cap2, hv2⟩ := HR2.out.len
        subst hv2
        have hm2 : (m2).length ≤ 64 := Nat.le_trans HT2.out.cnt HT2.out.rm
        have hks : (allKeys (m2) nb nb).length ≤ 8192 := Nat.le_trans (allKeys_bd (m2) nb nb (fun b => Nat.le_trans (chn_len _ nb b) hm2)) (by omega)
        have hbl := bkt_lt k nb q1
        have hch : ((chn (m2) nb (bkt k nb)).map (·.1)).length ≤ 8192 := by rw [List.length_map]; exact Nat.le_trans (Nat.le_trans (chn_len _ _ _) hm2) (by omega)
        have HKS := Lib.hid hks
        have HCH := Lib.hid hch
        clear hks hch
        go_wp2_with fail
        refine (Ibucket T G nb room k _ _ wX HT2.out).mono ?_
        rintro e w' ⟨rfl, rfl⟩
        go_wp2_with fail
        refine (refBucket k nb wX q1 q2).mono ?_
        rintro e w' ⟨rfl, rfl⟩
        go_wp2_with fail
        refine (Ilen T G nb room _ _ wX HT2.out).mono ?_
        rintro e w' ⟨rfl, rfl⟩
        clear ka
        go_wp2_with fail
        refine (Ikeys T G nb room _ _ wX HT2.out).mono ?_
        rintro e y1 ⟨u1, rfl, hu1, c1⟩
        have C1 := Lib.hid c1
        have U1 := Lib.hid hu1
        clear c1 hu1
        go_wp2_with fail
        refine (refKeys _ _ nb y1 (HR2.out.below C1.out) hm2 q1 q2).mono ?_
        rintro e y2 ⟨u2, rfl, hu2, c2⟩
        have U1' := Lib.hid (U1.out.kept c2.grownNone (own_ne_none _))
        have C2 := Lib.hid (C1.out.trans (c2.mono C1.out.size))
        have U2 := Lib.hid hu2
        clear c2 hu2 U1
        go_wp2_with fail
        refine (refSame _ _ _ _ _ y2 U1'.out U2.out HKS.out).mono ?_
        rintro e y3 ⟨rfl, c3⟩
        have C3 := Lib.hid (C2.out.trans (c3.mono C2.out.size))
        clear c3 U1' U2
        go_wp2_with fail
        refine (Ichain T G nb room (bkt k nb) _ _ y3 (HT2.out.kept C3.out) hbl).mono ?_
        rintro e y4 ⟨u3, rfl, hu3, c4⟩
        have C4 := Lib.hid (C3.out.trans (c4.mono C3.out.size))
        have U3 := Lib.hid hu3
        clear c4 hu3
        go_wp2_with fail
        refine (refChain _ _ (bkt k nb) nb y4 (HR2.out.below C4.out) hm2 q1 q2 hbl).mono ?_
        rintro e y5 ⟨u4, rfl, hu4, c5⟩
        have U3' := Lib.hid (U3.out.kept c5.grownNone (own_ne_none _))
        have C5 := Lib.hid (C4.out.trans (c5.mono C4.out.size))
        have U4 := Lib.hid hu4
        clear c5 hu4 U3
        go_wp2_with fail
        refine (refSame _ _ _ _ _ y5 U3'.out U4.out HCH.out).mono ?_
        rintro e y6 ⟨rfl, c6⟩
        have C6 := Lib.hid (C5.out.trans (c6.mono C5.out.size))
        clear c6 U3' U4
        go_wp2_with fail
        refine (IchainNo T G nb room nb _ _ y6 (HT2.out.kept C6.out) (.inr (Int.le_refl _))).mono ?_
        rintro e y7 ⟨u5, rfl, hu5, c7⟩
        obtain ⟨a5, cp5, rfl⟩ := words_len hu5
        have C7 := Lib.hid (C6.out.trans (c7.mono C6.out.size))
        clear c7 hu5
        go_wp2_with fail
        refine (IchainNo T G nb room (-1) _ _ y7 (HT2.out.kept C7.out) (.inl (by decide))).mono ?_
        rintro e y8 ⟨u6, rfl, hu6, c8⟩
        obtain ⟨a6, cp6, rfl⟩ := words_len hu6
        have C8 := Lib.hid (C7.out.trans (c8.mono C7.out.size))
        clear c8 hu6
        go_wp2_with fail
        go_roundw
        case rel => exact ⟨j + 1, _, _, _, by omega, by omega, by go_num, rfl, Lib.hid (HR2.out.below C8.out), Lib.hid (HT2.out.kept C8.out), HO2, HM2, Lib.hid (HB2.out.trans (C8.out.mono HB2.out.size))⟩
        case measure => simp only [intOf]; omega
      · go_wp2_with fail
        refine (refPut mj k v room _ _ (HR.out.below (below_alloc _ _)) hm64 (by omega) HT.out.nd).mono ?_
        rintro e w1 ⟨v1, rfl, r1, b1, o1⟩
        have HR1 := Lib.hid r1
        have b0 := (below_alloc wr _).trans (b1.mono (by simp))
        have HO1 := Lib.hid (show Off T G nb ch v1 from fun g e hk => by
          rcases o1 with rfl | o1
          · exact HO.out g e hk
          · have h1 := o1 g e
            have h2 := HT.out.ownlt hk
            simp at h1
            omega)
        have HT1 := Lib.hid (HT.out.kept b0)
        have HBW := Lib.hid (HB.out.trans (b0.mono HB.out.size))
        have hbx := (b1.block wr.heap.size (by simp)).trans (heap_alloc_new wr _)
        have kk : w1.cell? ⟨wr.heap.size, 1, none⟩ = some (.int .u64 k) := by simp [World.cell?, hbx]
        have kv : w1.cell? ⟨wr.heap.size, 2, none⟩ = some (.int .i64 v) := by simp [World.cell?, hbx]
        have hltw : wr.heap.size < w1.heap.size := (Array.getElem?_eq_some_iff.1 hbx).1
        clear r1 b1 b0 o1 hbx
        have HPA := Lib.hid (IputAny T G nb room k v mj ch w1 HT1.out)
        generalize rput mj k v room = t at *
        obtain ⟨m2, was, err⟩ := t
        dsimp only at HR1 HPA ⊢
        go_wp2_with fail
        refine HPA.out.mono ?_
        rintro e wX ⟨ch2, rfl, t2, s2⟩
        have HT2 := Lib.hid t2
        have s3 := Lib.hid (HR1.out.step HO1.out s2)
        have HR2 := Lib.hid s3.out.1
        have HO2 := Lib.hid s3.out.2
        have q3 := s2.below HM.out HBW.out.size
        have HB2 := Lib.hid (HBW.out.trans q3.1)
        have HM2 := Lib.hid q3.2
        have ka := (World.cell?_of_block (a := ⟨wr.heap.size, 1, none⟩) (s2.chg.block wr.heap.size (by omega) (fun hk => Nat.lt_irrefl _ (HT.out.ownlt hk)))).trans kk
        clear kk kv t2 s2 s3 q3
        dsimp only
        obtain ⟨a2, cap2, hv2⟩ := HR2.out.len
        subst hv2
        have hm2 : (m2).length ≤ 64 := Nat.le_trans HT2.out.cnt HT2.out.rm
        have hks : (allKeys (m2) nb nb).length ≤ 8192 := Nat.le_trans (allKeys_bd (m2) nb nb (fun b => Nat.le_trans (chn_len _ nb b) hm2)) (by omega)
        have hbl := bkt_lt k nb q1
        have hch : ((chn (m2) nb (bkt k nb)).map (·.1)).length ≤ 8192 := by rw [List.length_map]; exact Nat.le_trans (Nat.le_trans (chn_len _ _ _) hm2) (by omega)
        have HKS := Lib.hid hks
        have HCH := Lib.hid hch
        clear hks hch
        go_wp2_with fail
        refine (Ibucket T G nb room k _ _ wX HT2.out).mono ?_
        rintro e w' ⟨rfl, rfl⟩
        go_wp2_with fail
        refine (refBucket k nb wX q1 q2).mono ?_
        rintro e w' ⟨rfl, rfl⟩
        go_wp2_with fail
        refine (Ilen T G nb room _ _ wX HT2.out).mono ?_
        rintro e w' ⟨rfl, rfl⟩
        clear ka
        go_wp2_with fail
        refine (Ikeys T G nb room _ _ wX HT2.out).mono ?_
        rintro e y1 ⟨u1, rfl, hu1, c1⟩
        have C1 := Lib.hid c1
        have U1 := Lib.hid hu1
        clear c1 hu1
        go_wp2_with fail
        refine (refKeys _ _ nb y1 (HR2.out.below C1.out) hm2 q1 q2).mono ?_
        rintro e y2 ⟨u2, rfl, hu2, c2⟩
        have U1' := Lib.hid (U1.out.kept c2.grownNone (own_ne_none _))
        have C2 := Lib.hid (C1.out.trans (c2.mono C1.out.size))
        have U2 := Lib.hid hu2
        clear c2 hu2 U1
        go_wp2_with fail
        refine (refSame _ _ _ _ _ y2 U1'.out U2.out HKS.out).mono ?_
        rintro e y3 ⟨rfl, c3⟩
        have C3 := Lib.hid (C2.out.trans (c3.mono C2.out.size))
        clear c3 U1' U2
        go_wp2_with fail
        refine (Ichain T G nb room (bkt k nb) _ _ y3 (HT2.out.kept C3.out) hbl).mono ?_
        rintro e y4 ⟨u3, rfl, hu3, c4⟩
        have C4 := Lib.hid (C3.out.trans (c4.mono C3.out.size))
        have U3 := Lib.hid hu3
        clear c4 hu3
        go_wp2_with fail
        refine (refChain _ _ (bkt k nb) nb y4 (HR2.out.below C4.out) hm2 q1 q2 hbl).mono ?_
        rintro e y5 ⟨u4, rfl, hu4, c5⟩
        have U3' := Lib.hid (U3.out.kept c5.grownNone (own_ne_none _))
        have C5 := Lib.hid (C4.out.trans (c5.mono C4.out.size))
        have U4 := Lib.hid hu4
        clear c5 hu4 U3
        go_wp2_with fail
        refine (refSame _ _ _ _ _ y5 U3'.out U4.out HCH.out).mono ?_
        rintro e y6 ⟨rfl, c6⟩
        have C6 := Lib.hid (C5.out.trans (c6.mono C5.out.size))
        clear c6 U3' U4
        go_wp2_with fail
        refine (IchainNo T G nb room nb _ _ y6 (HT2.out.kept C6.out) (.inr (Int.le_refl _))).mono ?_
        rintro e y7 ⟨u5, rfl, hu5, c7⟩
        obtain ⟨a5, cp5, rfl⟩ := words_len hu5
        have C7 := Lib.hid (C6.out.trans (c7.mono C6.out.size))
        clear c7 hu5
        go_wp2_with fail
        refine (IchainNo T G nb room (-1) _ _ y7 (HT2.out.kept C7.out) (.inl (by decide))).mono ?_
        rintro e y8 ⟨u6, rfl, hu6, c8⟩
        obtain ⟨a6, cp6, rfl⟩ := words_len hu6
        have C8 := Lib.hid (C7.out.trans (c8.mono C7.out.size))
        clear c8 hu6
        go_wp2_with fail
        go_roundw
        case rel => exact ⟨j + 1, _, _, _, by omega, by omega, by go_num, rfl, Lib.hid (HR2.out.below C8.out), Lib.hid (HT2.out.kept C8.out), HO2, HM2, Lib.hid (HB2.out.trans (C8.out.mono HB2.out.size))⟩
        case measure => simp only [intOf]; omega
      · by_cases hk : has mj k
        · obtain ⟨u, hu⟩ := hk
          have hmp : 1 ≤ mj.length := List.length_pos_of_mem hu
          have HDL := Lib.hid (show ((mj.length : Int) - (del mj k).length) = 1 from by rw [del_len HT.out.nd hu]; omega)
          go_wp2_with fail
          refine (refDelYes mj k u _ _ (HR.out.below (below_alloc _ _)) hm64 hu HT.out.nd).mono ?_
          rintro e w1 ⟨v1, rfl, r1, b1, o1⟩
          have HR1' := Lib.hid r1
          have b0 := (below_alloc wr _).trans (b1.mono (by simp))
          have HO1 := Lib.hid (show Off T G nb ch v1 from fun g e hk => by
            rcases o1 with rfl | o1
            · exact HO.out g e hk
            · have h1 := o1 g e
              have h2 := HT.out.ownlt hk
              simp at h1
              omega)
          have HT1 := Lib.hid (HT.out.kept b0)
          have HBW0 := Lib.hid (HB.out.trans (b0.mono HB.out.size))
          have hbx := (b1.block wr.heap.size (by simp)).trans (heap_alloc_new wr _)
          have kk0 : w1.cell? ⟨wr.heap.size, 1, none⟩ = some (.int .u64 k) := by simp [World.cell?, hbx]
          have hltw : wr.heap.size < w1.heap.size := (Array.getElem?_eq_some_iff.1 hbx).1
          clear r1 b1 b0 o1 hbx
          go_wp2_with fail
          refine (Idel T G nb room [k, k] w1.heap.size 0 2 mj ch _ (HT1.out.kept (below_alloc _ _)) ?_ (by simp) (by simp) (fun hk => ?_)).mono ?_
          · intro j x hx
            have h := World.news_of_block (w := w1.alloc (.cells #[.int .u64 k, .int .u64 k] 29)) (heap_alloc_new w1 _) j (.int .u64 x) (by
              match j, hx with
              | 0, hx => simp at hx; subst hx; rfl
              | 1, hx => simp at hx; subst hx; rfl)
            rw [add_is] at h
            exact h
          · have := HT1.out.ownlt hk
            omega
          rintro e wX ⟨ch2, rfl, t2, s2⟩
          rw [del_twice] at t2 ⊢
          rw [HDL.out]
          have HT2 := Lib.hid t2
          have HR1 := Lib.hid (HR1'.out.below (below_alloc w1 (.cells #[.int .u64 k, .int .u64 k] 29)))
          have HBW := Lib.hid (HBW0.out.alloc HBW0.out.size (.cells #[.int .u64 k, .int .u64 k] 29))
          have kk : (w1.alloc (.cells #[.int .u64 k, .int .u64 k] 29)).cell? ⟨wr.heap.size, 1, none⟩ = some (.int .u64 k) := ((below_alloc w1 _).cell (p := ⟨wr.heap.size, 1, none⟩) hltw).trans kk0
          have s3 := Lib.hid (HR1.out.step HO1.out s2)
          have HR2 := Lib.hid s3.out.1
          have HO2 := Lib.hid s3.out.2
          have q3 := s2.below HM.out HBW.out.size
          have HB2 := Lib.hid (HBW.out.trans q3.1)
          have HM2 := Lib.hid q3.2
          have ka := (World.cell?_of_block (a := ⟨wr.heap.size, 1, none⟩) (s2.chg.block wr.heap.size (by simp; omega) (fun hk => Nat.lt_irrefl _ (HT.out.ownlt hk)))).trans kk
          clear kk kk0 t2 s2 s3 q3 hu
          obtain ⟨a2, cap2, hv2⟩ := HR2.out.len
          subst hv2
          have hm2 : (del mj k).length ≤ 64 := Nat.le_trans HT2.out.cnt HT2.out.rm
          have hks : (allKeys (del mj k) nb nb).length ≤ 8192 := Nat.le_trans (allKeys_bd (del mj k) nb nb (fun b => Nat.le_trans (chn_len _ nb b) hm2)) (by omega)
          have hbl := bkt_lt k nb q1
          have hch : ((chn (del mj k) nb (bkt k nb)).map (·.1)).length ≤ 8192 := by rw [List.length_map]; exact Nat.le_trans (Nat.le_trans (chn_len _ _ _) hm2) (by omega)
          have HKS := Lib.hid hks
          have HCH := Lib.hid hch
          clear hks hch
          go_wp2_with fail
          refine (Ibucket T G nb room k _ _ wX HT2.out).mono ?_
          rintro e w' ⟨rfl, rfl⟩
          go_wp2_with fail
          refine (refBucket k nb wX q1 q2).mono ?_
          rintro e w' ⟨rfl, rfl⟩
          go_wp2_with fail
          refine (Ilen T G nb room _ _ wX HT2.out).mono ?_
          rintro e w' ⟨rfl, rfl⟩
          clear ka
          go_wp2_with fail
          refine (Ikeys T G nb room _ _ wX HT2.out).mono ?_
          rintro e y1 ⟨u1, rfl, hu1, c1⟩
          have C1 := Lib.hid c1
          have U1 := Lib.hid hu1
          clear c1 hu1
          go_wp2_with fail
          refine (refKeys _ _ nb y1 (HR2.out.below C1.out) hm2 q1 q2).mono ?_
          rintro e y2 ⟨u2, rfl, hu2, c2⟩
          have U1' := Lib.hid (U1.out.kept c2.grownNone (own_ne_none _))
          have C2 := Lib.hid (C1.out.trans (c2.mono C1.out.size))
          have U2 := Lib.hid hu2
          clear c2 hu2 U1
          go_wp2_with fail
          refine (refSame _ _ _ _ _ y2 U1'.out U2.out HKS.out).mono ?_
          rintro e y3 ⟨rfl, c3⟩
          have C3 := Lib.hid (C2.out.trans (c3.mono C2.out.size))
          clear c3 U1' U2
          go_wp2_with fail
          refine (Ichain T G nb room (bkt k nb) _ _ y3 (HT2.out.kept C3.out) hbl).mono ?_
          rintro e y4 ⟨u3, rfl, hu3, c4⟩
          have C4 := Lib.hid (C3.out.trans (c4.mono C3.out.size))
          have U3 := Lib.hid hu3
          clear c4 hu3
          go_wp2_with fail
          refine (refChain _ _ (bkt k nb) nb y4 (HR2.out.below C4.out) hm2 q1 q2 hbl).mono ?_
          rintro e y5 ⟨u4, rfl, hu4, c5⟩
          have U3' := Lib.hid (U3.out.kept c5.grownNone (own_ne_none _))
          have C5 := Lib.hid (C4.out.trans (c5.mono C4.out.size))
          have U4 := Lib.hid hu4
          clear c5 hu4 U3
          go_wp2_with fail
          refine (refSame _ _ _ _ _ y5 U3'.out U4.out HCH.out).mono ?_
          rintro e y6 ⟨rfl, c6⟩
          have C6 := Lib.hid (C5.out.trans (c6.mono C5.out.size))
          clear c6 U3' U4
          go_wp2_with fail
          refine (IchainNo T G nb room nb _ _ y6 (HT2.out.kept C6.out) (.inr (Int.le_refl _))).mono ?_
          rintro e y7 ⟨u5, rfl, hu5, c7⟩
          obtain ⟨a5, cp5, rfl⟩ := words_len hu5
          have C7 := Lib.hid (C6.out.trans (c7.mono C6.out.size))
          clear c7 hu5
          go_wp2_with fail
          refine (IchainNo T G nb room (-1) _ _ y7 (HT2.out.kept C7.out) (.inl (by decide))).mono ?_
          rintro e y8 ⟨u6, rfl, hu6, c8⟩
          obtain ⟨a6, cp6, rfl⟩ := words_len hu6
          have C8 := Lib.hid (C7.out.trans (c8.mono C7.out.size))
          clear c8 hu6
          go_wp2_with fail
          go_roundw
          case rel => exact ⟨j + 1, _, _, _, by omega, by omega, by go_num, rfl, Lib.hid (HR2.out.below C8.out), Lib.hid (HT2.out.kept C8.out), HO2, HM2, Lib.hid (HB2.out.trans (C8.out.mono HB2.out.size))⟩
          case measure => simp only [intOf]; omega
        · have HDN := Lib.hid (del_no hk)
          have HDL := Lib.hid (show ((mj.length : Int) - (del mj k).length) = 0 from by rw [del_no hk]; omega)
          go_wp2_with fail
          refine (refDelNo mj k _ _ (HR.out.below (below_alloc _ _)) hm64 hk).mono ?_
          rintro e w1 ⟨v1, rfl, r1, b1, o1⟩
          have HR1' := Lib.hid r1
          have b0 := (below_alloc wr _).trans (b1.mono (by simp))
          have HO1 := Lib.hid (show Off T G nb ch v1 from fun g e hk => by
            rcases o1 with rfl | o1
            · exact HO.out g e hk
            · have h1 := o1 g e
              have h2 := HT.out.ownlt hk
              simp at h1
              omega)
          have HT1 := Lib.hid (HT.out.kept b0)
          have HBW0 := Lib.hid (HB.out.trans (b0.mono HB.out.size))
          have hbx := (b1.block wr.heap.size (by simp)).trans (heap_alloc_new wr _)
          have kk0 : w1.cell? ⟨wr.heap.size, 1, none⟩ = some (.int .u64 k) := by simp [World.cell?, hbx]
          have hltw : wr.heap.size < w1.heap.size := (Array.getElem?_eq_some_iff.1 hbx).1
          clear r1 b1 b0 o1 hbx
          go_wp2_with fail
          refine (Idel T G nb room [k, k] w1.heap.size 0 2 mj ch _ (HT1.out.kept (below_alloc _ _)) ?_ (by simp) (by simp) (fun hk => ?_)).mono ?_
          · intro j x hx
            have h := World.news_of_block (w := w1.alloc (.cells #[.int .u64 k, .int .u64 k] 29)) (heap_alloc_new w1 _) j (.int .u64 x) (by
              match j, hx with
              | 0, hx => simp at hx; subst hx; rfl
              | 1, hx => simp at hx; subst hx; rfl)
            rw [add_is] at h
            exact h
          · have := HT1.out.ownlt hk
            omega
          rintro e wX ⟨ch2, rfl, t2, s2⟩
          rw [del_twice] at t2 ⊢
          rw [HDL.out]
          rw [HDN.out] at t2
          have HT2 := Lib.hid t2
          have HR1 := Lib.hid (HR1'.out.below (below_alloc w1 (.cells #[.int .u64 k, .int .u64 k] 29)))
          have HBW := Lib.hid (HBW0.out.alloc HBW0.out.size (.cells #[.int .u64 k, .int .u64 k] 29))
          have kk : (w1.alloc (.cells #[.int .u64 k, .int .u64 k] 29)).cell? ⟨wr.heap.size, 1, none⟩ = some (.int .u64 k) := ((below_alloc w1 _).cell (p := ⟨wr.heap.size, 1, none⟩) hltw).trans kk0
          have s3 := Lib.hid (HR1.out.step HO1.out s2)
          have HR2 := Lib.hid s3.out.1
          have HO2 := Lib.hid s3.out.2
          have q3 := s2.below HM.out HBW.out.size
          have HB2 := Lib.hid (HBW.out.trans q3.1)
          have HM2 := Lib.hid q3.2
          have ka := (World.cell?_of_block (a := ⟨wr.heap.size, 1, none⟩) (s2.chg.block wr.heap.size (by simp; omega) (fun hk => Nat.lt_irrefl _ (HT.out.ownlt hk)))).trans kk
          clear kk kk0 t2 s2 s3 q3 hk
          obtain ⟨a2, cap2, hv2⟩ := HR2.out.len
          subst hv2
          have hm2 : (mj).length ≤ 64 := Nat.le_trans HT2.out.cnt HT2.out.rm
          have hks : (allKeys (mj) nb nb).length ≤ 8192 := Nat.le_trans (allKeys_bd (mj) nb nb (fun b => Nat.le_trans (chn_len _ nb b) hm2)) (by omega)
          have hbl := bkt_lt k nb q1
          have hch : ((chn (mj) nb (bkt k nb)).map (·.1)).length ≤ 8192 := by rw [List.length_map]; exact Nat.le_trans (Nat.le_trans (chn_len _ _ _) hm2) (by omega)
          have HKS := Lib.hid hks
          have HCH := Lib.hid hch
          clear hks hch
          go_wp2_with fail
          refine (Ibucket T G nb room k _ _ wX HT2.out).mono ?_
          rintro e w' ⟨rfl, rfl⟩
          go_wp2_with fail
          refine (refBucket k nb wX q1 q2).mono ?_
          rintro e w' ⟨rfl, rfl⟩
          go_wp2_with fail
          refine (Ilen T G nb room _ _ wX HT2.out).mono ?_
          rintro e w' ⟨rfl, rfl⟩
          clear ka
          go_wp2_with fail
          refine (Ikeys T G nb room _ _ wX HT2.out).mono ?_
          rintro e y1 ⟨u1, rfl, hu1, c1⟩
          have C1 := Lib.hid c1
          have U1 := Lib.hid hu1
          clear c1 hu1
          go_wp2_with fail
          refine (refKeys _ _ nb y1 (HR2.out.below C1.out) hm2 q1 q2).mono ?_
          rintro e y2 ⟨u2, rfl, hu2, c2⟩
          have U1' := Lib.hid (U1.out.kept c2.grownNone (own_ne_none _))
          have C2 := Lib.hid (C1.out.trans (c2.mono C1.out.size))
          have U2 := Lib.hid hu2
          clear c2 hu2 U1
          go_wp2_with fail
          refine (refSame _ _ _ _ _ y2 U1'.out U2.out HKS.out).mono ?_
          rintro e y3 ⟨rfl, c3⟩
          have C3 := Lib.hid (C2.out.trans (c3.mono C2.out.size))
          clear c3 U1' U2
          go_wp2_with fail
          refine (Ichain T G nb room (bkt k nb) _ _ y3 (HT2.out.kept C3.out) hbl).mono ?_
          rintro e y4 ⟨u3, rfl, hu3, c4⟩
          have C4 := Lib.hid (C3.out.trans (c4.mono C3.out.size))
          have U3 := Lib.hid hu3
          clear c4 hu3
          go_wp2_with fail
          refine (refChain _ _ (bkt k nb) nb y4 (HR2.out.below C4.out) hm2 q1 q2 hbl).mono ?_
          rintro e y5 ⟨u4, rfl, hu4, c5⟩
          have U3' := Lib.hid (U3.out.kept c5.grownNone (own_ne_none _))
          have C5 := Lib.hid (C4.out.trans (c5.mono C4.out.size))
          have U4 := Lib.hid hu4
          clear c5 hu4 U3
          go_wp2_with fail
          refine (refSame _ _ _ _ _ y5 U3'.out U4.out HCH.out).mono ?_
          rintro e y6 ⟨rfl, c6⟩
          have C6 := Lib.hid (C5.out.trans (c6.mono C5.out.size))
          clear c6 U3' U4
          go_wp2_with fail
          refine (IchainNo T G nb room nb _ _ y6 (HT2.out.kept C6.out) (.inr (Int.le_refl _))).mono ?_
          rintro e y7 ⟨u5, rfl, hu5, c7⟩
          obtain ⟨a5, cp5, rfl⟩ := words_len hu5
          have C7 := Lib.hid (C6.out.trans (c7.mono C6.out.size))
          clear c7 hu5
          go_wp2_with fail
          refine (IchainNo T G nb room (-1) _ _ y7 (HT2.out.kept C7.out) (.inl (by decide))).mono ?_
          rintro e y8 ⟨u6, rfl, hu6, c8⟩
          obtain ⟨a6, cp6, rfl⟩ := words_len hu6
          have C8 := Lib.hid (C7.out.trans (c8.mono C7.out.size))
          clear c8 hu6
          go_wp2_with fail
          go_roundw
          case rel => exact ⟨j + 1, _, _, _, by omega, by omega, by go_num, rfl, Lib.hid (HR2.out.below C8.out), Lib.hid (HT2.out.kept C8.out), HO2, HM2, Lib.hid (HB2.out.trans (C8.out.mono HB2.out.size))⟩
          case measure => simp only [intOf]; omega
      · by_cases hk : has mj k
        · obtain ⟨u, hu⟩ := hk
          rcases ridx_spec mj k with ⟨_, h2⟩ | ⟨i, u', h1, h2, h3, _⟩
          · exact absurd ⟨u, hu⟩ h2
          · obtain rfl : u = u' := key_uniq HT.out.nd hu (List.mem_of_getElem? h3)
            rcases HR.out.cells with ⟨_, e0⟩ | ⟨g, cp, hvv, hgl, _, _, hcs, _⟩
            · rw [e0] at h1; simp at h1
            simp only [Value.slice.injEq, true_and] at hvv
            obtain ⟨rfl, rfl⟩ := hvv
            have hcu := (hcs i _ h3).2
            have HFr := refFind mj k (.slice (some ⟨g, 0, none⟩) mj.length cv) (wr.alloc (.cells #[.int .i64 kd, .int .u64 k, .int .i64 v] 43)) (HR.out.below (below_alloc _ _)) hm64
            rw [h2] at HFr
            replace HFr := Lib.hid HFr
            have hi1 : (i : Int) < (mj.length : Int) := by omega
            have HG := Lib.hid (IgetYes T G nb room k u mj ch (wr.alloc (.cells #[.int .i64 kd, .int .u64 k, .int .i64 v] 43)) (HT.out.kept (below_alloc _ _)) hu)
            clear hu h2 h3 hcs
            have kk : (wr.alloc (.cells #[.int .i64 kd, .int .u64 k, .int .i64 v] 43)).cell? ⟨wr.heap.size, 1, none⟩ = some (.int .u64 k) := Go.Joins.cell_of_block (heap_alloc_new wr _) 1
            go_wp2_with fail
            refine HFr.out.mono ?_
            rintro e w' ⟨rfl, rfl⟩
            go_wp2_with fail
            refine HG.out.mono ?_
            rintro e wX ⟨rfl, b2⟩
            have HB2 := Lib.hid ((HB.out.alloc HB.out.size (.cells #[.int .i64 kd, .int .u64 k, .int .i64 v] 43)).trans (b2.mono (Nat.le_trans HB.out.size (by simp))))
            have b3 := (below_alloc wr (.cells #[.int .i64 kd, .int .u64 k, .int .i64 v] 43)).trans (b2.mono (by simp))
            have ka := (b2.cell (p := ⟨wr.heap.size, 1, none⟩) (by simp)).trans kk
            have HT2 := Lib.hid (HT.out.kept b3)
            have HR2 := Lib.hid (HR.out.below b3)
            have HO2 := HO
            have HM2 := HM
            have hcu2 := (b3.cell (p := ⟨g, i * 2 + 1, none⟩) hgl).trans hcu
            clear kk b2 b3 hcu
            have hm2 : (mj).length ≤ 64 := Nat.le_trans HT2.out.cnt HT2.out.rm
            have hks : (allKeys (mj) nb nb).length ≤ 8192 := Nat.le_trans (allKeys_bd (mj) nb nb (fun b => Nat.le_trans (chn_len _ nb b) hm2)) (by omega)
            have hbl := bkt_lt k nb q1
            have hch : ((chn (mj) nb (bkt k nb)).map (·.1)).length ≤ 8192 := by rw [List.length_map]; exact Nat.le_trans (Nat.le_trans (chn_len _ _ _) hm2) (by omega)
            have HKS := Lib.hid hks
            have HCH := Lib.hid hch
            clear hks hch
            go_wp2_with fail
            refine (Ibucket T G nb room k _ _ wX HT2.out).mono ?_
            rintro e w' ⟨rfl, rfl⟩
            go_wp2_with fail
            refine (refBucket k nb wX q1 q2).mono ?_
            rintro e w' ⟨rfl, rfl⟩
            go_wp2_with fail
            refine (Ilen T G nb room _ _ wX HT2.out).mono ?_
            rintro e w' ⟨rfl, rfl⟩
            clear ka
            go_wp2_with fail
            refine (Ikeys T G nb room _ _ wX HT2.out).mono ?_
            rintro e y1 ⟨u1, rfl, hu1, c1⟩
            have C1 := Lib.hid c1
            have U1 := Lib.hid hu1
            clear c1 hu1
            go_wp2_with fail
            refine (refKeys _ _ nb y1 (HR2.out.below C1.out) hm2 q1 q2).mono ?_
            rintro e y2 ⟨u2, rfl, hu2, c2⟩
            have U1' := Lib.hid (U1.out.kept c2.grownNone (own_ne_none _))
            have C2 := Lib.hid (C1.out.trans (c2.mono C1.out.size))
            have U2 := Lib.hid hu2
            clear c2 hu2 U1
            go_wp2_with fail
            refine (refSame _ _ _ _ _ y2 U1'.out U2.out HKS.out).mono ?_
            rintro e y3 ⟨rfl, c3⟩
            have C3 := Lib.hid (C2.out.trans (c3.mono C2.out.size))
            clear c3 U1' U2
            go_wp2_with fail
            refine (Ichain T G nb room (bkt k nb) _ _ y3 (HT2.out.kept C3.out) hbl).mono ?_
            rintro e y4 ⟨u3, rfl, hu3, c4⟩
            have C4 := Lib.hid (C3.out.trans (c4.mono C3.out.size))
            have U3 := Lib.hid hu3
            clear c4 hu3
            go_wp2_with fail
            refine (refChain _ _ (bkt k nb) nb y4 (HR2.out.below C4.out) hm2 q1 q2 hbl).mono ?_
            rintro e y5 ⟨u4, rfl, hu4, c5⟩
            have U3' := Lib.hid (U3.out.kept c5.grownNone (own_ne_none _))
            have C5 := Lib.hid (C4.out.trans (c5.mono C4.out.size))
            have U4 := Lib.hid hu4
            clear c5 hu4 U3
            go_wp2_with fail
            refine (refSame _ _ _ _ _ y5 U3'.out U4.out HCH.out).mono ?_
            rintro e y6 ⟨rfl, c6⟩
            have C6 := Lib.hid (C5.out.trans (c6.mono C5.out.size))
            clear c6 U3' U4
            go_wp2_with fail
            refine (IchainNo T G nb room nb _ _ y6 (HT2.out.kept C6.out) (.inr (Int.le_refl _))).mono ?_
            rintro e y7 ⟨u5, rfl, hu5, c7⟩
            obtain ⟨a5, cp5, rfl⟩ := words_len hu5
            have C7 := Lib.hid (C6.out.trans (c7.mono C6.out.size))
            clear c7 hu5
            go_wp2_with fail
            refine (IchainNo T G nb room (-1) _ _ y7 (HT2.out.kept C7.out) (.inl (by decide))).mono ?_
            rintro e y8 ⟨u6, rfl, hu6, c8⟩
            obtain ⟨a6, cp6, rfl⟩ := words_len hu6
            have C8 := Lib.hid (C7.out.trans (c8.mono C7.out.size))
            clear c8 hu6
            go_wp2_with fail
            go_roundw
            case rel => exact ⟨j + 1, _, _, _, by omega, by omega, by go_num, rfl, Lib.hid (HR2.out.below C8.out), Lib.hid (HT2.out.kept C8.out), HO2, HM2, Lib.hid (HB2.out.trans (C8.out.mono HB2.out.size))⟩
            case measure => simp only [intOf]; omega
        · have HFr := refFind mj k (.slice av mj.length cv) (wr.alloc (.cells #[.int .i64 kd, .int .u64 k, .int .i64 v] 43)) (HR.out.below (below_alloc _ _)) hm64
          rw [ridx_no hk] at HFr
          replace HFr := Lib.hid HFr
          have HG := Lib.hid (IgetNo T G nb room k mj ch (wr.alloc (.cells #[.int .i64 kd, .int .u64 k, .int .i64 v] 43)) (HT.out.kept (below_alloc _ _)) hk)
          clear hk
          have kk : (wr.alloc (.cells #[.int .i64 kd, .int .u64 k, .int .i64 v] 43)).cell? ⟨wr.heap.size, 1, none⟩ = some (.int .u64 k) := Go.Joins.cell_of_block (heap_alloc_new wr _) 1
          go_wp2_with fail
          refine HFr.out.mono ?_
          rintro e w' ⟨rfl, rfl⟩
          go_wp2_with fail
          refine HG.out.mono ?_
          rintro e wX ⟨rfl, b2⟩
          have HB2 := Lib.hid ((HB.out.alloc HB.out.size (.cells #[.int .i64 kd, .int .u64 k, .int .i64 v] 43)).trans (b2.mono (Nat.le_trans HB.out.size (by simp))))
          have b3 := (below_alloc wr (.cells #[.int .i64 kd, .int .u64 k, .int .i64 v] 43)).trans (b2.mono (by simp))
          have ka := (b2.cell (p := ⟨wr.heap.size, 1, none⟩) (by simp)).trans kk
          have HT2 := Lib.hid (HT.out.kept b3)
          have HR2 := Lib.hid (HR.out.below b3)
          have HO2 := HO
          have HM2 := HM
          clear kk b2 b3
          have hm2 : (mj).length ≤ 64 := Nat.le_trans HT2.out.cnt HT2.out.rm
          have hks : (allKeys (mj) nb nb).length ≤ 8192 := Nat.le_trans (allKeys_bd (mj) nb nb (fun b => Nat.le_trans (chn_len _ nb b) hm2)) (by omega)
          have hbl := bkt_lt k nb q1
          have hch : ((chn (mj) nb (bkt k nb)).map (·.1)).length ≤ 8192 := by rw [List.length_map]; exact Nat.le_trans (Nat.le_trans (chn_len _ _ _) hm2) (by omega)
          have HKS := Lib.hid hks
          have HCH := Lib.hid hch
          clear hks hch
          go_wp2_with fail
          refine (Ibucket T G nb room k _ _ wX HT2.out).mono ?_
          rintro e w' ⟨rfl, rfl⟩
          go_wp2_with fail
          refine (refBucket k nb wX q1 q2).mono ?_
          rintro e w' ⟨rfl, rfl⟩
          go_wp2_with fail
          refine (Ilen T G nb room _ _ wX HT2.out).mono ?_
          rintro e w' ⟨rfl, rfl⟩
          clear ka
          go_wp2_with fail
          refine (Ikeys T G nb room _ _ wX HT2.out).mono ?_
          rintro e y1 ⟨u1, rfl, hu1, c1⟩
          have C1 := Lib.hid c1
          have U1 := Lib.hid hu1
          clear c1 hu1
          go_wp2_with fail
          refine (refKeys _ _ nb y1 (HR2.out.below C1.out) hm2 q1 q2).mono ?_
          rintro e y2 ⟨u2, rfl, hu2, c2⟩
          have U1' := Lib.hid (U1.out.kept c2.grownNone (own_ne_none _))
          have C2 := Lib.hid (C1.out.trans (c2.mono C1.out.size))
          have U2 := Lib.hid hu2
          clear c2 hu2 U1
          go_wp2_with fail
          refine (refSame _ _ _ _ _ y2 U1'.out U2.out HKS.out).mono ?_
          rintro e y3 ⟨rfl, c3⟩
          have C3 := Lib.hid (C2.out.trans (c3.mono C2.out.size))
          clear c3 U1' U2
          go_wp2_with fail
          refine (Ichain T G nb room (bkt k nb) _ _ y3 (HT2.out.kept C3.out) hbl).mono ?_
          rintro e y4 ⟨u3, rfl, hu3, c4⟩
          have C4 := Lib.hid (C3.out.trans (c4.mono C3.out.size))
          have U3 := Lib.hid hu3
          clear c4 hu3
          go_wp2_with fail
          refine (refChain _ _ (bkt k nb) nb y4 (HR2.out.below C4.out) hm2 q1 q2 hbl).mono ?_
          rintro e y5 ⟨u4, rfl, hu4, c5⟩
          have U3' := Lib.hid (U3.out.kept c5.grownNone (own_ne_none _))
          have C5 := Lib.hid (C4.out.trans (c5.mono C4.out.size))
          have U4 := Lib.hid hu4
          clear c5 hu4 U3
          go_wp2_with fail
          refine (refSame _ _ _ _ _ y5 U3'.out U4.out HCH.out).mono ?_
          rintro e y6 ⟨rfl, c6⟩
          have C6 := Lib.hid (C5.out.trans (c6.mono C5.out.size))
          clear c6 U3' U4
          go_wp2_with fail
          refine (IchainNo T G nb room nb _ _ y6 (HT2.out.kept C6.out) (.inr (Int.le_refl _))).mono ?_
          rintro e y7 ⟨u5, rfl, hu5, c7⟩
          obtain ⟨a5, cp5, rfl⟩ := words_len hu5
          have C7 := Lib.hid (C6.out.trans (c7.mono C6.out.size))
          clear c7 hu5
          go_wp2_with fail
          refine (IchainNo T G nb room (-1) _ _ y7 (HT2.out.kept C7.out) (.inl (by decide))).mono ?_
          rintro e y8 ⟨u6, rfl, hu6, c8⟩
          obtain ⟨a6, cp6, rfl⟩ := words_len hu6
          have C8 := Lib.hid (C7.out.trans (c8.mono C7.out.size))
          clear c8 hu6
          go_wp2_with fail
          go_roundw
          case rel => exact ⟨j + 1, _, _, _, by omega, by omega, by go_num, rfl, Lib.hid (HR2.out.below C8.out), Lib.hid (HT2.out.kept C8.out), HO2, HM2, Lib.hid (HB2.out.trans (C8.out.mono HB2.out.size))⟩
          case measure => simp only [intOf]; omega
    · by_cases hlt2 : j < len
      all_goals
        first
          | (have dA : decide ((j : Int) < 100) = false := decide_eq_false (by omega))
          | (have dA : decide (j < len) = false := decide_eq_false hlt2)
        go_wp2_with fail
        refine (known _).mono ?_
        rintro e w5 ⟨rfl, b5⟩
        have G5 := Lib.hid (HB.out.trans (b5.mono HB.out.size))
        clear b5
        go_wp2_with fail
        go_ret
        exact ⟨rfl, G5.out⟩
theorem walk_BucketsPlay (n r : Int) (v : Value) (w : World) (hv : Acts w v) : Calls Try.prog 4 #[.int .i64 n, .int .i64 r, v] w fun e w' => e = .returned (.bool true) ∧ Below w.heap.size w w' := by
  obtain ⟨a, len, cap, x, rfl, h63, hx⟩ := hv
  by_cases h : n < 1 ∨ 64 < n ∨ r < 1 ∨ 64 < r
  · exact play_bad n r a len cap w h
  · obtain ⟨nb, rfl⟩ := Int.eq_ofNat_of_zero_le (show 0 ≤ n by omega)
    obtain ⟨room, rfl⟩ := Int.eq_ofNat_of_zero_le (show 0 ≤ r by omega)
    exact play_good nb room a len cap x w (by omega) (by omega) (by omega) (by omega) h63 hx
end Go.Proofs.Ytkkaogdcodmpcaa
