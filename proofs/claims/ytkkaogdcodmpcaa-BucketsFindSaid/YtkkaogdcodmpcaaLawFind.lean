/- The law BucketsFind, walked. -/
import Derived.Test.YtkkaogdcodmpcaaFnd
import Derived.StillTailTactics
import Derived.Deep.RegionHeld3
namespace Go.Proofs.Ytkkaogdcodmpcaa
open Go.RowKit
set_option linter.unusedVariables false

set_option maxRecDepth 100000 in
set_option maxHeartbeats 16000000 in
theorem findLaw (p0 : Int) (a1 : Option Addr) (l1 c1 : Nat) (kf : Nat → Int) (a2 : Option Addr) (l2 c2 : Nat) (vf : Nat → ByteArray) (a3 : Option Addr) (ld c3 : Nat) (df : Nat → Bool) (w : World) (u1 : l1 ≤ c1) (k1 : l1 ≤ 9223372036854775807) (k2 : l2 ≤ 9223372036854775807) (k3 : ld ≤ 9223372036854775807)
    (hk : CellsF w a1 l1 (fun j => .int .u64 (kf j))) (hv : CellsF w a2 l2 (fun j => .string (vf j))) (hd : CellsF w a3 ld (fun j => .bool (df j))) (nb : Nat) (q1 : 1 ≤ nb) (q2 : nb ≤ 64) (hp : (nb : Int) = 1 + IntKind.u64.wrap p0 % 64) :
    Calls Try.prog 3 #[.int .i64 p0, .slice a1 l1 c1, .slice a2 l2 c2, .slice a3 ld c3] w fun e w' => e = .returned (.bool true) ∧ Below w.heap.size w w' := by
  obtain ⟨n, n1, n60, n2, hmin⟩ := min3 l1 l2
  have ha := dm_u64 p0
  generalize hza : IntKind.u64.wrap p0 = z at *
  have HP := Lib.hid hp
  have HN := Snew nb 64 w (by omega) (by omega) (by decide) (by decide)
  rw [Int.toNat_natCast] at HN
  replace HN := Lib.hid HN
  have HKc := Lib.hid hk
  have HVc := Lib.hid hv
  have HDc := Lib.hid hd
  obtain ⟨DD, hDD⟩ : ∃ DD : Nat → Bool, ∀ j, (j < ld → DD j = df j) ∧ (¬ j < ld → DD j = false) := ⟨fun j => if j < ld then df j else false, fun j => ⟨fun h => if_pos h, fun h => if_neg h⟩⟩
  have HDD := Lib.hid hDD
  clear hk hv hd hp hDD
  go_enter Try.func3, Try.ntmps3
  go_wp2_with fail
  rw [← HP.out]
  refine HN.out.mono ?_
  rintro e w1 ⟨T, G, ch0, rfl, b1, t1, m1⟩
  have B1 := Lib.hid b1
  have T1 := Lib.hid t1
  have M1 := Lib.hid m1
  clear b1 t1 m1
  go_wp2_with fail
  go_loopw [11] (fun s wr => ∃ (i : Nat) (m : List (Int × ByteArray)) (ch : Nat → Value), i ≤ n ∧ s = .int .i64 i ∧ m.length ≤ i ∧ Hid (Tab Value.string 73 75 76 wr T G nb 64 m ch) ∧ Hid (Inv m kf vf DD i) ∧ Hid (∀ k, Mine T G nb ch k → w.heap.size ≤ k) ∧ Hid (Below w.heap.size w wr)) (fun s _ => n - (intOf s).toNat)
  case atStart => exact ⟨0, [], ch0, by omega, rfl, by simp, T1, Lib.hid (inv_zero _ _ _), M1, B1⟩
  case round =>
    obtain ⟨i, m, ch, hi, rfl, hml, HT, HI, HM, HB⟩ := hrel
    obtain ⟨w9, rfl⟩ : ∃ w9 : World, w9 = wr := ⟨_, rfl⟩
    clear T1 M1 B1
    by_cases hlt : i < n
    · obtain ⟨bk, off, rfl, hbk, hck⟩ := HKc.out (by omega)
      dsimp only at hck
      obtain ⟨bv, ov, rfl, hbv, hcv⟩ := HVc.out (by omega)
      dsimp only at hcv
      have c1 := (HB.out.cell (p := ⟨bk, off + i, none⟩) hbk).trans (hck i (by omega))
      have c2 := (HB.out.cell (p := ⟨bv, ov + i, none⟩) hbv).trans (hcv i (by omega))
      have f1 : (0 : Int) ≤ (i : Int) := by omega
      have f2 : (i : Int) < (n : Int) := by omega
      have f3 : (i : Int) < (l2 : Int) := by omega
      have HSP := Lib.hid (fun (w2 : World) (b : Below w9.heap.size w9 w2) => SputAny T G nb 64 (kf i) (vf i) m ch w2 (HT.out.kept b) (by omega))
      have hdi := HDD.out i
      have HCKA := Lib.hid hck
      have HCVA := Lib.hid hcv
      have HCK := Lib.hid (hck i (by omega))
      have HCV := Lib.hid (hcv i (by omega))
      clear hck hcv
      go_wp2_with fail
      go_region_held3 (fun w' => w'.cell? ⟨bk, off + i, none⟩ = some (.int .u64 (kf i)) ∧ w'.cell? ⟨bv, ov + i, none⟩ = some (.string (vf i))) (first | go_keep | exact ⟨ck2, cv2⟩)
        ((go_at_call 8; refine (HSP.out _ ?_).mono ?_; (first | exact Below.refl _ _ | exact (Below.refl _ _).drew | exact below_drewN _ _ _); rintro e w2 ⟨m1, ch1, bb, rfl, t2, s2, hl2, hm2⟩; have qq := s2.below HM.out HB.out.size; have b02 : Below w.heap.size w w2 := Below.trans (Below.trans HB.out (show Below w.heap.size w9 _ from (by first | exact Below.refl _ _ | exact (Below.refl _ _).drew | exact below_drewN _ _ _))) qq.1; have ck2 := (b02.cell (p := ⟨bk, off + i, none⟩) hbk).trans HCK.out; have cv2 := (b02.cell (p := ⟨bv, ov + i, none⟩) hbv).trans HCV.out))
      have HB2' := Lib.hid b02
      have HM2' := Lib.hid qq.2
      have HT2' := Lib.hid t2
      have HMm := Lib.hid hm2
      clear b02 qq t2 s2 hm2 cv2 c1 c2
      by_cases hld : i < ld
      · have d1 : decide (i < ld) = true := decide_eq_true hld
        have d2 : decide ((i : Int) < (ld : Int)) = true := decide_eq_true (by omega)
        obtain ⟨bd, od, rfl, hbd, hcd⟩ := HDc.out (by omega)
        dsimp only at hcd
        have c3 := (HB2'.out.cell (p := ⟨bd, od + i, none⟩) hbd).trans (hcd i hld)
        have hdd := hdi.1 hld
        have HCDA := Lib.hid hcd
        clear hcd hdi
        cases hdf : df i with
        | true =>
          rw [hdf] at c3 hdd
          have HDT := Lib.hid hdd
          clear hdd hdf
          have hhas : (kf i, vf i) ∈ m1 := (HMm.out _ _).2 (.inr ⟨rfl, rfl⟩)
          have HDL := Lib.hid (show ((m1.length : Int) - (del m1 (kf i)).length) = 1 from by have h1 := del_len HT2'.out.nd hhas; have h2 := List.length_pos_of_mem hhas; omega)
          have HI2 := Lib.hid (inv_del HI.out HDT.out (m1 := del m1 (kf i)) (fun q v => by
            rw [mem_del, HMm.out]
            constructor
            · rintro ⟨h | ⟨h, _⟩, h2⟩
              · exact h
              · exact absurd h h2
            · intro h
              exact ⟨.inl h, h.1⟩))
          have hdl2 : (del m1 (kf i)).length ≤ i + 1 := by have := HDL.out; omega
          have HDE := Lib.hid (fun (w3 : World) (kb : Nat) (b : Below w2.heap.size w2 w3) (hc : w3.cell? ⟨kb, 0, none⟩ = some (.int .u64 (kf i))) (hn : w2.heap.size ≤ kb) => Sdel T G nb 64 [kf i] kb 0 1 m1 ch1 w3 (HT2'.out.kept b) (fun j x hx => by
            match j, hx with
            | 0, hx => simp at hx; subst hx; exact hc) (by simp) (w3.block_lt_of_cell? _ hc) (fun hk => by have := HT2'.out.ownlt hk; omega))
          have HFo := Lib.hid (show [kf i].foldl del m1 = del m1 (kf i) from rfl)
          clear hhas hml
          generalize hkx : kf i = kx at *
          have HKX2 := Lib.hid hkx
          clear hkx
          go_wp2_with fail
          refine (HDE.out _ w2.heap.size (below_alloc _ _) (by simp) (Nat.le_refl _)).mono ?_
          rintro e wz ⟨ch2, rfl, t3, s3⟩
          rw [HFo.out] at t3 ⊢
          rw [HDL.out]
          have q3 := s3.below HM2'.out (Nat.le_trans HB2'.out.size (by simp))
          have HB2 := Lib.hid ((HB2'.out.alloc HB2'.out.size _).trans q3.1)
          have HM2 := Lib.hid q3.2
          have HT2 := Lib.hid t3
          clear t3 s3 q3 c3 ck2
          obtain ⟨m2, hm2⟩ : ∃ m2, m2 = del m1 kx := ⟨_, rfl⟩
          rw [← hm2] at HT2 HI2 hdl2
          clear hm2
          go_wp2_with fail
          go_loopw [14] (fun k wy => ∃ k0 : Nat, k0 ≤ i + 1 ∧ k = .int .i64 k0 ∧ Hid (Below wz.heap.size wz wy)) (fun k _ => i + 1 - (intOf k).toNat)
          case atStart => exact ⟨0, by omega, rfl, Lib.hid (Below.refl _ _)⟩
          case round =>
            obtain ⟨k0, hk0, rfl, HY⟩ := hrel
            obtain ⟨wy, rfl⟩ : ∃ wy : World, wy = wr := ⟨_, rfl⟩
            by_cases hlk : k0 ≤ i
            · go_wp2_with fail
              go_loopw [15, 16, 17] (fun l o jj wx => ∃ (j0 last : Nat) (ob : Bool), j0 ≤ i + 1 ∧ k0 ≤ last ∧ last ≤ i ∧ k0 ≤ j0 ∧ l = .int .i64 last ∧ o = .bool ob ∧ jj = .int .i64 j0 ∧ Hid (j0 = k0 ∨ (last < j0 ∧ kf last = kf k0 ∧ ob = DD last ∧ ∀ q, last < q → q < j0 → kf q ≠ kf k0)) ∧ Hid (Below wz.heap.size wz wx)) (fun _ _ jj _ => i + 1 - (intOf jj).toNat)
              case atStart => exact ⟨k0, k0, false, by omega, by omega, by omega, by omega, rfl, rfl, rfl, Lib.hid (.inl rfl), HY⟩
              case round =>
                obtain ⟨j0, last, ob, hj0, hla, hlb, hkj, rfl, rfl, rfl, HQ, HXX⟩ := hrel
                obtain ⟨wx, rfl⟩ : ∃ wx : World, wx = wr := ⟨_, rfl⟩
                have HBX := Lib.hid (HB2.out.trans (HXX.out.mono HB2.out.size))
                have hck := HCKA.out
                by_cases hlj : j0 ≤ i
                · have c1 := (HBX.out.cell (p := ⟨bk, off + j0, none⟩) hbk).trans (hck j0 (by omega))
                  have c2 := (HBX.out.cell (p := ⟨bk, off + k0, none⟩) hbk).trans (hck k0 (by omega))
                  have f3 : (0 : Int) ≤ (k0 : Int) := by omega
                  have f4 : (k0 : Int) < (n : Int) := by omega
                  have f5 : (0 : Int) ≤ (j0 : Int) := by omega
                  have f6 : (j0 : Int) < (n : Int) := by omega
                  clear hck
                  by_cases hkk : kf j0 = kf k0
                  · have g0 : (kf j0 == kf k0) = true := by rw [hkk]; exact beq_self_eq_true _
                    have HKK := Lib.hid hkk
                    clear hkk
                    generalize hjx : kf j0 = kx at *
                    have HJX := Lib.hid hjx
                    clear hjx
                    generalize hky : kf k0 = ky at *
                    have HKY := Lib.hid hky
                    clear hky
                    have hdj := HDD.out j0
                    by_cases hld : j0 < ld
                    · have d1 : decide (j0 < ld) = true := decide_eq_true hld
                      have d2 : decide ((j0 : Int) < (ld : Int)) = true := decide_eq_true (by omega)
                      have hcd := HCDA.out
                      have c3 := (HBX.out.cell (p := ⟨bd, od + j0, none⟩) hbd).trans (hcd j0 hld)
                      have f7 : (j0 : Int) < (ld : Int) := by omega
                      have HDJ := Lib.hid (hdj.1 hld)
                      clear hcd hdj
                      go_wp2_with fail
                      go_quiet (fail)
                      go_wp2_with fail
                      go_quiet (fail)
                      go_wp2_with fail
                      go_roundw
                      case rel => exact ⟨j0 + 1, j0, df j0, by omega, by omega, by omega, by omega, rfl, rfl, by go_num, Lib.hid (.inr ⟨by omega, HJX.out.trans HKK.out, HDJ.out.symm, fun q h1 h2 => by omega⟩), Lib.hid (HXX.out.trans (below_drewN _ _ _))⟩
                      case measure => simp only [intOf]; omega
                    · have d1 : decide (j0 < ld) = false := decide_eq_false hld
                      have d2 : decide ((j0 : Int) < (ld : Int)) = false := decide_eq_false (by omega)
                      have HDJ := Lib.hid (hdj.2 hld)
                      clear hdj
                      go_wp2_with fail
                      go_quiet (fail)
                      go_wp2_with fail
                      go_quiet (fail)
                      go_wp2_with fail
                      go_roundw
                      case rel => exact ⟨j0 + 1, j0, false, by omega, by omega, by omega, by omega, rfl, rfl, by go_num, Lib.hid (.inr ⟨by omega, HJX.out.trans HKK.out, HDJ.out.symm, fun q h1 h2 => by omega⟩), Lib.hid (HXX.out.trans (below_drewN _ _ _))⟩
                      case measure => simp only [intOf]; omega
                  · have g0 : (kf j0 == kf k0) = false := beq_eq_false_iff_ne.2 hkk
                    have HQ2 := Lib.hid (show (j0 + 1 = k0 ∨ (last < j0 + 1 ∧ kf last = kf k0 ∧ ob = DD last ∧ ∀ q, last < q → q < j0 + 1 → kf q ≠ kf k0)) from by
                      rcases HQ.out with e | ⟨h1, h2, h3, h4⟩
                      · exact absurd (by rw [e]) hkk
                      · refine .inr ⟨by omega, h2, h3, fun q h5 h6 => ?_⟩
                        by_cases e : q = j0
                        · rw [e]; exact hkk
                        · exact h4 q h5 (by omega))
                    clear hkk
                    generalize kf j0 = kx at *
                    generalize hky : kf k0 = ky at *
                    have HKY := Lib.hid hky
                    clear hky
                    go_wp2_with fail
                    go_quiet (fail)
                    go_wp2_with fail
                    go_roundw
                    case rel => exact ⟨j0 + 1, last, ob, by omega, by omega, by omega, by omega, rfl, rfl, by go_num, HQ2, Lib.hid (HXX.out.trans (below_drewN _ _ _))⟩
                    case measure => simp only [intOf]; omega
                · obtain rfl : j0 = i + 1 := by omega
                  have hq : last < i + 1 ∧ kf last = kf k0 ∧ ob = DD last ∧ ∀ q, last < q → q < i + 1 → kf q ≠ kf k0 := by
                    rcases HQ.out with e | h
                    · omega
                    · exact h
                  obtain ⟨h1, h2, h3, h4⟩ := hq
                  have c2 := (HBX.out.cell (p := ⟨bk, off + k0, none⟩) hbk).trans (hck k0 (by omega))
                  have HTx := Lib.hid (HT2.out.kept HXX.out)
                  cases hob : DD last with
                  | true =>
                    have HG := Lib.hid (SgetNo T G nb 64 (kf k0) m2 ch2 wx HTx.out (inv_no HI2.out h1 h2 hob h4))
                    rw [hob] at h3
                    subst h3
                    clear h2 h4 hob hck HQ
                    generalize kf k0 = ky at *
                    go_wp2_with fail
                    refine HG.out.mono ?_
                    rintro e wg ⟨rfl, bg⟩
                    have BG := Lib.hid (HXX.out.trans (bg.mono HXX.out.size))
                    clear bg c2
                    go_wp2_with fail
                    go_roundw
                    case rel => exact ⟨k0 + 1, by omega, by go_num, BG⟩
                    case measure => simp only [intOf]; omega
                  | false =>
                    have HG := Lib.hid (SgetYes T G nb 64 (kf k0) (vf last) m2 ch2 wx HTx.out (inv_yes HI2.out h1 h2 hob h4))
                    rw [hob] at h3
                    subst h3
                    have hcv := HCVA.out
                    have hcv2 := hcv last (by omega)
                    clear h2 h4 hob hck HQ hcv
                    generalize kf k0 = ky at *
                    generalize vf last = vx at *
                    have f5 : (0 : Int) ≤ (last : Int) := by omega
                    have f6 : (last : Int) < (l2 : Int) := by omega
                    have f7 : (vx != vx) = false := by have hb : (vx == vx) = true := (Go.MapKept.bytes_beq vx vx).2 rfl; show (!(vx == vx)) = false; rw [hb]; rfl
                    go_wp2_with fail
                    refine HG.out.mono ?_
                    rintro e wg ⟨rfl, bg⟩
                    have BG := Lib.hid (HXX.out.trans (bg.mono HXX.out.size))
                    have c3 := ((HB2.out.trans (BG.out.mono HB2.out.size)).cell (p := ⟨bv, ov + last, none⟩) hbv).trans hcv2
                    clear bg c2 hcv2
                    go_wp2_with fail
                    go_roundw
                    case rel => exact ⟨k0 + 1, by omega, by go_num, BG⟩
                    case measure => simp only [intOf]; omega
            · obtain rfl : k0 = i + 1 := by omega
              go_wp2_with fail
              go_roundw
              case rel => exact ⟨i + 1, m2, ch2, by omega, by go_num, by omega, Lib.hid (HT2.out.kept HY.out), HI2, HM2, Lib.hid (HB2.out.trans (HY.out.mono HB2.out.size))⟩
              case measure => simp only [intOf]; omega
        | false =>
          rw [hdf] at c3 hdd
          have HDT := Lib.hid hdd
          clear hdd hdf
          have HI2 := Lib.hid (inv_put HI.out HDT.out (m1 := m1) HMm.out)
          have hdl2 : m1.length ≤ i + 1 := by omega
          have HB2 := HB2'
          have HM2 := HM2'
          have HT2 := HT2'
          clear hml
          obtain ⟨m2, rfl⟩ : ∃ m2, m2 = m1 := ⟨_, rfl⟩
          obtain ⟨ch2, rfl⟩ : ∃ ch2, ch2 = ch1 := ⟨_, rfl⟩
          obtain ⟨wz, rfl⟩ : ∃ wz : World, wz = w2 := ⟨_, rfl⟩
          go_wp2_with fail
          go_loopw [14] (fun k wy => ∃ k0 : Nat, k0 ≤ i + 1 ∧ k = .int .i64 k0 ∧ Hid (Below wz.heap.size wz wy)) (fun k _ => i + 1 - (intOf k).toNat)
          case atStart => exact ⟨0, by omega, rfl, Lib.hid (Below.refl _ _)⟩
          case round =>
            obtain ⟨k0, hk0, rfl, HY⟩ := hrel
            obtain ⟨wy, rfl⟩ : ∃ wy : World, wy = wr := ⟨_, rfl⟩
            by_cases hlk : k0 ≤ i
            · go_wp2_with fail
              go_loopw [15, 16, 17] (fun l o jj wx => ∃ (j0 last : Nat) (ob : Bool), j0 ≤ i + 1 ∧ k0 ≤ last ∧ last ≤ i ∧ k0 ≤ j0 ∧ l = .int .i64 last ∧ o = .bool ob ∧ jj = .int .i64 j0 ∧ Hid (j0 = k0 ∨ (last < j0 ∧ kf last = kf k0 ∧ ob = DD last ∧ ∀ q, last < q → q < j0 → kf q ≠ kf k0)) ∧ Hid (Below wz.heap.size wz wx)) (fun _ _ jj _ => i + 1 - (intOf jj).toNat)
              case atStart => exact ⟨k0, k0, false, by omega, by omega, by omega, by omega, rfl, rfl, rfl, Lib.hid (.inl rfl), HY⟩
              case round =>
                obtain ⟨j0, last, ob, hj0, hla, hlb, hkj, rfl, rfl, rfl, HQ, HXX⟩ := hrel
                obtain ⟨wx, rfl⟩ : ∃ wx : World, wx = wr := ⟨_, rfl⟩
                have HBX := Lib.hid (HB2.out.trans (HXX.out.mono HB2.out.size))
                have hck := HCKA.out
                by_cases hlj : j0 ≤ i
                · have c1 := (HBX.out.cell (p := ⟨bk, off + j0, none⟩) hbk).trans (hck j0 (by omega))
                  have c2 := (HBX.out.cell (p := ⟨bk, off + k0, none⟩) hbk).trans (hck k0 (by omega))
                  have f3 : (0 : Int) ≤ (k0 : Int) := by omega
                  have f4 : (k0 : Int) < (n : Int) := by omega
                  have f5 : (0 : Int) ≤ (j0 : Int) := by omega
                  have f6 : (j0 : Int) < (n : Int) := by omega
                  clear hck
                  by_cases hkk : kf j0 = kf k0
                  · have g0 : (kf j0 == kf k0) = true := by rw [hkk]; exact beq_self_eq_true _
                    have HKK := Lib.hid hkk
                    clear hkk
                    generalize hjx : kf j0 = kx at *
                    have HJX := Lib.hid hjx
                    clear hjx
                    generalize hky : kf k0 = ky at *
                    have HKY := Lib.hid hky
                    clear hky
                    have hdj := HDD.out j0
                    by_cases hld : j0 < ld
                    · have d1 : decide (j0 < ld) = true := decide_eq_true hld
                      have d2 : decide ((j0 : Int) < (ld : Int)) = true := decide_eq_true (by omega)
                      have hcd := HCDA.out
                      have c3 := (HBX.out.cell (p := ⟨bd, od + j0, none⟩) hbd).trans (hcd j0 hld)
                      have f7 : (j0 : Int) < (ld : Int) := by omega
                      have HDJ := Lib.hid (hdj.1 hld)
                      clear hcd hdj
                      go_wp2_with fail
                      go_quiet (fail)
                      go_wp2_with fail
                      go_quiet (fail)
                      go_wp2_with fail
                      go_roundw
                      case rel => exact ⟨j0 + 1, j0, df j0, by omega, by omega, by omega, by omega, rfl, rfl, by go_num, Lib.hid (.inr ⟨by omega, HJX.out.trans HKK.out, HDJ.out.symm, fun q h1 h2 => by omega⟩), Lib.hid (HXX.out.trans (below_drewN _ _ _))⟩
                      case measure => simp only [intOf]; omega
                    · have d1 : decide (j0 < ld) = false := decide_eq_false hld
                      have d2 : decide ((j0 : Int) < (ld : Int)) = false := decide_eq_false (by omega)
                      have HDJ := Lib.hid (hdj.2 hld)
                      clear hdj
                      go_wp2_with fail
                      go_quiet (fail)
                      go_wp2_with fail
                      go_quiet (fail)
                      go_wp2_with fail
                      go_roundw
                      case rel => exact ⟨j0 + 1, j0, false, by omega, by omega, by omega, by omega, rfl, rfl, by go_num, Lib.hid (.inr ⟨by omega, HJX.out.trans HKK.out, HDJ.out.symm, fun q h1 h2 => by omega⟩), Lib.hid (HXX.out.trans (below_drewN _ _ _))⟩
                      case measure => simp only [intOf]; omega
                  · have g0 : (kf j0 == kf k0) = false := beq_eq_false_iff_ne.2 hkk
                    have HQ2 := Lib.hid (show (j0 + 1 = k0 ∨ (last < j0 + 1 ∧ kf last = kf k0 ∧ ob = DD last ∧ ∀ q, last < q → q < j0 + 1 → kf q ≠ kf k0)) from by
                      rcases HQ.out with e | ⟨h1, h2, h3, h4⟩
                      · exact absurd (by rw [e]) hkk
                      · refine .inr ⟨by omega, h2, h3, fun q h5 h6 => ?_⟩
                        by_cases e : q = j0
                        · rw [e]; exact hkk
                        · exact h4 q h5 (by omega))
                    clear hkk
                    generalize kf j0 = kx at *
                    generalize hky : kf k0 = ky at *
                    have HKY := Lib.hid hky
                    clear hky
                    go_wp2_with fail
                    go_quiet (fail)
                    go_wp2_with fail
                    go_roundw
                    case rel => exact ⟨j0 + 1, last, ob, by omega, by omega, by omega, by omega, rfl, rfl, by go_num, HQ2, Lib.hid (HXX.out.trans (below_drewN _ _ _))⟩
                    case measure => simp only [intOf]; omega
                · obtain rfl : j0 = i + 1 := by omega
                  have hq : last < i + 1 ∧ kf last = kf k0 ∧ ob = DD last ∧ ∀ q, last < q → q < i + 1 → kf q ≠ kf k0 := by
                    rcases HQ.out with e | h
                    · omega
                    · exact h
                  obtain ⟨h1, h2, h3, h4⟩ := hq
                  have c2 := (HBX.out.cell (p := ⟨bk, off + k0, none⟩) hbk).trans (hck k0 (by omega))
                  have HTx := Lib.hid (HT2.out.kept HXX.out)
                  cases hob : DD last with
                  | true =>
                    have HG := Lib.hid (SgetNo T G nb 64 (kf k0) m2 ch2 wx HTx.out (inv_no HI2.out h1 h2 hob h4))
                    rw [hob] at h3
                    subst h3
                    clear h2 h4 hob hck HQ
                    generalize kf k0 = ky at *
                    go_wp2_with fail
                    refine HG.out.mono ?_
                    rintro e wg ⟨rfl, bg⟩
                    have BG := Lib.hid (HXX.out.trans (bg.mono HXX.out.size))
                    clear bg c2
                    go_wp2_with fail
                    go_roundw
                    case rel => exact ⟨k0 + 1, by omega, by go_num, BG⟩
                    case measure => simp only [intOf]; omega
                  | false =>
                    have HG := Lib.hid (SgetYes T G nb 64 (kf k0) (vf last) m2 ch2 wx HTx.out (inv_yes HI2.out h1 h2 hob h4))
                    rw [hob] at h3
                    subst h3
                    have hcv := HCVA.out
                    have hcv2 := hcv last (by omega)
                    clear h2 h4 hob hck HQ hcv
                    generalize kf k0 = ky at *
                    generalize vf last = vx at *
                    have f5 : (0 : Int) ≤ (last : Int) := by omega
                    have f6 : (last : Int) < (l2 : Int) := by omega
                    have f7 : (vx != vx) = false := by have hb : (vx == vx) = true := (Go.MapKept.bytes_beq vx vx).2 rfl; show (!(vx == vx)) = false; rw [hb]; rfl
                    go_wp2_with fail
                    refine HG.out.mono ?_
                    rintro e wg ⟨rfl, bg⟩
                    have BG := Lib.hid (HXX.out.trans (bg.mono HXX.out.size))
                    have c3 := ((HB2.out.trans (BG.out.mono HB2.out.size)).cell (p := ⟨bv, ov + last, none⟩) hbv).trans hcv2
                    clear bg c2 hcv2
                    go_wp2_with fail
                    go_roundw
                    case rel => exact ⟨k0 + 1, by omega, by go_num, BG⟩
                    case measure => simp only [intOf]; omega
            · obtain rfl : k0 = i + 1 := by omega
              go_wp2_with fail
              go_roundw
              case rel => exact ⟨i + 1, m2, ch2, by omega, by go_num, by omega, Lib.hid (HT2.out.kept HY.out), HI2, HM2, Lib.hid (HB2.out.trans (HY.out.mono HB2.out.size))⟩
              case measure => simp only [intOf]; omega
      · have d1 : decide (i < ld) = false := decide_eq_false hld
        have d2 : decide ((i : Int) < (ld : Int)) = false := decide_eq_false (by omega)
        have HDT := Lib.hid (hdi.2 hld)
        have HI2 := Lib.hid (inv_put HI.out HDT.out (m1 := m1) HMm.out)
        have hdl2 : m1.length ≤ i + 1 := by omega
        have HB2 := HB2'
        have HM2 := HM2'
        have HT2 := HT2'
        clear hml hdi
        obtain ⟨m2, rfl⟩ : ∃ m2, m2 = m1 := ⟨_, rfl⟩
        obtain ⟨ch2, rfl⟩ : ∃ ch2, ch2 = ch1 := ⟨_, rfl⟩
        obtain ⟨wz, rfl⟩ : ∃ wz : World, wz = w2 := ⟨_, rfl⟩
        go_wp2_with fail
        go_loopw [14] (fun k wy => ∃ k0 : Nat, k0 ≤ i + 1 ∧ k = .int .i64 k0 ∧ Hid (Below wz.heap.size wz wy)) (fun k _ => i + 1 - (intOf k).toNat)
        case atStart => exact ⟨0, by omega, rfl, Lib.hid (Below.refl _ _)⟩
        case round =>
          obtain ⟨k0, hk0, rfl, HY⟩ := hrel
          obtain ⟨wy, rfl⟩ : ∃ wy : World, wy = wr := ⟨_, rfl⟩
          by_cases hlk : k0 ≤ i
          · go_wp2_with fail
            go_loopw [15, 16, 17] (fun l o jj wx => ∃ (j0 last : Nat) (ob : Bool), j0 ≤ i + 1 ∧ k0 ≤ last ∧ last ≤ i ∧ k0 ≤ j0 ∧ l = .int .i64 last ∧ o = .bool ob ∧ jj = .int .i64 j0 ∧ Hid (j0 = k0 ∨ (last < j0 ∧ kf last = kf k0 ∧ ob = DD last ∧ ∀ q, last < q → q < j0 → kf q ≠ kf k0)) ∧ Hid (Below wz.heap.size wz wx)) (fun _ _ jj _ => i + 1 - (intOf jj).toNat)
            case atStart => exact ⟨k0, k0, false, by omega, by omega, by omega, by omega, rfl, rfl, rfl, Lib.hid (.inl rfl), HY⟩
            case round =>
              obtain ⟨j0, last, ob, hj0, hla, hlb, hkj, rfl, rfl, rfl, HQ, HXX⟩ := hrel
              obtain ⟨wx, rfl⟩ : ∃ wx : World, wx = wr := ⟨_, rfl⟩
              have HBX := Lib.hid (HB2.out.trans (HXX.out.mono HB2.out.size))
              have hck := HCKA.out
              by_cases hlj : j0 ≤ i
              · have c1 := (HBX.out.cell (p := ⟨bk, off + j0, none⟩) hbk).trans (hck j0 (by omega))
                have c2 := (HBX.out.cell (p := ⟨bk, off + k0, none⟩) hbk).trans (hck k0 (by omega))
                have f3 : (0 : Int) ≤ (k0 : Int) := by omega
                have f4 : (k0 : Int) < (n : Int) := by omega
                have f5 : (0 : Int) ≤ (j0 : Int) := by omega
                have f6 : (j0 : Int) < (n : Int) := by omega
                clear hck
                by_cases hkk : kf j0 = kf k0
                · have g0 : (kf j0 == kf k0) = true := by rw [hkk]; exact beq_self_eq_true _
                  have HKK := Lib.hid hkk
                  clear hkk
                  generalize hjx : kf j0 = kx at *
                  have HJX := Lib.hid hjx
                  clear hjx
                  generalize hky : kf k0 = ky at *
                  have HKY := Lib.hid hky
                  clear hky
                  have hdj := HDD.out j0
                  by_cases hld : j0 < ld
                  · have d1 : decide (j0 < ld) = true := decide_eq_true hld
                    have d2 : decide ((j0 : Int) < (ld : Int)) = true := decide_eq_true (by omega)
                    obtain ⟨bd, od, rfl, hbd, hcd⟩ := HDc.out (by omega)
                    dsimp only at hcd
                    have c3 := (HBX.out.cell (p := ⟨bd, od + j0, none⟩) hbd).trans (hcd j0 hld)
                    have f7 : (j0 : Int) < (ld : Int) := by omega
                    have HDJ := Lib.hid (hdj.1 hld)
                    clear hcd hdj
                    go_wp2_with fail
                    go_quiet (fail)
                    go_wp2_with fail
                    go_quiet (fail)
                    go_wp2_with fail
                    go_roundw
                    case rel => exact ⟨j0 + 1, j0, df j0, by omega, by omega, by omega, by omega, rfl, rfl, by go_num, Lib.hid (.inr ⟨by omega, HJX.out.trans HKK.out, HDJ.out.symm, fun q h1 h2 => by omega⟩), Lib.hid (HXX.out.trans (below_drewN _ _ _))⟩
                    case measure => simp only [intOf]; omega
                  · have d1 : decide (j0 < ld) = false := decide_eq_false hld
                    have d2 : decide ((j0 : Int) < (ld : Int)) = false := decide_eq_false (by omega)
                    have HDJ := Lib.hid (hdj.2 hld)
                    clear hdj
                    go_wp2_with fail
                    go_quiet (fail)
                    go_wp2_with fail
                    go_quiet (fail)
                    go_wp2_with fail
                    go_roundw
                    case rel => exact ⟨j0 + 1, j0, false, by omega, by omega, by omega, by omega, rfl, rfl, by go_num, Lib.hid (.inr ⟨by omega, HJX.out.trans HKK.out, HDJ.out.symm, fun q h1 h2 => by omega⟩), Lib.hid (HXX.out.trans (below_drewN _ _ _))⟩
                    case measure => simp only [intOf]; omega
                · have g0 : (kf j0 == kf k0) = false := beq_eq_false_iff_ne.2 hkk
                  have HQ2 := Lib.hid (show (j0 + 1 = k0 ∨ (last < j0 + 1 ∧ kf last = kf k0 ∧ ob = DD last ∧ ∀ q, last < q → q < j0 + 1 → kf q ≠ kf k0)) from by
                    rcases HQ.out with e | ⟨h1, h2, h3, h4⟩
                    · exact absurd (by rw [e]) hkk
                    · refine .inr ⟨by omega, h2, h3, fun q h5 h6 => ?_⟩
                      by_cases e : q = j0
                      · rw [e]; exact hkk
                      · exact h4 q h5 (by omega))
                  clear hkk
                  generalize kf j0 = kx at *
                  generalize hky : kf k0 = ky at *
                  have HKY := Lib.hid hky
                  clear hky
                  go_wp2_with fail
                  go_quiet (fail)
                  go_wp2_with fail
                  go_roundw
                  case rel => exact ⟨j0 + 1, last, ob, by omega, by omega, by omega, by omega, rfl, rfl, by go_num, HQ2, Lib.hid (HXX.out.trans (below_drewN _ _ _))⟩
                  case measure => simp only [intOf]; omega
              · obtain rfl : j0 = i + 1 := by omega
                have hq : last < i + 1 ∧ kf last = kf k0 ∧ ob = DD last ∧ ∀ q, last < q → q < i + 1 → kf q ≠ kf k0 := by
                  rcases HQ.out with e | h
                  · omega
                  · exact h
                obtain ⟨h1, h2, h3, h4⟩ := hq
                have c2 := (HBX.out.cell (p := ⟨bk, off + k0, none⟩) hbk).trans (hck k0 (by omega))
                have HTx := Lib.hid (HT2.out.kept HXX.out)
                cases hob : DD last with
                | true =>
                  have HG := Lib.hid (SgetNo T G nb 64 (kf k0) m2 ch2 wx HTx.out (inv_no HI2.out h1 h2 hob h4))
                  rw [hob] at h3
                  subst h3
                  clear h2 h4 hob hck HQ
                  generalize kf k0 = ky at *
                  go_wp2_with fail
                  refine HG.out.mono ?_
                  rintro e wg ⟨rfl, bg⟩
                  have BG := Lib.hid (HXX.out.trans (bg.mono HXX.out.size))
                  clear bg c2
                  go_wp2_with fail
                  go_roundw
                  case rel => exact ⟨k0 + 1, by omega, by go_num, BG⟩
                  case measure => simp only [intOf]; omega
                | false =>
                  have HG := Lib.hid (SgetYes T G nb 64 (kf k0) (vf last) m2 ch2 wx HTx.out (inv_yes HI2.out h1 h2 hob h4))
                  rw [hob] at h3
                  subst h3
                  have hcv := HCVA.out
                  have hcv2 := hcv last (by omega)
                  clear h2 h4 hob hck HQ hcv
                  generalize kf k0 = ky at *
                  generalize vf last = vx at *
                  have f5 : (0 : Int) ≤ (last : Int) := by omega
                  have f6 : (last : Int) < (l2 : Int) := by omega
                  have f7 : (vx != vx) = false := by have hb : (vx == vx) = true := (Go.MapKept.bytes_beq vx vx).2 rfl; show (!(vx == vx)) = false; rw [hb]; rfl
                  go_wp2_with fail
                  refine HG.out.mono ?_
                  rintro e wg ⟨rfl, bg⟩
                  have BG := Lib.hid (HXX.out.trans (bg.mono HXX.out.size))
                  have c3 := ((HB2.out.trans (BG.out.mono HB2.out.size)).cell (p := ⟨bv, ov + last, none⟩) hbv).trans hcv2
                  clear bg c2 hcv2
                  go_wp2_with fail
                  go_roundw
                  case rel => exact ⟨k0 + 1, by omega, by go_num, BG⟩
                  case measure => simp only [intOf]; omega
          · obtain rfl : k0 = i + 1 := by omega
            go_wp2_with fail
            go_roundw
            case rel => exact ⟨i + 1, m2, ch2, by omega, by go_num, by omega, Lib.hid (HT2.out.kept HY.out), HI2, HM2, Lib.hid (HB2.out.trans (HY.out.mono HB2.out.size))⟩
            case measure => simp only [intOf]; omega
    · obtain rfl : i = n := by omega
      go_wp2_with fail
      refine (known _).mono ?_
      rintro e w5 ⟨rfl, b5⟩
      have B5 := Lib.hid (HB.out.trans (b5.mono HB.out.size))
      clear b5
      go_wp2_with fail
      go_ret
      exact ⟨rfl, B5.out⟩
theorem walk_BucketsFind (p0 : Int) (v1 v2 v3 : Value) (w : World) (h1 : WordsF w v1) (h2 : StrsF w v2) (h3 : BoolsF w v3) : Calls Try.prog 3 #[.int .i64 p0, v1, v2, v3] w fun e w' => e = .returned (.bool true) ∧ Below w.heap.size w w' := by
  obtain ⟨a1, l1, c1, kf, rfl, u1, k1, hk⟩ := h1
  obtain ⟨a2, l2, c2, vf, rfl, _, k2, hv⟩ := h2
  obtain ⟨a3, ld, c3, df, rfl, _, k3, hd⟩ := h3
  have ha := dm_u64 p0
  obtain ⟨p, hp⟩ : ∃ p : Nat, (p : Int) = 1 + IntKind.u64.wrap p0 % 64 := ⟨(1 + IntKind.u64.wrap p0 % 64).toNat, by omega⟩
  exact findLaw p0 a1 l1 c1 kf a2 l2 c2 vf a3 ld c3 df w u1 k1 k2 k3 hk hv hd p (by omega) (by omega) hp
end Go.Proofs.Ytkkaogdcodmpcaa
