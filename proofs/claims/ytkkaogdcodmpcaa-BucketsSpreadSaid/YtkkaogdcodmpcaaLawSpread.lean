/- The law BucketsSpread, walked. -/
import Derived.Test.YtkkaogdcodmpcaaSpr
import Derived.Test.YtkkaogdcodmpcaaLawNil
namespace Go.Proofs.Ytkkaogdcodmpcaa
open Go.RowKit
set_option linter.unusedVariables false

/-- a slice of words, opened late -/
theorem words_open {w : World} {base : Nat} {v : Value} {l : List Int} (h : w.ownsRow base 29 1 v l.length (l.map (Value.int .u64))) : ∃ a cap, v = .slice a l.length cap ∧ l.length ≤ cap ∧ (0 < l.length → ∃ g, a = some ⟨g, 0, none⟩ ∧ g < w.heap.size ∧ ∀ (j : Nat) x, l[j]? = some x → w.cell? ⟨g, j, none⟩ = some (.int .u64 x)) := by
  rcases words_cells h with ⟨rfl, rfl⟩ | ⟨g, cap, rfl, hc, hh⟩
  · exact ⟨_, _, rfl, Nat.le_refl _, fun h => by simp at h⟩
  · exact ⟨_, _, rfl, hc, fun _ => ⟨g, rfl, (h.lt g rfl).2, hh⟩⟩
set_option maxRecDepth 100000 in
set_option maxHeartbeats 16000000 in
theorem spread (p0 : Int) (a : Option Addr) (len cap : Nat) (xs : List Int) (w : World) (k63 : len ≤ 9223372036854775807) (hxl : xs.length = len) (hx : HoldsW w a xs) (nb : Nat) (q1 : 1 ≤ nb) (q2 : nb ≤ 64) (hp : (nb : Int) = 1 + IntKind.u64.wrap p0 % 64) :
    Calls Try.prog 5 #[.int .i64 p0, .slice a len cap] w fun e w' => e = .returned (.bool true) ∧ Below w.heap.size w w' := by
  have ha := dm_u64 p0
  generalize hza : IntKind.u64.wrap p0 = z at *
  have HP := Lib.hid hp
  have HN := Bnew nb 64 w (by omega) (by omega) (by decide) (by decide)
  rw [Int.toNat_natCast] at HN
  replace HN := Lib.hid HN
  have HX := Lib.hid hx
  have HXL := Lib.hid hxl
  clear hx hp hxl
  go_enter Try.func5, Try.ntmps5
  go_wp2_with fail
  rw [← HP.out]
  refine HN.out.mono ?_
  rintro e w1 ⟨T, G, ch0, rfl, b1, t1, m1⟩
  have B1 := Lib.hid b1
  have T1 := Lib.hid t1
  have M1 := Lib.hid m1
  clear b1 t1 m1
  go_wp2_with fail
  go_loopw [7] (fun i wr => ∃ (j : Nat) (m : List (Int × Bool)) (ch : Nat → Value), j ≤ len ∧ j ≤ 64 ∧ i = .int .i64 j ∧ m.length ≤ j ∧ Hid (Tab Value.bool 91 93 94 wr T G nb 64 m ch) ∧ Hid (∀ q, q < j → ∀ x, xs[q]? = some x → has m x) ∧ Hid (∀ k, Mine T G nb ch k → w.heap.size ≤ k) ∧ Hid (Below w.heap.size w wr)) (fun i _ => len - (intOf i).toNat)
  case atStart => exact ⟨0, [], ch0, by omega, by omega, rfl, by simp, T1, Lib.hid (fun q hq => by omega), M1, B1⟩
  case round =>
    obtain ⟨j, m, ch, hj, hj1, rfl, hmj, HT, HHS, HM, HB⟩ := hrel
    obtain ⟨w9, rfl⟩ : ∃ w9 : World, w9 = wr := ⟨_, rfl⟩
    clear T1 M1 B1
    by_cases hlt : j < len ∧ j < 64
    · obtain ⟨hlt, hlt2⟩ := hlt
      obtain ⟨bk, off, rfl, hbk, hcs⟩ := HX.out (by rw [HXL.out]; omega)
      have hjx : j < xs.length := by rw [HXL.out]; exact hlt
      have hjx2 := List.getElem?_eq_getElem hjx
      have c1 := (HB.out.cell (p := ⟨bk, off + j, none⟩) hbk).trans (hcs j _ hjx2)
      have HJX := Lib.hid hjx2
      clear hcs hjx2
      generalize xs[j] = x at *
      go_wp2_with fail
      refine (BputAny T G nb 64 x true m ch w9 HT.out (by omega)).mono ?_
      rintro e w2 ⟨m', ch', bb, rfl, t2, s2, hl2, hk2, hx2⟩
      have qq := s2.below HM.out HB.out.size
      have B2 := Lib.hid (HB.out.trans qq.1)
      have M2 := Lib.hid qq.2
      have T2 := Lib.hid t2
      have HS2 := Lib.hid (show ∀ q, q < j + 1 → ∀ y, xs[q]? = some y → has m' y from fun q hq y hy => by
        by_cases e : q = j
        · subst e; rw [HJX.out] at hy; cases hy; exact hx2
        · exact hk2 y (HHS.out q (by omega) y hy))
      clear t2 s2 qq hk2 hx2 c1
      go_wp2_with fail
      go_roundw
      case rel => exact ⟨j + 1, m', ch', by omega, by omega, by go_num, by omega, T2, HS2, M2, B2⟩
      case measure => simp only [intOf]; omega
    · by_cases hlt2 : j < len
      all_goals
        have HHS := Lib.hid (show ∀ q, (q < len ∧ q < 64) → ∀ x, xs[q]? = some x → has m x from fun q hq x hx => HHS.out q (by omega) x hx)
        first
          | (have dA : decide ((j : Int) < 64) = false := decide_eq_false (by omega))
          | (have dA : decide (j < len) = false := decide_eq_false hlt2)
        go_wp2_with fail
        refine (Bkeys T G nb 64 m ch w9 HT.out).mono ?_
        rintro e wK ⟨lv, rfl, hlv, bK⟩
        rw [allKeys_len m nb q1] at hlv
        have hlv2 : wK.ownsRow w9.heap.size 29 1 lv (allKeys m nb nb).length ((allKeys m nb nb).map (Value.int .u64)) := by rw [allKeys_len m nb q1]; exact hlv
        obtain ⟨al, cl, hle, hcl, hlc⟩ := words_open hlv2
        rw [allKeys_len m nb q1] at hle hcl hlc
        subst hle
        have HLC := Lib.hid hlc
        have BK := Lib.hid (HB.out.trans (bK.mono HB.out.size))
        have TK := Lib.hid (HT.out.kept bK)
        have HND := Lib.hid (allKeys_nodup nb q1 HT.out.nd)
        have HAL := Lib.hid (allKeys_len m nb q1)
        have hml : m.length ≤ 64 := by omega
        have HLEN := Lib.hid (allKeys_len m nb q1)
        have HKB := Lib.hid (fun b => allKeys_bd m nb b (fun b => Nat.le_trans (chn_len m nb b) hml))
        clear hlv hlv2 hlc bK
        obtain ⟨L, hL⟩ : ∃ L, L = m.length := ⟨_, rfl⟩
        have HLm := Lib.hid hL
        rw [← hL] at hml hcl HLC HLEN HAL ⊢
        clear hL hmj HT
        go_wp2_with fail
        go_loopw [9, 10] (fun c i wz => ∃ (b cn : Nat), b ≤ nb ∧ cn ≤ 4096 ∧ i = .int .i64 b ∧ c = .int .i64 cn ∧ Hid (cn = (allKeys m nb b).length) ∧ Hid (Below wK.heap.size wK wz)) (fun _ i _ => nb - (intOf i).toNat)
        case atStart => exact ⟨0, 0, by omega, by omega, rfl, rfl, Lib.hid (by simp [allKeys]), Lib.hid (Below.refl _ _)⟩
        case round =>
          obtain ⟨b, cn, hb, hcn4, rfl, rfl, HCN, HZ⟩ := hrel
          obtain ⟨wz, rfl⟩ : ∃ wz : World, wz = wr := ⟨_, rfl⟩
          by_cases hlb : b < nb
          · have hbl := HKB.out (b + 1)
            go_wp2_with fail
            refine (Bchain T G nb 64 b m ch wz (TK.out.kept HZ.out) hlb).mono ?_
            rintro e wc ⟨cv, rfl, hcv, bc⟩
            obtain ⟨ac, cc, rfl, hcc, hcl2⟩ := words_open hcv
            have HCC := Lib.hid hcl2
            have BC := Lib.hid (HZ.out.trans (bc.mono HZ.out.size))
            clear hcv bc hcl2
            obtain ⟨C, hC⟩ : ∃ C, C = ((chn m nb b).map (·.1)).length := ⟨_, rfl⟩
            have HCe := Lib.hid hC
            have HCs := Lib.hid (show (allKeys m nb (b + 1)).length = (allKeys m nb b).length + C from by rw [allKeys_succ, List.length_append, hC])
            have hC64 : C ≤ 64 := by rw [hC, List.length_map]; exact Nat.le_trans (chn_len _ _ _) (by rw [← HLm.out]; exact hml)
            rw [← hC] at HCC hcc ⊢
            clear hC
            go_wp2_with fail
            go_loopw [9, 12] (fun c i wy => ∃ (i0 cn' : Nat), i0 ≤ C ∧ i = .int .i64 i0 ∧ c = .int .i64 cn' ∧ cn' = cn + i0 ∧ Hid (Below wc.heap.size wc wy)) (fun _ i _ => C - (intOf i).toNat)
            case atStart => exact ⟨0, cn, by omega, rfl, rfl, by omega, Lib.hid (Below.refl _ _)⟩
            case round =>
              obtain ⟨i0, cn', hi0, rfl, rfl, hcne, HY⟩ := hrel
              obtain ⟨wy, rfl⟩ : ∃ wy : World, wy = wr := ⟨_, rfl⟩
              by_cases hli : i0 < C
              · obtain ⟨gc, rfl, hgc, hcx⟩ := HCC.out (by omega)
                have hix : i0 < ((chn m nb b).map (·.1)).length := by rw [← HCe.out]; exact hli
                have hx0 := List.getElem?_eq_getElem hix
                have c1 := (HY.out.cell (p := ⟨gc, i0, none⟩) hgc).trans (hcx i0 _ hx0)
                have hag := allKeys_get m nb hlb hx0
                rw [← HCN.out, ← hcne] at hag
                have hcl3 : cn' < L := by have := (List.getElem?_eq_some_iff.1 hag).1; rw [HLEN.out] at this; exact this
                obtain ⟨gl, rfl, hgl, hlx⟩ := HLC.out (by omega)
                have c2 := (HY.out.cell (p := ⟨gl, cn', none⟩) (Nat.lt_of_lt_of_le hgl BC.out.size)).trans ((BC.out.cell (p := ⟨gl, cn', none⟩) hgl).trans (hlx cn' _ hag))
                have hbx := chn_bkt hx0
                have HBk := Lib.hid (fun (w1 : World) (h : Below wc.heap.size wc w1) => show Calls Try.prog 31 _ w1 (fun e w' => e = .returned (.int .i64 (b : Int)) ∧ w1 = w') from by
                  have r := Bbucket T G nb 64 (((chn m nb b).map (·.1))[i0]) m ch w1 ((TK.out.kept BC.out).kept h)
                  rw [hbx] at r
                  exact r)
                have HNE := Lib.hid hcne
                clear hx0 hcx hlx hag hbx hcne
                generalize ((chn m nb b).map (·.1))[i0] = x at *
                have f1 : decide (L ≤ cn') = false := decide_eq_false (by omega)
                have f2 : decide ((L : Int) ≤ (cn' : Int)) = false := decide_eq_false (by omega)
                have f3 : (0 : Int) ≤ (cn' : Int) := by omega
                have f4 : (cn' : Int) < (L : Int) := by omega
                have f5 : (0 : Int) ≤ (i0 : Int) := by omega
                have f6 : (i0 : Int) < (C : Int) := by omega
                have f7 : (x != x) = false := by simp
                go_wp2_with fail
                go_quiet ((go_at_call 31; exact Calls.quiet_of_same ((HBk.out _ (HY.out.trans (below_drewN _ _ _))).mono fun e w' ⟨he, hw⟩ => ⟨he, hw.symm⟩)))
                go_wp2_with fail
                go_roundw
                case rel => exact ⟨i0 + 1, cn' + 1, by omega, by go_num, by go_num, by rw [HNE.out]; omega, Lib.hid (HY.out.trans (below_drewN _ _ _))⟩
                case measure => simp only [intOf]; omega
              · obtain rfl : i0 = C := by omega
                go_wp2_with fail
                go_roundw
                case rel => exact ⟨b + 1, cn', by omega, by rw [hcne]; have := HCs.out; rw [← HCN.out] at this; omega, by go_num, rfl, Lib.hid (by rw [HCs.out, ← HCN.out]; exact hcne), Lib.hid (BC.out.trans (HY.out.mono BC.out.size))⟩
                case measure => simp only [intOf]; omega
          · obtain rfl : b = nb := by omega
            have hcL : cn = L := by rw [HCN.out]; exact HLEN.out
            subst hcL
            clear HCN
            go_wp2_with fail
            go_loopw [13] (fun i wy => ∃ i0 : Nat, i0 ≤ cn ∧ i = .int .i64 i0 ∧ Hid (Below wK.heap.size wK wy)) (fun i _ => cn - (intOf i).toNat)
            case atStart => exact ⟨0, by omega, rfl, HZ⟩
            case round =>
              obtain ⟨i0, hi0, rfl, HY⟩ := hrel
              obtain ⟨wy, rfl⟩ : ∃ wy : World, wy = wr := ⟨_, rfl⟩
              by_cases hli : i0 < cn
              · go_wp2_with fail
                go_loopw [14] (fun i wx => ∃ k0 : Nat, k0 ≤ i0 ∧ i = .int .i64 k0 ∧ Hid (Below wK.heap.size wK wx)) (fun i _ => i0 - (intOf i).toNat)
                case atStart => exact ⟨0, by omega, rfl, HY⟩
                case round =>
                  obtain ⟨k0, hk0, rfl, HXX⟩ := hrel
                  obtain ⟨wx, rfl⟩ : ∃ wx : World, wx = wr := ⟨_, rfl⟩
                  by_cases hlk : k0 < i0
                  · obtain ⟨gl, rfl, hgl, hlx⟩ := HLC.out (by omega)
                    have hi1 : i0 < (allKeys m b b).length := by rw [HLEN.out]; exact hli
                    have hk1 : k0 < (allKeys m b b).length := by omega
                    have c1 := (HXX.out.cell (p := ⟨gl, k0, none⟩) hgl).trans (hlx k0 _ (List.getElem?_eq_getElem hk1))
                    have c2 := (HXX.out.cell (p := ⟨gl, i0, none⟩) hgl).trans (hlx i0 _ (List.getElem?_eq_getElem hi1))
                    have hne : (allKeys m b b)[k0] ≠ (allKeys m b b)[i0] := fun e => by have := (List.getElem_inj HND.out).1 e; omega
                    have f0 : ((allKeys m b b)[k0] == (allKeys m b b)[i0]) = false := beq_eq_false_iff_ne.2 hne
                    clear hlx hne
                    generalize (allKeys m b b)[k0] = x at *
                    generalize (allKeys m b b)[i0] = y at *
                    have f3 : (0 : Int) ≤ (k0 : Int) := by omega
                    have f4 : (k0 : Int) < (cn : Int) := by omega
                    have f5 : (0 : Int) ≤ (i0 : Int) := by omega
                    have f6 : (i0 : Int) < (cn : Int) := by omega
                    clear hi1 hk1
                    go_wp2_with fail
                    go_quiet (fail)
                    go_wp2_with fail
                    go_roundw
                    case rel => exact ⟨k0 + 1, by omega, by go_num, Lib.hid (HXX.out.trans (below_drewN _ _ _))⟩
                    case measure => simp only [intOf]; omega
                  · obtain rfl : k0 = i0 := by omega
                    go_wp2_with fail
                    go_roundw
                    case rel => exact ⟨k0 + 1, by omega, by go_num, HXX⟩
                    case measure => simp only [intOf]; omega
              · obtain rfl : i0 = cn := by omega
                go_wp2_with fail
                go_loopw [15] (fun i wx => ∃ j0 : Nat, j0 ≤ len ∧ j0 ≤ 64 ∧ i = .int .i64 j0 ∧ Hid (Below wK.heap.size wK wx)) (fun i _ => len - (intOf i).toNat)
                case atStart => exact ⟨0, by omega, by omega, rfl, HY⟩
                case round =>
                  obtain ⟨j0, hj0, hj64, rfl, HXX⟩ := hrel
                  obtain ⟨wx, rfl⟩ : ∃ wx : World, wx = wr := ⟨_, rfl⟩
                  by_cases hlj : j0 < len ∧ j0 < 64
                  · obtain ⟨hlj, hlj2⟩ := hlj
                    obtain ⟨bk, off, rfl, hbk, hcs⟩ := HX.out (by rw [HXL.out]; omega)
                    have hjx : j0 < xs.length := by rw [HXL.out]; exact hlj
                    have c1 := (HXX.out.cell (p := ⟨bk, off + j0, none⟩) (Nat.lt_of_lt_of_le hbk BK.out.size)).trans ((BK.out.cell (p := ⟨bk, off + j0, none⟩) hbk).trans (hcs j0 _ (List.getElem?_eq_getElem hjx)))
                    obtain ⟨u, hu⟩ := HHS.out j0 (by omega) _ (List.getElem?_eq_getElem hjx)
                    have HG := Lib.hid (BgetYes T G b 64 xs[j0] u m ch wx (TK.out.kept HXX.out) hu)
                    clear hcs hu
                    generalize xs[j0] = x at *
                    go_wp2_with fail
                    refine HG.out.mono ?_
                    rintro e wg ⟨rfl, bg⟩
                    have BG := Lib.hid (HXX.out.trans (bg.mono HXX.out.size))
                    clear bg c1
                    go_wp2_with fail
                    go_roundw
                    case rel => exact ⟨j0 + 1, by omega, by omega, by go_num, BG⟩
                    case measure => simp only [intOf]; omega
                  · by_cases hlj2 : j0 < len
                    all_goals
                      first
                        | (have dB : decide ((j0 : Int) < 64) = false := decide_eq_false (by omega))
                        | (have dB : decide (j0 < len) = false := decide_eq_false hlj2)
                      go_wp2_with fail
                      refine (known _).mono ?_
                      rintro e w5 ⟨rfl, b5⟩
                      have b6 := HXX.out.trans (b5.mono HXX.out.size)
                      have B6 := Lib.hid b6
                      clear b5 b6
                      go_wp2_with fail
                      refine (Blen T G b 64 m ch _ (TK.out.kept B6.out)).mono ?_
                      rintro e w' ⟨rfl, rfl⟩
                      rw [← HLm.out]
                      go_wp2_with fail
                      go_ret
                      exact ⟨rfl, BK.out.trans (B6.out.mono BK.out.size)⟩
theorem walk_BucketsSpread (p0 : Int) (v : Value) (w : World) (hv : Words w v) : Calls Try.prog 5 #[.int .i64 p0, v] w fun e w' => e = .returned (.bool true) ∧ Below w.heap.size w w' := by
  obtain ⟨a, len, cap, xs, rfl, _, h63, hxl, hx⟩ := hv
  have ha := dm_u64 p0
  obtain ⟨p, hp⟩ : ∃ p : Nat, (p : Int) = 1 + IntKind.u64.wrap p0 % 64 := ⟨(1 + IntKind.u64.wrap p0 % 64).toNat, by omega⟩
  exact spread p0 a len cap xs w h63 hxl hx p (by omega) (by omega) hp
end Go.Proofs.Ytkkaogdcodmpcaa
