/- The law UserTouches, walked. -/
import Derived.Test.YtpdchgcpcnaklaaLawD
namespace Go.Proofs.Ytpdchgcpcnaklaa
open Go.RowKit Go.ChangeShapes Go.WideShapes
set_option linter.unusedVariables false

theorem tch_one (ps : List Int) (k m : Nat) : tch ps k (m + 1) = if (tch ps k 1).2 = 0 then tch ps (k + 1) m else tch ps k 1 := by
  show (if ps.getD (k / 16) 0 = 2 then (((k / 16 : Nat) : Int), (14 : Int)) else if ps.getD (k / 16) 0 = 0 then (((k / 16 : Nat) : Int), (15 : Int)) else tch ps (k + 1) m) = _
  have h1 : tch ps k 1 = (if ps.getD (k / 16) 0 = 2 then (((k / 16 : Nat) : Int), (14 : Int)) else if ps.getD (k / 16) 0 = 0 then (((k / 16 : Nat) : Int), (15 : Int)) else (0, 0)) := rfl
  rw [h1]
  generalize ps.getD (k / 16) 0 = s
  by_cases a : s = 2
  · simp [a]
  · by_cases b : s = 0
    · simp [b]
    · simp [a, b]

set_option maxHeartbeats 4000000 in
theorem touches_main (p0 p2 p3 : Int) (p N K : Nat) (a : Option Addr) (len cap : Nat) (x : Nat → AD) (w : World) (h1 : 1 ≤ p) (h2 : p ≤ 16) (hp : (p : Int) = 1 + IntKind.u64.wrap p0 % 16) (hN : (N : Int) = IntKind.u64.wrap p3 % (16 * p + 1)) (hK : (K : Int) = IntKind.u64.wrap p2 % (16 * p - N + 1)) (hkn : K + N ≤ 16 * p) (h3 : len ≤ 9223372036854775807) (hx : ActsAt w a len x) :
    Calls Try.prog 4 #[.int .i64 p0, .slice a len cap, .int .i64 p2, .int .i64 p3] w fun e w' => e = .returned (.bool true) ∧ Below w.heap.size w w' := by
  have ha := dm_u64 p0
  generalize hza : IntKind.u64.wrap p0 = z at *
  have hb := dm_u64 p2
  generalize hzb : IntKind.u64.wrap p2 = y2 at *
  have hc := dm_u64 p3
  generalize hzc : IntKind.u64.wrap p3 = y3 at *
  have HP := Lib.hid hp
  have HN3 := Lib.hid hN
  have HK2 := Lib.hid hK
  have HN := Lib.hid (memNew p w h1 h2)
  have HX := Lib.hid hx
  have HRN := Lib.hid (fun w1 => refNew p w1 h1 h2)
  have HL0 := Lib.hid (show (List.replicate (16 * p) (0 : Int)).length = 16 * p by simp)
  clear hx hp hN hK
  go_enter Try.func4, Try.ntmps4
  go_wp2_with fail
  rw [← HP.out]
  refine HN.out.mono ?_
  rintro e w1 ⟨rfl, b1, m1⟩
  have B1 := Lib.hid b1
  have M1 := Lib.hid m1
  clear b1 m1
  go_wp2_with fail
  refine (HRN.out _).mono ?_
  rintro e w2 ⟨rfl, b2, r2⟩
  have T2 := Lib.hid (twin_new h1 h2 M1.out rfl b2 r2)
  have B2 := Lib.hid (B1.out.trans (b2.mono B1.out.size))
  clear b2 r2
  go_wp2_with fail
  go_loopw [11, 12] (fun r i wr => ∃ (j R c : Nat) (bs ps : List Int), j ≤ len ∧ i = .int .i64 j ∧ r = .slice (some ⟨R, 0, none⟩) (16 * p) c ∧ Hid (Twin wr (w.heap.size + 1) w.heap.size R c bs ps) ∧ Hid (bs.length = 16 * p) ∧ Hid (Below w.heap.size w wr)) (fun _ i _ => len - (intOf i).toNat)
  case atStart => exact ⟨0, _, _, _, _, by omega, rfl, rfl, T2, HL0, B2⟩
  case round =>
    obtain ⟨j, R, c, bs, ps, hj, rfl, rfl, HT, HL, HB⟩ := hrel
    clear T2 B2 M1 B1
    by_cases hlt : j < len ∧ j < 40
    · obtain ⟨hlt, hlt2⟩ := hlt
      have hxw := HX.out.below HB.out
      obtain ⟨bk, off, rfl, hbk, hcs⟩ := hxw.cells (by omega)
      have hok := Lib.hid (hxw.ok j hlt)
      obtain ⟨c0, c1, c2, c3, c4⟩ := hcs j hlt
      have HD := Lib.hid (fun (h : Twin wr (w.heap.size + 1) w.heap.size R c bs ps) => doAny _ _ _ _ bs ps (x j) wr h hok.out)
      rw [HL.out] at HD
      clear hxw hcs
      go_wp2_with fail
      refine (HD.out HT.out).mono ?_
      rintro e w3 ⟨R', c', bs', ps', rfl, hl', ht', ha', hr'⟩
      clear hr' c0 c1 c2 c3 c4
      have HL' := Lib.hid hl'
      have HT' := Lib.hid ht'
      have HB' := Lib.hid (HB.out.trans (ha'.below (by omega) (by omega) HB.out.size))
      clear hl' ht' ha'
      go_wp2_with fail
      go_roundw
      case rel => exact ⟨j + 1, R', c', bs', ps', by omega, by go_num, rfl, HT', HL', HB'⟩
      case measure => simp only [intOf]; omega
    · have HTc := fun k m (hkm : k + m ≤ 16 * p) => memTouch _ _ bs ps k m wr HT.out.mem HT.out.fine (by rw [HL.out]; omega) (by rw [HL.out]; exact hkm)
      replace HTc := Lib.hid HTc
      have ht3 : y3 % (16 * (p : Int) + 1) = N := HN3.out.symm
      have ht2 : y2 % (16 * (p : Int) - N + 1) = K := HK2.out.symm
      by_cases hlt2 : j < len
      all_goals
        first
          | (have dA : decide ((j : Int) < 40) = false := decide_eq_false (by omega))
          | (have dA : decide (j < len) = false := decide_eq_false hlt2)
        go_wp2_with fail
        rw [ht3, ht2]
        clear ht3 ht2
        go_loop [13, 14, 15] (fun f y i => ∃ j : Nat, j ≤ N ∧ i = .int .i64 ((j : Int) - 1) ∧ f = .int .i64 (tch ps (K + j) (N - j)).1 ∧ y = .int .i64 (tch ps (K + j) (N - j)).2) (fun _ _ i => (1 + intOf i).toNat)
        case atStart => exact ⟨N, by omega, rfl, by rw [Nat.sub_self]; rfl, by rw [Nat.sub_self]; rfl⟩
        case round =>
          obtain ⟨j, hj1, rfl, rfl, rfl⟩ := hrel
          by_cases hj0 : j = 0
          · subst hj0
            have HTl := HTc.out K N hkn
            rw [Nat.add_zero, Nat.sub_zero]
            generalize tch ps K N = t at *
            obtain ⟨t1, t2⟩ := t
            replace HTl := Lib.hid HTl
            go_wp2_with fail
            refine HTl.out.mono ?_; rintro e w' ⟨rfl, rfl⟩
            go_wp2_with fail
            refine (knownUser _).mono ?_
            rintro e w5 ⟨rfl, b5⟩
            have G5 := Lib.hid (HB.out.trans (b5.mono HB.out.size))
            clear b5
            go_wp2_with fail
            go_ret
            exact ⟨rfl, G5.out⟩
          · obtain ⟨i, rfl⟩ : ∃ i : Nat, j = i + 1 := ⟨j - 1, by omega⟩
            have HT1 := HTc.out (K + i) 1 (by omega)
            have HS := tch_one ps (K + i) (N - (i + 1))
            rw [show N - (i + 1) + 1 = N - i from by omega, show K + i + 1 = K + (i + 1) from by omega] at HS
            rw [show (((i + 1 : Nat) : Int) - 1) = (i : Int) from by omega]
            rw [show (((K + i : Nat) : Int)) = (K : Int) + i from by omega] at HT1
            generalize tch ps (K + i) 1 = t at *
            generalize tch ps (K + (i + 1)) (N - (i + 1)) = u at *
            obtain ⟨t1, t2⟩ := t
            obtain ⟨u1, u2⟩ := u
            dsimp only at *
            replace HT1 := Lib.hid HT1
            replace HS := Lib.hid HS
            clear hj0
            by_cases hq : t2 = 0
            all_goals
              have HQ := Lib.hid hq
              first | rw [if_pos hq] at HS | rw [if_neg hq] at HS
              first
                | (have d0 : (t2 == 0) = true := by rw [hq]; rfl)
                | (have d0 : (t2 == 0) = false := beq_eq_false_iff_ne.2 hq)
              first
                | (have d1 : (t2 != 0) = false := by rw [hq]; rfl)
                | (have d1 : (t2 != 0) = true := bne_iff_ne.2 hq)
              clear hq
              go_wp2_with fail
              refine HT1.out.mono ?_; rintro e w' ⟨rfl, rfl⟩
              go_wp2_with fail
              go_round
              case rel => exact ⟨i, by omega, rfl, by rw [HS.out], by rw [HS.out]⟩
              case measure => simp only [intOf]; omega

theorem walk_UserTouches (p0 : Int) (v : Value) (p2 p3 : Int) (w : World) (hv : Acts w v) : Calls Try.prog 4 #[.int .i64 p0, v, .int .i64 p2, .int .i64 p3] w fun e w' => e = .returned (.bool true) ∧ Below w.heap.size w w' := by
  obtain ⟨a, len, cap, x, rfl, _, h63, hx⟩ := hv
  have ha := dm_u64 p0
  obtain ⟨p, hp⟩ : ∃ p : Nat, (p : Int) = 1 + IntKind.u64.wrap p0 % 16 := ⟨(1 + IntKind.u64.wrap p0 % 16).toNat, by omega⟩
  have h1 : 1 ≤ p := by omega
  have h2 : p ≤ 16 := by omega
  have e1 := Int.emod_nonneg (IntKind.u64.wrap p3) (show (16 * (p : Int) + 1) ≠ 0 by omega)
  have e2 := Int.emod_lt_of_pos (IntKind.u64.wrap p3) (show 0 < (16 * (p : Int) + 1) by omega)
  obtain ⟨N, hN⟩ : ∃ N : Nat, (N : Int) = IntKind.u64.wrap p3 % (16 * p + 1) := ⟨(IntKind.u64.wrap p3 % (16 * p + 1)).toNat, by omega⟩
  have e3 := Int.emod_nonneg (IntKind.u64.wrap p2) (show (16 * (p : Int) - N + 1) ≠ 0 by omega)
  have e4 := Int.emod_lt_of_pos (IntKind.u64.wrap p2) (show 0 < (16 * (p : Int) - N + 1) by omega)
  obtain ⟨K, hK⟩ : ∃ K : Nat, (K : Int) = IntKind.u64.wrap p2 % (16 * p - N + 1) := ⟨(IntKind.u64.wrap p2 % (16 * p - N + 1)).toNat, by omega⟩
  exact touches_main p0 p2 p3 p N K a len cap x w h1 h2 hp hN hK (by omega) h63 hx
end Go.Proofs.Ytpdchgcpcnaklaa
