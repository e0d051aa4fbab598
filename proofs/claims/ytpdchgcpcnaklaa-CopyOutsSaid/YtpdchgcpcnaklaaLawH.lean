/- The law CopyOuts, walked. -/
import Derived.Test.YtpdchgcpcnaklaaLawG
import Derived.Test.YtpdchgcpcnaklaaLawD
namespace Go.Proofs.Ytpdchgcpcnaklaa
open Go.RowKit Go.ChangeShapes Go.WideShapes
set_option linter.unusedVariables false

/-- the three ways of a try of a copy out -/
theorem try_out (bs ps : List Int) (addr n : Int) (wait : Bool) (s : CS) (ho : s.over = false) (hn : 0 ≤ n) :
    (∃ k m : Nat, addr = k ∧ n = m ∧ k + m ≤ bs.length ∧ tryS bs ps addr n true wait s = (pok bs k s.xs, ⟨true, false, 0, s.tries + 1, s.xs⟩, 0)) ∨
    (wait = true ∧ tryS bs ps addr n true wait s = (bs, ⟨false, true, (touchR bs ps addr n).1, s.tries + 1, s.xs⟩, 15)) ∨
    tryS bs ps addr n true wait s = (bs, ⟨true, false, 0, s.tries + 1, s.xs⟩, 14) := by
  unfold tryS
  rw [if_neg (by rw [ho]; decide)]
  by_cases h0 : (touchR bs ps addr n).2 = 0
  · obtain ⟨k, m, rfl, rfl, hkm⟩ := touchR_in (bs := bs) (ps := ps) (addr := addr) (n := n) (by omega)
    refine .inl ⟨k, m, rfl, rfl, hkm, ?_⟩
    rw [if_pos h0, if_pos rfl]
    rfl
  · rw [if_neg h0]
    by_cases h1 : (touchR bs ps addr n).2 = 15 ∧ wait = true
    · exact .inr (.inl ⟨h1.2, by rw [if_pos h1]⟩)
    · exact .inr (.inr (by rw [if_neg h1, if_pos rfl]))

set_option maxRecDepth 100000 in
set_option maxHeartbeats 8000000 in
theorem outs (p0 addr : Int) (a2 : Option Addr) (l2 c2 m : Nat) (a3 : Option Addr) (len cap : Nat) (x : Nat → AD) (wait : Bool) (w : World) (hc2 : l2 ≤ c2) (h63 : l2 ≤ 9223372036854775807) (xs : List Int) (hl2 : xs.length = l2) (hb2 : ∀ x ∈ xs, 0 ≤ x ∧ x ≤ 255) (hx2 : Holds w a2 xs)
    (h3 : len ≤ 9223372036854775807) (hx : ActsAt w a3 len x) (p : Nat) (h1 : 1 ≤ p) (h2 : p ≤ 16) (hp : (p : Int) = 1 + IntKind.u64.wrap p0 % 16) (hm : m = if l2 ≤ 64 then l2 else 64) :
    Calls Try.prog 9 #[.int .i64 p0, .int .i64 addr, .slice a2 l2 c2, .slice a3 len cap, .bool wait] w fun e w' => e = .returned (.bool true) ∧ Below w.heap.size w w' := by
  have ha := dm_u64 p0
  generalize hza : IntKind.u64.wrap p0 = z at *
  have hm' : m ≤ 64 ∧ m ≤ l2 := by split at hm <;> omega
  obtain ⟨ys, hys⟩ : ∃ ys, ys = xs.take m := ⟨_, rfl⟩
  have hyl : ys.length = m := by rw [hys, List.length_take]; omega
  have hy2 : Holds w a2 ys := by rw [hys]; exact hx2.takes (Below.refl _ _) m (by omega)
  have HP := Lib.hid hp
  have HN := Lib.hid (memNew p w h1 h2)
  have HX := Lib.hid hx
  have HRN := Lib.hid (fun w1 => refNew p w1 h1 h2)
  have HL0 := Lib.hid (show (List.replicate (16 * p) (0 : Int)).length = 16 * p by simp)
  have HY := Lib.hid hy2
  have HYL := Lib.hid hyl
  have HO := Lib.hid (fun w1 (b : Below w.heap.size w w1) => cpOut addr a2 c2 m ys w1 hyl (hy2.below b) hm'.1)
  have HPe := Lib.hid (fun w1 bs ps (hb : bs.length = 16 * p) (h : IsMem w1 (w.heap.size + 1) w.heap.size bs ps) => by
    have r := memPeek _ _ bs ps 0 (16 * p) w1 h (by omega) (by omega)
    rw [show sub bs 0 (16 * p) = bs from by rw [← hb]; exact peek_all] at r
    exact r)
  have HBy := Lib.hid (fun (w1 : World) (C : Nat) (s : CS) (hs : s.xs = ys) (h : Cpy w1 (w.heap.size + 1) w.heap.size C addr m true s) => by
    have r := cpBytes _ _ C addr m true _ w1 h (by rw [hs, hyl]; omega)
    rw [hs] at r
    exact r)
  have HTr := Lib.hid (fun (w1 : World) (C : Nat) (bs ps : List Int) (hb : bs.length = 16 * p) (h : Cpy w1 (w.heap.size + 1) w.heap.size C addr m true ⟨false, false, 0, 0, ys⟩) (i : IsMem w1 (w.heap.size + 1) w.heap.size bs ps) (f : Fine bs ps) =>
    cpTry _ _ C bs ps addr m true wait _ w1 h i f (by omega) (by omega) (by omega) (by simp; omega) (by simp) (by simp))
  have HS := Lib.hid (fun w1 a b ca cb h1 h2 => refSame a b ca cb ys w1 m hyl (by omega) h1 h2)
  clear hx hy2 hyl hys hx2 hb2
  by_cases g2 : l2 ≤ 64
  · obtain rfl : m = l2 := by rw [if_pos g2] at hm; exact hm
    clear hm hm' hp hl2
    go_enter Try.func9, Try.ntmps9
    go_wp2_with fail
    rw [← HP.out]
    refine HN.out.mono ?_
    rintro e w1 ⟨rfl, b1, m1⟩
    have B1 := Lib.hid b1
    have M1 := Lib.hid m1
    clear b1 m1
    go_wp2_with fail
    refine (HO.out _ B1.out).mono ?_
    rintro e w2 ⟨C, rfl, hgC, b2, c2'⟩
    have C2 := Lib.hid (c2' (w.heap.size + 1) w.heap.size M1.out.ltM M1.out.ltD)
    rw [HYL.out] at C2
    have B2 := Lib.hid (B1.out.trans (b2.mono B1.out.size))
    have M2 := Lib.hid (M1.out.kept b2 M1.out.ltM M1.out.ltD)
    have hgC' : w.heap.size ≤ C := Nat.le_trans B1.out.size hgC
    clear b2 c2' hgC
    go_wp2_with fail
    refine (HRN.out _).mono ?_
    rintro e w3 ⟨rfl, b3, r3⟩
    have T3 := Lib.hid (twin_new h1 h2 M2.out rfl b3 r3)
    have B3 := Lib.hid (B2.out.trans (b3.mono B2.out.size))
    have C3 := Lib.hid (C2.out.apart (.of b3))
    clear b3 r3
    go_wp2_with fail
    go_loopw [15, 16] (fun r i wr => ∃ (j R c : Nat) (bs ps : List Int), j ≤ len ∧ i = .int .i64 j ∧ r = .slice (some ⟨R, 0, none⟩) (16 * p) c ∧ Hid (Twin wr (w.heap.size + 1) w.heap.size R c bs ps) ∧ Hid (bs.length = 16 * p) ∧ Hid (Below w.heap.size w wr) ∧ Hid (Cpy wr (w.heap.size + 1) w.heap.size C addr m true ⟨false, false, 0, 0, ys⟩)) (fun _ i _ => len - (intOf i).toNat)
    case atStart => exact ⟨0, _, _, _, _, by omega, rfl, rfl, T3, HL0, B3, C3⟩
    case round =>
      obtain ⟨j, R, c, bs, ps, hj, rfl, rfl, HT, HL, HB, HC⟩ := hrel
      clear T3 B3 M2 B2 M1 B1 C2 C3
      by_cases hlt : j < len ∧ j < 30
      · obtain ⟨hlt, hlt2⟩ := hlt
        have hxw := HX.out.below HB.out
        obtain ⟨bk, off, rfl, hbk, hcs⟩ := hxw.cells (by omega)
        have hok := Lib.hid (hxw.ok j hlt)
        obtain ⟨c0, c1, c2, c3, c4⟩ := hcs j hlt
        have HD := Lib.hid (fun (h : Twin wr (w.heap.size + 1) w.heap.size R c bs ps) => doAny _ _ _ _ bs ps (x j) wr h hok.out)
        rw [HL.out] at HD
        clear hxw hcs
        go_wp2_with fail
        refine (HD.out HT.out).mono ?_
        rintro e w3 ⟨R', c', bs', ps', rfl, hl', ht', ha', hr'⟩
        clear hr' c0 c1 c2 c3 c4
        have HL' := Lib.hid hl'
        have HT' := Lib.hid ht'
        have HB' := Lib.hid (HB.out.trans (ha'.below (by omega) (by omega) HB.out.size))
        have HC' := Lib.hid (HC.out.apart ha')
        clear hl' ht' ha'
        go_wp2_with fail
        go_roundw
        case rel => exact ⟨j + 1, R', c', bs', ps', by omega, by go_num, rfl, HT', HL', HB', HC'⟩
        case measure => simp only [intOf]; omega
      · have HT0 := HTr.out wr C bs ps HL.out HC.out HT.out.mem HT.out.fine
        have HT1 := fun w4 (b : Below wr.heap.size wr w4) => HTr.out w4 C bs ps HL.out (HC.out.apart (.of b)) (HT.out.mem.kept b HT.out.mem.ltM HT.out.mem.ltD) HT.out.fine
        have hways := try_out bs ps addr ((m : Nat) : Int) wait ⟨false, false, 0, 0, ys⟩ rfl (by omega)
        have HM := Lib.hid HT.out.mem
        have HFi := Lib.hid HT.out.fine
        clear HT0
        rcases hways with ⟨k, m', hk, hm1, hkm, hv⟩ | ⟨hwt, hv⟩ | hv
        all_goals
          rw [hv] at HT1
          dsimp only at HT1
          replace HT1 := Lib.hid HT1
          clear hv
        · obtain rfl : m = m' := by omega
          subst hk
          clear hm1
          have HBl := Lib.hid (show (pok bs k ys).length = 16 * p from by rw [pok_len (by rw [HYL.out]; exact hkm)]; exact HL.out)
          have HV := Lib.hid (fun i => pok_get (bs := bs) (xs := ys) (k := k) (by rw [HYL.out]; exact hkm) i)
          rw [HYL.out] at HV
          rw [HL.out] at hkm
          by_cases hlt2 : j < len
          all_goals
            go_wp2_with fail
            refine (HPe.out _ bs ps HL.out HM.out).mono ?_
            rintro e w4 ⟨v4, rfl, hv4⟩
            obtain ⟨a4, cap4, rfl, n4⟩ := hv4.news
            rw [HL.out]
            have N4 := Lib.hid (n4.holdsX HM.out.ltM HM.out.ltD HC.out.lt)
            have B4 := Lib.hid hv4.2
            have G4 := Lib.hid (HB.out.trans (hv4.2.mono HB.out.size))
            clear n4 hv4
            go_wp2_with fail
            refine (HT1.out _ B4.out).mono ?_
            rintro e w5 ⟨rfl, a5, i5, c5⟩
            dsimp only at i5 c5 ⊢
            have N5 := Lib.hid (N4.out.apart a5)
            have I5 := Lib.hid i5
            have C5 := Lib.hid c5
            have G5 := Lib.hid (G4.out.trans (a5.below (by omega) (by omega) hgC' G4.out.size))
            clear a5 i5 c5
            go_wp2_with fail
            refine (HPe.out _ _ ps HBl.out I5.out).mono ?_
            rintro e w6 ⟨v6, rfl, hv6⟩
            obtain ⟨a6, cap6, rfl, n6⟩ := hv6.news
            rw [HBl.out]
            have N6 := Lib.hid n6.holds
            have M6 := Lib.hid (N5.out.apart (.of hv6.2)).holds
            have C6 := Lib.hid (C5.out.apart (.of hv6.2))
            have G6 := Lib.hid (G5.out.trans (hv6.2.mono G5.out.size))
            clear n6 hv6
            go_wp2_with fail
            refine (HBy.out _ C _ rfl C6.out).mono ?_
            rintro e w7 ⟨a7, cap7, rfl, n7, b7⟩
            rw [HYL.out]
            have N7 := Lib.hid n7.holds
            have G7 := Lib.hid (G6.out.trans (b7.mono G6.out.size))
            have W7 := Lib.hid (M6.out.below b7)
            have V7 := Lib.hid (N6.out.below b7)
            have C7 := Lib.hid (C6.out.apart (.of b7))
            clear n7 b7
            go_wp2_with fail
            refine (HS.out _ _ _ _ _ (by exact N7.out) (by exact HY.out.below G7.out)).mono ?_
            rintro e w8 ⟨rfl, b8⟩
            have G8 := Lib.hid (G7.out.trans (b8.mono G7.out.size))
            have C8 := Lib.hid (C7.out.apart (.of b8))
            obtain ⟨B4, o4, hs4, hl4, hc4⟩ := W7.out.below b8 (by rw [HL.out]; omega)
            obtain ⟨B6, o6, hs6, hl6, hc6⟩ := V7.out.below b8 (by rw [HBl.out]; omega)
            subst hs4
            subst hs6
            rw [HL.out] at hc4
            rw [HBl.out] at hc6
            have HC4 := Lib.hid hc4
            have HC6 := Lib.hid hc6
            have HY8 := Lib.hid (HY.out.below G8.out)
            clear b8 hc4 hc6
            first
              | (have dA : decide ((j : Int) < 30) = false := decide_eq_false (by omega))
              | (have dA : decide (j < len) = false := decide_eq_false hlt2)
            go_wp2_with fail
            go_loop [22, 23] (fun i wt => ∃ j : Nat, j ≤ 16 * p ∧ i = .int .i64 j ∧ (wt = undef ∨ ∃ x, wt = .int .u8 x)) (fun i _ => 16 * p - (intOf i).toNat)
            case atStart => exact ⟨0, by omega, rfl, .inl rfl⟩
            case round =>
              obtain ⟨i, hi, rfl, hwt⟩ := hrel
              clear hwt
              by_cases hit : i < 16 * p
              · have hx4 := HC4.out i hit
                have hx6 := HC6.out i hit
                have hvi := HV.out i
                generalize bs.getD i 0 = q4 at hx4 hvi
                generalize (pok bs k ys).getD i 0 = q6 at hx6 hvi
                by_cases e3 : k ≤ i
                · by_cases e4 : i - k < m
                  · obtain ⟨B2, o2, hs2, hl2', hc2'⟩ := HY8.out (by rw [HYL.out]; omega)
                    subst hs2
                    have hx2 := hc2' (i - k) (by rw [HYL.out]; exact e4)
                    clear hc2'
                    rw [if_pos ⟨e3, e4⟩] at hvi
                    generalize ys.getD (i - k) 0 = q2 at hx2 hvi
                    subst hvi
                    have tj : ((i : Int) - k).toNat = i - k := by omega
                    go_wp2_with fail
                    refine ⟨?_, ?_⟩
                    · exact ⟨i + 1, by omega, by simp, .inr ⟨_, rfl⟩⟩
                    · simp only [intOf]; omega
                  · rw [if_neg (by omega)] at hvi
                    subst hvi
                    go_wp2_with fail
                    refine ⟨?_, ?_⟩
                    · exact ⟨i + 1, by omega, by simp, .inr ⟨_, rfl⟩⟩
                    · simp only [intOf]; omega
                · rw [if_neg (by omega)] at hvi
                  subst hvi
                  go_wp2_with fail
                  refine ⟨?_, ?_⟩
                  · exact ⟨i + 1, by omega, by simp, .inr ⟨_, rfl⟩⟩
                  · simp only [intOf]; omega
              · go_wp2_with fail
                refine (knownCopy _).mono ?_
                rintro e w9 ⟨rfl, b9⟩
                have G9 := Lib.hid (G8.out.trans (b9.mono G8.out.size))
                have C9 := Lib.hid (C8.out.apart (.of b9))
                clear b9
                go_wp2_with fail
                refine (cpOver _ _ C _ _ true _ _ C9.out).mono ?_
                rintro e w' ⟨rfl, rfl⟩
                dsimp only
                go_wp2_with fail
                go_ret
                exact ⟨rfl, G9.out⟩
        · subst hwt
          have HBl := HL
          by_cases hlt2 : j < len
          all_goals
            go_wp2_with fail
            refine (HPe.out _ bs ps HL.out HM.out).mono ?_
            rintro e w4 ⟨v4, rfl, hv4⟩
            obtain ⟨a4, cap4, rfl, n4⟩ := hv4.news
            rw [HL.out]
            have N4 := Lib.hid (n4.holdsX HM.out.ltM HM.out.ltD HC.out.lt)
            have B4 := Lib.hid hv4.2
            have G4 := Lib.hid (HB.out.trans (hv4.2.mono HB.out.size))
            clear n4 hv4
            go_wp2_with fail
            refine (HT1.out _ B4.out).mono ?_
            rintro e w5 ⟨rfl, a5, i5, c5⟩
            dsimp only at i5 c5 ⊢
            have N5 := Lib.hid (N4.out.apart a5)
            have I5 := Lib.hid i5
            have C5 := Lib.hid c5
            have G5 := Lib.hid (G4.out.trans (a5.below (by omega) (by omega) hgC' G4.out.size))
            clear a5 i5 c5
            go_wp2_with fail
            refine (HPe.out _ _ ps HBl.out I5.out).mono ?_
            rintro e w6 ⟨v6, rfl, hv6⟩
            obtain ⟨a6, cap6, rfl, n6⟩ := hv6.news
            rw [HBl.out]
            have N6 := Lib.hid n6.holds
            have M6 := Lib.hid (N5.out.apart (.of hv6.2)).holds
            have C6 := Lib.hid (C5.out.apart (.of hv6.2))
            have G6 := Lib.hid (G5.out.trans (hv6.2.mono G5.out.size))
            clear n6 hv6
            go_wp2_with fail
            refine (HBy.out _ C _ rfl C6.out).mono ?_
            rintro e w7 ⟨a7, cap7, rfl, n7, b7⟩
            rw [HYL.out]
            have N7 := Lib.hid n7.holds
            have G7 := Lib.hid (G6.out.trans (b7.mono G6.out.size))
            have W7 := Lib.hid (M6.out.below b7)
            have V7 := Lib.hid (N6.out.below b7)
            have C7 := Lib.hid (C6.out.apart (.of b7))
            clear n7 b7
            go_wp2_with fail
            refine (HS.out _ _ _ _ _ (by exact N7.out) (by exact HY.out.below G7.out)).mono ?_
            rintro e w8 ⟨rfl, b8⟩
            have G8 := Lib.hid (G7.out.trans (b8.mono G7.out.size))
            have C8 := Lib.hid (C7.out.apart (.of b8))
            obtain ⟨B4, o4, hs4, hl4, hc4⟩ := W7.out.below b8 (by rw [HL.out]; omega)
            obtain ⟨B6, o6, hs6, hl6, hc6⟩ := V7.out.below b8 (by rw [HBl.out]; omega)
            subst hs4
            subst hs6
            rw [HL.out] at hc4
            rw [HBl.out] at hc6
            have HC4 := Lib.hid hc4
            have HC6 := Lib.hid hc6
            have HY8 := Lib.hid (HY.out.below G8.out)
            clear b8 hc4 hc6
            first
              | (have dA : decide ((j : Int) < 30) = false := decide_eq_false (by omega))
              | (have dA : decide (j < len) = false := decide_eq_false hlt2)
            go_wp2_with fail
            go_loop [22, 23] (fun i wt => ∃ j : Nat, j ≤ 16 * p ∧ i = .int .i64 j ∧ (wt = undef ∨ ∃ x, wt = .int .u8 x)) (fun i _ => 16 * p - (intOf i).toNat)
            case atStart => exact ⟨0, by omega, rfl, .inl rfl⟩
            case round =>
              obtain ⟨i, hi, rfl, hwt⟩ := hrel
              clear hwt
              by_cases hit : i < 16 * p
              · have hx4 := HC4.out i hit
                have hx6 := HC6.out i hit
                generalize bs.getD i 0 = q4 at hx4 hx6
                go_wp2_with fail
                refine ⟨?_, ?_⟩
                · exact ⟨i + 1, by omega, by simp, .inr ⟨_, rfl⟩⟩
                · simp only [intOf]; omega
              · go_wp2_with fail
                refine (knownCopy _).mono ?_
                rintro e w9 ⟨rfl, b9⟩
                have G9 := Lib.hid (G8.out.trans (b9.mono G8.out.size))
                have C9 := Lib.hid (C8.out.apart (.of b9))
                clear b9
                go_wp2_with fail
                refine (cpOver _ _ C _ _ true _ _ C9.out).mono ?_
                rintro e w' ⟨rfl, rfl⟩
                dsimp only
                go_wp2_with fail
                go_ret
                exact ⟨rfl, G9.out⟩
        · have HBl := HL
          by_cases hlt2 : j < len
          all_goals
            go_wp2_with fail
            refine (HPe.out _ bs ps HL.out HM.out).mono ?_
            rintro e w4 ⟨v4, rfl, hv4⟩
            obtain ⟨a4, cap4, rfl, n4⟩ := hv4.news
            rw [HL.out]
            have N4 := Lib.hid (n4.holdsX HM.out.ltM HM.out.ltD HC.out.lt)
            have B4 := Lib.hid hv4.2
            have G4 := Lib.hid (HB.out.trans (hv4.2.mono HB.out.size))
            clear n4 hv4
            go_wp2_with fail
            refine (HT1.out _ B4.out).mono ?_
            rintro e w5 ⟨rfl, a5, i5, c5⟩
            dsimp only at i5 c5 ⊢
            have N5 := Lib.hid (N4.out.apart a5)
            have I5 := Lib.hid i5
            have C5 := Lib.hid c5
            have G5 := Lib.hid (G4.out.trans (a5.below (by omega) (by omega) hgC' G4.out.size))
            clear a5 i5 c5
            go_wp2_with fail
            refine (HPe.out _ _ ps HBl.out I5.out).mono ?_
            rintro e w6 ⟨v6, rfl, hv6⟩
            obtain ⟨a6, cap6, rfl, n6⟩ := hv6.news
            rw [HBl.out]
            have N6 := Lib.hid n6.holds
            have M6 := Lib.hid (N5.out.apart (.of hv6.2)).holds
            have C6 := Lib.hid (C5.out.apart (.of hv6.2))
            have G6 := Lib.hid (G5.out.trans (hv6.2.mono G5.out.size))
            clear n6 hv6
            go_wp2_with fail
            refine (HBy.out _ C _ rfl C6.out).mono ?_
            rintro e w7 ⟨a7, cap7, rfl, n7, b7⟩
            rw [HYL.out]
            have N7 := Lib.hid n7.holds
            have G7 := Lib.hid (G6.out.trans (b7.mono G6.out.size))
            have W7 := Lib.hid (M6.out.below b7)
            have V7 := Lib.hid (N6.out.below b7)
            have C7 := Lib.hid (C6.out.apart (.of b7))
            clear n7 b7
            go_wp2_with fail
            refine (HS.out _ _ _ _ _ (by exact N7.out) (by exact HY.out.below G7.out)).mono ?_
            rintro e w8 ⟨rfl, b8⟩
            have G8 := Lib.hid (G7.out.trans (b8.mono G7.out.size))
            have C8 := Lib.hid (C7.out.apart (.of b8))
            obtain ⟨B4, o4, hs4, hl4, hc4⟩ := W7.out.below b8 (by rw [HL.out]; omega)
            obtain ⟨B6, o6, hs6, hl6, hc6⟩ := V7.out.below b8 (by rw [HBl.out]; omega)
            subst hs4
            subst hs6
            rw [HL.out] at hc4
            rw [HBl.out] at hc6
            have HC4 := Lib.hid hc4
            have HC6 := Lib.hid hc6
            have HY8 := Lib.hid (HY.out.below G8.out)
            clear b8 hc4 hc6
            first
              | (have dA : decide ((j : Int) < 30) = false := decide_eq_false (by omega))
              | (have dA : decide (j < len) = false := decide_eq_false hlt2)
            go_wp2_with fail
            go_loop [22, 23] (fun i wt => ∃ j : Nat, j ≤ 16 * p ∧ i = .int .i64 j ∧ (wt = undef ∨ ∃ x, wt = .int .u8 x)) (fun i _ => 16 * p - (intOf i).toNat)
            case atStart => exact ⟨0, by omega, rfl, .inl rfl⟩
            case round =>
              obtain ⟨i, hi, rfl, hwt⟩ := hrel
              clear hwt
              by_cases hit : i < 16 * p
              · have hx4 := HC4.out i hit
                have hx6 := HC6.out i hit
                generalize bs.getD i 0 = q4 at hx4 hx6
                go_wp2_with fail
                refine ⟨?_, ?_⟩
                · exact ⟨i + 1, by omega, by simp, .inr ⟨_, rfl⟩⟩
                · simp only [intOf]; omega
              · go_wp2_with fail
                refine (knownCopy _).mono ?_
                rintro e w9 ⟨rfl, b9⟩
                have G9 := Lib.hid (G8.out.trans (b9.mono G8.out.size))
                have C9 := Lib.hid (C8.out.apart (.of b9))
                clear b9
                go_wp2_with fail
                refine (cpOver _ _ C _ _ true _ _ C9.out).mono ?_
                rintro e w' ⟨rfl, rfl⟩
                dsimp only
                go_wp2_with fail
                go_ret
                exact ⟨rfl, G9.out⟩
  · obtain rfl : m = 64 := by rw [if_neg g2] at hm; exact hm
    clear hm hm' hp hl2
    go_enter Try.func9, Try.ntmps9
    go_wp2_with fail
    rw [← HP.out]
    refine HN.out.mono ?_
    rintro e w1 ⟨rfl, b1, m1⟩
    have B1 := Lib.hid b1
    have M1 := Lib.hid m1
    clear b1 m1
    go_wp2_with fail
    refine (HO.out _ B1.out).mono ?_
    rintro e w2 ⟨C, rfl, hgC, b2, c2'⟩
    have C2 := Lib.hid (c2' (w.heap.size + 1) w.heap.size M1.out.ltM M1.out.ltD)
    rw [HYL.out] at C2
    have B2 := Lib.hid (B1.out.trans (b2.mono B1.out.size))
    have M2 := Lib.hid (M1.out.kept b2 M1.out.ltM M1.out.ltD)
    have hgC' : w.heap.size ≤ C := Nat.le_trans B1.out.size hgC
    clear b2 c2' hgC
    go_wp2_with fail
    refine (HRN.out _).mono ?_
    rintro e w3 ⟨rfl, b3, r3⟩
    have T3 := Lib.hid (twin_new h1 h2 M2.out rfl b3 r3)
    have B3 := Lib.hid (B2.out.trans (b3.mono B2.out.size))
    have C3 := Lib.hid (C2.out.apart (.of b3))
    clear b3 r3
    go_wp2_with fail
    go_loopw [15, 16] (fun r i wr => ∃ (j R c : Nat) (bs ps : List Int), j ≤ len ∧ i = .int .i64 j ∧ r = .slice (some ⟨R, 0, none⟩) (16 * p) c ∧ Hid (Twin wr (w.heap.size + 1) w.heap.size R c bs ps) ∧ Hid (bs.length = 16 * p) ∧ Hid (Below w.heap.size w wr) ∧ Hid (Cpy wr (w.heap.size + 1) w.heap.size C addr 64 true ⟨false, false, 0, 0, ys⟩)) (fun _ i _ => len - (intOf i).toNat)
    case atStart => exact ⟨0, _, _, _, _, by omega, rfl, rfl, T3, HL0, B3, C3⟩
    case round =>
      obtain ⟨j, R, c, bs, ps, hj, rfl, rfl, HT, HL, HB, HC⟩ := hrel
      clear T3 B3 M2 B2 M1 B1 C2 C3
      by_cases hlt : j < len ∧ j < 30
      · obtain ⟨hlt, hlt2⟩ := hlt
        have hxw := HX.out.below HB.out
        obtain ⟨bk, off, rfl, hbk, hcs⟩ := hxw.cells (by omega)
        have hok := Lib.hid (hxw.ok j hlt)
        obtain ⟨c0, c1, c2, c3, c4⟩ := hcs j hlt
        have HD := Lib.hid (fun (h : Twin wr (w.heap.size + 1) w.heap.size R c bs ps) => doAny _ _ _ _ bs ps (x j) wr h hok.out)
        rw [HL.out] at HD
        clear hxw hcs
        go_wp2_with fail
        refine (HD.out HT.out).mono ?_
        rintro e w3 ⟨R', c', bs', ps', rfl, hl', ht', ha', hr'⟩
        clear hr' c0 c1 c2 c3 c4
        have HL' := Lib.hid hl'
        have HT' := Lib.hid ht'
        have HB' := Lib.hid (HB.out.trans (ha'.below (by omega) (by omega) HB.out.size))
        have HC' := Lib.hid (HC.out.apart ha')
        clear hl' ht' ha'
        go_wp2_with fail
        go_roundw
        case rel => exact ⟨j + 1, R', c', bs', ps', by omega, by go_num, rfl, HT', HL', HB', HC'⟩
        case measure => simp only [intOf]; omega
      · have HT0 := HTr.out wr C bs ps HL.out HC.out HT.out.mem HT.out.fine
        have HT1 := fun w4 (b : Below wr.heap.size wr w4) => HTr.out w4 C bs ps HL.out (HC.out.apart (.of b)) (HT.out.mem.kept b HT.out.mem.ltM HT.out.mem.ltD) HT.out.fine
        have hways := try_out bs ps addr ((64 : Nat) : Int) wait ⟨false, false, 0, 0, ys⟩ rfl (by omega)
        have HM := Lib.hid HT.out.mem
        have HFi := Lib.hid HT.out.fine
        clear HT0
        rcases hways with ⟨k, m', hk, hm1, hkm, hv⟩ | ⟨hwt, hv⟩ | hv
        all_goals
          rw [hv] at HT1
          dsimp only at HT1
          replace HT1 := Lib.hid HT1
          clear hv
        · obtain rfl : 64 = m' := by omega
          subst hk
          clear hm1
          have HBl := Lib.hid (show (pok bs k ys).length = 16 * p from by rw [pok_len (by rw [HYL.out]; exact hkm)]; exact HL.out)
          have HV := Lib.hid (fun i => pok_get (bs := bs) (xs := ys) (k := k) (by rw [HYL.out]; exact hkm) i)
          rw [HYL.out] at HV
          rw [HL.out] at hkm
          by_cases hlt2 : j < len
          all_goals
            go_wp2_with fail
            refine (HPe.out _ bs ps HL.out HM.out).mono ?_
            rintro e w4 ⟨v4, rfl, hv4⟩
            obtain ⟨a4, cap4, rfl, n4⟩ := hv4.news
            rw [HL.out]
            have N4 := Lib.hid (n4.holdsX HM.out.ltM HM.out.ltD HC.out.lt)
            have B4 := Lib.hid hv4.2
            have G4 := Lib.hid (HB.out.trans (hv4.2.mono HB.out.size))
            clear n4 hv4
            go_wp2_with fail
            refine (HT1.out _ B4.out).mono ?_
            rintro e w5 ⟨rfl, a5, i5, c5⟩
            dsimp only at i5 c5 ⊢
            have N5 := Lib.hid (N4.out.apart a5)
            have I5 := Lib.hid i5
            have C5 := Lib.hid c5
            have G5 := Lib.hid (G4.out.trans (a5.below (by omega) (by omega) hgC' G4.out.size))
            clear a5 i5 c5
            go_wp2_with fail
            refine (HPe.out _ _ ps HBl.out I5.out).mono ?_
            rintro e w6 ⟨v6, rfl, hv6⟩
            obtain ⟨a6, cap6, rfl, n6⟩ := hv6.news
            rw [HBl.out]
            have N6 := Lib.hid n6.holds
            have M6 := Lib.hid (N5.out.apart (.of hv6.2)).holds
            have C6 := Lib.hid (C5.out.apart (.of hv6.2))
            have G6 := Lib.hid (G5.out.trans (hv6.2.mono G5.out.size))
            clear n6 hv6
            go_wp2_with fail
            refine (HBy.out _ C _ rfl C6.out).mono ?_
            rintro e w7 ⟨a7, cap7, rfl, n7, b7⟩
            rw [HYL.out]
            have N7 := Lib.hid n7.holds
            have G7 := Lib.hid (G6.out.trans (b7.mono G6.out.size))
            have W7 := Lib.hid (M6.out.below b7)
            have V7 := Lib.hid (N6.out.below b7)
            have C7 := Lib.hid (C6.out.apart (.of b7))
            clear n7 b7
            go_wp2_with fail
            refine (HS.out _ _ _ _ _ (by exact N7.out) (by exact HY.out.below G7.out)).mono ?_
            rintro e w8 ⟨rfl, b8⟩
            have G8 := Lib.hid (G7.out.trans (b8.mono G7.out.size))
            have C8 := Lib.hid (C7.out.apart (.of b8))
            obtain ⟨B4, o4, hs4, hl4, hc4⟩ := W7.out.below b8 (by rw [HL.out]; omega)
            obtain ⟨B6, o6, hs6, hl6, hc6⟩ := V7.out.below b8 (by rw [HBl.out]; omega)
            subst hs4
            subst hs6
            rw [HL.out] at hc4
            rw [HBl.out] at hc6
            have HC4 := Lib.hid hc4
            have HC6 := Lib.hid hc6
            have HY8 := Lib.hid (HY.out.below G8.out)
            clear b8 hc4 hc6
            first
              | (have dA : decide ((j : Int) < 30) = false := decide_eq_false (by omega))
              | (have dA : decide (j < len) = false := decide_eq_false hlt2)
            go_wp2_with fail
            go_loop [22, 23] (fun i wt => ∃ j : Nat, j ≤ 16 * p ∧ i = .int .i64 j ∧ (wt = undef ∨ ∃ x, wt = .int .u8 x)) (fun i _ => 16 * p - (intOf i).toNat)
            case atStart => exact ⟨0, by omega, rfl, .inl rfl⟩
            case round =>
              obtain ⟨i, hi, rfl, hwt⟩ := hrel
              clear hwt
              by_cases hit : i < 16 * p
              · have hx4 := HC4.out i hit
                have hx6 := HC6.out i hit
                have hvi := HV.out i
                generalize bs.getD i 0 = q4 at hx4 hvi
                generalize (pok bs k ys).getD i 0 = q6 at hx6 hvi
                by_cases e3 : k ≤ i
                · by_cases e4 : i - k < 64
                  · obtain ⟨B2, o2, hs2, hl2', hc2'⟩ := HY8.out (by rw [HYL.out]; omega)
                    subst hs2
                    have hx2 := hc2' (i - k) (by rw [HYL.out]; exact e4)
                    clear hc2'
                    rw [if_pos ⟨e3, e4⟩] at hvi
                    generalize ys.getD (i - k) 0 = q2 at hx2 hvi
                    subst hvi
                    have tj : ((i : Int) - k).toNat = i - k := by omega
                    go_wp2_with fail
                    refine ⟨?_, ?_⟩
                    · exact ⟨i + 1, by omega, by simp, .inr ⟨_, rfl⟩⟩
                    · simp only [intOf]; omega
                  · rw [if_neg (by omega)] at hvi
                    subst hvi
                    go_wp2_with fail
                    refine ⟨?_, ?_⟩
                    · exact ⟨i + 1, by omega, by simp, .inr ⟨_, rfl⟩⟩
                    · simp only [intOf]; omega
                · rw [if_neg (by omega)] at hvi
                  subst hvi
                  go_wp2_with fail
                  refine ⟨?_, ?_⟩
                  · exact ⟨i + 1, by omega, by simp, .inr ⟨_, rfl⟩⟩
                  · simp only [intOf]; omega
              · go_wp2_with fail
                refine (knownCopy _).mono ?_
                rintro e w9 ⟨rfl, b9⟩
                have G9 := Lib.hid (G8.out.trans (b9.mono G8.out.size))
                have C9 := Lib.hid (C8.out.apart (.of b9))
                clear b9
                go_wp2_with fail
                refine (cpOver _ _ C _ _ true _ _ C9.out).mono ?_
                rintro e w' ⟨rfl, rfl⟩
                dsimp only
                go_wp2_with fail
                go_ret
                exact ⟨rfl, G9.out⟩
        · subst hwt
          have HBl := HL
          by_cases hlt2 : j < len
          all_goals
            go_wp2_with fail
            refine (HPe.out _ bs ps HL.out HM.out).mono ?_
            rintro e w4 ⟨v4, rfl, hv4⟩
            obtain ⟨a4, cap4, rfl, n4⟩ := hv4.news
            rw [HL.out]
            have N4 := Lib.hid (n4.holdsX HM.out.ltM HM.out.ltD HC.out.lt)
            have B4 := Lib.hid hv4.2
            have G4 := Lib.hid (HB.out.trans (hv4.2.mono HB.out.size))
            clear n4 hv4
            go_wp2_with fail
            refine (HT1.out _ B4.out).mono ?_
            rintro e w5 ⟨rfl, a5, i5, c5⟩
            dsimp only at i5 c5 ⊢
            have N5 := Lib.hid (N4.out.apart a5)
            have I5 := Lib.hid i5
            have C5 := Lib.hid c5
            have G5 := Lib.hid (G4.out.trans (a5.below (by omega) (by omega) hgC' G4.out.size))
            clear a5 i5 c5
            go_wp2_with fail
            refine (HPe.out _ _ ps HBl.out I5.out).mono ?_
            rintro e w6 ⟨v6, rfl, hv6⟩
            obtain ⟨a6, cap6, rfl, n6⟩ := hv6.news
            rw [HBl.out]
            have N6 := Lib.hid n6.holds
            have M6 := Lib.hid (N5.out.apart (.of hv6.2)).holds
            have C6 := Lib.hid (C5.out.apart (.of hv6.2))
            have G6 := Lib.hid (G5.out.trans (hv6.2.mono G5.out.size))
            clear n6 hv6
            go_wp2_with fail
            refine (HBy.out _ C _ rfl C6.out).mono ?_
            rintro e w7 ⟨a7, cap7, rfl, n7, b7⟩
            rw [HYL.out]
            have N7 := Lib.hid n7.holds
            have G7 := Lib.hid (G6.out.trans (b7.mono G6.out.size))
            have W7 := Lib.hid (M6.out.below b7)
            have V7 := Lib.hid (N6.out.below b7)
            have C7 := Lib.hid (C6.out.apart (.of b7))
            clear n7 b7
            go_wp2_with fail
            refine (HS.out _ _ _ _ _ (by exact N7.out) (by exact HY.out.below G7.out)).mono ?_
            rintro e w8 ⟨rfl, b8⟩
            have G8 := Lib.hid (G7.out.trans (b8.mono G7.out.size))
            have C8 := Lib.hid (C7.out.apart (.of b8))
            obtain ⟨B4, o4, hs4, hl4, hc4⟩ := W7.out.below b8 (by rw [HL.out]; omega)
            obtain ⟨B6, o6, hs6, hl6, hc6⟩ := V7.out.below b8 (by rw [HBl.out]; omega)
            subst hs4
            subst hs6
            rw [HL.out] at hc4
            rw [HBl.out] at hc6
            have HC4 := Lib.hid hc4
            have HC6 := Lib.hid hc6
            have HY8 := Lib.hid (HY.out.below G8.out)
            clear b8 hc4 hc6
            first
              | (have dA : decide ((j : Int) < 30) = false := decide_eq_false (by omega))
              | (have dA : decide (j < len) = false := decide_eq_false hlt2)
            go_wp2_with fail
            go_loop [22, 23] (fun i wt => ∃ j : Nat, j ≤ 16 * p ∧ i = .int .i64 j ∧ (wt = undef ∨ ∃ x, wt = .int .u8 x)) (fun i _ => 16 * p - (intOf i).toNat)
            case atStart => exact ⟨0, by omega, rfl, .inl rfl⟩
            case round =>
              obtain ⟨i, hi, rfl, hwt⟩ := hrel
              clear hwt
              by_cases hit : i < 16 * p
              · have hx4 := HC4.out i hit
                have hx6 := HC6.out i hit
                generalize bs.getD i 0 = q4 at hx4 hx6
                go_wp2_with fail
                refine ⟨?_, ?_⟩
                · exact ⟨i + 1, by omega, by simp, .inr ⟨_, rfl⟩⟩
                · simp only [intOf]; omega
              · go_wp2_with fail
                refine (knownCopy _).mono ?_
                rintro e w9 ⟨rfl, b9⟩
                have G9 := Lib.hid (G8.out.trans (b9.mono G8.out.size))
                have C9 := Lib.hid (C8.out.apart (.of b9))
                clear b9
                go_wp2_with fail
                refine (cpOver _ _ C _ _ true _ _ C9.out).mono ?_
                rintro e w' ⟨rfl, rfl⟩
                dsimp only
                go_wp2_with fail
                go_ret
                exact ⟨rfl, G9.out⟩
        · have HBl := HL
          by_cases hlt2 : j < len
          all_goals
            go_wp2_with fail
            refine (HPe.out _ bs ps HL.out HM.out).mono ?_
            rintro e w4 ⟨v4, rfl, hv4⟩
            obtain ⟨a4, cap4, rfl, n4⟩ := hv4.news
            rw [HL.out]
            have N4 := Lib.hid (n4.holdsX HM.out.ltM HM.out.ltD HC.out.lt)
            have B4 := Lib.hid hv4.2
            have G4 := Lib.hid (HB.out.trans (hv4.2.mono HB.out.size))
            clear n4 hv4
            go_wp2_with fail
            refine (HT1.out _ B4.out).mono ?_
            rintro e w5 ⟨rfl, a5, i5, c5⟩
            dsimp only at i5 c5 ⊢
            have N5 := Lib.hid (N4.out.apart a5)
            have I5 := Lib.hid i5
            have C5 := Lib.hid c5
            have G5 := Lib.hid (G4.out.trans (a5.below (by omega) (by omega) hgC' G4.out.size))
            clear a5 i5 c5
            go_wp2_with fail
            refine (HPe.out _ _ ps HBl.out I5.out).mono ?_
            rintro e w6 ⟨v6, rfl, hv6⟩
            obtain ⟨a6, cap6, rfl, n6⟩ := hv6.news
            rw [HBl.out]
            have N6 := Lib.hid n6.holds
            have M6 := Lib.hid (N5.out.apart (.of hv6.2)).holds
            have C6 := Lib.hid (C5.out.apart (.of hv6.2))
            have G6 := Lib.hid (G5.out.trans (hv6.2.mono G5.out.size))
            clear n6 hv6
            go_wp2_with fail
            refine (HBy.out _ C _ rfl C6.out).mono ?_
            rintro e w7 ⟨a7, cap7, rfl, n7, b7⟩
            rw [HYL.out]
            have N7 := Lib.hid n7.holds
            have G7 := Lib.hid (G6.out.trans (b7.mono G6.out.size))
            have W7 := Lib.hid (M6.out.below b7)
            have V7 := Lib.hid (N6.out.below b7)
            have C7 := Lib.hid (C6.out.apart (.of b7))
            clear n7 b7
            go_wp2_with fail
            refine (HS.out _ _ _ _ _ (by exact N7.out) (by exact HY.out.below G7.out)).mono ?_
            rintro e w8 ⟨rfl, b8⟩
            have G8 := Lib.hid (G7.out.trans (b8.mono G7.out.size))
            have C8 := Lib.hid (C7.out.apart (.of b8))
            obtain ⟨B4, o4, hs4, hl4, hc4⟩ := W7.out.below b8 (by rw [HL.out]; omega)
            obtain ⟨B6, o6, hs6, hl6, hc6⟩ := V7.out.below b8 (by rw [HBl.out]; omega)
            subst hs4
            subst hs6
            rw [HL.out] at hc4
            rw [HBl.out] at hc6
            have HC4 := Lib.hid hc4
            have HC6 := Lib.hid hc6
            have HY8 := Lib.hid (HY.out.below G8.out)
            clear b8 hc4 hc6
            first
              | (have dA : decide ((j : Int) < 30) = false := decide_eq_false (by omega))
              | (have dA : decide (j < len) = false := decide_eq_false hlt2)
            go_wp2_with fail
            go_loop [22, 23] (fun i wt => ∃ j : Nat, j ≤ 16 * p ∧ i = .int .i64 j ∧ (wt = undef ∨ ∃ x, wt = .int .u8 x)) (fun i _ => 16 * p - (intOf i).toNat)
            case atStart => exact ⟨0, by omega, rfl, .inl rfl⟩
            case round =>
              obtain ⟨i, hi, rfl, hwt⟩ := hrel
              clear hwt
              by_cases hit : i < 16 * p
              · have hx4 := HC4.out i hit
                have hx6 := HC6.out i hit
                generalize bs.getD i 0 = q4 at hx4 hx6
                go_wp2_with fail
                refine ⟨?_, ?_⟩
                · exact ⟨i + 1, by omega, by simp, .inr ⟨_, rfl⟩⟩
                · simp only [intOf]; omega
              · go_wp2_with fail
                refine (knownCopy _).mono ?_
                rintro e w9 ⟨rfl, b9⟩
                have G9 := Lib.hid (G8.out.trans (b9.mono G8.out.size))
                have C9 := Lib.hid (C8.out.apart (.of b9))
                clear b9
                go_wp2_with fail
                refine (cpOver _ _ C _ _ true _ _ C9.out).mono ?_
                rintro e w' ⟨rfl, rfl⟩
                dsimp only
                go_wp2_with fail
                go_ret
                exact ⟨rfl, G9.out⟩

theorem walk_CopyOuts (p0 addr : Int) (v2 v3 : Value) (wait : Bool) (w : World) (h2 : Bytes w v2) (h3 : Acts w v3) : Calls Try.prog 9 #[.int .i64 p0, .int .i64 addr, v2, v3, .bool wait] w fun e w' => e = .returned (.bool true) ∧ Below w.heap.size w w' := by
  obtain ⟨a2, l2, c2, xs, rfl, hc2, hm2, hl2, hb2, hx2⟩ := h2
  obtain ⟨a3, len, cap, x, rfl, _, h63, hx⟩ := h3
  have ha := dm_u64 p0
  obtain ⟨p, hp⟩ : ∃ p : Nat, (p : Int) = 1 + IntKind.u64.wrap p0 % 16 := ⟨(1 + IntKind.u64.wrap p0 % 16).toNat, by omega⟩
  exact outs p0 addr a2 l2 c2 _ a3 len cap x wait w hc2 hm2 xs hl2 hb2 hx2 h63 hx p (by omega) (by omega) hp rfl
end Go.Proofs.Ytpdchgcpcnaklaa
