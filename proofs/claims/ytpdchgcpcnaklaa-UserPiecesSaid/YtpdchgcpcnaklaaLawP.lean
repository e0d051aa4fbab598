/- The law UserPieces, walked. -/
import Derived.Test.YtpdchgcpcnaklaaView
namespace Go.Proofs.Ytpdchgcpcnaklaa
open Go.RowKit Go.ChangeShapes Go.WideShapes
set_option linter.unusedVariables false

set_option maxHeartbeats 1600000 in
theorem pieces (p0 p1 : Int) (a2 : Option Addr) (l2 c2 : Nat) (a3 : Option Addr) (l3 c3 : Nat) (hc2 : l2 ≤ c2) (hc3 : l3 ≤ c3) (hm2 : l2 ≤ 9223372036854775807) (hm3 : l3 ≤ 9223372036854775807) (xs2 xs3 : List Int)
    (w : World) (hl2 : xs2.length = l2) (hl3 : xs3.length = l3) (hx2 : Holds w a2 xs2) (hx3 : Holds w a3 xs3) (p : Nat) (q0 : 1 ≤ p) (q1 : p ≤ 16) (hp : (p : Int) = 1 + IntKind.u64.wrap p0 % 16)
    (m2 m3 : Nat) (hm2 : m2 = if l2 ≤ 16 * p then l2 else 16 * p) (hm3 : m3 = if l3 ≤ 16 * p then l3 else 16 * p) :
    Calls Try.prog 3 #[.int .i64 p0, .int .i64 p1, .slice a2 l2 c2, .slice a3 l3 c3] w fun e w' => e = .returned (.bool true) ∧ Below w.heap.size w w' := by
  have ha := dm_u64 p0
  generalize hza : IntKind.u64.wrap p0 = z at *
  have hb := dm_u64 p1
  generalize hzb : IntKind.u64.wrap p1 = y at *
  obtain ⟨r, hr⟩ : ∃ r : Nat, (r : Int) = y % (16 * p - m3 + 1) := ⟨(y % (16 * p - m3 + 1)).toNat, by have := Int.emod_nonneg y (show (16 * (p : Int) - m3 + 1) ≠ 0 by split at hm3 <;> omega); omega⟩
  have hm3' : m3 ≤ 16 * p ∧ m3 ≤ l3 := by split at hm3 <;> omega
  have hm2' : m2 ≤ 16 * p ∧ m2 ≤ l2 := by split at hm2 <;> omega
  have hr1 : r + m3 ≤ 16 * p := by have := Int.emod_lt_of_pos y (show 0 < (16 * (p : Int) - m3 + 1) by omega); omega
  have HR := Lib.hid hr
  have HP := Lib.hid hp
  have HNew := Lib.hid (memNew p w q0 q1)
  have HF := Lib.hid (fine0 p q0 q1)
  obtain ⟨bs, hbs⟩ : ∃ bs, bs = List.replicate (16 * p) (0 : Int) := ⟨_, rfl⟩
  have hl : bs.length = 16 * p := by rw [hbs]; simp
  rw [← hbs] at HNew HF
  have tn : (16 * (p : Int)).toNat = 16 * p := by omega
  have HX2 := Lib.hid hx2
  have HX3 := Lib.hid hx3
  have hbs0 := hbs
  clear hbs hr hx2 hx3
  have L2 : (xs2.take m2).length = m2 := by rw [List.length_take]; omega
  have L3 : (xs3.take m3).length = m3 := by rw [List.length_take]; omega
  obtain ⟨bs2, hb2⟩ : ∃ bs2, bs2 = pok bs 0 (xs2.take m2) := ⟨_, rfl⟩
  have k2 : bs2.length = 16 * p := by rw [hb2, pok_len (by omega)]; exact hl
  obtain ⟨bs3, hb3⟩ : ∃ bs3, bs3 = pok bs2 r (xs3.take m3) := ⟨_, rfl⟩
  have k3 : bs3.length = 16 * p := by rw [hb3, pok_len (by omega)]; exact k2
  have HPk1 := Lib.hid (fun w1 (b : Below w.heap.size w w1) (h : IsMem w1 (w.heap.size + 1) w.heap.size bs (List.replicate 16 0)) => memPoke _ _ _ _ 0 a2 c2 (xs2.take m2) w1 m2 L2.symm h (by omega) (by omega) (HX2.out.kept b (by omega)))
  have HPk2 := Lib.hid (fun w1 (b : Below w.heap.size w w1) (h : IsMem w1 (w.heap.size + 1) w.heap.size bs2 (List.replicate 16 0)) => memPoke _ _ _ _ r a3 c3 (xs3.take m3) w1 m3 L3.symm h (by omega) (by omega) (HX3.out.kept b (by omega)))
  have HPe := Lib.hid (fun w1 (h : IsMem w1 (w.heap.size + 1) w.heap.size bs3 (List.replicate 16 0)) => memPeek _ _ _ _ 0 (16 * p) w1 h (by omega) (by omega))
  have HPs := Lib.hid (fun w1 (h : IsMem w1 (w.heap.size + 1) w.heap.size bs3 (List.replicate 16 0)) => memState _ _ _ _ 0 w1 h (by omega) (by unfold pageB; exact decide_eq_false (by omega)) (by omega))
  rw [← hb2] at HPk1
  rw [← hb3] at HPk2
  rw [show sub bs3 0 (16 * p) = bs3 from by unfold sub; rw [List.drop_zero, List.take_of_length_le (by omega)]] at HPe
  have HV := Lib.hid (show ∀ j, bs3.getD j 0 = if r ≤ j ∧ j - r < m3 then xs3.getD (j - r) 0 else if j < m2 then xs2.getD j 0 else 0 from by
    intro j
    rw [hb3, pok_get (by omega), L3]
    by_cases c : r ≤ j ∧ j - r < m3
    · rw [if_pos c, if_pos c]
      simp only [List.getD_eq_getElem?_getD, List.getElem?_take, if_pos c.2]
    · rw [if_neg c, if_neg c, hb2, pok_get (by omega), L2]
      by_cases d : j < m2
      · rw [if_pos ⟨Nat.zero_le _, by omega⟩, if_pos d, Nat.sub_zero]
        simp only [List.getD_eq_getElem?_getD, List.getElem?_take, if_pos d]
      · rw [if_neg (by omega), if_neg d, hbs0]
        simp only [List.getD_eq_getElem?_getD, List.getElem?_replicate]
        split <;> rfl)
  have HC2 := Lib.hid (show ∀ w', Below w.heap.size w w' → ∀ j, j < m2 → ∃ b off, a2 = some ⟨b, off, none⟩ ∧ w'.cell? ⟨b, off + j, none⟩ = some (.int .u8 (xs2.getD j 0)) from by
    intro w' bw j hj
    obtain ⟨b, off, e, hlt, hc⟩ := HX2.out (by omega)
    exact ⟨b, off, e, (bw.cell (p := ⟨b, off + j, none⟩) hlt).trans (hc j (by omega))⟩)
  have HC3 := Lib.hid (show ∀ w', Below w.heap.size w w' → ∀ j, j < m3 → ∃ b off, a3 = some ⟨b, off, none⟩ ∧ w'.cell? ⟨b, off + j, none⟩ = some (.int .u8 (xs3.getD j 0)) from by
    intro w' bw j hj
    obtain ⟨b, off, e, hlt, hc⟩ := HX3.out (by omega)
    exact ⟨b, off, e, (bw.cell (p := ⟨b, off + j, none⟩) hlt).trans (hc j (by omega))⟩)
  by_cases g2 : l2 ≤ 16 * p
  all_goals by_cases g3 : l3 ≤ 16 * p
  all_goals
    first | rw [if_pos g2] at hm2 | rw [if_neg g2] at hm2
    first | rw [if_pos g3] at hm3 | rw [if_neg g3] at hm3
    subst hm2
    subst hm3
    clear hm3' hm2'
  · have ht : y % (16 * (p : Int) - m3 + 1) = r := HR.out.symm
    clear hp hl2 hl3 hb2 hb3 L2 L3 hl k2 hbs0
    go_enter Try.func3, Try.ntmps3
    go_wp2_with fail
    rw [← HP.out]
    refine HNew.out.mono ?_
    rintro e w1 ⟨rfl, b1, m1⟩
    have G1 := Lib.hid b1
    have M1 := Lib.hid m1
    clear b1 m1
    go_wp2_with fail
    refine (HPk1.out _ G1.out M1.out).mono ?_
    rintro e w2 ⟨rfl, b2, mm⟩
    have G2 := Lib.hid (G1.out.grown b2 G1.out.size (fun k hk => by have h := Option.some.inj hk; omega))
    have M2 := Lib.hid mm
    clear b2 mm
    go_wp2_with fail
    refine (HPk2.out _ G2.out M2.out).mono ?_
    rintro e w3 ⟨rfl, b3, mm⟩
    have G3 := Lib.hid (G2.out.grown b3 G2.out.size (fun k hk => by have h := Option.some.inj hk; omega))
    have M3 := Lib.hid mm
    clear b3 mm
    go_wp2_with fail
    refine (HPe.out _ M3.out).mono ?_
    rintro e w4 ⟨v, rfl, hv⟩
    obtain ⟨g, cap, rfl, hg, hgl⟩ := hv.1.form (by omega)
    have M4 := Lib.hid (M3.out.kept hv.2 M3.out.ltM M3.out.ltD)
    have G4 := Lib.hid (G3.out.trans (hv.2.mono G3.out.size))
    have hcl := hv.1.cellAt
    have HL := Lib.hid (show ∀ j, j < 16 * p → w4.cell? ⟨g, j, none⟩ = some (.int .u8 (bs3.getD j 0)) from fun j hj => by
      rw [hcl j (by omega)]; simp [bcells, List.getD, List.getElem?_eq_getElem (show j < bs3.length by omega)])
    clear hv hcl
    go_wp2_with fail
    go_loop [13, 14] (fun i wt => ∃ j : Nat, j ≤ 16 * p ∧ i = .int .i64 j ∧ (wt = undef ∨ ∃ x, wt = .int .u8 x)) (fun i _ => 16 * p - (intOf i).toNat)
    case atStart => exact ⟨0, by omega, rfl, .inl rfl⟩
    case round =>
      obtain ⟨j, hj, rfl, hwt⟩ := hrel
      clear hwt
      by_cases hlt : j < 16 * p
      · have hcl := HL.out j hlt
        have hvj := HV.out j
        generalize bs3.getD j 0 = q at hcl hvj
        by_cases e2 : j < m2
        · obtain ⟨B2, o2, hs2, hq2⟩ := HC2.out w4 G4.out j e2
          subst hs2
          rw [if_pos e2] at hvj
          generalize xs2.getD j 0 = q2 at hq2 hvj
          by_cases e3 : r ≤ j
          · by_cases e4 : j - r < m3
            · obtain ⟨B3, o3, hs3, hq3⟩ := HC3.out w4 G4.out (j - r) e4
              subst hs3
              rw [if_pos ⟨e3, e4⟩] at hvj
              generalize xs3.getD (j - r) 0 = q3 at hq3 hvj
              subst hvj
              have tj : ((j : Int) - r).toNat = j - r := by omega
              go_wp2_with fail
              refine ⟨?_, ?_⟩
              · exact ⟨j + 1, by omega, by simp, .inr ⟨_, rfl⟩⟩
              · simp only [intOf]; omega
            · rw [if_neg (by omega)] at hvj
              subst hvj
              go_wp2_with fail
              refine ⟨?_, ?_⟩
              · exact ⟨j + 1, by omega, by simp, .inr ⟨_, rfl⟩⟩
              · simp only [intOf]; omega
          · rw [if_neg (by omega)] at hvj
            subst hvj
            go_wp2_with fail
            refine ⟨?_, ?_⟩
            · exact ⟨j + 1, by omega, by simp, .inr ⟨_, rfl⟩⟩
            · simp only [intOf]; omega
        · rw [if_neg e2] at hvj
          by_cases e3 : r ≤ j
          · by_cases e4 : j - r < m3
            · obtain ⟨B3, o3, hs3, hq3⟩ := HC3.out w4 G4.out (j - r) e4
              subst hs3
              rw [if_pos ⟨e3, e4⟩] at hvj
              generalize xs3.getD (j - r) 0 = q3 at hq3 hvj
              subst hvj
              have tj : ((j : Int) - r).toNat = j - r := by omega
              go_wp2_with fail
              refine ⟨?_, ?_⟩
              · exact ⟨j + 1, by omega, by simp, .inr ⟨_, rfl⟩⟩
              · simp only [intOf]; omega
            · rw [if_neg (by omega)] at hvj
              subst hvj
              go_wp2_with fail
              refine ⟨?_, ?_⟩
              · exact ⟨j + 1, by omega, by simp, .inr ⟨_, rfl⟩⟩
              · simp only [intOf]; omega
          · rw [if_neg (by omega)] at hvj
            subst hvj
            go_wp2_with fail
            refine ⟨?_, ?_⟩
            · exact ⟨j + 1, by omega, by simp, .inr ⟨_, rfl⟩⟩
            · simp only [intOf]; omega
      · go_wp2_with fail
        refine (knownUser _).mono ?_
        rintro e w5 ⟨rfl, b5⟩
        have M5 := Lib.hid (M4.out.kept b5 M4.out.ltM M4.out.ltD)
        have G5 := Lib.hid (G4.out.trans (b5.mono G4.out.size))
        clear b5
        go_wp2_with fail
        refine (HPs.out _ M5.out).mono ?_; rintro e w6 ⟨rfl, rfl⟩
        go_wp2_with fail
        go_ret
        exact ⟨rfl, G5.out⟩
  · obtain rfl : r = 0 := by omega
    have ht : y % (16 * (p : Int) - ((16 * p : Nat) : Int) + 1) = 0 := HR.out.symm
    clear hp hl2 hl3 hb2 hb3 L2 L3 hl k2 hbs0
    go_enter Try.func3, Try.ntmps3
    go_wp2_with fail
    rw [← HP.out]
    refine HNew.out.mono ?_
    rintro e w1 ⟨rfl, b1, m1⟩
    have G1 := Lib.hid b1
    have M1 := Lib.hid m1
    clear b1 m1
    go_wp2_with fail
    refine (HPk1.out _ G1.out M1.out).mono ?_
    rintro e w2 ⟨rfl, b2, mm⟩
    have G2 := Lib.hid (G1.out.grown b2 G1.out.size (fun k hk => by have h := Option.some.inj hk; omega))
    have M2 := Lib.hid mm
    clear b2 mm
    go_wp2_with fail
    refine (HPk2.out _ G2.out M2.out).mono ?_
    rintro e w3 ⟨rfl, b3, mm⟩
    have G3 := Lib.hid (G2.out.grown b3 G2.out.size (fun k hk => by have h := Option.some.inj hk; omega))
    have M3 := Lib.hid mm
    clear b3 mm
    go_wp2_with fail
    refine (HPe.out _ M3.out).mono ?_
    rintro e w4 ⟨v, rfl, hv⟩
    obtain ⟨g, cap, rfl, hg, hgl⟩ := hv.1.form (by omega)
    have M4 := Lib.hid (M3.out.kept hv.2 M3.out.ltM M3.out.ltD)
    have G4 := Lib.hid (G3.out.trans (hv.2.mono G3.out.size))
    have hcl := hv.1.cellAt
    have HL := Lib.hid (show ∀ j, j < 16 * p → w4.cell? ⟨g, j, none⟩ = some (.int .u8 (bs3.getD j 0)) from fun j hj => by
      rw [hcl j (by omega)]; simp [bcells, List.getD, List.getElem?_eq_getElem (show j < bs3.length by omega)])
    clear hv hcl
    go_wp2_with fail
    go_loop [13, 14] (fun i wt => ∃ j : Nat, j ≤ 16 * p ∧ i = .int .i64 j ∧ (wt = undef ∨ ∃ x, wt = .int .u8 x)) (fun i _ => 16 * p - (intOf i).toNat)
    case atStart => exact ⟨0, by omega, rfl, .inl rfl⟩
    case round =>
      obtain ⟨j, hj, rfl, hwt⟩ := hrel
      clear hwt
      by_cases hlt : j < 16 * p
      · have hcl := HL.out j hlt
        have hvj := HV.out j
        generalize bs3.getD j 0 = q at hcl hvj
        obtain ⟨B3, o3, hs3, hq3⟩ := HC3.out w4 G4.out j hlt
        subst hs3
        rw [if_pos ⟨Nat.zero_le _, by omega⟩, Nat.sub_zero] at hvj
        generalize xs3.getD j 0 = q3 at hq3 hvj
        subst hvj
        by_cases e2 : j < m2
        · obtain ⟨B2, o2, hs2, hq2⟩ := HC2.out w4 G4.out j e2
          subst hs2
          generalize xs2.getD j 0 = q2 at hq2
          go_wp2_with fail
          refine ⟨?_, ?_⟩
          · exact ⟨j + 1, by omega, by simp, .inr ⟨_, rfl⟩⟩
          · simp only [intOf]; omega
        · go_wp2_with fail
          refine ⟨?_, ?_⟩
          · exact ⟨j + 1, by omega, by simp, .inr ⟨_, rfl⟩⟩
          · simp only [intOf]; omega
      · go_wp2_with fail
        refine (knownUser _).mono ?_
        rintro e w5 ⟨rfl, b5⟩
        have M5 := Lib.hid (M4.out.kept b5 M4.out.ltM M4.out.ltD)
        have G5 := Lib.hid (G4.out.trans (b5.mono G4.out.size))
        clear b5
        go_wp2_with fail
        refine (HPs.out _ M5.out).mono ?_; rintro e w6 ⟨rfl, rfl⟩
        go_wp2_with fail
        go_ret
        exact ⟨rfl, G5.out⟩
  · have ht : y % (16 * (p : Int) - m3 + 1) = r := HR.out.symm
    clear hp hl2 hl3 hb2 hb3 L2 L3 hl k2 hbs0
    go_enter Try.func3, Try.ntmps3
    go_wp2_with fail
    rw [← HP.out]
    refine HNew.out.mono ?_
    rintro e w1 ⟨rfl, b1, m1⟩
    have G1 := Lib.hid b1
    have M1 := Lib.hid m1
    clear b1 m1
    go_wp2_with fail
    refine (HPk1.out _ G1.out M1.out).mono ?_
    rintro e w2 ⟨rfl, b2, mm⟩
    have G2 := Lib.hid (G1.out.grown b2 G1.out.size (fun k hk => by have h := Option.some.inj hk; omega))
    have M2 := Lib.hid mm
    clear b2 mm
    go_wp2_with fail
    refine (HPk2.out _ G2.out M2.out).mono ?_
    rintro e w3 ⟨rfl, b3, mm⟩
    have G3 := Lib.hid (G2.out.grown b3 G2.out.size (fun k hk => by have h := Option.some.inj hk; omega))
    have M3 := Lib.hid mm
    clear b3 mm
    go_wp2_with fail
    refine (HPe.out _ M3.out).mono ?_
    rintro e w4 ⟨v, rfl, hv⟩
    obtain ⟨g, cap, rfl, hg, hgl⟩ := hv.1.form (by omega)
    have M4 := Lib.hid (M3.out.kept hv.2 M3.out.ltM M3.out.ltD)
    have G4 := Lib.hid (G3.out.trans (hv.2.mono G3.out.size))
    have hcl := hv.1.cellAt
    have HL := Lib.hid (show ∀ j, j < 16 * p → w4.cell? ⟨g, j, none⟩ = some (.int .u8 (bs3.getD j 0)) from fun j hj => by
      rw [hcl j (by omega)]; simp [bcells, List.getD, List.getElem?_eq_getElem (show j < bs3.length by omega)])
    clear hv hcl
    go_wp2_with fail
    go_loop [13, 14] (fun i wt => ∃ j : Nat, j ≤ 16 * p ∧ i = .int .i64 j ∧ (wt = undef ∨ ∃ x, wt = .int .u8 x)) (fun i _ => 16 * p - (intOf i).toNat)
    case atStart => exact ⟨0, by omega, rfl, .inl rfl⟩
    case round =>
      obtain ⟨j, hj, rfl, hwt⟩ := hrel
      clear hwt
      by_cases hlt : j < 16 * p
      · have hcl := HL.out j hlt
        have hvj := HV.out j
        generalize bs3.getD j 0 = q at hcl hvj
        by_cases e2 : j < 16 * p
        · obtain ⟨B2, o2, hs2, hq2⟩ := HC2.out w4 G4.out j e2
          subst hs2
          rw [if_pos e2] at hvj
          generalize xs2.getD j 0 = q2 at hq2 hvj
          by_cases e3 : r ≤ j
          · by_cases e4 : j - r < m3
            · obtain ⟨B3, o3, hs3, hq3⟩ := HC3.out w4 G4.out (j - r) e4
              subst hs3
              rw [if_pos ⟨e3, e4⟩] at hvj
              generalize xs3.getD (j - r) 0 = q3 at hq3 hvj
              subst hvj
              have tj : ((j : Int) - r).toNat = j - r := by omega
              go_wp2_with fail
              refine ⟨?_, ?_⟩
              · exact ⟨j + 1, by omega, by simp, .inr ⟨_, rfl⟩⟩
              · simp only [intOf]; omega
            · rw [if_neg (by omega)] at hvj
              subst hvj
              go_wp2_with fail
              refine ⟨?_, ?_⟩
              · exact ⟨j + 1, by omega, by simp, .inr ⟨_, rfl⟩⟩
              · simp only [intOf]; omega
          · rw [if_neg (by omega)] at hvj
            subst hvj
            go_wp2_with fail
            refine ⟨?_, ?_⟩
            · exact ⟨j + 1, by omega, by simp, .inr ⟨_, rfl⟩⟩
            · simp only [intOf]; omega
        · exact absurd hlt e2
      · go_wp2_with fail
        refine (knownUser _).mono ?_
        rintro e w5 ⟨rfl, b5⟩
        have M5 := Lib.hid (M4.out.kept b5 M4.out.ltM M4.out.ltD)
        have G5 := Lib.hid (G4.out.trans (b5.mono G4.out.size))
        clear b5
        go_wp2_with fail
        refine (HPs.out _ M5.out).mono ?_; rintro e w6 ⟨rfl, rfl⟩
        go_wp2_with fail
        go_ret
        exact ⟨rfl, G5.out⟩
  · obtain rfl : r = 0 := by omega
    have ht : y % (16 * (p : Int) - ((16 * p : Nat) : Int) + 1) = 0 := HR.out.symm
    clear hp hl2 hl3 hb2 hb3 L2 L3 hl k2 hbs0
    go_enter Try.func3, Try.ntmps3
    go_wp2_with fail
    rw [← HP.out]
    refine HNew.out.mono ?_
    rintro e w1 ⟨rfl, b1, m1⟩
    have G1 := Lib.hid b1
    have M1 := Lib.hid m1
    clear b1 m1
    go_wp2_with fail
    refine (HPk1.out _ G1.out M1.out).mono ?_
    rintro e w2 ⟨rfl, b2, mm⟩
    have G2 := Lib.hid (G1.out.grown b2 G1.out.size (fun k hk => by have h := Option.some.inj hk; omega))
    have M2 := Lib.hid mm
    clear b2 mm
    go_wp2_with fail
    refine (HPk2.out _ G2.out M2.out).mono ?_
    rintro e w3 ⟨rfl, b3, mm⟩
    have G3 := Lib.hid (G2.out.grown b3 G2.out.size (fun k hk => by have h := Option.some.inj hk; omega))
    have M3 := Lib.hid mm
    clear b3 mm
    go_wp2_with fail
    refine (HPe.out _ M3.out).mono ?_
    rintro e w4 ⟨v, rfl, hv⟩
    obtain ⟨g, cap, rfl, hg, hgl⟩ := hv.1.form (by omega)
    have M4 := Lib.hid (M3.out.kept hv.2 M3.out.ltM M3.out.ltD)
    have G4 := Lib.hid (G3.out.trans (hv.2.mono G3.out.size))
    have hcl := hv.1.cellAt
    have HL := Lib.hid (show ∀ j, j < 16 * p → w4.cell? ⟨g, j, none⟩ = some (.int .u8 (bs3.getD j 0)) from fun j hj => by
      rw [hcl j (by omega)]; simp [bcells, List.getD, List.getElem?_eq_getElem (show j < bs3.length by omega)])
    clear hv hcl
    go_wp2_with fail
    go_loop [13, 14] (fun i wt => ∃ j : Nat, j ≤ 16 * p ∧ i = .int .i64 j ∧ (wt = undef ∨ ∃ x, wt = .int .u8 x)) (fun i _ => 16 * p - (intOf i).toNat)
    case atStart => exact ⟨0, by omega, rfl, .inl rfl⟩
    case round =>
      obtain ⟨j, hj, rfl, hwt⟩ := hrel
      clear hwt
      by_cases hlt : j < 16 * p
      · have hcl := HL.out j hlt
        have hvj := HV.out j
        generalize bs3.getD j 0 = q at hcl hvj
        obtain ⟨B3, o3, hs3, hq3⟩ := HC3.out w4 G4.out j hlt
        subst hs3
        rw [if_pos ⟨Nat.zero_le _, by omega⟩, Nat.sub_zero] at hvj
        generalize xs3.getD j 0 = q3 at hq3 hvj
        subst hvj
        by_cases e2 : j < 16 * p
        · obtain ⟨B2, o2, hs2, hq2⟩ := HC2.out w4 G4.out j e2
          subst hs2
          generalize xs2.getD j 0 = q2 at hq2
          go_wp2_with fail
          refine ⟨?_, ?_⟩
          · exact ⟨j + 1, by omega, by simp, .inr ⟨_, rfl⟩⟩
          · simp only [intOf]; omega
        · exact absurd hlt e2
      · go_wp2_with fail
        refine (knownUser _).mono ?_
        rintro e w5 ⟨rfl, b5⟩
        have M5 := Lib.hid (M4.out.kept b5 M4.out.ltM M4.out.ltD)
        have G5 := Lib.hid (G4.out.trans (b5.mono G4.out.size))
        clear b5
        go_wp2_with fail
        refine (HPs.out _ M5.out).mono ?_; rintro e w6 ⟨rfl, rfl⟩
        go_wp2_with fail
        go_ret
        exact ⟨rfl, G5.out⟩

theorem walk_UserPieces (p0 p1 : Int) (v2 v3 : Value) (w : World) (h2 : Bytes w v2) (h3 : Bytes w v3) : Calls Try.prog 3 #[.int .i64 p0, .int .i64 p1, v2, v3] w fun e w' => e = .returned (.bool true) ∧ Below w.heap.size w w' := by
  obtain ⟨a2, l2, c2, xs2, rfl, hc2, hm2, hl2, _, hx2⟩ := h2
  obtain ⟨a3, l3, c3, xs3, rfl, hc3, hm3, hl3, _, hx3⟩ := h3
  have ha := dm_u64 p0
  obtain ⟨p, hp⟩ : ∃ p : Nat, (p : Int) = 1 + IntKind.u64.wrap p0 % 16 := ⟨(1 + IntKind.u64.wrap p0 % 16).toNat, by omega⟩
  exact pieces p0 p1 a2 l2 c2 a3 l3 c3 hc2 hc3 hm2 hm3 xs2 xs3 w hl2 hl3 hx2 hx3 p (by omega) (by omega) hp _ _ rfl rfl
end Go.Proofs.Ytpdchgcpcnaklaa
