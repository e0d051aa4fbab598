/- The law UserPlays, walked. -/
import Derived.Test.YtpdchgcpcnaklaaActs
namespace Go.Proofs.Ytpdchgcpcnaklaa
open Go.RowKit Go.ChangeShapes Go.WideShapes
set_option linter.unusedVariables false

theorem plays_bad (p : Int) (a : Option Addr) (len cap : Nat) (w : World) (h : p < 1 ∨ 16 < p) : Calls Try.prog 5 #[.int .i64 p, .slice a len cap] w fun e w' => e = .returned (.bool true) ∧ Below w.heap.size w w' := by
  have HN := Lib.hid (memNewBad p w h)
  by_cases h1 : p < 1
  · have d1 : decide (p < 1) = true := decide_eq_true h1
    clear h
    go_enter Try.func5, Try.ntmps5
    go_wp2_with fail
    refine HN.out.mono ?_; rintro e w' ⟨rfl, rfl⟩
    go_wp2_with fail
    refine (knownUser _).mono ?_
    rintro e w1 ⟨rfl, b1⟩
    have B1 := Lib.hid b1
    clear b1
    go_wp2_with fail
    go_ret
    exact ⟨rfl, B1.out⟩
  · have d1 : decide (p < 1) = false := decide_eq_false h1
    have d2 : decide (16 < p) = true := decide_eq_true (by omega)
    clear h
    go_enter Try.func5, Try.ntmps5
    go_wp2_with fail
    refine HN.out.mono ?_; rintro e w' ⟨rfl, rfl⟩
    go_wp2_with fail
    refine (knownUser _).mono ?_
    rintro e w1 ⟨rfl, b1⟩
    have B1 := Lib.hid b1
    clear b1
    go_wp2_with fail
    go_ret
    exact ⟨rfl, B1.out⟩

/-- a state asked on both sides -/
theorem stateAny (M D R c : Nat) (bs ps : List Int) (p : Int) (w : World) (h : Twin w M D R c bs ps) : ∃ s : Int,
    (Calls Try.prog 16 #[.pointer (some ⟨M, 0, none⟩), .int .i64 p] w fun e w' => e = .returned (.int .i64 s) ∧ w = w') ∧
    (Calls Try.prog 21 #[.slice (some ⟨R, 0, none⟩) bs.length c, .int .i64 p] w fun e w' => e = .returned (.int .i64 s) ∧ w = w') := by
  have hl := h.len
  cases ho : pageB p bs.length with
  | true => exact ⟨2, memStateBad M D bs ps p w h.mem (by omega) ho, refStateBad _ _ _ p w (by omega) ho⟩
  | false =>
    obtain ⟨k, rfl, h16, _⟩ := page_good ho (by omega)
    refine ⟨ps.getD k 0, memState M D bs ps k w h.mem (by omega) ho h16, ?_⟩
    have := refState R c bs.length k _ _ w h.ref (by omega) ho
    rw [Nat.mul_div_cancel _ (by omega)] at this
    exact this

theorem rep_get (n j : Nat) (h : j < n) : (List.replicate n (0 : Int)).getD j 0 = 0 := by
  rw [List.getD_eq_getElem?_getD, List.getElem?_replicate, if_pos h]; rfl
theorem twin_new {p M D R : Nat} {w1 w2 : World} (h1 : 1 ≤ p) (h2 : p ≤ 16) (m : IsMem w1 M D (List.replicate (16 * p) 0) (List.replicate 16 0)) (hR : R = w1.heap.size) (b : Below w1.heap.size w1 w2) (r : RefAt w2 R (16 * p) (16 * p) (fun _ => 0) (fun _ => 0)) :
    Twin w2 M D R (16 * p) (List.replicate (16 * p) 0) (List.replicate 16 0) := by
  have hM := m.ltM
  have hD := m.ltD
  refine ⟨m.kept b hM hD, fine0 p h1 h2, ?_, by omega, by omega⟩
  rw [List.length_replicate]
  exact r.congr (fun j hj => (rep_get _ _ hj).symm) (fun j hj => (rep_get _ _ (by omega)).symm)
theorem peek_all {bs : List Int} : sub bs 0 bs.length = bs := by simp [sub]

set_option maxHeartbeats 4000000 in
theorem plays_main (p : Nat) (a : Option Addr) (len cap : Nat) (x : Nat → AD) (w : World) (h1 : 1 ≤ p) (h2 : p ≤ 16) (h3 : len ≤ 9223372036854775807) (hx : ActsAt w a len x) :
    Calls Try.prog 5 #[.int .i64 p, .slice a len cap] w fun e w' => e = .returned (.bool true) ∧ Below w.heap.size w w' := by
  have HN := Lib.hid (memNew p w h1 h2)
  have HX := Lib.hid hx
  have HRN := Lib.hid (fun w1 => refNew p w1 h1 h2)
  have d1 : decide ((p : Int) < 1) = false := decide_eq_false (by omega)
  have d2 : decide ((16 : Int) < p) = false := decide_eq_false (by omega)
  have HSz := Lib.hid (fun w1 bs ps (h : IsMem w1 (w.heap.size + 1) w.heap.size bs ps) => memSize _ _ bs ps w1 h)
  have HL0 := Lib.hid (show (List.replicate (16 * p) (0 : Int)).length = 16 * p by simp)
  clear hx
  go_enter Try.func5, Try.ntmps5
  go_wp2_with fail
  refine HN.out.mono ?_
  rintro e w1 ⟨rfl, b1, m1⟩
  have B1 := Lib.hid b1
  have M1 := Lib.hid m1
  clear b1 m1
  go_wp2_with fail
  refine (HSz.out _ _ _ M1.out).mono ?_; rintro e w' ⟨rfl, rfl⟩
  rw [HL0.out]
  go_wp2_with fail
  refine (HRN.out _).mono ?_
  rintro e w2 ⟨rfl, b2, r2⟩
  have T2 := Lib.hid (twin_new h1 h2 M1.out rfl b2 r2)
  have B2 := Lib.hid (B1.out.trans (b2.mono B1.out.size))
  clear b2 r2
  go_wp2_with fail
  go_loopw [7, 8] (fun r i wr => ∃ (j R c : Nat) (bs ps : List Int), j ≤ len ∧ i = .int .i64 j ∧ r = .slice (some ⟨R, 0, none⟩) (16 * p) c ∧ Hid (Twin wr (w.heap.size + 1) w.heap.size R c bs ps) ∧ Hid (bs.length = 16 * p) ∧ Hid (Below w.heap.size w wr)) (fun _ i _ => len - (intOf i).toNat)
  case atStart => exact ⟨0, _, _, _, _, by omega, rfl, rfl, T2, HL0, B2⟩
  case round =>
    obtain ⟨j, R, c, bs, ps, hj, rfl, rfl, HT, HL, HB⟩ := hrel
    clear T2 B2 M1 B1
    by_cases hlt : j < len ∧ j < 40
    · obtain ⟨hlt, hlt2⟩ := hlt
      have hxw := HX.out.below HB.out
      obtain ⟨bk, off, rfl, hbk, hcs⟩ := hxw.cells (by omega)
      have hok := Lib.hid (hxw.ok j hlt)
      obtain ⟨c0, c1, c2, c3, c4⟩ := hcs j hlt
      have HD := Lib.hid (fun (h : Twin wr (w.heap.size + 1) w.heap.size R c bs ps) => doAny _ _ _ _ bs ps (x j) wr h hok.out)
      rw [HL.out] at HD
      clear hxw hcs
      go_wp2_with fail
      refine (HD.out HT.out).mono ?_
      rintro e w3 ⟨R', c', bs', ps', rfl, hl', ht', ha', hr'⟩
      clear hr' c0 c1 c2 c3 c4
      have HL' := Lib.hid hl'
      have HT' := Lib.hid ht'
      have HB' := Lib.hid (HB.out.trans (ha'.below (by omega) (by omega) HB.out.size))
      clear hl' ht' ha'
      go_wp2_with fail
      go_loop [10] (fun q => ∃ z : Int, -1 ≤ z ∧ z ≤ 18 ∧ q = .int .i64 z) (fun q => (18 - intOf q).toNat)
      case atStart => exact ⟨-1, by omega, by omega, rfl⟩
      case round =>
        obtain ⟨z, hz0, hz1, rfl⟩ := hrel
        by_cases hz : z < 18
        · obtain ⟨s, hs1, hs2⟩ := stateAny _ _ _ _ bs' ps' z w3 HT'.out
          rw [HL'.out] at hs2
          have HS1 := Lib.hid hs1
          have HS2 := Lib.hid hs2
          clear hs1 hs2
          go_wp2_with fail
          refine HS1.out.mono ?_; rintro e w' ⟨rfl, rfl⟩
          go_wp2_with fail
          refine HS2.out.mono ?_; rintro e w' ⟨rfl, rfl⟩
          go_wp2_with fail
          refine ⟨?_, ?_⟩
          · exact ⟨z + 1, by omega, by omega, rfl⟩
          · simp only [intOf]; omega
        · have HRP := fun (_ : True) => refPeek R' c' bs'.length _ _ 0 (16 * p) w3 HT'.out.ref (by rw [HL'.out]; omega) (by rw [HL'.out]; omega)
          have HMP := fun w4 (b : Below w3.heap.size w3 w4) => memPeek _ _ bs' ps' 0 (16 * p) w4 (HT'.out.kept b).mem (by rw [HL'.out]; omega) (by rw [HL'.out]; omega)
          rw [sub_is bs' 0 (16 * p) (by rw [HL'.out]; omega)] at HRP
          rw [HL'.out] at HRP
          have hsb : sub bs' 0 (16 * p) = bs' := by rw [← HL'.out]; exact peek_all
          rw [hsb] at HRP HMP
          replace HRP := Lib.hid HRP
          replace HMP := Lib.hid HMP
          have HS := Lib.hid (fun w1 a b ca cb h1 h2 => refSame a b ca cb bs' w1 (16 * p) HL'.out (by omega) h1 h2)
          clear hsb
          go_wp2_with fail
          refine (HRP.out trivial).mono ?_; rintro e w4 ⟨v1, rfl, hv⟩
          obtain ⟨a1, cap1, rfl, hh1⟩ := hv.holds
          rw [HL'.out]
          have B4 := Lib.hid hv.2
          have H4 := Lib.hid hh1
          clear hh1 hv
          go_wp2_with fail
          refine (HMP.out _ (by exact B4.out)).mono ?_; rintro e w5 ⟨v2, rfl, hv⟩
          obtain ⟨a2, cap2, rfl, hh2⟩ := hv.holds
          rw [HL'.out]
          have B5 := Lib.hid hv.2
          have H5 := Lib.hid hh2
          clear hh2 hv
          go_wp2_with fail
          refine (HS.out _ _ _ _ _ (by exact H4.out.below B5.out) (by exact H5.out)).mono ?_; rintro e w6 ⟨rfl, b6⟩
          have B6 := Lib.hid (B4.out.trans ((B5.out.trans (b6.mono B5.out.size)).mono B4.out.size))
          clear b6
          go_wp2_with fail
          go_roundw
          case rel => exact ⟨j + 1, R', c', bs', ps', by omega, by go_num, rfl, Lib.hid (HT'.out.kept B6.out), HL', Lib.hid (HB'.out.trans (B6.out.mono HB'.out.size))⟩
          case measure => simp only [intOf]; omega
    · by_cases hlt2 : j < len
      all_goals
        go_wp2_with fail
        refine (knownUser _).mono ?_
        rintro e w5 ⟨rfl, b5⟩
        have G5 := Lib.hid (HB.out.trans (b5.mono HB.out.size))
        clear b5
        go_wp2_with fail
        go_ret
        exact ⟨rfl, G5.out⟩

theorem walk_UserPlays (p : Int) (v : Value) (w : World) (hv : Acts w v) : Calls Try.prog 5 #[.int .i64 p, v] w fun e w' => e = .returned (.bool true) ∧ Below w.heap.size w w' := by
  obtain ⟨a, len, cap, x, rfl, _, h63, hx⟩ := hv
  by_cases h : p < 1 ∨ 16 < p
  · exact plays_bad p a len cap w h
  · obtain ⟨k, rfl⟩ := Int.eq_ofNat_of_zero_le (show 0 ≤ p by omega)
    exact plays_main k a len cap x w (by omega) (by omega) h63 hx
end Go.Proofs.Ytpdchgcpcnaklaa
