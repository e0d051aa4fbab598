/- The law CopyPlays, walked. -/
import Derived.Test.YtpdchgcpcnaklaaPair
import Derived.Test.YtpdchgcpcnaklaaLawI
namespace Go.Proofs.Ytpdchgcpcnaklaa
open Go.RowKit Go.ChangeShapes Go.WideShapes
attribute [local go_sem ↓] Go.wp_at_zero Go.wp_at_succ
set_option linter.unusedVariables false

set_option maxRecDepth 100000 in
set_option maxHeartbeats 8000000 in
theorem plays14InBad (p0 addr n : Int) (a1 : Option Addr) (len1 cap1 : Nat) (x1 : Nat → AD) (a5 : Option Addr) (l5 c5 : Nat) (xs5 : List Int) (a6 : Option Addr) (len6 cap6 : Nat) (x6 : Nat → AE) (w : World) (k1 : len1 ≤ 9223372036854775807) (hx1 : ActsAt w a1 len1 x1) (k5 : l5 ≤ c5) (k5' : l5 ≤ 9223372036854775807) (hl5 : xs5.length = l5) (hb5 : ∀ x ∈ xs5, 0 ≤ x ∧ x ≤ 255) (hx5 : Holds w a5 xs5) (k6 : len6 ≤ 9223372036854775807) (hx6 : TriesAt w a6 len6 x6) (p : Nat) (h1 : 1 ≤ p) (h2 : p ≤ 16) (hp : (p : Int) = 1 + IntKind.u64.wrap p0 % 16) (hn : n < 0 ∨ 64 < n) :
    Calls Try.prog 11 #[.int .i64 p0, .slice a1 len1 cap1, .bool false, .int .i64 addr, .int .i64 n, .slice a5 l5 c5, .slice a6 len6 cap6] w fun e w' => e = .returned (.bool true) ∧ Below w.heap.size w w' := by
  have ha := dm_u64 p0
  generalize hza : IntKind.u64.wrap p0 = z at *
  have HP := Lib.hid hp
  have HN := Lib.hid (memNew p w h1 h2)
  have HX := Lib.hid hx1
  have HX6 := Lib.hid hx6
  have HX5 := Lib.hid hx5
  have HRN := Lib.hid (fun w1 => refNew p w1 h1 h2)
  have HL0 := Lib.hid (show (List.replicate (16 * p) (0 : Int)).length = 16 * p by simp)
  clear hx1 hx6 hx5 hp
  by_cases g5 : l5 ≤ 80
  all_goals
    go_enter Try.func11, Try.ntmps11
    go_wp2_with fail
    rw [← HP.out]
    refine HN.out.mono ?_
    rintro e w1 ⟨rfl, b1, m1⟩
    have B1 := Lib.hid b1
    have M1 := Lib.hid m1
    clear b1 m1
    go_wp2_with fail
    refine (HRN.out _).mono ?_
    rintro e w2 ⟨rfl, b2, r2⟩
    have T2 := Lib.hid (twin_new h1 h2 M1.out rfl b2 r2)
    have B2 := Lib.hid (B1.out.trans (b2.mono B1.out.size))
    clear b2 r2
    go_wp2_with fail
    go_loopw [17, 18] (fun r i wr => ∃ (j R c : Nat) (bs ps : List Int), j ≤ len1 ∧ i = .int .i64 j ∧ r = .slice (some ⟨R, 0, none⟩) (16 * p) c ∧ Hid (Twin wr (w.heap.size + 1) w.heap.size R c bs ps) ∧ Hid (bs.length = 16 * p) ∧ Hid (Below w.heap.size w wr)) (fun _ i _ => len1 - (intOf i).toNat)
    case atStart => exact ⟨0, _, _, _, _, by omega, rfl, rfl, T2, HL0, B2⟩
    case round =>
      obtain ⟨j, R, c, bs, ps, hj, rfl, rfl, HT, HL, HB⟩ := hrel
      clear T2 B2 M1 B1
      by_cases hlt : j < len1 ∧ j < 30
      · obtain ⟨hlt, hlt2⟩ := hlt
        have hxw := HX.out.below HB.out
        obtain ⟨bk, off, rfl, hbk, hcs⟩ := hxw.cells (by omega)
        have hok := Lib.hid (hxw.ok j hlt)
        obtain ⟨c0, c1, c2, c3, c4⟩ := hcs j hlt
        have HD := Lib.hid (fun (h : Twin wr (w.heap.size + 1) w.heap.size R c bs ps) => doAny _ _ _ _ bs ps (x1 j) wr h hok.out)
        rw [HL.out] at HD
        clear hxw hcs
        go_wp2_with fail
        refine (HD.out HT.out).mono ?_
        rintro e w3 ⟨R', c', bs', ps', rfl, hl', ht', ha', hr'⟩
        clear hr' c0 c1 c2 c3 c4
        have HL' := Lib.hid hl'
        have HT' := Lib.hid ht'
        have HB' := Lib.hid (HB.out.trans (ha'.below (by omega) (by omega) HB.out.size))
        clear hl' ht' ha'
        go_wp2_with fail
        go_roundw
        case rel => exact ⟨j + 1, R', c', bs', ps', by omega, by go_num, rfl, HT', HL', HB'⟩
        case measure => simp only [intOf]; omega
      · by_cases hlt2 : j < len1
        all_goals
          first
            | (have dA : decide ((j : Int) < 30) = false := decide_eq_false (by omega))
            | (have dA : decide (j < len1) = false := decide_eq_false hlt2)
          by_cases hn0 : n < 0
          all_goals
            go_wp2_with fail
            refine (cpInBad addr n _ hn).mono ?_
            rintro e w3 ⟨rfl, b3⟩
            have B3 := Lib.hid (HB.out.trans (b3.mono HB.out.size))
            clear b3
            first
              | (have dn : decide (n < 0) = true := decide_eq_true (by omega))
              | (have dn : decide (n < 0) = false := decide_eq_false (by omega); have dn2 : decide (64 < n) = true := decide_eq_true (by omega))
            go_wp2_with fail
            refine (knownCopy _).mono ?_
            rintro e w4 ⟨rfl, b4⟩
            have B4 := Lib.hid ((B3.out.alloc B3.out.size _).trans (b4.mono (Nat.le_trans B3.out.size (by simp))))
            clear b4
            go_wp2_with fail
            go_ret
            exact ⟨rfl, B4.out⟩

theorem below_via {B X : Nat} {w w4 W w5 : World} (b5 : Below W.heap.size W w5) (hB : Below B w w4) (hX : B ≤ X) (g : w4.grownBy W (some X)) (hs : B ≤ w.heap.size := by exact Nat.le_refl _) : Below B w w5 :=
  (hB.grown g (Nat.le_trans hs hB.size) (fun k hk => by have h := Option.some.inj hk; omega)).trans (b5.mono (Nat.le_trans hs (Nat.le_trans hB.size g.size)))
theorem cpInAny (addr n : Int) (w : World) : Calls Try.prog 27 #[.int .i64 addr, .int .i64 n] w fun e w' => ∃ q r, e = .returned (.tuple #[.pointer q, .int .i64 r]) ∧ Below w.heap.size w w' := by
  by_cases h : n < 0 ∨ 64 < n
  · exact (cpInBad addr n w h).mono fun e w' ⟨he, hb⟩ => ⟨_, _, he, hb⟩
  · exact (cpIn addr n w (by omega) (by omega)).mono fun e w' ⟨he, hb, _⟩ => ⟨_, _, he, hb⟩

set_option maxRecDepth 100000 in
set_option maxHeartbeats 8000000 in
theorem plays14OutBad (p0 addr n : Int) (a1 : Option Addr) (len1 cap1 : Nat) (x1 : Nat → AD) (a5 : Option Addr) (l5 c5 : Nat) (xs5 : List Int) (a6 : Option Addr) (len6 cap6 : Nat) (x6 : Nat → AE) (w : World) (k1 : len1 ≤ 9223372036854775807) (hx1 : ActsAt w a1 len1 x1) (k5 : l5 ≤ c5) (k5' : l5 ≤ 9223372036854775807) (hl5 : xs5.length = l5) (hb5 : ∀ x ∈ xs5, 0 ≤ x ∧ x ≤ 255) (hx5 : Holds w a5 xs5) (k6 : len6 ≤ 9223372036854775807) (hx6 : TriesAt w a6 len6 x6) (p : Nat) (h1 : 1 ≤ p) (h2 : p ≤ 16) (hp : (p : Int) = 1 + IntKind.u64.wrap p0 % 16) (hn : 64 < l5) :
    Calls Try.prog 11 #[.int .i64 p0, .slice a1 len1 cap1, .bool true, .int .i64 addr, .int .i64 n, .slice a5 l5 c5, .slice a6 len6 cap6] w fun e w' => e = .returned (.bool true) ∧ Below w.heap.size w w' := by
  obtain ⟨m5, hm5⟩ : ∃ m5, m5 = if l5 ≤ 80 then l5 else 80 := ⟨_, rfl⟩
  have hm5' : m5 ≤ l5 ∧ m5 ≤ 80 ∧ 64 < m5 := by split at hm5 <;> omega
  have HO := Lib.hid (fun w1 (b : Below w.heap.size w w1) => cpOutBad addr a5 c5 m5 (xs5.take m5) w1 (by rw [List.length_take]; omega) (hx5.takes b m5 (by omega)) (by omega) (by omega))
  have ha := dm_u64 p0
  generalize hza : IntKind.u64.wrap p0 = z at *
  have HP := Lib.hid hp
  have HN := Lib.hid (memNew p w h1 h2)
  have HX := Lib.hid hx1
  have HX6 := Lib.hid hx6
  have HX5 := Lib.hid hx5
  have HRN := Lib.hid (fun w1 => refNew p w1 h1 h2)
  have HL0 := Lib.hid (show (List.replicate (16 * p) (0 : Int)).length = 16 * p by simp)
  clear hx1 hx6 hx5 hp
  by_cases g5 : l5 ≤ 80
  all_goals
    first | rw [if_pos g5] at hm5 | rw [if_neg g5] at hm5
    subst hm5
    clear hm5' hl5
    go_enter Try.func11, Try.ntmps11
    go_wp2_with fail
    rw [← HP.out]
    refine HN.out.mono ?_
    rintro e w1 ⟨rfl, b1, m1⟩
    have B1 := Lib.hid b1
    have M1 := Lib.hid m1
    clear b1 m1
    go_wp2_with fail
    refine (HRN.out _).mono ?_
    rintro e w2 ⟨rfl, b2, r2⟩
    have T2 := Lib.hid (twin_new h1 h2 M1.out rfl b2 r2)
    have B2 := Lib.hid (B1.out.trans (b2.mono B1.out.size))
    clear b2 r2
    go_wp2_with fail
    go_loopw [17, 18] (fun r i wr => ∃ (j R c : Nat) (bs ps : List Int), j ≤ len1 ∧ i = .int .i64 j ∧ r = .slice (some ⟨R, 0, none⟩) (16 * p) c ∧ Hid (Twin wr (w.heap.size + 1) w.heap.size R c bs ps) ∧ Hid (bs.length = 16 * p) ∧ Hid (Below w.heap.size w wr)) (fun _ i _ => len1 - (intOf i).toNat)
    case atStart => exact ⟨0, _, _, _, _, by omega, rfl, rfl, T2, HL0, B2⟩
    case round =>
      obtain ⟨j, R, c, bs, ps, hj, rfl, rfl, HT, HL, HB⟩ := hrel
      clear T2 B2 M1 B1
      by_cases hlt : j < len1 ∧ j < 30
      · obtain ⟨hlt, hlt2⟩ := hlt
        have hxw := HX.out.below HB.out
        obtain ⟨bk, off, rfl, hbk, hcs⟩ := hxw.cells (by omega)
        have hok := Lib.hid (hxw.ok j hlt)
        obtain ⟨c0, c1, c2, c3, c4⟩ := hcs j hlt
        have HD := Lib.hid (fun (h : Twin wr (w.heap.size + 1) w.heap.size R c bs ps) => doAny _ _ _ _ bs ps (x1 j) wr h hok.out)
        rw [HL.out] at HD
        clear hxw hcs
        go_wp2_with fail
        refine (HD.out HT.out).mono ?_
        rintro e w3 ⟨R', c', bs', ps', rfl, hl', ht', ha', hr'⟩
        clear hr' c0 c1 c2 c3 c4
        have HL' := Lib.hid hl'
        have HT' := Lib.hid ht'
        have HB' := Lib.hid (HB.out.trans (ha'.below (by omega) (by omega) HB.out.size))
        clear hl' ht' ha'
        go_wp2_with fail
        go_roundw
        case rel => exact ⟨j + 1, R', c', bs', ps', by omega, by go_num, rfl, HT', HL', HB'⟩
        case measure => simp only [intOf]; omega
      · by_cases hlt2 : j < len1
        all_goals
          first
            | (have dA : decide ((j : Int) < 30) = false := decide_eq_false (by omega))
            | (have dA : decide (j < len1) = false := decide_eq_false hlt2)
          go_wp2_with fail
          refine (cpInAny addr n _).mono ?_
          rintro e w3 ⟨q, r, rfl, b3⟩
          have B3 := Lib.hid (HB.out.trans (b3.mono HB.out.size))
          clear b3
          go_wp2_with fail
          refine (HO.out _ (by exact B3.out.alloc B3.out.size _)).mono ?_
          rintro e w4 ⟨rfl, b4⟩
          have hbx := (b4.block w3.heap.size (by simp)).trans (heap_alloc_new w3 _)
          have HBX := Lib.hid hbx
          have hsz : w3.heap.size < w4.heap.size := lt_of_block hbx
          have B4 := Lib.hid ((B3.out.alloc B3.out.size _).trans (b4.mono (Nat.le_trans B3.out.size (by simp))))
          have hB3 : w.heap.size ≤ w3.heap.size := B3.out.size
          clear b4 hbx
          have c0 := box_at HBX.out 0
          have c1 := box_at HBX.out 1
          have c2 := box_at HBX.out 2
          have c3 := box_at HBX.out 3
          have c4 := box_at HBX.out 4
          have c5 := box_at HBX.out 5
          have c6 := box_at HBX.out 6
          have c7 := box_at HBX.out 7
          simp only [List.getElem?_toArray, List.getElem?_cons_zero, List.getElem?_cons_succ] at c0 c1 c2 c3 c4 c5 c6 c7
          have f0 := box_fr HBX.out 0
          have f1 := box_fr HBX.out 1
          have f2 := box_fr HBX.out 2
          have f3 := box_fr HBX.out 3
          have f4 := box_fr HBX.out 4
          have f5 := box_fr HBX.out 5
          have f6 := box_fr HBX.out 6
          have f7 := box_fr HBX.out 7
          go_wp2_with fail
          refine (knownCopy _).mono ?_
          rintro e w5 ⟨rfl, b5⟩
          have B5 := Lib.hid (below_via b5 B4.out hB3 (grownBy_trans (grownBy_trans (grownBy_trans (grownBy_trans (grownBy_trans (grownBy_trans (grownBy_trans (grownBy_set _ _ _ _) (grownBy_set _ _ _ _)) (grownBy_set _ _ _ _)) (grownBy_set _ _ _ _)) (grownBy_set _ _ _ _)) (grownBy_set _ _ _ _)) (grownBy_set _ _ _ _)) (grownBy_set _ _ _ _)))
          clear b5
          go_wp2_with fail
          go_ret
          exact ⟨rfl, B5.out⟩

end Go.Proofs.Ytpdchgcpcnaklaa
