/- The law UserLimits, walked; and what a walk is told of a list of bytes that came in. -/
import Derived.Test.YtpdchgcpcnaklaaView
namespace Go.Proofs.Ytpdchgcpcnaklaa
open Go.RowKit Go.ChangeShapes Go.WideShapes
set_option linter.unusedVariables false

theorem tch0 (k m : Nat) (h : k + m ≤ 256) : (tch (List.replicate 16 0) k m).2 = if m = 0 then 0 else 15 := by
  match m with
  | 0 => rfl
  | m + 1 =>
    have hz : (List.replicate 16 (0 : Int)).getD (k / 16) 0 = 0 := by
      rw [List.getD_eq_getElem?_getD, List.getElem?_eq_getElem (by simp; omega), Option.getD_some, List.getElem_replicate]
    unfold tch
    rw [hz]
    rfl

set_option maxHeartbeats 1600000 in
theorem limits_few (p0 p1 p2 : Int) (a : Option Addr) (len cap : Nat) (hc : len ≤ cap) (h1 : len ≤ 300) (w : World) : Calls Try.prog 6 #[.int .i64 p0, .int .i64 p1, .int .i64 p2, .slice a len cap] w fun e w' => e = .returned (.bool true) ∧ Below w.heap.size w w' := by
  have ha := dm_u64 p0
  generalize hza : IntKind.u64.wrap p0 = z at *
  obtain ⟨p, hp⟩ : ∃ p : Nat, (p : Int) = 1 + z % 16 := ⟨(1 + z % 16).toNat, by omega⟩
  have q0 : 1 ≤ p := by omega
  have q1 : p ≤ 16 := by omega
  have HP := Lib.hid hp
  have HNew := Lib.hid (memNew p w q0 q1)
  have HF := Lib.hid (fine0 p q0 q1)
  obtain ⟨bs, hbs⟩ : ∃ bs, bs = List.replicate (16 * p) (0 : Int) := ⟨_, rfl⟩
  have hl : bs.length = 16 * p := by rw [hbs]; simp
  rw [← hbs] at HNew HF
  clear hbs
  by_cases c : outB p1 p2 bs.length = true
  · have HPk := Lib.hid (fun w1 (h : IsMem w1 (w.heap.size + 1) w.heap.size bs (List.replicate 16 0)) => memPeekBad _ _ _ _ p1 p2 w1 h (by omega) c)
    have HTc := Lib.hid (fun w1 (h : IsMem w1 (w.heap.size + 1) w.heap.size bs (List.replicate 16 0)) => memTouchBad _ _ _ _ p1 p2 w1 h (by omega) c)
    have c' := of_decide_eq_true c
    clear c
    by_cases x1 : p1 < 0
    · clear c'
      go_enter Try.func6, Try.ntmps6
      go_wp2_with fail
      rw [← HP.out]
      refine HNew.out.mono ?_
      rintro e w1 ⟨rfl, b1, m1⟩
      have G1 := Lib.hid b1
      have M1 := Lib.hid m1
      clear b1 m1
      go_wp2_with fail
      refine (HPk.out _ M1.out).mono ?_; rintro e w8 ⟨rfl, rfl⟩
      go_wp2_with fail
      refine (HTc.out _ M1.out).mono ?_; rintro e w8 ⟨rfl, rfl⟩
      go_wp2_with fail
      refine (nilPeek _ _ _).mono ?_; rintro e w8 ⟨rfl, rfl⟩
      go_wp2_with fail
      refine (nilTouch _ _ _).mono ?_; rintro e w8 ⟨rfl, rfl⟩
      go_wp2_with fail
      refine (knownUser _).mono ?_
      rintro e w9 ⟨rfl, b9⟩
      have G9 := Lib.hid (G1.out.trans (b9.mono G1.out.size))
      clear b9
      go_wp2_with fail
      refine (nilPoke _ _ _ _ _).mono ?_; rintro e w8 ⟨rfl, rfl⟩
      go_wp2_with fail
      refine (nilBring _ _).mono ?_; rintro e w8 ⟨rfl, rfl⟩
      go_wp2_with fail
      refine (nilEvict _ _).mono ?_; rintro e w8 ⟨rfl, rfl⟩
      go_wp2_with fail
      refine (nilBreak _ _).mono ?_; rintro e w8 ⟨rfl, rfl⟩
      go_wp2_with fail
      refine (nilState _ _).mono ?_; rintro e w8 ⟨rfl, rfl⟩
      go_wp2_with fail
      refine (nilSize _).mono ?_; rintro e w8 ⟨rfl, rfl⟩
      go_wp2_with fail
      go_ret
      exact ⟨rfl, G9.out⟩
    · by_cases x2 : p2 < 0
      · clear c'
        go_enter Try.func6, Try.ntmps6
        go_wp2_with fail
        rw [← HP.out]
        refine HNew.out.mono ?_
        rintro e w1 ⟨rfl, b1, m1⟩
        have G1 := Lib.hid b1
        have M1 := Lib.hid m1
        clear b1 m1
        go_wp2_with fail
        refine (HPk.out _ M1.out).mono ?_; rintro e w8 ⟨rfl, rfl⟩
        go_wp2_with fail
        refine (HTc.out _ M1.out).mono ?_; rintro e w8 ⟨rfl, rfl⟩
        go_wp2_with fail
        refine (nilPeek _ _ _).mono ?_; rintro e w8 ⟨rfl, rfl⟩
        go_wp2_with fail
        refine (nilTouch _ _ _).mono ?_; rintro e w8 ⟨rfl, rfl⟩
        go_wp2_with fail
        refine (knownUser _).mono ?_
        rintro e w9 ⟨rfl, b9⟩
        have G9 := Lib.hid (G1.out.trans (b9.mono G1.out.size))
        clear b9
        go_wp2_with fail
        refine (nilPoke _ _ _ _ _).mono ?_; rintro e w8 ⟨rfl, rfl⟩
        go_wp2_with fail
        refine (nilBring _ _).mono ?_; rintro e w8 ⟨rfl, rfl⟩
        go_wp2_with fail
        refine (nilEvict _ _).mono ?_; rintro e w8 ⟨rfl, rfl⟩
        go_wp2_with fail
        refine (nilBreak _ _).mono ?_; rintro e w8 ⟨rfl, rfl⟩
        go_wp2_with fail
        refine (nilState _ _).mono ?_; rintro e w8 ⟨rfl, rfl⟩
        go_wp2_with fail
        refine (nilSize _).mono ?_; rintro e w8 ⟨rfl, rfl⟩
        go_wp2_with fail
        go_ret
        exact ⟨rfl, G9.out⟩
      · by_cases x3 : 16 * (p : Int) < p1
        · clear c'
          go_enter Try.func6, Try.ntmps6
          go_wp2_with fail
          rw [← HP.out]
          refine HNew.out.mono ?_
          rintro e w1 ⟨rfl, b1, m1⟩
          have G1 := Lib.hid b1
          have M1 := Lib.hid m1
          clear b1 m1
          go_wp2_with fail
          refine (HPk.out _ M1.out).mono ?_; rintro e w8 ⟨rfl, rfl⟩
          go_wp2_with fail
          refine (HTc.out _ M1.out).mono ?_; rintro e w8 ⟨rfl, rfl⟩
          go_wp2_with fail
          refine (nilPeek _ _ _).mono ?_; rintro e w8 ⟨rfl, rfl⟩
          go_wp2_with fail
          refine (nilTouch _ _ _).mono ?_; rintro e w8 ⟨rfl, rfl⟩
          go_wp2_with fail
          refine (knownUser _).mono ?_
          rintro e w9 ⟨rfl, b9⟩
          have G9 := Lib.hid (G1.out.trans (b9.mono G1.out.size))
          clear b9
          go_wp2_with fail
          refine (nilPoke _ _ _ _ _).mono ?_; rintro e w8 ⟨rfl, rfl⟩
          go_wp2_with fail
          refine (nilBring _ _).mono ?_; rintro e w8 ⟨rfl, rfl⟩
          go_wp2_with fail
          refine (nilEvict _ _).mono ?_; rintro e w8 ⟨rfl, rfl⟩
          go_wp2_with fail
          refine (nilBreak _ _).mono ?_; rintro e w8 ⟨rfl, rfl⟩
          go_wp2_with fail
          refine (nilState _ _).mono ?_; rintro e w8 ⟨rfl, rfl⟩
          go_wp2_with fail
          refine (nilSize _).mono ?_; rintro e w8 ⟨rfl, rfl⟩
          go_wp2_with fail
          go_ret
          exact ⟨rfl, G9.out⟩
        · have x4 : 16 * (p : Int) - p1 < p2 := by omega
          clear c'
          have d4 : decide (16 * (1 + z % 16) - p1 < p2) = true := decide_eq_true (by omega)
          go_enter Try.func6, Try.ntmps6
          go_wp2_with fail
          rw [← HP.out]
          refine HNew.out.mono ?_
          rintro e w1 ⟨rfl, b1, m1⟩
          have G1 := Lib.hid b1
          have M1 := Lib.hid m1
          clear b1 m1
          go_wp2_with fail
          refine (HPk.out _ M1.out).mono ?_; rintro e w8 ⟨rfl, rfl⟩
          go_wp2_with fail
          refine (HTc.out _ M1.out).mono ?_; rintro e w8 ⟨rfl, rfl⟩
          go_wp2_with fail
          refine (nilPeek _ _ _).mono ?_; rintro e w8 ⟨rfl, rfl⟩
          go_wp2_with fail
          refine (nilTouch _ _ _).mono ?_; rintro e w8 ⟨rfl, rfl⟩
          go_wp2_with fail
          refine (knownUser _).mono ?_
          rintro e w9 ⟨rfl, b9⟩
          have G9 := Lib.hid (G1.out.trans (b9.mono G1.out.size))
          clear b9
          go_wp2_with fail
          refine (nilPoke _ _ _ _ _).mono ?_; rintro e w8 ⟨rfl, rfl⟩
          go_wp2_with fail
          refine (nilBring _ _).mono ?_; rintro e w8 ⟨rfl, rfl⟩
          go_wp2_with fail
          refine (nilEvict _ _).mono ?_; rintro e w8 ⟨rfl, rfl⟩
          go_wp2_with fail
          refine (nilBreak _ _).mono ?_; rintro e w8 ⟨rfl, rfl⟩
          go_wp2_with fail
          refine (nilState _ _).mono ?_; rintro e w8 ⟨rfl, rfl⟩
          go_wp2_with fail
          refine (nilSize _).mono ?_; rintro e w8 ⟨rfl, rfl⟩
          go_wp2_with fail
          go_ret
          exact ⟨rfl, G9.out⟩
  · have c' := of_decide_eq_false (Bool.eq_false_iff.2 c)
    clear c
    obtain ⟨k, rfl⟩ := Int.eq_ofNat_of_zero_le (show 0 ≤ p1 by omega)
    obtain ⟨m, rfl⟩ := Int.eq_ofNat_of_zero_le (show 0 ≤ p2 by omega)
    have y1 : k + m ≤ 16 * p := by omega
    clear c'
    have d1 : decide ((k : Int) < 0) = false := decide_eq_false (by omega)
    have d2 : decide ((m : Int) < 0) = false := decide_eq_false (by omega)
    have d3 : decide (16 * (1 + z % 16) < (k : Int)) = false := decide_eq_false (by omega)
    have d4 : decide (16 * (1 + z % 16) - (k : Int) < m) = false := decide_eq_false (by omega)
    have HPk := Lib.hid (fun w1 (h : IsMem w1 (w.heap.size + 1) w.heap.size bs (List.replicate 16 0)) => memPeek _ _ _ _ k m w1 h (by omega) (by omega))
    have hb := HF.out
    have hz : (List.replicate 16 (0 : Int)).length = 16 := by simp
    have HTc := Lib.hid (fun w1 (h : IsMem w1 (w.heap.size + 1) w.heap.size bs (List.replicate 16 0)) => memTouch _ _ _ _ k m w1 h hb (by omega) (by omega))
    have t1 : (tch (List.replicate 16 0) k m).2 = if m = 0 then 0 else 15 := tch0 k m (by omega)
    generalize (tch (List.replicate 16 0) k m).1 = u1 at *
    generalize (tch (List.replicate 16 0) k m).2 = u2 at *
    have t2 : u2 ≠ 2 := by split at t1 <;> omega
    clear t1 hb hz
    go_enter Try.func6, Try.ntmps6
    go_wp2_with fail
    rw [← HP.out]
    refine HNew.out.mono ?_
    rintro e w1 ⟨rfl, b1, m1⟩
    have G1 := Lib.hid b1
    have M1 := Lib.hid m1
    clear b1 m1
    go_wp2_with fail
    refine (HPk.out _ M1.out).mono ?_; rintro e w2 ⟨v, rfl, hv⟩
    have M2 := Lib.hid (M1.out.kept hv.2 M1.out.ltM M1.out.ltD)
    have G2 := Lib.hid (G1.out.trans (hv.2.mono G1.out.size))
    clear hv
    go_wp2_with fail
    refine (HTc.out _ M2.out).mono ?_; rintro e w8 ⟨rfl, rfl⟩
    go_wp2_with fail
    refine (nilPeek _ _ _).mono ?_; rintro e w8 ⟨rfl, rfl⟩
    go_wp2_with fail
    refine (nilTouch _ _ _).mono ?_; rintro e w8 ⟨rfl, rfl⟩
    go_wp2_with fail
    refine (knownUser _).mono ?_
    rintro e w9 ⟨rfl, b9⟩
    have G9 := Lib.hid (G2.out.trans (b9.mono G2.out.size))
    clear b9
    go_wp2_with fail
    refine (nilPoke _ _ _ _ _).mono ?_; rintro e w8 ⟨rfl, rfl⟩
    go_wp2_with fail
    refine (nilBring _ _).mono ?_; rintro e w8 ⟨rfl, rfl⟩
    go_wp2_with fail
    refine (nilEvict _ _).mono ?_; rintro e w8 ⟨rfl, rfl⟩
    go_wp2_with fail
    refine (nilBreak _ _).mono ?_; rintro e w8 ⟨rfl, rfl⟩
    go_wp2_with fail
    refine (nilState _ _).mono ?_; rintro e w8 ⟨rfl, rfl⟩
    go_wp2_with fail
    refine (nilSize _).mono ?_; rintro e w8 ⟨rfl, rfl⟩
    go_wp2_with fail
    go_ret
    exact ⟨rfl, G9.out⟩
set_option maxHeartbeats 1600000 in
theorem limits_many (p0 p1 p2 : Int) (a : Option Addr) (len cap : Nat) (h0 : 300 < len) (hc : len ≤ cap) (h1 : len ≤ 9223372036854775807) (w : World) : Calls Try.prog 6 #[.int .i64 p0, .int .i64 p1, .int .i64 p2, .slice a len cap] w fun e w' => e = .returned (.bool true) ∧ Below w.heap.size w w' := by
  have ha := dm_u64 p0
  generalize hza : IntKind.u64.wrap p0 = z at *
  obtain ⟨p, hp⟩ : ∃ p : Nat, (p : Int) = 1 + z % 16 := ⟨(1 + z % 16).toNat, by omega⟩
  have q0 : 1 ≤ p := by omega
  have q1 : p ≤ 16 := by omega
  have HP := Lib.hid hp
  have HNew := Lib.hid (memNew p w q0 q1)
  have HF := Lib.hid (fine0 p q0 q1)
  obtain ⟨bs, hbs⟩ : ∃ bs, bs = List.replicate (16 * p) (0 : Int) := ⟨_, rfl⟩
  have hl : bs.length = 16 * p := by rw [hbs]; simp
  rw [← hbs] at HNew HF
  clear hbs
  by_cases c : outB p1 p2 bs.length = true
  · have HPk := Lib.hid (fun w1 (h : IsMem w1 (w.heap.size + 1) w.heap.size bs (List.replicate 16 0)) => memPeekBad _ _ _ _ p1 p2 w1 h (by omega) c)
    have HTc := Lib.hid (fun w1 (h : IsMem w1 (w.heap.size + 1) w.heap.size bs (List.replicate 16 0)) => memTouchBad _ _ _ _ p1 p2 w1 h (by omega) c)
    have c' := of_decide_eq_true c
    clear c
    by_cases x1 : p1 < 0
    · clear c'
      go_enter Try.func6, Try.ntmps6
      go_wp2_with fail
      rw [← HP.out]
      refine HNew.out.mono ?_
      rintro e w1 ⟨rfl, b1, m1⟩
      have G1 := Lib.hid b1
      have M1 := Lib.hid m1
      clear b1 m1
      go_wp2_with fail
      refine (HPk.out _ M1.out).mono ?_; rintro e w8 ⟨rfl, rfl⟩
      go_wp2_with fail
      refine (HTc.out _ M1.out).mono ?_; rintro e w8 ⟨rfl, rfl⟩
      go_wp2_with fail
      refine (nilPeek _ _ _).mono ?_; rintro e w8 ⟨rfl, rfl⟩
      go_wp2_with fail
      refine (nilTouch _ _ _).mono ?_; rintro e w8 ⟨rfl, rfl⟩
      go_wp2_with fail
      refine (knownUser _).mono ?_
      rintro e w9 ⟨rfl, b9⟩
      have G9 := Lib.hid (G1.out.trans (b9.mono G1.out.size))
      clear b9
      go_wp2_with fail
      refine (nilPoke _ _ _ _ _).mono ?_; rintro e w8 ⟨rfl, rfl⟩
      go_wp2_with fail
      refine (nilBring _ _).mono ?_; rintro e w8 ⟨rfl, rfl⟩
      go_wp2_with fail
      refine (nilEvict _ _).mono ?_; rintro e w8 ⟨rfl, rfl⟩
      go_wp2_with fail
      refine (nilBreak _ _).mono ?_; rintro e w8 ⟨rfl, rfl⟩
      go_wp2_with fail
      refine (nilState _ _).mono ?_; rintro e w8 ⟨rfl, rfl⟩
      go_wp2_with fail
      refine (nilSize _).mono ?_; rintro e w8 ⟨rfl, rfl⟩
      go_wp2_with fail
      go_ret
      exact ⟨rfl, G9.out⟩
    · by_cases x2 : p2 < 0
      · clear c'
        go_enter Try.func6, Try.ntmps6
        go_wp2_with fail
        rw [← HP.out]
        refine HNew.out.mono ?_
        rintro e w1 ⟨rfl, b1, m1⟩
        have G1 := Lib.hid b1
        have M1 := Lib.hid m1
        clear b1 m1
        go_wp2_with fail
        refine (HPk.out _ M1.out).mono ?_; rintro e w8 ⟨rfl, rfl⟩
        go_wp2_with fail
        refine (HTc.out _ M1.out).mono ?_; rintro e w8 ⟨rfl, rfl⟩
        go_wp2_with fail
        refine (nilPeek _ _ _).mono ?_; rintro e w8 ⟨rfl, rfl⟩
        go_wp2_with fail
        refine (nilTouch _ _ _).mono ?_; rintro e w8 ⟨rfl, rfl⟩
        go_wp2_with fail
        refine (knownUser _).mono ?_
        rintro e w9 ⟨rfl, b9⟩
        have G9 := Lib.hid (G1.out.trans (b9.mono G1.out.size))
        clear b9
        go_wp2_with fail
        refine (nilPoke _ _ _ _ _).mono ?_; rintro e w8 ⟨rfl, rfl⟩
        go_wp2_with fail
        refine (nilBring _ _).mono ?_; rintro e w8 ⟨rfl, rfl⟩
        go_wp2_with fail
        refine (nilEvict _ _).mono ?_; rintro e w8 ⟨rfl, rfl⟩
        go_wp2_with fail
        refine (nilBreak _ _).mono ?_; rintro e w8 ⟨rfl, rfl⟩
        go_wp2_with fail
        refine (nilState _ _).mono ?_; rintro e w8 ⟨rfl, rfl⟩
        go_wp2_with fail
        refine (nilSize _).mono ?_; rintro e w8 ⟨rfl, rfl⟩
        go_wp2_with fail
        go_ret
        exact ⟨rfl, G9.out⟩
      · by_cases x3 : 16 * (p : Int) < p1
        · clear c'
          go_enter Try.func6, Try.ntmps6
          go_wp2_with fail
          rw [← HP.out]
          refine HNew.out.mono ?_
          rintro e w1 ⟨rfl, b1, m1⟩
          have G1 := Lib.hid b1
          have M1 := Lib.hid m1
          clear b1 m1
          go_wp2_with fail
          refine (HPk.out _ M1.out).mono ?_; rintro e w8 ⟨rfl, rfl⟩
          go_wp2_with fail
          refine (HTc.out _ M1.out).mono ?_; rintro e w8 ⟨rfl, rfl⟩
          go_wp2_with fail
          refine (nilPeek _ _ _).mono ?_; rintro e w8 ⟨rfl, rfl⟩
          go_wp2_with fail
          refine (nilTouch _ _ _).mono ?_; rintro e w8 ⟨rfl, rfl⟩
          go_wp2_with fail
          refine (knownUser _).mono ?_
          rintro e w9 ⟨rfl, b9⟩
          have G9 := Lib.hid (G1.out.trans (b9.mono G1.out.size))
          clear b9
          go_wp2_with fail
          refine (nilPoke _ _ _ _ _).mono ?_; rintro e w8 ⟨rfl, rfl⟩
          go_wp2_with fail
          refine (nilBring _ _).mono ?_; rintro e w8 ⟨rfl, rfl⟩
          go_wp2_with fail
          refine (nilEvict _ _).mono ?_; rintro e w8 ⟨rfl, rfl⟩
          go_wp2_with fail
          refine (nilBreak _ _).mono ?_; rintro e w8 ⟨rfl, rfl⟩
          go_wp2_with fail
          refine (nilState _ _).mono ?_; rintro e w8 ⟨rfl, rfl⟩
          go_wp2_with fail
          refine (nilSize _).mono ?_; rintro e w8 ⟨rfl, rfl⟩
          go_wp2_with fail
          go_ret
          exact ⟨rfl, G9.out⟩
        · have x4 : 16 * (p : Int) - p1 < p2 := by omega
          clear c'
          have d4 : decide (16 * (1 + z % 16) - p1 < p2) = true := decide_eq_true (by omega)
          go_enter Try.func6, Try.ntmps6
          go_wp2_with fail
          rw [← HP.out]
          refine HNew.out.mono ?_
          rintro e w1 ⟨rfl, b1, m1⟩
          have G1 := Lib.hid b1
          have M1 := Lib.hid m1
          clear b1 m1
          go_wp2_with fail
          refine (HPk.out _ M1.out).mono ?_; rintro e w8 ⟨rfl, rfl⟩
          go_wp2_with fail
          refine (HTc.out _ M1.out).mono ?_; rintro e w8 ⟨rfl, rfl⟩
          go_wp2_with fail
          refine (nilPeek _ _ _).mono ?_; rintro e w8 ⟨rfl, rfl⟩
          go_wp2_with fail
          refine (nilTouch _ _ _).mono ?_; rintro e w8 ⟨rfl, rfl⟩
          go_wp2_with fail
          refine (knownUser _).mono ?_
          rintro e w9 ⟨rfl, b9⟩
          have G9 := Lib.hid (G1.out.trans (b9.mono G1.out.size))
          clear b9
          go_wp2_with fail
          refine (nilPoke _ _ _ _ _).mono ?_; rintro e w8 ⟨rfl, rfl⟩
          go_wp2_with fail
          refine (nilBring _ _).mono ?_; rintro e w8 ⟨rfl, rfl⟩
          go_wp2_with fail
          refine (nilEvict _ _).mono ?_; rintro e w8 ⟨rfl, rfl⟩
          go_wp2_with fail
          refine (nilBreak _ _).mono ?_; rintro e w8 ⟨rfl, rfl⟩
          go_wp2_with fail
          refine (nilState _ _).mono ?_; rintro e w8 ⟨rfl, rfl⟩
          go_wp2_with fail
          refine (nilSize _).mono ?_; rintro e w8 ⟨rfl, rfl⟩
          go_wp2_with fail
          go_ret
          exact ⟨rfl, G9.out⟩
  · have c' := of_decide_eq_false (Bool.eq_false_iff.2 c)
    clear c
    obtain ⟨k, rfl⟩ := Int.eq_ofNat_of_zero_le (show 0 ≤ p1 by omega)
    obtain ⟨m, rfl⟩ := Int.eq_ofNat_of_zero_le (show 0 ≤ p2 by omega)
    have y1 : k + m ≤ 16 * p := by omega
    clear c'
    have d1 : decide ((k : Int) < 0) = false := decide_eq_false (by omega)
    have d2 : decide ((m : Int) < 0) = false := decide_eq_false (by omega)
    have d3 : decide (16 * (1 + z % 16) < (k : Int)) = false := decide_eq_false (by omega)
    have d4 : decide (16 * (1 + z % 16) - (k : Int) < m) = false := decide_eq_false (by omega)
    have HPk := Lib.hid (fun w1 (h : IsMem w1 (w.heap.size + 1) w.heap.size bs (List.replicate 16 0)) => memPeek _ _ _ _ k m w1 h (by omega) (by omega))
    have hb := HF.out
    have hz : (List.replicate 16 (0 : Int)).length = 16 := by simp
    have HTc := Lib.hid (fun w1 (h : IsMem w1 (w.heap.size + 1) w.heap.size bs (List.replicate 16 0)) => memTouch _ _ _ _ k m w1 h hb (by omega) (by omega))
    have t1 : (tch (List.replicate 16 0) k m).2 = if m = 0 then 0 else 15 := tch0 k m (by omega)
    generalize (tch (List.replicate 16 0) k m).1 = u1 at *
    generalize (tch (List.replicate 16 0) k m).2 = u2 at *
    have t2 : u2 ≠ 2 := by split at t1 <;> omega
    clear t1 hb hz
    go_enter Try.func6, Try.ntmps6
    go_wp2_with fail
    rw [← HP.out]
    refine HNew.out.mono ?_
    rintro e w1 ⟨rfl, b1, m1⟩
    have G1 := Lib.hid b1
    have M1 := Lib.hid m1
    clear b1 m1
    go_wp2_with fail
    refine (HPk.out _ M1.out).mono ?_; rintro e w2 ⟨v, rfl, hv⟩
    have M2 := Lib.hid (M1.out.kept hv.2 M1.out.ltM M1.out.ltD)
    have G2 := Lib.hid (G1.out.trans (hv.2.mono G1.out.size))
    clear hv
    go_wp2_with fail
    refine (HTc.out _ M2.out).mono ?_; rintro e w8 ⟨rfl, rfl⟩
    go_wp2_with fail
    refine (nilPeek _ _ _).mono ?_; rintro e w8 ⟨rfl, rfl⟩
    go_wp2_with fail
    refine (nilTouch _ _ _).mono ?_; rintro e w8 ⟨rfl, rfl⟩
    go_wp2_with fail
    refine (knownUser _).mono ?_
    rintro e w9 ⟨rfl, b9⟩
    have G9 := Lib.hid (G2.out.trans (b9.mono G2.out.size))
    clear b9
    go_wp2_with fail
    refine (nilPoke _ _ _ _ _).mono ?_; rintro e w8 ⟨rfl, rfl⟩
    go_wp2_with fail
    refine (nilBring _ _).mono ?_; rintro e w8 ⟨rfl, rfl⟩
    go_wp2_with fail
    refine (nilEvict _ _).mono ?_; rintro e w8 ⟨rfl, rfl⟩
    go_wp2_with fail
    refine (nilBreak _ _).mono ?_; rintro e w8 ⟨rfl, rfl⟩
    go_wp2_with fail
    refine (nilState _ _).mono ?_; rintro e w8 ⟨rfl, rfl⟩
    go_wp2_with fail
    refine (nilSize _).mono ?_; rintro e w8 ⟨rfl, rfl⟩
    go_wp2_with fail
    go_ret
    exact ⟨rfl, G9.out⟩

theorem walk_UserLimits (p0 p1 p2 : Int) (v : Value) (w : World) (hv : Bytes w v) : Calls Try.prog 6 #[.int .i64 p0, .int .i64 p1, .int .i64 p2, v] w fun e w' => e = .returned (.bool true) ∧ Below w.heap.size w w' := by
  obtain ⟨a, len, cap, xs, rfl, hc, hm, _⟩ := hv
  by_cases h : len ≤ 300
  · exact limits_few p0 p1 p2 a len cap hc h w
  · exact limits_many p0 p1 p2 a len cap (by omega) hc hm w
end Go.Proofs.Ytpdchgcpcnaklaa
