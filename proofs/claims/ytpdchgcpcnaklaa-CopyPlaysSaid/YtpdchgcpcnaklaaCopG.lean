/- A copy: a try, by a contract. -/
import Derived.Test.YtpdchgcpcnaklaaCopF
namespace Go.Proofs.Ytpdchgcpcnaklaa
open Go.RowKit Go.ChangeShapes Go.WideShapes
set_option linter.unusedVariables false

/-- what a try makes of the bytes and of the copy; the error -/
def tryS (bs ps : List Int) (addr n : Int) (out wait : Bool) (s : CS) : List Int × CS × Int :=
  if s.over = true then (bs, s, 6)
  else if (touchR bs ps addr n).2 = 0 then
    (if out = true then (pok bs addr.toNat s.xs, ⟨true, false, 0, s.tries + 1, s.xs⟩, 0) else (bs, ⟨true, false, 0, s.tries + 1, sub bs addr.toNat n.toNat⟩, 0))
  else if (touchR bs ps addr n).2 = 15 ∧ wait = true then (bs, ⟨false, true, (touchR bs ps addr n).1, s.tries + 1, s.xs⟩, 15)
  else (bs, ⟨true, false, 0, s.tries + 1, if out = true then s.xs else List.replicate n.toNat 0⟩, 14)
def TryPost (w : World) (M D C : Nat) (ps : List Int) (addr n : Int) (out : Bool) (t : List Int × CS × Int) (e : Ending) (w' : World) : Prop :=
  e = .returned (.int .i64 t.2.2) ∧ Apart3 M D C w w' ∧ IsMem w' M D t.1 ps ∧ Cpy w' M D C addr n out t.2.1

theorem touchR_in {bs ps : List Int} {addr n : Int} (h : (touchR bs ps addr n).2 ≠ 14) : ∃ k m : Nat, addr = k ∧ n = m ∧ k + m ≤ bs.length := by
  cases ho : outB addr n bs.length with
  | true => exact absurd (by unfold touchR; rw [if_pos ho]) h
  | false => exact piece_good ho

theorem cpTryNil (v : Value) (b : Bool) (w : World) : Calls Try.prog 28 #[.pointer none, v, .bool b] w fun e w' => e = .returned (.int .i64 6) ∧ w = w' := by
  go_enter Try.func28, Try.ntmps28
  go_wp2_with fail
  go_ret
  exact ⟨rfl, rfl⟩

theorem cpTryOver (M D C : Nat) (bs ps : List Int) (addr n : Int) (out wait : Bool) (s : CS) (w : World) (h : Cpy w M D C addr n out s) (hi : IsMem w M D bs ps) (ho : s.over = true) :
    Calls Try.prog 28 #[.pointer (some ⟨C, 0, none⟩), .pointer (some ⟨M, 0, none⟩), .bool wait] w (TryPost w M D C ps addr n out (tryS bs ps addr n out wait s)) := by
  have hv : tryS bs ps addr n out wait s = (bs, s, 6) := by unfold tryS; rw [if_pos ho]
  rw [hv]
  obtain ⟨a, cap, h1, _⟩ := h.is
  have c3 := h1.c3
  rw [ho] at c3
  have HH := Lib.hid h
  have HI := Lib.hid hi
  clear h h1 hi ho hv
  go_enter Try.func28, Try.ntmps28
  go_wp2_with fail
  go_ret
  exact ⟨rfl, Apart3.refl _ _ _ _, HI.out, HH.out⟩

theorem IsCp.set7 {w : World} {C : Nat} {addr n page tries : Int} {out over waits : Bool} {a : Option Addr} {len cap : Nat} (h : IsCp w C addr n out over waits a len cap page tries) (t : Int) : IsCp (w.setCell ⟨C, 7, none⟩ (.int .i64 t)) C addr n out over waits a len cap page t := block_setCell h
theorem IsMem.far {w : World} {M D C o : Nat} {bs ps : List Int} {v : Value} (h : IsMem w M D bs ps) (h1 : C ≠ M) (h2 : C ≠ D) : IsMem (w.setCell ⟨C, o, none⟩ v) M D bs ps :=
  h.ofBlocks (Below.heap_setCell _ _ _ _ (by exact Ne.symm h1)) (Below.heap_setCell _ _ _ _ (by exact Ne.symm h2))
theorem IsMem.apart {w w' : World} {M D C : Nat} {bs ps : List Int} (h : IsMem w M D bs ps) (g : w.grownBy w' (some C)) (h1 : C ≠ M) (h2 : C ≠ D) : IsMem w' M D bs ps :=
  h.ofBlocks (g.block M h.ltM (by simpa using Ne.symm h1)) (g.block D h.ltD (by simpa using Ne.symm h2))

set_option maxHeartbeats 3200000 in
theorem cpTry0 (M D C : Nat) (bs ps : List Int) (addr n : Int) (out wait : Bool) (s : CS) (w : World) (h : Cpy w M D C addr n out s) (hi : IsMem w M D bs ps) (hf : Fine bs ps) (hL : bs.length ≤ 256) (h0 : 0 ≤ n) (h1 : n ≤ 64) (hx : out = true → (s.xs.length : Int) = n) (ht0 : 0 ≤ s.tries) (ht1 : s.tries ≤ 1000) (ho : s.over = false) :
    Calls Try.prog 28 #[.pointer (some ⟨C, 0, none⟩), .pointer (some ⟨M, 0, none⟩), .bool wait] w (TryPost w M D C ps addr n out (tryS bs ps addr n out wait s)) := by
  obtain ⟨over, waits, page, tries, xs⟩ := s
  dsimp only at ho ht0 ht1 hx
  subst ho
  obtain ⟨⟨a, cap, hc, hxs⟩, nM, nD⟩ := h
  dsimp only at hc hxs
  have hc7 := hc.set7 (tries + 1)
  have hi7 : IsMem (w.setCell ⟨C, 7, none⟩ (.int .i64 (tries + 1))) M D bs ps := hi.far nM nD
  have hx7 : HoldsX (w.setCell ⟨C, 7, none⟩ (.int .i64 (tries + 1))) a xs M D C := hxs.apart (.grownC (grownBy_set _ _ _ _))
  have HG := Lib.hid (grownBy_set w C 7 (.int .i64 (tries + 1)))
  have HT := Lib.hid (cpTouch M D bs ps addr n _ hi7 hf hL)
  have hw := touchR_why bs ps addr n
  have hin := fun h => @touchR_in bs ps addr n h
  have c3 := hc.c3
  have c7 := hc.c7
  have f7 := hc.fr 7
  have c0 := hc.c0
  have c1 := hc.c1
  have hv : tryS bs ps addr n out wait ⟨false, waits, page, tries, xs⟩ = if (touchR bs ps addr n).2 = 0 then
    (if out = true then (pok bs addr.toNat xs, ⟨true, false, 0, tries + 1, xs⟩, 0) else (bs, ⟨true, false, 0, tries + 1, sub bs addr.toNat n.toNat⟩, 0))
    else if (touchR bs ps addr n).2 = 15 ∧ wait = true then (bs, ⟨false, true, (touchR bs ps addr n).1, tries + 1, xs⟩, 15)
    else (bs, ⟨true, false, 0, tries + 1, if out = true then xs else List.replicate n.toNat 0⟩, 14) := rfl
  rw [hv]
  clear hv
  generalize touchR bs ps addr n = t at *
  obtain ⟨t1, t2⟩ := t
  dsimp only at *
  have HC7 := Lib.hid hc7
  have HI7 := Lib.hid hi7
  have HX7 := Lib.hid hx7
  clear hc hi hxs hc7 hi7 hx7
  rcases hw with rfl | rfl | rfl
  · obtain ⟨k, m, rfl, rfl, hkm⟩ := hin (by decide)
    rw [if_pos rfl]
    simp only [Int.toNat_natCast]
    cases out with
    | true =>
      have hxm := hx rfl
      have HXL := Lib.hid (show m = xs.length by omega)
      rw [if_pos rfl]
      clear hx hxm hin
      go_enter Try.func28, Try.ntmps28
      go_wp2_with fail
      refine HT.out.mono ?_
      rintro e w2 ⟨rfl, b2⟩
      have B2 := Lib.hid b2
      have I2 := Lib.hid (HC7.out.kept b2)
      have M2 := Lib.hid (HI7.out.kept b2 HI7.out.ltM HI7.out.ltD)
      have X2 := Lib.hid (HX7.out.apart (.of b2))
      clear b2
      go_wp2_with fail
      refine (cpDoneOut C M D bs ps page (tries + 1) m k m false waits a cap xs w2 (by rw [← HXL.out] at *; exact I2.out) HXL.out X2.out M2.out hL hkm nM nD).mono ?_
      rintro e w3 ⟨rfl, a3, i3, c3⟩
      have A3 := Lib.hid a3
      have I3 := Lib.hid i3
      have C3 := Lib.hid c3
      clear a3 i3 c3
      go_wp2_with fail
      go_ret
      exact ⟨rfl, ((Apart3.grownC HG.out).trans (.of B2.out)).trans A3.out, I3.out, ⟨⟨a, cap, by rw [← HXL.out]; exact C3.out, X2.out.apart A3.out⟩, nM, nD⟩⟩
    | false =>
      rw [if_neg (by decide)]
      have HSL := Lib.hid (sub_len hkm)
      have HLc := Lib.hid (show C < w.heap.size from by have := HC7.out; unfold IsCp at this; have := lt_of_block this; simpa [World.setCell] using this)
      clear hin hx
      go_enter Try.func28, Try.ntmps28
      go_wp2_with fail
      refine HT.out.mono ?_
      rintro e w2 ⟨rfl, b2⟩
      have B2 := Lib.hid b2
      have I2 := Lib.hid (HC7.out.kept b2)
      have M2 := Lib.hid (HI7.out.kept b2 HI7.out.ltM HI7.out.ltD)
      have X2 := Lib.hid (HX7.out.apart (.of b2))
      clear b2
      go_wp2_with fail
      refine (cpDoneIn C M D bs ps page (tries + 1) k m false waits a xs.length cap w2 I2.out M2.out hL hkm nM nD).mono ?_
      rintro e w3 ⟨rfl, g3, a', cap', c3, n3⟩
      have A3 := Lib.hid g3
      have C3 := Lib.hid c3
      have N3 := Lib.hid n3
      clear g3 c3 n3
      go_wp2_with fail
      go_ret
      exact ⟨rfl, ((Apart3.grownC HG.out).trans (.of B2.out)).trans (.grownC A3.out), M2.out.apart A3.out nM nD, ⟨⟨a', cap', by dsimp only; rw [HSL.out]; exact C3.out, N3.out.holdsX M2.out.ltM M2.out.ltD (lt_of_block I2.out)⟩, nM, nD⟩⟩
  · rw [if_neg (by decide), if_neg (by simp)]
    obtain ⟨m, rfl⟩ := Int.eq_ofNat_of_zero_le h0
    simp only [Int.toNat_natCast]
    cases out with
    | true =>
      rw [if_pos rfl]
      clear hin hx
      go_enter Try.func28, Try.ntmps28
      go_wp2_with fail
      refine HT.out.mono ?_
      rintro e w2 ⟨rfl, b2⟩
      have B2 := Lib.hid b2
      have I2 := Lib.hid (HC7.out.kept b2)
      have M2 := Lib.hid (HI7.out.kept b2 HI7.out.ltM HI7.out.ltD)
      have X2 := Lib.hid (HX7.out.apart (.of b2))
      clear b2
      go_wp2_with fail
      refine (cpFailOut C addr m page (tries + 1) false waits a xs.length cap w2 I2.out).mono ?_
      rintro e w3 ⟨rfl, g3, c3⟩
      have A3 := Lib.hid g3
      have C3 := Lib.hid c3
      clear g3 c3
      go_wp2_with fail
      go_ret
      exact ⟨rfl, ((Apart3.grownC HG.out).trans (.of B2.out)).trans (.grownC A3.out), M2.out.apart A3.out nM nD, ⟨⟨a, cap, C3.out, X2.out.apart (.grownC A3.out)⟩, nM, nD⟩⟩
    | false =>
      rw [if_neg (by decide)]
      clear hin hx
      go_enter Try.func28, Try.ntmps28
      go_wp2_with fail
      refine HT.out.mono ?_
      rintro e w2 ⟨rfl, b2⟩
      have B2 := Lib.hid b2
      have I2 := Lib.hid (HC7.out.kept b2)
      have M2 := Lib.hid (HI7.out.kept b2 HI7.out.ltM HI7.out.ltD)
      have X2 := Lib.hid (HX7.out.apart (.of b2))
      clear b2
      go_wp2_with fail
      refine (cpFail C addr page (tries + 1) m false waits a xs.length cap w2 I2.out (by omega)).mono ?_
      rintro e w3 ⟨rfl, g3, a', cap', c3, n3⟩
      have A3 := Lib.hid g3
      have C3 := Lib.hid c3
      have N3 := Lib.hid n3
      clear g3 c3 n3
      go_wp2_with fail
      go_ret
      exact ⟨rfl, ((Apart3.grownC HG.out).trans (.of B2.out)).trans (.grownC A3.out), M2.out.apart A3.out nM nD, ⟨⟨a', cap', by dsimp only; rw [List.length_replicate]; exact C3.out, N3.out.holdsX M2.out.ltM M2.out.ltD (lt_of_block I2.out)⟩, nM, nD⟩⟩
  · rw [if_neg (by decide)]
    cases wait with
    | true =>
      rw [if_pos ⟨rfl, rfl⟩]
      clear hin hx
      go_enter Try.func28, Try.ntmps28
      go_wp2_with fail
      refine HT.out.mono ?_
      rintro e w2 ⟨rfl, b2⟩
      have B2 := Lib.hid b2
      have I2 := Lib.hid (HC7.out.kept b2)
      have M2 := Lib.hid (HI7.out.kept b2 HI7.out.ltM HI7.out.ltD)
      have X2 := Lib.hid (HX7.out.apart (.of b2))
      have g4 := I2.out.c4
      have g6 := I2.out.c6
      have k4 := I2.out.fr 4
      have k6 := I2.out.fr 6
      clear b2
      go_wp2_with fail
      go_ret
      have g : w2.grownBy ((w2.setCell ⟨C, 4, none⟩ (.bool true)).setCell ⟨C, 6, none⟩ (.int .i64 t1)) (some C) := grownBy_trans (grownBy_set _ _ _ _) (grownBy_set _ _ _ _)
      exact ⟨rfl, ((Apart3.grownC HG.out).trans (.of B2.out)).trans (.grownC g), M2.out.apart g nM nD, ⟨⟨a, cap, block_setCell (block_setCell I2.out), X2.out.apart (.grownC g)⟩, nM, nD⟩⟩
    | false =>
      rw [if_neg (by simp)]
      obtain ⟨m, rfl⟩ := Int.eq_ofNat_of_zero_le h0
      simp only [Int.toNat_natCast]
      cases out with
      | true =>
        rw [if_pos rfl]
        clear hin hx
        go_enter Try.func28, Try.ntmps28
        go_wp2_with fail
        refine HT.out.mono ?_
        rintro e w2 ⟨rfl, b2⟩
        have B2 := Lib.hid b2
        have I2 := Lib.hid (HC7.out.kept b2)
        have M2 := Lib.hid (HI7.out.kept b2 HI7.out.ltM HI7.out.ltD)
        have X2 := Lib.hid (HX7.out.apart (.of b2))
        clear b2
        go_wp2_with fail
        refine (cpFailOut C addr m page (tries + 1) false waits a xs.length cap w2 I2.out).mono ?_
        rintro e w3 ⟨rfl, g3, c3⟩
        have A3 := Lib.hid g3
        have C3 := Lib.hid c3
        clear g3 c3
        go_wp2_with fail
        go_ret
        exact ⟨rfl, ((Apart3.grownC HG.out).trans (.of B2.out)).trans (.grownC A3.out), M2.out.apart A3.out nM nD, ⟨⟨a, cap, C3.out, X2.out.apart (.grownC A3.out)⟩, nM, nD⟩⟩
      | false =>
        rw [if_neg (by decide)]
        clear hin hx
        go_enter Try.func28, Try.ntmps28
        go_wp2_with fail
        refine HT.out.mono ?_
        rintro e w2 ⟨rfl, b2⟩
        have B2 := Lib.hid b2
        have I2 := Lib.hid (HC7.out.kept b2)
        have M2 := Lib.hid (HI7.out.kept b2 HI7.out.ltM HI7.out.ltD)
        have X2 := Lib.hid (HX7.out.apart (.of b2))
        clear b2
        go_wp2_with fail
        refine (cpFail C addr page (tries + 1) m false waits a xs.length cap w2 I2.out (by omega)).mono ?_
        rintro e w3 ⟨rfl, g3, a', cap', c3, n3⟩
        have A3 := Lib.hid g3
        have C3 := Lib.hid c3
        have N3 := Lib.hid n3
        clear g3 c3 n3
        go_wp2_with fail
        go_ret
        exact ⟨rfl, ((Apart3.grownC HG.out).trans (.of B2.out)).trans (.grownC A3.out), M2.out.apart A3.out nM nD, ⟨⟨a', cap', by dsimp only; rw [List.length_replicate]; exact C3.out, N3.out.holdsX M2.out.ltM M2.out.ltD (lt_of_block I2.out)⟩, nM, nD⟩⟩

theorem cpTry (M D C : Nat) (bs ps : List Int) (addr n : Int) (out wait : Bool) (s : CS) (w : World) (h : Cpy w M D C addr n out s) (hi : IsMem w M D bs ps) (hf : Fine bs ps) (hL : bs.length ≤ 256) (h0 : 0 ≤ n) (h1 : n ≤ 64) (hx : out = true → (s.xs.length : Int) = n) (ht0 : 0 ≤ s.tries) (ht1 : s.tries ≤ 1000) :
    Calls Try.prog 28 #[.pointer (some ⟨C, 0, none⟩), .pointer (some ⟨M, 0, none⟩), .bool wait] w (TryPost w M D C ps addr n out (tryS bs ps addr n out wait s)) := by
  cases ho : s.over with
  | true => exact cpTryOver M D C bs ps addr n out wait s w h hi ho
  | false => exact cpTry0 M D C bs ps addr n out wait s w h hi hf hL h0 h1 hx ht0 ht1 ho
end Go.Proofs.Ytpdchgcpcnaklaa
