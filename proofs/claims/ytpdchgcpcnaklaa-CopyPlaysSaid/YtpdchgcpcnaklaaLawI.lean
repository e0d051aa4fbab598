/- The law CopyWhole, walked. -/
import Derived.Test.YtpdchgcpcnaklaaLawG
import Derived.Test.YtpdchgcpcnaklaaLawD
import Derived.Deep.RegionWith
namespace Go.Proofs.Ytpdchgcpcnaklaa
open Go.RowKit Go.ChangeShapes Go.WideShapes
attribute [local go_sem ↓] Go.wp_at_zero Go.wp_at_succ
set_option linter.unusedVariables false

theorem tch_page (ps : List Int) (k m : Nat) (h : (tch ps k m).2 = 15) : ∃ q : Nat, (tch ps k m).1 = q ∧ q * 16 < k + m ∧ ps.getD q 0 = 0 := by
  induction m generalizing k with
  | zero => simp [tch] at h
  | succ m ih =>
    unfold tch at h ⊢
    by_cases a : ps.getD (k / 16) 0 = 2
    · rw [if_pos a] at h; simp at h
    · rw [if_neg a] at h ⊢
      by_cases b : ps.getD (k / 16) 0 = 0
      · rw [if_pos b]
        exact ⟨k / 16, rfl, by omega, b⟩
      · rw [if_neg b] at h ⊢
        obtain ⟨q, h1, h2, h3⟩ := ih (k + 1) h
        exact ⟨q, h1, by omega, h3⟩
theorem Cpy.drew {w : World} {M D C : Nat} {addr n : Int} {out : Bool} {s : CS} (h : Cpy w M D C addr n out s) : Cpy w.drew M D C addr n out s := h.apart (.of (Below.refl _ _).drew)
theorem Cpy.allocd {w : World} {M D C : Nat} {addr n : Int} {out : Bool} {s : CS} (o : Obj) (h : Cpy w M D C addr n out s) : Cpy (w.alloc o) M D C addr n out s := h.apart (.of (below_alloc w o))
/-- the ways of a try of a copy in -/
theorem try_in (bs ps : List Int) (k m : Nat) (hk : k + m ≤ bs.length) (wait ws : Bool) (pg t : Int) :
    tryS bs ps k m false wait ⟨false, ws, pg, t, []⟩ = if (tch ps k m).2 = 0 then (bs, ⟨true, false, 0, t + 1, sub bs k m⟩, 0)
      else if (tch ps k m).2 = 15 ∧ wait = true then (bs, ⟨false, true, (tch ps k m).1, t + 1, []⟩, 15) else (bs, ⟨true, false, 0, t + 1, List.replicate m 0⟩, 14) := by
  unfold tryS
  rw [if_neg (by simp), touch_in hk]
  rfl

/-- An operation that yields in every world is taken first: its slot written out. -/
theorem takeD {P : Program} {ops : Array Oper} {Q : Exit → Act → World → Prop} {md : Region.Mode} {S : World → Prop} (i d : Nat) {oi : Oper} {v : Value} {fuel : Nat} {listed : Array Bool} {T : Array Value} {ds} {w : World} (hi : ops[i]? = some oi)
    (hs : Region.noSelect ops = true) (hf : Region.free md ops listed i = true) (hr : (Region.ready md ops listed).contains i = true)
    (hQ : ∀ c a w, Q (.panic c) (a.put oi.dst v) w → Q (.panic c) a w) (hy : YieldsIf P ops S oi v ⟨T, ds⟩) (hS : S w) (hd : oi.dst = some d)
    (h : wpAnyH P md ops Q S fuel (listed.setIfInBounds i true) ⟨T.setIfInBounds d v, ds⟩ w) : wpAnyH P md ops Q S (fuel + 1) listed ⟨T, ds⟩ w :=
  wpAnyH_take hi hs hf hr hQ hy hS (by rw [hd]; exact h)
/-- An operation whose guard says no is passed by: its slot written out. -/
theorem skipD {P : Program} {ops : Array Oper} {Q : Exit → Act → World → Prop} {md : Region.Mode} {S : World → Prop} (i d : Nat) {oi : Oper} {fuel : Nat} {listed : Array Bool} {T : Array Value} {ds} {w : World} (hi : ops[i]? = some oi)
    (hr : Region.ready md ops listed = [i]) (hw : Region.wanted oi (yielded ops T) = false) (hS : S w) (hd : oi.dst = some d)
    (h : wpAnyH P md ops Q S fuel (listed.setIfInBounds i true) ⟨T.setIfInBounds d undef, ds⟩ w) : wpAnyH P md ops Q S (fuel + 1) listed ⟨T, ds⟩ w := by
  refine wpAnyH_ready hr (by simp) (AllReadyH.cons hi (fun K' hK => ?_) .nil)
  rw [if_neg (by rw [hw]; decide)]
  refine hK.out _ _ hS (fun _ => ?_)
  rw [hd]
  exact h

theorem holds_made (w : World) (n : Nat) : Holds (w.alloc (.cells (madeCells #[.int .u8 0] n) 5)) (some ⟨w.heap.size, 0, none⟩) (List.replicate n 0) := (newBytes_made w _ n (heap_alloc_new w _)).holds

theorem Twin.kept3 {w w1 w2 : World} {M D C R c : Nat} {bs ps : List Int} {addr n : Int} {out : Bool} {s : CS} (h : Twin w M D R c bs ps) (b : Below w.heap.size w w1) (a : Apart3 M D C w1 w2) (i : IsMem w2 M D bs ps) (hc : Cpy w M D C addr n out s) (hR : R ≠ C) : Twin w2 M D R c bs ps := by
  refine ⟨i, h.fine, ?_, h.nM, h.nD⟩
  have h1 := h.ref.kept b h.ref.lt
  have hlt := h1.lt
  refine ⟨h1.1, ?_⟩
  rcases h1.2 with ⟨h', _⟩ | ⟨g', cap', cur, h', hb, hg, hr⟩
  · simp at h'
  · simp only [Value.slice.injEq, Option.some.injEq, Addr.mk.injEq, and_true, true_and] at h'
    obtain ⟨rfl, rfl⟩ := h'
    exact .inr ⟨R, c, cur, rfl, Nat.le_refl _, (a.block R hlt h.nM h.nD hR).trans hg, hr⟩
/-- the document's row is no copy -/
theorem Twin.ne {w : World} {M D C R c : Nat} {bs ps : List Int} {addr n : Int} {out : Bool} {s : CS} (h : Twin w M D R c bs ps) (hc : Cpy w M D C addr n out s) : R ≠ C := by
  rintro rfl
  obtain ⟨a, cap, h1, _⟩ := hc.is
  rcases h.ref.2 with ⟨h', _⟩ | ⟨g', cap', cur, h', hb, hg, hr⟩
  · simp at h'
  · simp only [Value.slice.injEq, Option.some.injEq, Addr.mk.injEq, and_true, true_and] at h'
    obtain ⟨rfl, rfl⟩ := h'
    rw [IsCp, hg] at h1
    simp at h1

set_option maxRecDepth 100000 in
set_option maxHeartbeats 8000000 in
theorem whole (p0 p1 p2 : Int) (a3 : Option Addr) (len cap : Nat) (x : Nat → AD) (wait : Bool) (w : World) (h63 : len ≤ 9223372036854775807) (hx : ActsAt w a3 len x)
    (p N K : Nat) (q0 : 1 ≤ p) (q1 : p ≤ 16) (hp : (p : Int) = 1 + IntKind.u64.wrap p0 % 16) (hN : (N : Int) = IntKind.u64.wrap p2 % ((if 64 ≤ 16 * p then 64 else 16 * (p : Int)) + 1)) (hN64 : N ≤ 64) (hK : (K : Int) = IntKind.u64.wrap p1 % (16 * p - N + 1)) (hkn : K + N ≤ 16 * p) :
    Calls Try.prog 10 #[.int .i64 p0, .int .i64 p1, .int .i64 p2, .slice a3 len cap, .bool wait] w fun e w' => e = .returned (.bool true) ∧ Below w.heap.size w w' := by
  have ha := dm_u64 p0
  generalize hza : IntKind.u64.wrap p0 = z at *
  have hb := dm_u64 p1
  generalize hzb : IntKind.u64.wrap p1 = y1 at *
  have hc := dm_u64 p2
  generalize hzc : IntKind.u64.wrap p2 = y2 at *
  have HP := Lib.hid hp
  have HX := Lib.hid hx
  have HNew := Lib.hid (memNew p w q0 q1)
  have HRN := Lib.hid (fun w1 => refNew p w1 q0 q1)
  have HL0 := Lib.hid (show (List.replicate (16 * p) (0 : Int)).length = 16 * p by simp)
  have HIn := Lib.hid (fun w1 => cpIn K N w1 (by omega) (by omega))
  have HPe := Lib.hid (fun w1 bs ps (hb : bs.length = 16 * p) (h : IsMem w1 (w.heap.size + 1) w.heap.size bs ps) => memPeek _ _ bs ps K N w1 h (by omega) (by omega))
  have HTc := Lib.hid (fun w1 bs ps (hb : bs.length = 16 * p) (h : IsMem w1 (w.heap.size + 1) w.heap.size bs ps) (f : Fine bs ps) => memTouch _ _ bs ps K N w1 h f (by omega) (by omega))
  have HTy := Lib.hid (fun (w1 : World) (C : Nat) (bs ps : List Int) (ws : Bool) (pg t : Int) (hb : bs.length = 16 * p) (t0 : 0 ≤ t) (t1 : t ≤ 1000) (h : Cpy w1 (w.heap.size + 1) w.heap.size C K N false ⟨false, ws, pg, t, []⟩) (i : IsMem w1 (w.heap.size + 1) w.heap.size bs ps) (f : Fine bs ps) => by
    have r := cpTry _ _ C bs ps K N false wait _ w1 h i f (by omega) (by omega) (by omega) (by simp) t0 t1
    rw [try_in bs ps K N (by omega)] at r
    exact r)
  have HSL := Lib.hid (fun (bs : List Int) (hb : bs.length = 16 * p) => show (sub bs K N).length = N from sub_len (by omega))
  have HK := Lib.hid hK
  have HNN := Lib.hid hN
  clear hK hN hx
  by_cases g4 : 64 ≤ 16 * p
  · have ht2 : y2 % 65 = N := by have := HNN.out; rw [if_pos (by omega)] at this; exact this.symm
    have ht1 : y1 % (16 * (p : Int) - N + 1) = K := HK.out.symm
    have hbd : 0 ≤ y2 % 65 ∧ y2 % 65 ≤ 64 := by rw [ht2]; omega
    have hbe : 0 ≤ y1 % (16 * (p : Int) - N + 1) ∧ y1 % (16 * (p : Int) - N + 1) ≤ 256 := by rw [ht1]; omega
    have hpp : 1 + z % 16 = (p : Int) := HP.out.symm
    have hbg : 0 ≤ y1 % (16 * (1 + z % 16) - y2 % 65 + 1) ∧ y1 % (16 * (1 + z % 16) - y2 % 65 + 1) ≤ 256 := by rw [hpp, ht2, ht1]; omega
    have hbh : 0 ≤ y1 % (16 * (1 + z % 16) - N + 1) ∧ y1 % (16 * (1 + z % 16) - N + 1) ≤ 256 := by rw [hpp, ht1]; omega
    clear hp
    go_enter Try.func10, Try.ntmps10
    go_wp2_with fail
    try rw [hpp]
    refine HNew.out.mono ?_
    rintro e w1 ⟨rfl, b1, m1⟩
    have B1 := Lib.hid b1
    have M1 := Lib.hid m1
    clear b1 m1
    go_wp2_with fail
    refine (HIn.out _).mono ?_
    rintro e w2 ⟨rfl, b2, i2⟩
    have B2 := Lib.hid (B1.out.trans (b2.mono B1.out.size))
    have M2 := Lib.hid (M1.out.kept b2 M1.out.ltM M1.out.ltD)
    have C2 := Lib.hid (Cpy.empty (M := w.heap.size + 1) (D := w.heap.size) i2 (Nat.ne_of_gt M1.out.ltM) (Nat.ne_of_gt M1.out.ltD))
    have hgC : w.heap.size ≤ w1.heap.size := B1.out.size
    clear b2 i2
    obtain ⟨C, hC⟩ : ∃ C, C = w1.heap.size := ⟨_, rfl⟩
    rw [← hC] at C2 hgC ⊢
    clear hC
    go_wp2_with fail
    refine (HRN.out _).mono ?_
    rintro e w3 ⟨rfl, b3, r3⟩
    have T3 := Lib.hid (twin_new q0 q1 M2.out rfl b3 r3)
    have B3 := Lib.hid (B2.out.trans (b3.mono B2.out.size))
    have C3 := Lib.hid (C2.out.apart (.of b3))
    clear b3 r3
    go_wp2_with fail
    try rw [hpp]
    try rw [ht2]
    try rw [ht1]
    clear ht1 ht2 hbd hbe hbg hbh hpp
    go_loopw [15, 16] (fun r i wr => ∃ (j R c : Nat) (bs ps : List Int) (ws : Bool) (pg : Int), j ≤ len + 1 ∧ j ≤ 31 ∧ Hid (0 < j → wait = true) ∧ i = .int .i64 j ∧ r = .slice (some ⟨R, 0, none⟩) (16 * p) c ∧ Hid (Twin wr (w.heap.size + 1) w.heap.size R c bs ps) ∧ Hid (bs.length = 16 * p) ∧ Hid (Below w.heap.size w wr) ∧ Hid (Cpy wr (w.heap.size + 1) w.heap.size C K N false ⟨false, ws, pg, j, []⟩)) (fun _ i _ => len + 1 - (intOf i).toNat)
    case atStart => exact ⟨0, _, _, _, _, false, 0, by omega, by omega, Lib.hid (fun h => absurd h (by omega)), rfl, rfl, T3, HL0, B3, C3⟩
    case round =>
      obtain ⟨j, R, c, bs, ps, ws, pg, hj, hj31, HW, rfl, rfl, HT, HL, HB, HC⟩ := hrel
      clear T3 B3 M2 B2 M1 B1 C2 C3
      by_cases hlt : j ≤ len ∧ j ≤ 30
      · obtain ⟨hlt, hlt2⟩ := hlt
        have HPe1 := HPe.out wr bs ps HL.out HT.out.mem
        have HTc1 := fun w4 (b : Below wr.heap.size wr w4) => HTc.out w4 bs ps HL.out (HT.out.mem.kept b HT.out.mem.ltM HT.out.mem.ltD) HT.out.fine
        have HTy1 := fun w4 (b : Below wr.heap.size wr w4) => HTy.out w4 C bs ps ws pg j HL.out (by omega) (by omega) (HC.out.apart (.of b)) (HT.out.mem.kept b HT.out.mem.ltM HT.out.mem.ltD) HT.out.fine
        have hwhy := tch_why ps K N
        have hpg := tch_page ps K N
        generalize tch ps K N = t at *
        obtain ⟨t1, t2⟩ := t
        dsimp only at *
        replace HPe1 := Lib.hid HPe1
        replace HTc1 := Lib.hid HTc1
        rcases hwhy with rfl | rfl | rfl
        · rw [if_pos rfl] at HTy1
          replace HTy1 := Lib.hid HTy1
          clear hpg
          go_wp2_with fail
          refine HPe1.out.mono ?_
          rintro e w4 ⟨v4, rfl, hv4⟩
          obtain ⟨a4, cap4, rfl, n4⟩ := hv4.news
          rw [HSL.out bs HL.out]
          have N4 := Lib.hid (n4.holdsX HT.out.mem.ltM HT.out.mem.ltD HC.out.lt)
          have B4 := Lib.hid hv4.2
          have G4 := Lib.hid (HB.out.trans (hv4.2.mono HB.out.size))
          clear n4 hv4
          go_wp2_with fail
          refine (HTc1.out _ B4.out).mono ?_
          rintro e w' ⟨rfl, rfl⟩
          go_wp2_with fail
          refine (HTy1.out _ B4.out).mono ?_
          rintro e w5 ⟨rfl, a5, i5, c5⟩
          dsimp only at i5 c5 ⊢
          have N5 := Lib.hid (N4.out.apart a5)
          have I5 := Lib.hid i5
          have C5 := Lib.hid c5
          have G5 := Lib.hid (G4.out.trans (a5.below (by omega) (by omega) hgC G4.out.size))
          have A5 := Lib.hid a5
          clear a5 i5 c5
          go_wp2_with fail
          refine (knownCopy _).mono ?_
          rintro e w6 ⟨rfl, b6⟩
          have G6 := Lib.hid (G5.out.trans (b6.mono G5.out.size))
          have C6 := Lib.hid (C5.out.apart (.of b6))
          have N6 := Lib.hid (N5.out.apart (.of b6))
          clear b6
          go_wp2_with fail
          refine (cpOver _ _ C _ _ _ _ _ C6.out).mono ?_
          rintro e w' ⟨rfl, rfl⟩
          dsimp only
          go_wp2_with fail
          refine (cpBytes _ _ C _ _ _ _ _ C6.out (by dsimp only; rw [HSL.out bs HL.out]; omega)).mono ?_
          rintro e w7 ⟨a7, cap7, rfl, n7, b7⟩
          dsimp only at n7 ⊢
          rw [HSL.out bs HL.out]
          have H7 := Lib.hid n7.holds
          have N7 := Lib.hid (N6.out.apart (.of b7)).holds
          have G7 := Lib.hid (G6.out.trans (b7.mono G6.out.size))
          clear n7 b7
          go_wp2_with fail
          refine (refSame _ _ _ _ (sub bs K N) _ N (HSL.out bs HL.out) (by omega) (by exact H7.out) (by exact N7.out)).mono ?_
          rintro e w8 ⟨rfl, b8⟩
          have G8 := Lib.hid (G7.out.trans (b8.mono G7.out.size))
          clear b8
          go_wp2_with fail
          go_ret
          exact ⟨rfl, G8.out⟩
        · rw [if_neg (by decide), if_neg (by simp)] at HTy1
          replace HTy1 := Lib.hid HTy1
          clear hpg
          go_wp2_with fail
          refine HPe1.out.mono ?_
          rintro e w4 ⟨v4, rfl, hv4⟩
          obtain ⟨a4, cap4, rfl, n4⟩ := hv4.news
          rw [HSL.out bs HL.out]
          have N4 := Lib.hid (n4.holdsX HT.out.mem.ltM HT.out.mem.ltD HC.out.lt)
          have B4 := Lib.hid hv4.2
          have G4 := Lib.hid (HB.out.trans (hv4.2.mono HB.out.size))
          clear n4 hv4
          go_wp2_with fail
          refine (HTc1.out _ B4.out).mono ?_
          rintro e w' ⟨rfl, rfl⟩
          go_wp2_with fail
          refine (HTy1.out _ B4.out).mono ?_
          rintro e w5 ⟨rfl, a5, i5, c5⟩
          dsimp only at i5 c5 ⊢
          have N5 := Lib.hid (N4.out.apart a5)
          have I5 := Lib.hid i5
          have C5 := Lib.hid c5
          have G5 := Lib.hid (G4.out.trans (a5.below (by omega) (by omega) hgC G4.out.size))
          have A5 := Lib.hid a5
          clear a5 i5 c5
          go_wp2_with fail
          have hmk := fun w => run_make_row' (P := Try.prog) 22 5 (.int .u8 0) 1 Try.underlying22 info5 rfl .i64 .i64 N (by omega) (by omega) w
          have HOv := Lib.hid (fun (w' : World) (h : Cpy w' (w.heap.size + 1) w.heap.size C K N false ⟨true, false, 0, (j : Int) + 1, List.replicate N 0⟩) => show Calls Try.prog 33 #[.pointer (some ⟨C, 0, none⟩)] w' (fun e w'' => e = .returned (.bool true) ∧ w' = w'') from cpOver _ _ C _ _ _ _ w' h)
          have HBy := Lib.hid (fun (w' : World) (h : Cpy w' (w.heap.size + 1) w.heap.size C K N false ⟨true, false, 0, (j : Int) + 1, List.replicate N 0⟩) => cpBytes _ _ C _ _ _ _ w' h (by simp; omega))
          have HSm := Lib.hid (fun w' a b ca cb h1 h2 => refSame a b ca cb (List.replicate N 0) w' N (by simp) (by omega) h1 h2)
          refine wp_region_noPanic ?_
          refine wp_region_held_drew (S := fun _ => True) (by kernel_rfl) trivial (fun hHeld => ?_)
          clear hHeld
          refine wpAnyH_ready (rs := [0]) (by kernel_rfl) (by simp) ?_
          refine AllReadyH.cons rfl (fun K hK => ?_) ?_
          · go_simp
            refine (knownCopy _).mono ?_
            rintro e w6 ⟨rfl, b6⟩
            have b6' := below_drewL b6
            have C6 := Lib.hid (C5.out.apart (.of b6'))
            have G6 := Lib.hid (G5.out.trans (b6'.mono G5.out.size))
            clear b6 b6'
            go_wp2_with fail
            refine hK.out _ _ trivial (fun hHeld => ?_)
            clear hK K hHeld
            refine takeD 1 116 (v := ?_) rfl (by kernel_rfl) (by kernel_rfl) (by kernel_rfl) (fun _ _ _ h => h) (Or.inl ⟨by rfl, ?_⟩) trivial rfl ?_
            rotate_left
            · intro w hSw
              go_simp
              try with_reducible rfl
            simp only [List.setIfInBounds_toArray, List.set_cons_zero, List.set_cons_succ]
            refine takeD 2 117 (v := ?_) rfl (by kernel_rfl) (by kernel_rfl) (by kernel_rfl) (fun _ _ _ h => h) (Or.inl ⟨by rfl, ?_⟩) trivial rfl ?_
            rotate_left
            · intro w hSw
              go_simp
              try with_reducible rfl
            simp only [List.setIfInBounds_toArray, List.set_cons_zero, List.set_cons_succ]
            refine takeD 3 118 (v := ?_) rfl (by kernel_rfl) (by kernel_rfl) (by kernel_rfl) (fun _ _ _ h => h) (Or.inl ⟨by rfl, ?_⟩) trivial rfl ?_
            rotate_left
            · intro w hSw
              go_simp
              try with_reducible rfl
            simp only [List.setIfInBounds_toArray, List.set_cons_zero, List.set_cons_succ]
            refine takeD 4 119 (v := ?_) rfl (by kernel_rfl) (by kernel_rfl) (by kernel_rfl) (fun _ _ _ h => h) (Or.inl ⟨by rfl, ?_⟩) trivial rfl ?_
            rotate_left
            · intro w hSw
              go_simp
              try with_reducible rfl
            simp only [List.setIfInBounds_toArray, List.set_cons_zero, List.set_cons_succ]
            refine takeD 5 120 (v := ?_) rfl (by kernel_rfl) (by kernel_rfl) (by kernel_rfl) (fun _ _ _ h => h) (Or.inl ⟨by rfl, ?_⟩) trivial rfl ?_
            rotate_left
            · intro w hSw
              go_simp
              try with_reducible rfl
            simp only [List.setIfInBounds_toArray, List.set_cons_zero, List.set_cons_succ]
            refine takeD 6 121 (v := ?_) rfl (by kernel_rfl) (by kernel_rfl) (by kernel_rfl) (fun _ _ _ h => h) (Or.inl ⟨by rfl, ?_⟩) trivial rfl ?_
            rotate_left
            · intro w hSw
              go_simp
              try with_reducible rfl
            simp only [List.setIfInBounds_toArray, List.set_cons_zero, List.set_cons_succ]
            refine takeD 7 122 (v := ?_) rfl (by kernel_rfl) (by kernel_rfl) (by kernel_rfl) (fun _ _ _ h => h) (Or.inl ⟨by rfl, ?_⟩) trivial rfl ?_
            rotate_left
            · intro w hSw
              go_simp
              try with_reducible rfl
            simp only [List.setIfInBounds_toArray, List.set_cons_zero, List.set_cons_succ]
            refine takeD 8 123 (v := ?_) rfl (by kernel_rfl) (by kernel_rfl) (by kernel_rfl) (fun _ _ _ h => h) (Or.inl ⟨by rfl, ?_⟩) trivial rfl ?_
            rotate_left
            · intro w hSw
              go_simp
              try with_reducible rfl
            simp only [List.setIfInBounds_toArray, List.set_cons_zero, List.set_cons_succ]
            refine skipD 9 124 rfl (by kernel_rfl) (by rfl) trivial rfl ?_
            simp only [List.setIfInBounds_toArray, List.set_cons_zero, List.set_cons_succ]
            refine skipD 10 125 rfl (by kernel_rfl) (by rfl) trivial rfl ?_
            simp only [List.setIfInBounds_toArray, List.set_cons_zero, List.set_cons_succ]
            refine takeD 11 126 (v := ?_) rfl (by kernel_rfl) (by kernel_rfl) (by kernel_rfl) (fun _ _ _ h => h) (Or.inl ⟨by rfl, ?_⟩) trivial rfl ?_
            rotate_left
            · intro w hSw
              go_simp
              try with_reducible rfl
            simp only [List.setIfInBounds_toArray, List.set_cons_zero, List.set_cons_succ]
            refine takeD 12 127 (v := ?_) rfl (by kernel_rfl) (by kernel_rfl) (by kernel_rfl) (fun _ _ _ h => h) (Or.inl ⟨by rfl, ?_⟩) trivial rfl ?_
            rotate_left
            · intro w hSw
              go_simp
              try with_reducible rfl
            simp only [List.setIfInBounds_toArray, List.set_cons_zero, List.set_cons_succ]
            refine takeD 13 128 (v := ?_) rfl (by kernel_rfl) (by kernel_rfl) (by kernel_rfl) (fun _ _ _ h => h) (Or.inl ⟨by rfl, ?_⟩) trivial rfl ?_
            rotate_left
            · intro w hSw
              go_simp
              try with_reducible rfl
            simp only [List.setIfInBounds_toArray, List.set_cons_zero, List.set_cons_succ]
            refine takeD 14 129 (v := ?_) rfl (by kernel_rfl) (by kernel_rfl) (by kernel_rfl) (fun _ _ _ h => h) (Or.inl ⟨by rfl, ?_⟩) trivial rfl ?_
            rotate_left
            · intro w hSw
              go_simp
              try with_reducible rfl
            simp only [List.setIfInBounds_toArray, List.set_cons_zero, List.set_cons_succ]
            refine wpAnyH_ready (rs := [15]) (by kernel_rfl) (by simp) ?_
            refine AllReadyH.cons rfl (fun K hK => ?_) ?_
            · go_simp
              refine (HOv.out _ ?_).mono ?_
              · first | exact C6.out | exact C6.out.drew
              rintro e w' ⟨rfl, rfl⟩
              go_wp2_with fail
              refine hK.out _ _ trivial (fun hHeld => ?_)
              clear hK K hHeld
              refine takeD 16 131 (v := ?_) rfl (by kernel_rfl) (by kernel_rfl) (by kernel_rfl) (fun _ _ _ h => h) (Or.inl ⟨by rfl, ?_⟩) trivial rfl ?_
              rotate_left
              · intro w hSw
                go_simp
                try with_reducible rfl
              simp only [List.setIfInBounds_toArray, List.set_cons_zero, List.set_cons_succ]
              refine takeD 17 132 (v := ?_) rfl (by kernel_rfl) (by kernel_rfl) (by kernel_rfl) (fun _ _ _ h => h) (Or.inl ⟨by rfl, ?_⟩) trivial rfl ?_
              rotate_left
              · intro w hSw
                go_simp
                try with_reducible rfl
              simp only [List.setIfInBounds_toArray, List.set_cons_zero, List.set_cons_succ]
              refine takeD 18 133 (v := ?_) rfl (by kernel_rfl) (by kernel_rfl) (by kernel_rfl) (fun _ _ _ h => h) (Or.inl ⟨by rfl, ?_⟩) trivial rfl ?_
              rotate_left
              · intro w hSw
                go_simp
                try with_reducible rfl
              simp only [List.setIfInBounds_toArray, List.set_cons_zero, List.set_cons_succ]
              refine takeD 20 135 (v := ?_) rfl (by kernel_rfl) (by kernel_rfl) (by kernel_rfl) (fun _ _ _ h => h) (Or.inl ⟨by rfl, ?_⟩) trivial rfl ?_
              rotate_left
              · intro w hSw
                go_simp
                try with_reducible rfl
              simp only [List.setIfInBounds_toArray, List.set_cons_zero, List.set_cons_succ]
              refine wpAnyH_ready (rs := [19, 21]) (by kernel_rfl) (by simp) ?_
              refine AllReadyH.cons rfl (fun K hK => ?_) ?_
              · go_simp
                refine (HBy.out _ ?_).mono ?_
                · first | exact C6.out | exact C6.out.drew | exact C6.out.allocd _ | exact (C6.out.allocd _).drew
                rintro e w7 ⟨a7, cap7, rfl, n7, b7⟩
                have N7 := Lib.hid n7
                have B7 := Lib.hid b7
                clear n7 b7
                go_wp2_with fail
                refine hK.out _ _ trivial (fun hHeld => ?_)
                clear hK K hHeld
                refine wpAnyH_ready (rs := [21]) (by kernel_rfl) (by simp) ?_
                refine AllReadyH.cons rfl (fun K hK => ?_) ?_
                · go_simp
                  refine hK.out _ _ trivial (fun hHeld => ?_)
                  clear hK K hHeld
                  refine wpAnyH_ready (rs := [22]) (by kernel_rfl) (by simp) ?_
                  refine AllReadyH.cons rfl (fun K hK => ?_) ?_
                  · go_simp
                    refine (HSm.out _ _ _ _ _ ?_ ?_).mono ?_
                    · first | exact N7.out.holds.below (below_alloc _ _) | exact N7.out.holds
                    · first | exact holds_made _ _ | exact (holds_made _ _).below B7.out
                    rintro e w8 ⟨rfl, b8⟩
                    have B8 := Lib.hid b8
                    clear b8
                    go_wp2_with fail
                    refine hK.out _ _ trivial (fun hHeld => ?_)
                    clear hK K hHeld
                    refine takeD 23 138 (v := ?_) rfl (by kernel_rfl) (by kernel_rfl) (by kernel_rfl) (fun _ _ _ h => h) (Or.inl ⟨by rfl, ?_⟩) trivial rfl ?_
                    rotate_left
                    · intro w hSw
                      go_simp
                      try with_reducible rfl
                    simp only [List.setIfInBounds_toArray, List.set_cons_zero, List.set_cons_succ]
                    refine takeD 24 10 (v := ?_) rfl (by kernel_rfl) (by kernel_rfl) (by kernel_rfl) (fun _ _ _ h => h) (Or.inl ⟨by rfl, ?_⟩) trivial rfl ?_
                    rotate_left
                    · intro w hSw
                      go_simp
                      try with_reducible rfl
                    simp only [List.setIfInBounds_toArray, List.set_cons_zero, List.set_cons_succ]
                    refine wpAnyH_done (by kernel_rfl) ?_ _
                    refine NoPanic.normal ?_
                    go_wp2_with fail
                    go_ret
                    refine ⟨rfl, ?_⟩
                    first
                      | exact G6.out.trans ((B7.out.trans (((below_alloc _ _).trans (B8.out.mono (below_alloc _ _).size)).mono B7.out.size)).mono G6.out.size)
                      | exact G6.out.trans (((below_alloc _ _).trans ((B7.out.trans (B8.out.mono B7.out.size)).mono (below_alloc _ _).size)).mono G6.out.size)
                  exact AllReadyH.nil
                exact AllReadyH.nil
              refine AllReadyH.cons rfl (fun K hK => ?_) ?_
              · go_simp
                refine hK.out _ _ trivial (fun hHeld => ?_)
                clear hK K hHeld
                refine wpAnyH_ready (rs := [19]) (by kernel_rfl) (by simp) ?_
                refine AllReadyH.cons rfl (fun K hK => ?_) ?_
                · go_simp
                  refine (HBy.out _ ?_).mono ?_
                  · first | exact C6.out | exact C6.out.drew | exact C6.out.allocd _ | exact (C6.out.allocd _).drew
                  rintro e w7 ⟨a7, cap7, rfl, n7, b7⟩
                  have N7 := Lib.hid n7
                  have B7 := Lib.hid b7
                  clear n7 b7
                  go_wp2_with fail
                  refine hK.out _ _ trivial (fun hHeld => ?_)
                  clear hK K hHeld
                  refine wpAnyH_ready (rs := [22]) (by kernel_rfl) (by simp) ?_
                  refine AllReadyH.cons rfl (fun K hK => ?_) ?_
                  · go_simp
                    refine (HSm.out _ _ _ _ _ ?_ ?_).mono ?_
                    · first | exact N7.out.holds.below (below_alloc _ _) | exact N7.out.holds
                    · first | exact holds_made _ _ | exact (holds_made _ _).below B7.out
                    rintro e w8 ⟨rfl, b8⟩
                    have B8 := Lib.hid b8
                    clear b8
                    go_wp2_with fail
                    refine hK.out _ _ trivial (fun hHeld => ?_)
                    clear hK K hHeld
                    refine takeD 23 138 (v := ?_) rfl (by kernel_rfl) (by kernel_rfl) (by kernel_rfl) (fun _ _ _ h => h) (Or.inl ⟨by rfl, ?_⟩) trivial rfl ?_
                    rotate_left
                    · intro w hSw
                      go_simp
                      try with_reducible rfl
                    simp only [List.setIfInBounds_toArray, List.set_cons_zero, List.set_cons_succ]
                    refine takeD 24 10 (v := ?_) rfl (by kernel_rfl) (by kernel_rfl) (by kernel_rfl) (fun _ _ _ h => h) (Or.inl ⟨by rfl, ?_⟩) trivial rfl ?_
                    rotate_left
                    · intro w hSw
                      go_simp
                      try with_reducible rfl
                    simp only [List.setIfInBounds_toArray, List.set_cons_zero, List.set_cons_succ]
                    refine wpAnyH_done (by kernel_rfl) ?_ _
                    refine NoPanic.normal ?_
                    go_wp2_with fail
                    go_ret
                    refine ⟨rfl, ?_⟩
                    first
                      | exact G6.out.trans ((B7.out.trans (((below_alloc _ _).trans (B8.out.mono (below_alloc _ _).size)).mono B7.out.size)).mono G6.out.size)
                      | exact G6.out.trans (((below_alloc _ _).trans ((B7.out.trans (B8.out.mono B7.out.size)).mono (below_alloc _ _).size)).mono G6.out.size)
                  exact AllReadyH.nil
                exact AllReadyH.nil
              exact AllReadyH.nil
            exact AllReadyH.nil
          exact AllReadyH.nil
        · cases wait with
          | true =>
            rw [if_neg (by decide), if_pos ⟨rfl, rfl⟩] at HTy1
            replace HTy1 := Lib.hid HTy1
            obtain ⟨q, hq1, hq2, hq3⟩ := hpg rfl
            subst hq1
            have hmod := HT.out.len.2.2
            rw [HL.out] at hmod
            have HSt := fun w6 (h : IsMem w6 (w.heap.size + 1) w.heap.size bs ps) => memState _ _ bs ps q w6 h (by rw [HL.out]; omega) (by unfold pageB; rw [HL.out]; exact decide_eq_false (by omega)) (by omega)
            rw [hq3] at HSt
            replace HSt := Lib.hid HSt
            clear hpg hq3 hmod
            go_wp2_with fail
            refine HPe1.out.mono ?_
            rintro e w4 ⟨v4, rfl, hv4⟩
            obtain ⟨a4, cap4, rfl, n4⟩ := hv4.news
            rw [HSL.out bs HL.out]
            have N4 := Lib.hid (n4.holdsX HT.out.mem.ltM HT.out.mem.ltD HC.out.lt)
            have B4 := Lib.hid hv4.2
            have G4 := Lib.hid (HB.out.trans (hv4.2.mono HB.out.size))
            clear n4 hv4
            go_wp2_with fail
            refine (HTc1.out _ B4.out).mono ?_
            rintro e w' ⟨rfl, rfl⟩
            go_wp2_with fail
            refine (HTy1.out _ B4.out).mono ?_
            rintro e w5 ⟨rfl, a5, i5, c5⟩
            dsimp only at i5 c5 ⊢
            have N5 := Lib.hid (N4.out.apart a5)
            have I5 := Lib.hid i5
            have C5 := Lib.hid c5
            have G5 := Lib.hid (G4.out.trans (a5.below (by omega) (by omega) hgC G4.out.size))
            have A5 := Lib.hid a5
            clear a5 i5 c5
            go_wp2_with fail
            refine (cpPage _ _ C _ _ _ _ _ C5.out).mono ?_
            rintro e w6 ⟨rfl, b6⟩
            have G6 := Lib.hid (G5.out.trans (b6.mono G5.out.size))
            have C6 := Lib.hid (C5.out.apart (.of b6))
            have I6 := Lib.hid (I5.out.kept b6 I5.out.ltM I5.out.ltD)
            have A6 := Lib.hid (A5.out.trans (.of b6))
            clear b6
            dsimp only
            go_wp2_with fail
            refine (cpOver _ _ C _ _ _ _ _ C6.out).mono ?_
            rintro e w' ⟨rfl, rfl⟩
            dsimp only
            go_wp2_with fail
            refine (HSt.out _ I6.out).mono ?_
            rintro e w' ⟨rfl, rfl⟩
            go_wp2_with fail
            refine (cpBytes _ _ C _ _ _ _ _ C6.out (by simp)).mono ?_
            rintro e w7 ⟨a7, cap7, rfl, n7, b7⟩
            have G7 := Lib.hid (G6.out.trans (b7.mono G6.out.size))
            have C7 := Lib.hid (C6.out.apart (.of b7))
            have T7 := Lib.hid (HT.out.kept3 B4.out (A6.out.trans (.of b7)) (I6.out.kept b7 I6.out.ltM I6.out.ltD) HC.out (HT.out.ne HC.out))
            clear n7 b7
            dsimp only
            by_cases hjl : j < len
            · have hxw := HX.out.below G7.out
              obtain ⟨bk, off, rfl, hbk, hcs⟩ := hxw.cells (by omega)
              have hok := Lib.hid (hxw.ok j hjl)
              obtain ⟨c0, c1, c2, c3, c4⟩ := hcs j hjl
              have HD := Lib.hid (fun (h : Twin w7 (w.heap.size + 1) w.heap.size R c bs ps) => doAny _ _ _ _ bs ps (x j) w7 h hok.out)
              rw [HL.out] at HD
              clear hxw hcs
              go_wp2_with fail
              refine (HD.out T7.out).mono ?_
              rintro e w8 ⟨R', c', bs', ps', rfl, hl', ht', ha', hr'⟩
              clear hr' c0 c1 c2 c3 c4
              have HL' := Lib.hid hl'
              have HT' := Lib.hid ht'
              have HB' := Lib.hid (G7.out.trans (ha'.below (by omega) (by omega) G7.out.size))
              have HC' := Lib.hid (C7.out.apart ha')
              clear hl' ht' ha'
              go_wp2_with fail
              go_roundw
              case rel => exact ⟨j + 1, R', c', bs', ps', true, q, by omega, by omega, Lib.hid (fun _ => by trivial), by go_num, rfl, HT', HL', HB', by rw [show ((j + 1 : Nat) : Int) = (j : Int) + 1 from by omega]; exact HC'⟩
              case measure => simp only [intOf]; omega
            · go_wp2_with fail
              go_roundw
              case rel => exact ⟨j + 1, R, c, bs, ps, true, q, by omega, by omega, Lib.hid (fun _ => by trivial), by go_num, rfl, T7, HL, G7, by rw [show ((j + 1 : Nat) : Int) = (j : Int) + 1 from by omega]; exact C7⟩
              case measure => simp only [intOf]; omega
          | false =>
            rw [if_neg (by decide), if_neg (by simp)] at HTy1
            replace HTy1 := Lib.hid HTy1
            clear hpg
            go_wp2_with fail
            refine HPe1.out.mono ?_
            rintro e w4 ⟨v4, rfl, hv4⟩
            obtain ⟨a4, cap4, rfl, n4⟩ := hv4.news
            rw [HSL.out bs HL.out]
            have N4 := Lib.hid (n4.holdsX HT.out.mem.ltM HT.out.mem.ltD HC.out.lt)
            have B4 := Lib.hid hv4.2
            have G4 := Lib.hid (HB.out.trans (hv4.2.mono HB.out.size))
            clear n4 hv4
            go_wp2_with fail
            refine (HTc1.out _ B4.out).mono ?_
            rintro e w' ⟨rfl, rfl⟩
            go_wp2_with fail
            refine (HTy1.out _ B4.out).mono ?_
            rintro e w5 ⟨rfl, a5, i5, c5⟩
            dsimp only at i5 c5 ⊢
            have N5 := Lib.hid (N4.out.apart a5)
            have I5 := Lib.hid i5
            have C5 := Lib.hid c5
            have G5 := Lib.hid (G4.out.trans (a5.below (by omega) (by omega) hgC G4.out.size))
            have A5 := Lib.hid a5
            clear a5 i5 c5
            go_wp2_with fail
            have hmk := fun w => run_make_row' (P := Try.prog) 22 5 (.int .u8 0) 1 Try.underlying22 info5 rfl .i64 .i64 N (by omega) (by omega) w
            have HOv := Lib.hid (fun (w' : World) (h : Cpy w' (w.heap.size + 1) w.heap.size C K N false ⟨true, false, 0, (j : Int) + 1, List.replicate N 0⟩) => show Calls Try.prog 33 #[.pointer (some ⟨C, 0, none⟩)] w' (fun e w'' => e = .returned (.bool true) ∧ w' = w'') from cpOver _ _ C _ _ _ _ w' h)
            have HBy := Lib.hid (fun (w' : World) (h : Cpy w' (w.heap.size + 1) w.heap.size C K N false ⟨true, false, 0, (j : Int) + 1, List.replicate N 0⟩) => cpBytes _ _ C _ _ _ _ w' h (by simp; omega))
            have HSm := Lib.hid (fun w' a b ca cb h1 h2 => refSame a b ca cb (List.replicate N 0) w' N (by simp) (by omega) h1 h2)
            refine wp_region_noPanic ?_
            refine wp_region_held_drew (S := fun _ => True) (by kernel_rfl) trivial (fun hHeld => ?_)
            clear hHeld
            refine wpAnyH_ready (rs := [0]) (by kernel_rfl) (by simp) ?_
            refine AllReadyH.cons rfl (fun K hK => ?_) ?_
            · go_simp
              refine (knownCopy _).mono ?_
              rintro e w6 ⟨rfl, b6⟩
              have b6' := below_drewL b6
              have C6 := Lib.hid (C5.out.apart (.of b6'))
              have G6 := Lib.hid (G5.out.trans (b6'.mono G5.out.size))
              clear b6 b6'
              go_wp2_with fail
              refine hK.out _ _ trivial (fun hHeld => ?_)
              clear hK K hHeld
              refine takeD 1 116 (v := ?_) rfl (by kernel_rfl) (by kernel_rfl) (by kernel_rfl) (fun _ _ _ h => h) (Or.inl ⟨by rfl, ?_⟩) trivial rfl ?_
              rotate_left
              · intro w hSw
                go_simp
                try with_reducible rfl
              simp only [List.setIfInBounds_toArray, List.set_cons_zero, List.set_cons_succ]
              refine takeD 2 117 (v := ?_) rfl (by kernel_rfl) (by kernel_rfl) (by kernel_rfl) (fun _ _ _ h => h) (Or.inl ⟨by rfl, ?_⟩) trivial rfl ?_
              rotate_left
              · intro w hSw
                go_simp
                try with_reducible rfl
              simp only [List.setIfInBounds_toArray, List.set_cons_zero, List.set_cons_succ]
              refine takeD 3 118 (v := ?_) rfl (by kernel_rfl) (by kernel_rfl) (by kernel_rfl) (fun _ _ _ h => h) (Or.inl ⟨by rfl, ?_⟩) trivial rfl ?_
              rotate_left
              · intro w hSw
                go_simp
                try with_reducible rfl
              simp only [List.setIfInBounds_toArray, List.set_cons_zero, List.set_cons_succ]
              refine takeD 4 119 (v := ?_) rfl (by kernel_rfl) (by kernel_rfl) (by kernel_rfl) (fun _ _ _ h => h) (Or.inl ⟨by rfl, ?_⟩) trivial rfl ?_
              rotate_left
              · intro w hSw
                go_simp
                try with_reducible rfl
              simp only [List.setIfInBounds_toArray, List.set_cons_zero, List.set_cons_succ]
              refine takeD 5 120 (v := ?_) rfl (by kernel_rfl) (by kernel_rfl) (by kernel_rfl) (fun _ _ _ h => h) (Or.inl ⟨by rfl, ?_⟩) trivial rfl ?_
              rotate_left
              · intro w hSw
                go_simp
                try with_reducible rfl
              simp only [List.setIfInBounds_toArray, List.set_cons_zero, List.set_cons_succ]
              refine takeD 6 121 (v := ?_) rfl (by kernel_rfl) (by kernel_rfl) (by kernel_rfl) (fun _ _ _ h => h) (Or.inl ⟨by rfl, ?_⟩) trivial rfl ?_
              rotate_left
              · intro w hSw
                go_simp
                try with_reducible rfl
              simp only [List.setIfInBounds_toArray, List.set_cons_zero, List.set_cons_succ]
              refine takeD 7 122 (v := ?_) rfl (by kernel_rfl) (by kernel_rfl) (by kernel_rfl) (fun _ _ _ h => h) (Or.inl ⟨by rfl, ?_⟩) trivial rfl ?_
              rotate_left
              · intro w hSw
                go_simp
                try with_reducible rfl
              simp only [List.setIfInBounds_toArray, List.set_cons_zero, List.set_cons_succ]
              refine takeD 8 123 (v := ?_) rfl (by kernel_rfl) (by kernel_rfl) (by kernel_rfl) (fun _ _ _ h => h) (Or.inl ⟨by rfl, ?_⟩) trivial rfl ?_
              rotate_left
              · intro w hSw
                go_simp
                try with_reducible rfl
              simp only [List.setIfInBounds_toArray, List.set_cons_zero, List.set_cons_succ]
              refine takeD 9 124 (v := ?_) rfl (by kernel_rfl) (by kernel_rfl) (by kernel_rfl) (fun _ _ _ h => h) (Or.inl ⟨by rfl, ?_⟩) trivial rfl ?_
              rotate_left
              · intro w hSw
                go_simp
                try with_reducible rfl
              simp only [List.setIfInBounds_toArray, List.set_cons_zero, List.set_cons_succ]
              refine takeD 10 125 (v := ?_) rfl (by kernel_rfl) (by kernel_rfl) (by kernel_rfl) (fun _ _ _ h => h) (Or.inl ⟨by rfl, ?_⟩) trivial rfl ?_
              rotate_left
              · intro w hSw
                go_simp
                try with_reducible rfl
              simp only [List.setIfInBounds_toArray, List.set_cons_zero, List.set_cons_succ]
              refine takeD 11 126 (v := ?_) rfl (by kernel_rfl) (by kernel_rfl) (by kernel_rfl) (fun _ _ _ h => h) (Or.inl ⟨by rfl, ?_⟩) trivial rfl ?_
              rotate_left
              · intro w hSw
                go_simp
                try with_reducible rfl
              simp only [List.setIfInBounds_toArray, List.set_cons_zero, List.set_cons_succ]
              refine takeD 12 127 (v := ?_) rfl (by kernel_rfl) (by kernel_rfl) (by kernel_rfl) (fun _ _ _ h => h) (Or.inl ⟨by rfl, ?_⟩) trivial rfl ?_
              rotate_left
              · intro w hSw
                go_simp
                try with_reducible rfl
              simp only [List.setIfInBounds_toArray, List.set_cons_zero, List.set_cons_succ]
              refine takeD 13 128 (v := ?_) rfl (by kernel_rfl) (by kernel_rfl) (by kernel_rfl) (fun _ _ _ h => h) (Or.inl ⟨by rfl, ?_⟩) trivial rfl ?_
              rotate_left
              · intro w hSw
                go_simp
                try with_reducible rfl
              simp only [List.setIfInBounds_toArray, List.set_cons_zero, List.set_cons_succ]
              refine takeD 14 129 (v := ?_) rfl (by kernel_rfl) (by kernel_rfl) (by kernel_rfl) (fun _ _ _ h => h) (Or.inl ⟨by rfl, ?_⟩) trivial rfl ?_
              rotate_left
              · intro w hSw
                go_simp
                try with_reducible rfl
              simp only [List.setIfInBounds_toArray, List.set_cons_zero, List.set_cons_succ]
              refine wpAnyH_ready (rs := [15]) (by kernel_rfl) (by simp) ?_
              refine AllReadyH.cons rfl (fun K hK => ?_) ?_
              · go_simp
                refine (HOv.out _ ?_).mono ?_
                · first | exact C6.out | exact C6.out.drew
                rintro e w' ⟨rfl, rfl⟩
                go_wp2_with fail
                refine hK.out _ _ trivial (fun hHeld => ?_)
                clear hK K hHeld
                refine takeD 16 131 (v := ?_) rfl (by kernel_rfl) (by kernel_rfl) (by kernel_rfl) (fun _ _ _ h => h) (Or.inl ⟨by rfl, ?_⟩) trivial rfl ?_
                rotate_left
                · intro w hSw
                  go_simp
                  try with_reducible rfl
                simp only [List.setIfInBounds_toArray, List.set_cons_zero, List.set_cons_succ]
                refine takeD 17 132 (v := ?_) rfl (by kernel_rfl) (by kernel_rfl) (by kernel_rfl) (fun _ _ _ h => h) (Or.inl ⟨by rfl, ?_⟩) trivial rfl ?_
                rotate_left
                · intro w hSw
                  go_simp
                  try with_reducible rfl
                simp only [List.setIfInBounds_toArray, List.set_cons_zero, List.set_cons_succ]
                refine takeD 18 133 (v := ?_) rfl (by kernel_rfl) (by kernel_rfl) (by kernel_rfl) (fun _ _ _ h => h) (Or.inl ⟨by rfl, ?_⟩) trivial rfl ?_
                rotate_left
                · intro w hSw
                  go_simp
                  try with_reducible rfl
                simp only [List.setIfInBounds_toArray, List.set_cons_zero, List.set_cons_succ]
                refine takeD 20 135 (v := ?_) rfl (by kernel_rfl) (by kernel_rfl) (by kernel_rfl) (fun _ _ _ h => h) (Or.inl ⟨by rfl, ?_⟩) trivial rfl ?_
                rotate_left
                · intro w hSw
                  go_simp
                  try with_reducible rfl
                simp only [List.setIfInBounds_toArray, List.set_cons_zero, List.set_cons_succ]
                refine wpAnyH_ready (rs := [19, 21]) (by kernel_rfl) (by simp) ?_
                refine AllReadyH.cons rfl (fun K hK => ?_) ?_
                · go_simp
                  refine (HBy.out _ ?_).mono ?_
                  · first | exact C6.out | exact C6.out.drew | exact C6.out.allocd _ | exact (C6.out.allocd _).drew
                  rintro e w7 ⟨a7, cap7, rfl, n7, b7⟩
                  have N7 := Lib.hid n7
                  have B7 := Lib.hid b7
                  clear n7 b7
                  go_wp2_with fail
                  refine hK.out _ _ trivial (fun hHeld => ?_)
                  clear hK K hHeld
                  refine wpAnyH_ready (rs := [21]) (by kernel_rfl) (by simp) ?_
                  refine AllReadyH.cons rfl (fun K hK => ?_) ?_
                  · go_simp
                    refine hK.out _ _ trivial (fun hHeld => ?_)
                    clear hK K hHeld
                    refine wpAnyH_ready (rs := [22]) (by kernel_rfl) (by simp) ?_
                    refine AllReadyH.cons rfl (fun K hK => ?_) ?_
                    · go_simp
                      refine (HSm.out _ _ _ _ _ ?_ ?_).mono ?_
                      · first | exact N7.out.holds.below (below_alloc _ _) | exact N7.out.holds
                      · first | exact holds_made _ _ | exact (holds_made _ _).below B7.out
                      rintro e w8 ⟨rfl, b8⟩
                      have B8 := Lib.hid b8
                      clear b8
                      go_wp2_with fail
                      refine hK.out _ _ trivial (fun hHeld => ?_)
                      clear hK K hHeld
                      refine takeD 23 138 (v := ?_) rfl (by kernel_rfl) (by kernel_rfl) (by kernel_rfl) (fun _ _ _ h => h) (Or.inl ⟨by rfl, ?_⟩) trivial rfl ?_
                      rotate_left
                      · intro w hSw
                        go_simp
                        try with_reducible rfl
                      simp only [List.setIfInBounds_toArray, List.set_cons_zero, List.set_cons_succ]
                      refine takeD 24 10 (v := ?_) rfl (by kernel_rfl) (by kernel_rfl) (by kernel_rfl) (fun _ _ _ h => h) (Or.inl ⟨by rfl, ?_⟩) trivial rfl ?_
                      rotate_left
                      · intro w hSw
                        go_simp
                        try with_reducible rfl
                      simp only [List.setIfInBounds_toArray, List.set_cons_zero, List.set_cons_succ]
                      refine wpAnyH_done (by kernel_rfl) ?_ _
                      refine NoPanic.normal ?_
                      go_wp2_with fail
                      go_ret
                      refine ⟨rfl, ?_⟩
                      first
                        | exact G6.out.trans ((B7.out.trans (((below_alloc _ _).trans (B8.out.mono (below_alloc _ _).size)).mono B7.out.size)).mono G6.out.size)
                        | exact G6.out.trans (((below_alloc _ _).trans ((B7.out.trans (B8.out.mono B7.out.size)).mono (below_alloc _ _).size)).mono G6.out.size)
                    exact AllReadyH.nil
                  exact AllReadyH.nil
                refine AllReadyH.cons rfl (fun K hK => ?_) ?_
                · go_simp
                  refine hK.out _ _ trivial (fun hHeld => ?_)
                  clear hK K hHeld
                  refine wpAnyH_ready (rs := [19]) (by kernel_rfl) (by simp) ?_
                  refine AllReadyH.cons rfl (fun K hK => ?_) ?_
                  · go_simp
                    refine (HBy.out _ ?_).mono ?_
                    · first | exact C6.out | exact C6.out.drew | exact C6.out.allocd _ | exact (C6.out.allocd _).drew
                    rintro e w7 ⟨a7, cap7, rfl, n7, b7⟩
                    have N7 := Lib.hid n7
                    have B7 := Lib.hid b7
                    clear n7 b7
                    go_wp2_with fail
                    refine hK.out _ _ trivial (fun hHeld => ?_)
                    clear hK K hHeld
                    refine wpAnyH_ready (rs := [22]) (by kernel_rfl) (by simp) ?_
                    refine AllReadyH.cons rfl (fun K hK => ?_) ?_
                    · go_simp
                      refine (HSm.out _ _ _ _ _ ?_ ?_).mono ?_
                      · first | exact N7.out.holds.below (below_alloc _ _) | exact N7.out.holds
                      · first | exact holds_made _ _ | exact (holds_made _ _).below B7.out
                      rintro e w8 ⟨rfl, b8⟩
                      have B8 := Lib.hid b8
                      clear b8
                      go_wp2_with fail
                      refine hK.out _ _ trivial (fun hHeld => ?_)
                      clear hK K hHeld
                      refine takeD 23 138 (v := ?_) rfl (by kernel_rfl) (by kernel_rfl) (by kernel_rfl) (fun _ _ _ h => h) (Or.inl ⟨by rfl, ?_⟩) trivial rfl ?_
                      rotate_left
                      · intro w hSw
                        go_simp
                        try with_reducible rfl
                      simp only [List.setIfInBounds_toArray, List.set_cons_zero, List.set_cons_succ]
                      refine takeD 24 10 (v := ?_) rfl (by kernel_rfl) (by kernel_rfl) (by kernel_rfl) (fun _ _ _ h => h) (Or.inl ⟨by rfl, ?_⟩) trivial rfl ?_
                      rotate_left
                      · intro w hSw
                        go_simp
                        try with_reducible rfl
                      simp only [List.setIfInBounds_toArray, List.set_cons_zero, List.set_cons_succ]
                      refine wpAnyH_done (by kernel_rfl) ?_ _
                      refine NoPanic.normal ?_
                      go_wp2_with fail
                      go_ret
                      refine ⟨rfl, ?_⟩
                      first
                        | exact G6.out.trans ((B7.out.trans (((below_alloc _ _).trans (B8.out.mono (below_alloc _ _).size)).mono B7.out.size)).mono G6.out.size)
                        | exact G6.out.trans (((below_alloc _ _).trans ((B7.out.trans (B8.out.mono B7.out.size)).mono (below_alloc _ _).size)).mono G6.out.size)
                    exact AllReadyH.nil
                  exact AllReadyH.nil
                exact AllReadyH.nil
              exact AllReadyH.nil
            exact AllReadyH.nil
      · have hw := HW.out (by omega)
        subst hw
        by_cases hlt2 : j ≤ len
        all_goals
          go_wp2_with fail
          refine (knownCopy _).mono ?_
          rintro e w5 ⟨rfl, b5⟩
          have G5 := Lib.hid (HB.out.trans (b5.mono HB.out.size))
          clear b5
          go_wp2_with fail
          go_ret
          exact ⟨rfl, G5.out⟩
  · have ht2 : y2 % (16 * (p : Int) + 1) = N := by have := HNN.out; rw [show (if 64 ≤ 16 * p then (64 : Int) else 16 * (p : Int)) = 16 * p from by split <;> omega] at this; exact this.symm
    have ht1 : y1 % (16 * (p : Int) - N + 1) = K := HK.out.symm
    have hbd : 0 ≤ y2 % (16 * (p : Int) + 1) ∧ y2 % (16 * (p : Int) + 1) ≤ 64 := by rw [ht2]; omega
    have hbe : 0 ≤ y1 % (16 * (p : Int) - N + 1) ∧ y1 % (16 * (p : Int) - N + 1) ≤ 256 := by rw [ht1]; omega
    have hpp : 1 + z % 16 = (p : Int) := HP.out.symm
    have hbf : 0 ≤ y2 % (16 * (1 + z % 16) + 1) ∧ y2 % (16 * (1 + z % 16) + 1) ≤ 64 := by rw [hpp, ht2]; omega
    have hbg : 0 ≤ y1 % (16 * (1 + z % 16) - y2 % (16 * (1 + z % 16) + 1) + 1) ∧ y1 % (16 * (1 + z % 16) - y2 % (16 * (1 + z % 16) + 1) + 1) ≤ 256 := by rw [hpp, ht2, ht1]; omega
    have hbh : 0 ≤ y1 % (16 * (1 + z % 16) - N + 1) ∧ y1 % (16 * (1 + z % 16) - N + 1) ≤ 256 := by rw [hpp, ht1]; omega
    clear hp
    go_enter Try.func10, Try.ntmps10
    go_wp2_with fail
    try rw [hpp]
    refine HNew.out.mono ?_
    rintro e w1 ⟨rfl, b1, m1⟩
    have B1 := Lib.hid b1
    have M1 := Lib.hid m1
    clear b1 m1
    go_wp2_with fail
    refine (HIn.out _).mono ?_
    rintro e w2 ⟨rfl, b2, i2⟩
    have B2 := Lib.hid (B1.out.trans (b2.mono B1.out.size))
    have M2 := Lib.hid (M1.out.kept b2 M1.out.ltM M1.out.ltD)
    have C2 := Lib.hid (Cpy.empty (M := w.heap.size + 1) (D := w.heap.size) i2 (Nat.ne_of_gt M1.out.ltM) (Nat.ne_of_gt M1.out.ltD))
    have hgC : w.heap.size ≤ w1.heap.size := B1.out.size
    clear b2 i2
    obtain ⟨C, hC⟩ : ∃ C, C = w1.heap.size := ⟨_, rfl⟩
    rw [← hC] at C2 hgC ⊢
    clear hC
    go_wp2_with fail
    refine (HRN.out _).mono ?_
    rintro e w3 ⟨rfl, b3, r3⟩
    have T3 := Lib.hid (twin_new q0 q1 M2.out rfl b3 r3)
    have B3 := Lib.hid (B2.out.trans (b3.mono B2.out.size))
    have C3 := Lib.hid (C2.out.apart (.of b3))
    clear b3 r3
    go_wp2_with fail
    try rw [hpp]
    try rw [ht2]
    try rw [ht1]
    clear ht1 ht2 hbd hbe hbg hbh hpp
    go_loopw [15, 16] (fun r i wr => ∃ (j R c : Nat) (bs ps : List Int) (ws : Bool) (pg : Int), j ≤ len + 1 ∧ j ≤ 31 ∧ Hid (0 < j → wait = true) ∧ i = .int .i64 j ∧ r = .slice (some ⟨R, 0, none⟩) (16 * p) c ∧ Hid (Twin wr (w.heap.size + 1) w.heap.size R c bs ps) ∧ Hid (bs.length = 16 * p) ∧ Hid (Below w.heap.size w wr) ∧ Hid (Cpy wr (w.heap.size + 1) w.heap.size C K N false ⟨false, ws, pg, j, []⟩)) (fun _ i _ => len + 1 - (intOf i).toNat)
    case atStart => exact ⟨0, _, _, _, _, false, 0, by omega, by omega, Lib.hid (fun h => absurd h (by omega)), rfl, rfl, T3, HL0, B3, C3⟩
    case round =>
      obtain ⟨j, R, c, bs, ps, ws, pg, hj, hj31, HW, rfl, rfl, HT, HL, HB, HC⟩ := hrel
      clear T3 B3 M2 B2 M1 B1 C2 C3
      by_cases hlt : j ≤ len ∧ j ≤ 30
      · obtain ⟨hlt, hlt2⟩ := hlt
        have HPe1 := HPe.out wr bs ps HL.out HT.out.mem
        have HTc1 := fun w4 (b : Below wr.heap.size wr w4) => HTc.out w4 bs ps HL.out (HT.out.mem.kept b HT.out.mem.ltM HT.out.mem.ltD) HT.out.fine
        have HTy1 := fun w4 (b : Below wr.heap.size wr w4) => HTy.out w4 C bs ps ws pg j HL.out (by omega) (by omega) (HC.out.apart (.of b)) (HT.out.mem.kept b HT.out.mem.ltM HT.out.mem.ltD) HT.out.fine
        have hwhy := tch_why ps K N
        have hpg := tch_page ps K N
        generalize tch ps K N = t at *
        obtain ⟨t1, t2⟩ := t
        dsimp only at *
        replace HPe1 := Lib.hid HPe1
        replace HTc1 := Lib.hid HTc1
        rcases hwhy with rfl | rfl | rfl
        · rw [if_pos rfl] at HTy1
          replace HTy1 := Lib.hid HTy1
          clear hpg
          go_wp2_with fail
          refine HPe1.out.mono ?_
          rintro e w4 ⟨v4, rfl, hv4⟩
          obtain ⟨a4, cap4, rfl, n4⟩ := hv4.news
          rw [HSL.out bs HL.out]
          have N4 := Lib.hid (n4.holdsX HT.out.mem.ltM HT.out.mem.ltD HC.out.lt)
          have B4 := Lib.hid hv4.2
          have G4 := Lib.hid (HB.out.trans (hv4.2.mono HB.out.size))
          clear n4 hv4
          go_wp2_with fail
          refine (HTc1.out _ B4.out).mono ?_
          rintro e w' ⟨rfl, rfl⟩
          go_wp2_with fail
          refine (HTy1.out _ B4.out).mono ?_
          rintro e w5 ⟨rfl, a5, i5, c5⟩
          dsimp only at i5 c5 ⊢
          have N5 := Lib.hid (N4.out.apart a5)
          have I5 := Lib.hid i5
          have C5 := Lib.hid c5
          have G5 := Lib.hid (G4.out.trans (a5.below (by omega) (by omega) hgC G4.out.size))
          have A5 := Lib.hid a5
          clear a5 i5 c5
          go_wp2_with fail
          refine (knownCopy _).mono ?_
          rintro e w6 ⟨rfl, b6⟩
          have G6 := Lib.hid (G5.out.trans (b6.mono G5.out.size))
          have C6 := Lib.hid (C5.out.apart (.of b6))
          have N6 := Lib.hid (N5.out.apart (.of b6))
          clear b6
          go_wp2_with fail
          refine (cpOver _ _ C _ _ _ _ _ C6.out).mono ?_
          rintro e w' ⟨rfl, rfl⟩
          dsimp only
          go_wp2_with fail
          refine (cpBytes _ _ C _ _ _ _ _ C6.out (by dsimp only; rw [HSL.out bs HL.out]; omega)).mono ?_
          rintro e w7 ⟨a7, cap7, rfl, n7, b7⟩
          dsimp only at n7 ⊢
          rw [HSL.out bs HL.out]
          have H7 := Lib.hid n7.holds
          have N7 := Lib.hid (N6.out.apart (.of b7)).holds
          have G7 := Lib.hid (G6.out.trans (b7.mono G6.out.size))
          clear n7 b7
          go_wp2_with fail
          refine (refSame _ _ _ _ (sub bs K N) _ N (HSL.out bs HL.out) (by omega) (by exact H7.out) (by exact N7.out)).mono ?_
          rintro e w8 ⟨rfl, b8⟩
          have G8 := Lib.hid (G7.out.trans (b8.mono G7.out.size))
          clear b8
          go_wp2_with fail
          go_ret
          exact ⟨rfl, G8.out⟩
        · rw [if_neg (by decide), if_neg (by simp)] at HTy1
          replace HTy1 := Lib.hid HTy1
          clear hpg
          go_wp2_with fail
          refine HPe1.out.mono ?_
          rintro e w4 ⟨v4, rfl, hv4⟩
          obtain ⟨a4, cap4, rfl, n4⟩ := hv4.news
          rw [HSL.out bs HL.out]
          have N4 := Lib.hid (n4.holdsX HT.out.mem.ltM HT.out.mem.ltD HC.out.lt)
          have B4 := Lib.hid hv4.2
          have G4 := Lib.hid (HB.out.trans (hv4.2.mono HB.out.size))
          clear n4 hv4
          go_wp2_with fail
          refine (HTc1.out _ B4.out).mono ?_
          rintro e w' ⟨rfl, rfl⟩
          go_wp2_with fail
          refine (HTy1.out _ B4.out).mono ?_
          rintro e w5 ⟨rfl, a5, i5, c5⟩
          dsimp only at i5 c5 ⊢
          have N5 := Lib.hid (N4.out.apart a5)
          have I5 := Lib.hid i5
          have C5 := Lib.hid c5
          have G5 := Lib.hid (G4.out.trans (a5.below (by omega) (by omega) hgC G4.out.size))
          have A5 := Lib.hid a5
          clear a5 i5 c5
          go_wp2_with fail
          have hmk := fun w => run_make_row' (P := Try.prog) 22 5 (.int .u8 0) 1 Try.underlying22 info5 rfl .i64 .i64 N (by omega) (by omega) w
          have HOv := Lib.hid (fun (w' : World) (h : Cpy w' (w.heap.size + 1) w.heap.size C K N false ⟨true, false, 0, (j : Int) + 1, List.replicate N 0⟩) => show Calls Try.prog 33 #[.pointer (some ⟨C, 0, none⟩)] w' (fun e w'' => e = .returned (.bool true) ∧ w' = w'') from cpOver _ _ C _ _ _ _ w' h)
          have HBy := Lib.hid (fun (w' : World) (h : Cpy w' (w.heap.size + 1) w.heap.size C K N false ⟨true, false, 0, (j : Int) + 1, List.replicate N 0⟩) => cpBytes _ _ C _ _ _ _ w' h (by simp; omega))
          have HSm := Lib.hid (fun w' a b ca cb h1 h2 => refSame a b ca cb (List.replicate N 0) w' N (by simp) (by omega) h1 h2)
          refine wp_region_noPanic ?_
          refine wp_region_held_drew (S := fun _ => True) (by kernel_rfl) trivial (fun hHeld => ?_)
          clear hHeld
          refine wpAnyH_ready (rs := [0]) (by kernel_rfl) (by simp) ?_
          refine AllReadyH.cons rfl (fun K hK => ?_) ?_
          · go_simp
            refine (knownCopy _).mono ?_
            rintro e w6 ⟨rfl, b6⟩
            have b6' := below_drewL b6
            have C6 := Lib.hid (C5.out.apart (.of b6'))
            have G6 := Lib.hid (G5.out.trans (b6'.mono G5.out.size))
            clear b6 b6'
            go_wp2_with fail
            refine hK.out _ _ trivial (fun hHeld => ?_)
            clear hK K hHeld
            refine takeD 1 116 (v := ?_) rfl (by kernel_rfl) (by kernel_rfl) (by kernel_rfl) (fun _ _ _ h => h) (Or.inl ⟨by rfl, ?_⟩) trivial rfl ?_
            rotate_left
            · intro w hSw
              go_simp
              try with_reducible rfl
            simp only [List.setIfInBounds_toArray, List.set_cons_zero, List.set_cons_succ]
            refine takeD 2 117 (v := ?_) rfl (by kernel_rfl) (by kernel_rfl) (by kernel_rfl) (fun _ _ _ h => h) (Or.inl ⟨by rfl, ?_⟩) trivial rfl ?_
            rotate_left
            · intro w hSw
              go_simp
              try with_reducible rfl
            simp only [List.setIfInBounds_toArray, List.set_cons_zero, List.set_cons_succ]
            refine takeD 3 118 (v := ?_) rfl (by kernel_rfl) (by kernel_rfl) (by kernel_rfl) (fun _ _ _ h => h) (Or.inl ⟨by rfl, ?_⟩) trivial rfl ?_
            rotate_left
            · intro w hSw
              go_simp
              try with_reducible rfl
            simp only [List.setIfInBounds_toArray, List.set_cons_zero, List.set_cons_succ]
            refine takeD 4 119 (v := ?_) rfl (by kernel_rfl) (by kernel_rfl) (by kernel_rfl) (fun _ _ _ h => h) (Or.inl ⟨by rfl, ?_⟩) trivial rfl ?_
            rotate_left
            · intro w hSw
              go_simp
              try with_reducible rfl
            simp only [List.setIfInBounds_toArray, List.set_cons_zero, List.set_cons_succ]
            refine takeD 5 120 (v := ?_) rfl (by kernel_rfl) (by kernel_rfl) (by kernel_rfl) (fun _ _ _ h => h) (Or.inl ⟨by rfl, ?_⟩) trivial rfl ?_
            rotate_left
            · intro w hSw
              go_simp
              try with_reducible rfl
            simp only [List.setIfInBounds_toArray, List.set_cons_zero, List.set_cons_succ]
            refine takeD 6 121 (v := ?_) rfl (by kernel_rfl) (by kernel_rfl) (by kernel_rfl) (fun _ _ _ h => h) (Or.inl ⟨by rfl, ?_⟩) trivial rfl ?_
            rotate_left
            · intro w hSw
              go_simp
              try with_reducible rfl
            simp only [List.setIfInBounds_toArray, List.set_cons_zero, List.set_cons_succ]
            refine takeD 7 122 (v := ?_) rfl (by kernel_rfl) (by kernel_rfl) (by kernel_rfl) (fun _ _ _ h => h) (Or.inl ⟨by rfl, ?_⟩) trivial rfl ?_
            rotate_left
            · intro w hSw
              go_simp
              try with_reducible rfl
            simp only [List.setIfInBounds_toArray, List.set_cons_zero, List.set_cons_succ]
            refine takeD 8 123 (v := ?_) rfl (by kernel_rfl) (by kernel_rfl) (by kernel_rfl) (fun _ _ _ h => h) (Or.inl ⟨by rfl, ?_⟩) trivial rfl ?_
            rotate_left
            · intro w hSw
              go_simp
              try with_reducible rfl
            simp only [List.setIfInBounds_toArray, List.set_cons_zero, List.set_cons_succ]
            refine skipD 9 124 rfl (by kernel_rfl) (by rfl) trivial rfl ?_
            simp only [List.setIfInBounds_toArray, List.set_cons_zero, List.set_cons_succ]
            refine skipD 10 125 rfl (by kernel_rfl) (by rfl) trivial rfl ?_
            simp only [List.setIfInBounds_toArray, List.set_cons_zero, List.set_cons_succ]
            refine takeD 11 126 (v := ?_) rfl (by kernel_rfl) (by kernel_rfl) (by kernel_rfl) (fun _ _ _ h => h) (Or.inl ⟨by rfl, ?_⟩) trivial rfl ?_
            rotate_left
            · intro w hSw
              go_simp
              try with_reducible rfl
            simp only [List.setIfInBounds_toArray, List.set_cons_zero, List.set_cons_succ]
            refine takeD 12 127 (v := ?_) rfl (by kernel_rfl) (by kernel_rfl) (by kernel_rfl) (fun _ _ _ h => h) (Or.inl ⟨by rfl, ?_⟩) trivial rfl ?_
            rotate_left
            · intro w hSw
              go_simp
              try with_reducible rfl
            simp only [List.setIfInBounds_toArray, List.set_cons_zero, List.set_cons_succ]
            refine takeD 13 128 (v := ?_) rfl (by kernel_rfl) (by kernel_rfl) (by kernel_rfl) (fun _ _ _ h => h) (Or.inl ⟨by rfl, ?_⟩) trivial rfl ?_
            rotate_left
            · intro w hSw
              go_simp
              try with_reducible rfl
            simp only [List.setIfInBounds_toArray, List.set_cons_zero, List.set_cons_succ]
            refine takeD 14 129 (v := ?_) rfl (by kernel_rfl) (by kernel_rfl) (by kernel_rfl) (fun _ _ _ h => h) (Or.inl ⟨by rfl, ?_⟩) trivial rfl ?_
            rotate_left
            · intro w hSw
              go_simp
              try with_reducible rfl
            simp only [List.setIfInBounds_toArray, List.set_cons_zero, List.set_cons_succ]
            refine wpAnyH_ready (rs := [15]) (by kernel_rfl) (by simp) ?_
            refine AllReadyH.cons rfl (fun K hK => ?_) ?_
            · go_simp
              refine (HOv.out _ ?_).mono ?_
              · first | exact C6.out | exact C6.out.drew
              rintro e w' ⟨rfl, rfl⟩
              go_wp2_with fail
              refine hK.out _ _ trivial (fun hHeld => ?_)
              clear hK K hHeld
              refine takeD 16 131 (v := ?_) rfl (by kernel_rfl) (by kernel_rfl) (by kernel_rfl) (fun _ _ _ h => h) (Or.inl ⟨by rfl, ?_⟩) trivial rfl ?_
              rotate_left
              · intro w hSw
                go_simp
                try with_reducible rfl
              simp only [List.setIfInBounds_toArray, List.set_cons_zero, List.set_cons_succ]
              refine takeD 17 132 (v := ?_) rfl (by kernel_rfl) (by kernel_rfl) (by kernel_rfl) (fun _ _ _ h => h) (Or.inl ⟨by rfl, ?_⟩) trivial rfl ?_
              rotate_left
              · intro w hSw
                go_simp
                try with_reducible rfl
              simp only [List.setIfInBounds_toArray, List.set_cons_zero, List.set_cons_succ]
              refine takeD 18 133 (v := ?_) rfl (by kernel_rfl) (by kernel_rfl) (by kernel_rfl) (fun _ _ _ h => h) (Or.inl ⟨by rfl, ?_⟩) trivial rfl ?_
              rotate_left
              · intro w hSw
                go_simp
                try with_reducible rfl
              simp only [List.setIfInBounds_toArray, List.set_cons_zero, List.set_cons_succ]
              refine takeD 20 135 (v := ?_) rfl (by kernel_rfl) (by kernel_rfl) (by kernel_rfl) (fun _ _ _ h => h) (Or.inl ⟨by rfl, ?_⟩) trivial rfl ?_
              rotate_left
              · intro w hSw
                go_simp
                try with_reducible rfl
              simp only [List.setIfInBounds_toArray, List.set_cons_zero, List.set_cons_succ]
              refine wpAnyH_ready (rs := [19, 21]) (by kernel_rfl) (by simp) ?_
              refine AllReadyH.cons rfl (fun K hK => ?_) ?_
              · go_simp
                refine (HBy.out _ ?_).mono ?_
                · first | exact C6.out | exact C6.out.drew | exact C6.out.allocd _ | exact (C6.out.allocd _).drew
                rintro e w7 ⟨a7, cap7, rfl, n7, b7⟩
                have N7 := Lib.hid n7
                have B7 := Lib.hid b7
                clear n7 b7
                go_wp2_with fail
                refine hK.out _ _ trivial (fun hHeld => ?_)
                clear hK K hHeld
                refine wpAnyH_ready (rs := [21]) (by kernel_rfl) (by simp) ?_
                refine AllReadyH.cons rfl (fun K hK => ?_) ?_
                · go_simp
                  refine hK.out _ _ trivial (fun hHeld => ?_)
                  clear hK K hHeld
                  refine wpAnyH_ready (rs := [22]) (by kernel_rfl) (by simp) ?_
                  refine AllReadyH.cons rfl (fun K hK => ?_) ?_
                  · go_simp
                    refine (HSm.out _ _ _ _ _ ?_ ?_).mono ?_
                    · first | exact N7.out.holds.below (below_alloc _ _) | exact N7.out.holds
                    · first | exact holds_made _ _ | exact (holds_made _ _).below B7.out
                    rintro e w8 ⟨rfl, b8⟩
                    have B8 := Lib.hid b8
                    clear b8
                    go_wp2_with fail
                    refine hK.out _ _ trivial (fun hHeld => ?_)
                    clear hK K hHeld
                    refine takeD 23 138 (v := ?_) rfl (by kernel_rfl) (by kernel_rfl) (by kernel_rfl) (fun _ _ _ h => h) (Or.inl ⟨by rfl, ?_⟩) trivial rfl ?_
                    rotate_left
                    · intro w hSw
                      go_simp
                      try with_reducible rfl
                    simp only [List.setIfInBounds_toArray, List.set_cons_zero, List.set_cons_succ]
                    refine takeD 24 10 (v := ?_) rfl (by kernel_rfl) (by kernel_rfl) (by kernel_rfl) (fun _ _ _ h => h) (Or.inl ⟨by rfl, ?_⟩) trivial rfl ?_
                    rotate_left
                    · intro w hSw
                      go_simp
                      try with_reducible rfl
                    simp only [List.setIfInBounds_toArray, List.set_cons_zero, List.set_cons_succ]
                    refine wpAnyH_done (by kernel_rfl) ?_ _
                    refine NoPanic.normal ?_
                    go_wp2_with fail
                    go_ret
                    refine ⟨rfl, ?_⟩
                    first
                      | exact G6.out.trans ((B7.out.trans (((below_alloc _ _).trans (B8.out.mono (below_alloc _ _).size)).mono B7.out.size)).mono G6.out.size)
                      | exact G6.out.trans (((below_alloc _ _).trans ((B7.out.trans (B8.out.mono B7.out.size)).mono (below_alloc _ _).size)).mono G6.out.size)
                  exact AllReadyH.nil
                exact AllReadyH.nil
              refine AllReadyH.cons rfl (fun K hK => ?_) ?_
              · go_simp
                refine hK.out _ _ trivial (fun hHeld => ?_)
                clear hK K hHeld
                refine wpAnyH_ready (rs := [19]) (by kernel_rfl) (by simp) ?_
                refine AllReadyH.cons rfl (fun K hK => ?_) ?_
                · go_simp
                  refine (HBy.out _ ?_).mono ?_
                  · first | exact C6.out | exact C6.out.drew | exact C6.out.allocd _ | exact (C6.out.allocd _).drew
                  rintro e w7 ⟨a7, cap7, rfl, n7, b7⟩
                  have N7 := Lib.hid n7
                  have B7 := Lib.hid b7
                  clear n7 b7
                  go_wp2_with fail
                  refine hK.out _ _ trivial (fun hHeld => ?_)
                  clear hK K hHeld
                  refine wpAnyH_ready (rs := [22]) (by kernel_rfl) (by simp) ?_
                  refine AllReadyH.cons rfl (fun K hK => ?_) ?_
                  · go_simp
                    refine (HSm.out _ _ _ _ _ ?_ ?_).mono ?_
                    · first | exact N7.out.holds.below (below_alloc _ _) | exact N7.out.holds
                    · first | exact holds_made _ _ | exact (holds_made _ _).below B7.out
                    rintro e w8 ⟨rfl, b8⟩
                    have B8 := Lib.hid b8
                    clear b8
                    go_wp2_with fail
                    refine hK.out _ _ trivial (fun hHeld => ?_)
                    clear hK K hHeld
                    refine takeD 23 138 (v := ?_) rfl (by kernel_rfl) (by kernel_rfl) (by kernel_rfl) (fun _ _ _ h => h) (Or.inl ⟨by rfl, ?_⟩) trivial rfl ?_
                    rotate_left
                    · intro w hSw
                      go_simp
                      try with_reducible rfl
                    simp only [List.setIfInBounds_toArray, List.set_cons_zero, List.set_cons_succ]
                    refine takeD 24 10 (v := ?_) rfl (by kernel_rfl) (by kernel_rfl) (by kernel_rfl) (fun _ _ _ h => h) (Or.inl ⟨by rfl, ?_⟩) trivial rfl ?_
                    rotate_left
                    · intro w hSw
                      go_simp
                      try with_reducible rfl
                    simp only [List.setIfInBounds_toArray, List.set_cons_zero, List.set_cons_succ]
                    refine wpAnyH_done (by kernel_rfl) ?_ _
                    refine NoPanic.normal ?_
                    go_wp2_with fail
                    go_ret
                    refine ⟨rfl, ?_⟩
                    first
                      | exact G6.out.trans ((B7.out.trans (((below_alloc _ _).trans (B8.out.mono (below_alloc _ _).size)).mono B7.out.size)).mono G6.out.size)
                      | exact G6.out.trans (((below_alloc _ _).trans ((B7.out.trans (B8.out.mono B7.out.size)).mono (below_alloc _ _).size)).mono G6.out.size)
                  exact AllReadyH.nil
                exact AllReadyH.nil
              exact AllReadyH.nil
            exact AllReadyH.nil
          exact AllReadyH.nil
        · cases wait with
          | true =>
            rw [if_neg (by decide), if_pos ⟨rfl, rfl⟩] at HTy1
            replace HTy1 := Lib.hid HTy1
            obtain ⟨q, hq1, hq2, hq3⟩ := hpg rfl
            subst hq1
            have hmod := HT.out.len.2.2
            rw [HL.out] at hmod
            have HSt := fun w6 (h : IsMem w6 (w.heap.size + 1) w.heap.size bs ps) => memState _ _ bs ps q w6 h (by rw [HL.out]; omega) (by unfold pageB; rw [HL.out]; exact decide_eq_false (by omega)) (by omega)
            rw [hq3] at HSt
            replace HSt := Lib.hid HSt
            clear hpg hq3 hmod
            go_wp2_with fail
            refine HPe1.out.mono ?_
            rintro e w4 ⟨v4, rfl, hv4⟩
            obtain ⟨a4, cap4, rfl, n4⟩ := hv4.news
            rw [HSL.out bs HL.out]
            have N4 := Lib.hid (n4.holdsX HT.out.mem.ltM HT.out.mem.ltD HC.out.lt)
            have B4 := Lib.hid hv4.2
            have G4 := Lib.hid (HB.out.trans (hv4.2.mono HB.out.size))
            clear n4 hv4
            go_wp2_with fail
            refine (HTc1.out _ B4.out).mono ?_
            rintro e w' ⟨rfl, rfl⟩
            go_wp2_with fail
            refine (HTy1.out _ B4.out).mono ?_
            rintro e w5 ⟨rfl, a5, i5, c5⟩
            dsimp only at i5 c5 ⊢
            have N5 := Lib.hid (N4.out.apart a5)
            have I5 := Lib.hid i5
            have C5 := Lib.hid c5
            have G5 := Lib.hid (G4.out.trans (a5.below (by omega) (by omega) hgC G4.out.size))
            have A5 := Lib.hid a5
            clear a5 i5 c5
            go_wp2_with fail
            refine (cpPage _ _ C _ _ _ _ _ C5.out).mono ?_
            rintro e w6 ⟨rfl, b6⟩
            have G6 := Lib.hid (G5.out.trans (b6.mono G5.out.size))
            have C6 := Lib.hid (C5.out.apart (.of b6))
            have I6 := Lib.hid (I5.out.kept b6 I5.out.ltM I5.out.ltD)
            have A6 := Lib.hid (A5.out.trans (.of b6))
            clear b6
            dsimp only
            go_wp2_with fail
            refine (cpOver _ _ C _ _ _ _ _ C6.out).mono ?_
            rintro e w' ⟨rfl, rfl⟩
            dsimp only
            go_wp2_with fail
            refine (HSt.out _ I6.out).mono ?_
            rintro e w' ⟨rfl, rfl⟩
            go_wp2_with fail
            refine (cpBytes _ _ C _ _ _ _ _ C6.out (by simp)).mono ?_
            rintro e w7 ⟨a7, cap7, rfl, n7, b7⟩
            have G7 := Lib.hid (G6.out.trans (b7.mono G6.out.size))
            have C7 := Lib.hid (C6.out.apart (.of b7))
            have T7 := Lib.hid (HT.out.kept3 B4.out (A6.out.trans (.of b7)) (I6.out.kept b7 I6.out.ltM I6.out.ltD) HC.out (HT.out.ne HC.out))
            clear n7 b7
            dsimp only
            by_cases hjl : j < len
            · have hxw := HX.out.below G7.out
              obtain ⟨bk, off, rfl, hbk, hcs⟩ := hxw.cells (by omega)
              have hok := Lib.hid (hxw.ok j hjl)
              obtain ⟨c0, c1, c2, c3, c4⟩ := hcs j hjl
              have HD := Lib.hid (fun (h : Twin w7 (w.heap.size + 1) w.heap.size R c bs ps) => doAny _ _ _ _ bs ps (x j) w7 h hok.out)
              rw [HL.out] at HD
              clear hxw hcs
              go_wp2_with fail
              refine (HD.out T7.out).mono ?_
              rintro e w8 ⟨R', c', bs', ps', rfl, hl', ht', ha', hr'⟩
              clear hr' c0 c1 c2 c3 c4
              have HL' := Lib.hid hl'
              have HT' := Lib.hid ht'
              have HB' := Lib.hid (G7.out.trans (ha'.below (by omega) (by omega) G7.out.size))
              have HC' := Lib.hid (C7.out.apart ha')
              clear hl' ht' ha'
              go_wp2_with fail
              go_roundw
              case rel => exact ⟨j + 1, R', c', bs', ps', true, q, by omega, by omega, Lib.hid (fun _ => by trivial), by go_num, rfl, HT', HL', HB', by rw [show ((j + 1 : Nat) : Int) = (j : Int) + 1 from by omega]; exact HC'⟩
              case measure => simp only [intOf]; omega
            · go_wp2_with fail
              go_roundw
              case rel => exact ⟨j + 1, R, c, bs, ps, true, q, by omega, by omega, Lib.hid (fun _ => by trivial), by go_num, rfl, T7, HL, G7, by rw [show ((j + 1 : Nat) : Int) = (j : Int) + 1 from by omega]; exact C7⟩
              case measure => simp only [intOf]; omega
          | false =>
            rw [if_neg (by decide), if_neg (by simp)] at HTy1
            replace HTy1 := Lib.hid HTy1
            clear hpg
            go_wp2_with fail
            refine HPe1.out.mono ?_
            rintro e w4 ⟨v4, rfl, hv4⟩
            obtain ⟨a4, cap4, rfl, n4⟩ := hv4.news
            rw [HSL.out bs HL.out]
            have N4 := Lib.hid (n4.holdsX HT.out.mem.ltM HT.out.mem.ltD HC.out.lt)
            have B4 := Lib.hid hv4.2
            have G4 := Lib.hid (HB.out.trans (hv4.2.mono HB.out.size))
            clear n4 hv4
            go_wp2_with fail
            refine (HTc1.out _ B4.out).mono ?_
            rintro e w' ⟨rfl, rfl⟩
            go_wp2_with fail
            refine (HTy1.out _ B4.out).mono ?_
            rintro e w5 ⟨rfl, a5, i5, c5⟩
            dsimp only at i5 c5 ⊢
            have N5 := Lib.hid (N4.out.apart a5)
            have I5 := Lib.hid i5
            have C5 := Lib.hid c5
            have G5 := Lib.hid (G4.out.trans (a5.below (by omega) (by omega) hgC G4.out.size))
            have A5 := Lib.hid a5
            clear a5 i5 c5
            go_wp2_with fail
            have hmk := fun w => run_make_row' (P := Try.prog) 22 5 (.int .u8 0) 1 Try.underlying22 info5 rfl .i64 .i64 N (by omega) (by omega) w
            have HOv := Lib.hid (fun (w' : World) (h : Cpy w' (w.heap.size + 1) w.heap.size C K N false ⟨true, false, 0, (j : Int) + 1, List.replicate N 0⟩) => show Calls Try.prog 33 #[.pointer (some ⟨C, 0, none⟩)] w' (fun e w'' => e = .returned (.bool true) ∧ w' = w'') from cpOver _ _ C _ _ _ _ w' h)
            have HBy := Lib.hid (fun (w' : World) (h : Cpy w' (w.heap.size + 1) w.heap.size C K N false ⟨true, false, 0, (j : Int) + 1, List.replicate N 0⟩) => cpBytes _ _ C _ _ _ _ w' h (by simp; omega))
            have HSm := Lib.hid (fun w' a b ca cb h1 h2 => refSame a b ca cb (List.replicate N 0) w' N (by simp) (by omega) h1 h2)
            refine wp_region_noPanic ?_
            refine wp_region_held_drew (S := fun _ => True) (by kernel_rfl) trivial (fun hHeld => ?_)
            clear hHeld
            refine wpAnyH_ready (rs := [0]) (by kernel_rfl) (by simp) ?_
            refine AllReadyH.cons rfl (fun K hK => ?_) ?_
            · go_simp
              refine (knownCopy _).mono ?_
              rintro e w6 ⟨rfl, b6⟩
              have b6' := below_drewL b6
              have C6 := Lib.hid (C5.out.apart (.of b6'))
              have G6 := Lib.hid (G5.out.trans (b6'.mono G5.out.size))
              clear b6 b6'
              go_wp2_with fail
              refine hK.out _ _ trivial (fun hHeld => ?_)
              clear hK K hHeld
              refine takeD 1 116 (v := ?_) rfl (by kernel_rfl) (by kernel_rfl) (by kernel_rfl) (fun _ _ _ h => h) (Or.inl ⟨by rfl, ?_⟩) trivial rfl ?_
              rotate_left
              · intro w hSw
                go_simp
                try with_reducible rfl
              simp only [List.setIfInBounds_toArray, List.set_cons_zero, List.set_cons_succ]
              refine takeD 2 117 (v := ?_) rfl (by kernel_rfl) (by kernel_rfl) (by kernel_rfl) (fun _ _ _ h => h) (Or.inl ⟨by rfl, ?_⟩) trivial rfl ?_
              rotate_left
              · intro w hSw
                go_simp
                try with_reducible rfl
              simp only [List.setIfInBounds_toArray, List.set_cons_zero, List.set_cons_succ]
              refine takeD 3 118 (v := ?_) rfl (by kernel_rfl) (by kernel_rfl) (by kernel_rfl) (fun _ _ _ h => h) (Or.inl ⟨by rfl, ?_⟩) trivial rfl ?_
              rotate_left
              · intro w hSw
                go_simp
                try with_reducible rfl
              simp only [List.setIfInBounds_toArray, List.set_cons_zero, List.set_cons_succ]
              refine takeD 4 119 (v := ?_) rfl (by kernel_rfl) (by kernel_rfl) (by kernel_rfl) (fun _ _ _ h => h) (Or.inl ⟨by rfl, ?_⟩) trivial rfl ?_
              rotate_left
              · intro w hSw
                go_simp
                try with_reducible rfl
              simp only [List.setIfInBounds_toArray, List.set_cons_zero, List.set_cons_succ]
              refine takeD 5 120 (v := ?_) rfl (by kernel_rfl) (by kernel_rfl) (by kernel_rfl) (fun _ _ _ h => h) (Or.inl ⟨by rfl, ?_⟩) trivial rfl ?_
              rotate_left
              · intro w hSw
                go_simp
                try with_reducible rfl
              simp only [List.setIfInBounds_toArray, List.set_cons_zero, List.set_cons_succ]
              refine takeD 6 121 (v := ?_) rfl (by kernel_rfl) (by kernel_rfl) (by kernel_rfl) (fun _ _ _ h => h) (Or.inl ⟨by rfl, ?_⟩) trivial rfl ?_
              rotate_left
              · intro w hSw
                go_simp
                try with_reducible rfl
              simp only [List.setIfInBounds_toArray, List.set_cons_zero, List.set_cons_succ]
              refine takeD 7 122 (v := ?_) rfl (by kernel_rfl) (by kernel_rfl) (by kernel_rfl) (fun _ _ _ h => h) (Or.inl ⟨by rfl, ?_⟩) trivial rfl ?_
              rotate_left
              · intro w hSw
                go_simp
                try with_reducible rfl
              simp only [List.setIfInBounds_toArray, List.set_cons_zero, List.set_cons_succ]
              refine takeD 8 123 (v := ?_) rfl (by kernel_rfl) (by kernel_rfl) (by kernel_rfl) (fun _ _ _ h => h) (Or.inl ⟨by rfl, ?_⟩) trivial rfl ?_
              rotate_left
              · intro w hSw
                go_simp
                try with_reducible rfl
              simp only [List.setIfInBounds_toArray, List.set_cons_zero, List.set_cons_succ]
              refine takeD 9 124 (v := ?_) rfl (by kernel_rfl) (by kernel_rfl) (by kernel_rfl) (fun _ _ _ h => h) (Or.inl ⟨by rfl, ?_⟩) trivial rfl ?_
              rotate_left
              · intro w hSw
                go_simp
                try with_reducible rfl
              simp only [List.setIfInBounds_toArray, List.set_cons_zero, List.set_cons_succ]
              refine takeD 10 125 (v := ?_) rfl (by kernel_rfl) (by kernel_rfl) (by kernel_rfl) (fun _ _ _ h => h) (Or.inl ⟨by rfl, ?_⟩) trivial rfl ?_
              rotate_left
              · intro w hSw
                go_simp
                try with_reducible rfl
              simp only [List.setIfInBounds_toArray, List.set_cons_zero, List.set_cons_succ]
              refine takeD 11 126 (v := ?_) rfl (by kernel_rfl) (by kernel_rfl) (by kernel_rfl) (fun _ _ _ h => h) (Or.inl ⟨by rfl, ?_⟩) trivial rfl ?_
              rotate_left
              · intro w hSw
                go_simp
                try with_reducible rfl
              simp only [List.setIfInBounds_toArray, List.set_cons_zero, List.set_cons_succ]
              refine takeD 12 127 (v := ?_) rfl (by kernel_rfl) (by kernel_rfl) (by kernel_rfl) (fun _ _ _ h => h) (Or.inl ⟨by rfl, ?_⟩) trivial rfl ?_
              rotate_left
              · intro w hSw
                go_simp
                try with_reducible rfl
              simp only [List.setIfInBounds_toArray, List.set_cons_zero, List.set_cons_succ]
              refine takeD 13 128 (v := ?_) rfl (by kernel_rfl) (by kernel_rfl) (by kernel_rfl) (fun _ _ _ h => h) (Or.inl ⟨by rfl, ?_⟩) trivial rfl ?_
              rotate_left
              · intro w hSw
                go_simp
                try with_reducible rfl
              simp only [List.setIfInBounds_toArray, List.set_cons_zero, List.set_cons_succ]
              refine takeD 14 129 (v := ?_) rfl (by kernel_rfl) (by kernel_rfl) (by kernel_rfl) (fun _ _ _ h => h) (Or.inl ⟨by rfl, ?_⟩) trivial rfl ?_
              rotate_left
              · intro w hSw
                go_simp
                try with_reducible rfl
              simp only [List.setIfInBounds_toArray, List.set_cons_zero, List.set_cons_succ]
              refine wpAnyH_ready (rs := [15]) (by kernel_rfl) (by simp) ?_
              refine AllReadyH.cons rfl (fun K hK => ?_) ?_
              · go_simp
                refine (HOv.out _ ?_).mono ?_
                · first | exact C6.out | exact C6.out.drew
                rintro e w' ⟨rfl, rfl⟩
                go_wp2_with fail
                refine hK.out _ _ trivial (fun hHeld => ?_)
                clear hK K hHeld
                refine takeD 16 131 (v := ?_) rfl (by kernel_rfl) (by kernel_rfl) (by kernel_rfl) (fun _ _ _ h => h) (Or.inl ⟨by rfl, ?_⟩) trivial rfl ?_
                rotate_left
                · intro w hSw
                  go_simp
                  try with_reducible rfl
                simp only [List.setIfInBounds_toArray, List.set_cons_zero, List.set_cons_succ]
                refine takeD 17 132 (v := ?_) rfl (by kernel_rfl) (by kernel_rfl) (by kernel_rfl) (fun _ _ _ h => h) (Or.inl ⟨by rfl, ?_⟩) trivial rfl ?_
                rotate_left
                · intro w hSw
                  go_simp
                  try with_reducible rfl
                simp only [List.setIfInBounds_toArray, List.set_cons_zero, List.set_cons_succ]
                refine takeD 18 133 (v := ?_) rfl (by kernel_rfl) (by kernel_rfl) (by kernel_rfl) (fun _ _ _ h => h) (Or.inl ⟨by rfl, ?_⟩) trivial rfl ?_
                rotate_left
                · intro w hSw
                  go_simp
                  try with_reducible rfl
                simp only [List.setIfInBounds_toArray, List.set_cons_zero, List.set_cons_succ]
                refine takeD 20 135 (v := ?_) rfl (by kernel_rfl) (by kernel_rfl) (by kernel_rfl) (fun _ _ _ h => h) (Or.inl ⟨by rfl, ?_⟩) trivial rfl ?_
                rotate_left
                · intro w hSw
                  go_simp
                  try with_reducible rfl
                simp only [List.setIfInBounds_toArray, List.set_cons_zero, List.set_cons_succ]
                refine wpAnyH_ready (rs := [19, 21]) (by kernel_rfl) (by simp) ?_
                refine AllReadyH.cons rfl (fun K hK => ?_) ?_
                · go_simp
                  refine (HBy.out _ ?_).mono ?_
                  · first | exact C6.out | exact C6.out.drew | exact C6.out.allocd _ | exact (C6.out.allocd _).drew
                  rintro e w7 ⟨a7, cap7, rfl, n7, b7⟩
                  have N7 := Lib.hid n7
                  have B7 := Lib.hid b7
                  clear n7 b7
                  go_wp2_with fail
                  refine hK.out _ _ trivial (fun hHeld => ?_)
                  clear hK K hHeld
                  refine wpAnyH_ready (rs := [21]) (by kernel_rfl) (by simp) ?_
                  refine AllReadyH.cons rfl (fun K hK => ?_) ?_
                  · go_simp
                    refine hK.out _ _ trivial (fun hHeld => ?_)
                    clear hK K hHeld
                    refine wpAnyH_ready (rs := [22]) (by kernel_rfl) (by simp) ?_
                    refine AllReadyH.cons rfl (fun K hK => ?_) ?_
                    · go_simp
                      refine (HSm.out _ _ _ _ _ ?_ ?_).mono ?_
                      · first | exact N7.out.holds.below (below_alloc _ _) | exact N7.out.holds
                      · first | exact holds_made _ _ | exact (holds_made _ _).below B7.out
                      rintro e w8 ⟨rfl, b8⟩
                      have B8 := Lib.hid b8
                      clear b8
                      go_wp2_with fail
                      refine hK.out _ _ trivial (fun hHeld => ?_)
                      clear hK K hHeld
                      refine takeD 23 138 (v := ?_) rfl (by kernel_rfl) (by kernel_rfl) (by kernel_rfl) (fun _ _ _ h => h) (Or.inl ⟨by rfl, ?_⟩) trivial rfl ?_
                      rotate_left
                      · intro w hSw
                        go_simp
                        try with_reducible rfl
                      simp only [List.setIfInBounds_toArray, List.set_cons_zero, List.set_cons_succ]
                      refine takeD 24 10 (v := ?_) rfl (by kernel_rfl) (by kernel_rfl) (by kernel_rfl) (fun _ _ _ h => h) (Or.inl ⟨by rfl, ?_⟩) trivial rfl ?_
                      rotate_left
                      · intro w hSw
                        go_simp
                        try with_reducible rfl
                      simp only [List.setIfInBounds_toArray, List.set_cons_zero, List.set_cons_succ]
                      refine wpAnyH_done (by kernel_rfl) ?_ _
                      refine NoPanic.normal ?_
                      go_wp2_with fail
                      go_ret
                      refine ⟨rfl, ?_⟩
                      first
                        | exact G6.out.trans ((B7.out.trans (((below_alloc _ _).trans (B8.out.mono (below_alloc _ _).size)).mono B7.out.size)).mono G6.out.size)
                        | exact G6.out.trans (((below_alloc _ _).trans ((B7.out.trans (B8.out.mono B7.out.size)).mono (below_alloc _ _).size)).mono G6.out.size)
                    exact AllReadyH.nil
                  exact AllReadyH.nil
                refine AllReadyH.cons rfl (fun K hK => ?_) ?_
                · go_simp
                  refine hK.out _ _ trivial (fun hHeld => ?_)
                  clear hK K hHeld
                  refine wpAnyH_ready (rs := [19]) (by kernel_rfl) (by simp) ?_
                  refine AllReadyH.cons rfl (fun K hK => ?_) ?_
                  · go_simp
                    refine (HBy.out _ ?_).mono ?_
                    · first | exact C6.out | exact C6.out.drew | exact C6.out.allocd _ | exact (C6.out.allocd _).drew
                    rintro e w7 ⟨a7, cap7, rfl, n7, b7⟩
                    have N7 := Lib.hid n7
                    have B7 := Lib.hid b7
                    clear n7 b7
                    go_wp2_with fail
                    refine hK.out _ _ trivial (fun hHeld => ?_)
                    clear hK K hHeld
                    refine wpAnyH_ready (rs := [22]) (by kernel_rfl) (by simp) ?_
                    refine AllReadyH.cons rfl (fun K hK => ?_) ?_
                    · go_simp
                      refine (HSm.out _ _ _ _ _ ?_ ?_).mono ?_
                      · first | exact N7.out.holds.below (below_alloc _ _) | exact N7.out.holds
                      · first | exact holds_made _ _ | exact (holds_made _ _).below B7.out
                      rintro e w8 ⟨rfl, b8⟩
                      have B8 := Lib.hid b8
                      clear b8
                      go_wp2_with fail
                      refine hK.out _ _ trivial (fun hHeld => ?_)
                      clear hK K hHeld
                      refine takeD 23 138 (v := ?_) rfl (by kernel_rfl) (by kernel_rfl) (by kernel_rfl) (fun _ _ _ h => h) (Or.inl ⟨by rfl, ?_⟩) trivial rfl ?_
                      rotate_left
                      · intro w hSw
                        go_simp
                        try with_reducible rfl
                      simp only [List.setIfInBounds_toArray, List.set_cons_zero, List.set_cons_succ]
                      refine takeD 24 10 (v := ?_) rfl (by kernel_rfl) (by kernel_rfl) (by kernel_rfl) (fun _ _ _ h => h) (Or.inl ⟨by rfl, ?_⟩) trivial rfl ?_
                      rotate_left
                      · intro w hSw
                        go_simp
                        try with_reducible rfl
                      simp only [List.setIfInBounds_toArray, List.set_cons_zero, List.set_cons_succ]
                      refine wpAnyH_done (by kernel_rfl) ?_ _
                      refine NoPanic.normal ?_
                      go_wp2_with fail
                      go_ret
                      refine ⟨rfl, ?_⟩
                      first
                        | exact G6.out.trans ((B7.out.trans (((below_alloc _ _).trans (B8.out.mono (below_alloc _ _).size)).mono B7.out.size)).mono G6.out.size)
                        | exact G6.out.trans (((below_alloc _ _).trans ((B7.out.trans (B8.out.mono B7.out.size)).mono (below_alloc _ _).size)).mono G6.out.size)
                    exact AllReadyH.nil
                  exact AllReadyH.nil
                exact AllReadyH.nil
              exact AllReadyH.nil
            exact AllReadyH.nil
      · have hw := HW.out (by omega)
        subst hw
        by_cases hlt2 : j ≤ len
        all_goals
          go_wp2_with fail
          refine (knownCopy _).mono ?_
          rintro e w5 ⟨rfl, b5⟩
          have G5 := Lib.hid (HB.out.trans (b5.mono HB.out.size))
          clear b5
          go_wp2_with fail
          go_ret
          exact ⟨rfl, G5.out⟩

theorem walk_CopyWhole (p0 p1 p2 : Int) (v3 : Value) (wait : Bool) (w : World) (h3 : Acts w v3) : Calls Try.prog 10 #[.int .i64 p0, .int .i64 p1, .int .i64 p2, v3, .bool wait] w fun e w' => e = .returned (.bool true) ∧ Below w.heap.size w w' := by
  obtain ⟨a3, len, cap, x, rfl, _, h63, hx⟩ := h3
  have ha := dm_u64 p0
  obtain ⟨p, hp⟩ : ∃ p : Nat, (p : Int) = 1 + IntKind.u64.wrap p0 % 16 := ⟨(1 + IntKind.u64.wrap p0 % 16).toNat, by omega⟩
  have q0 : 1 ≤ p := by omega
  have q1 : p ≤ 16 := by omega
  have hd : 0 < ((if 64 ≤ 16 * p then 64 else 16 * (p : Int)) + 1) ∧ ((if 64 ≤ 16 * p then 64 else 16 * (p : Int)) + 1) ≤ 16 * p + 1 ∧ ((if 64 ≤ 16 * p then 64 else 16 * (p : Int)) + 1) ≤ 65 := by split <;> omega
  have e1 := Int.emod_nonneg (IntKind.u64.wrap p2) (show ((if 64 ≤ 16 * p then 64 else 16 * (p : Int)) + 1) ≠ 0 by omega)
  have e2 := Int.emod_lt_of_pos (IntKind.u64.wrap p2) hd.1
  obtain ⟨N, hN⟩ : ∃ N : Nat, (N : Int) = IntKind.u64.wrap p2 % ((if 64 ≤ 16 * p then 64 else 16 * (p : Int)) + 1) := ⟨(IntKind.u64.wrap p2 % ((if 64 ≤ 16 * p then 64 else 16 * (p : Int)) + 1)).toNat, by omega⟩
  have e3 := Int.emod_nonneg (IntKind.u64.wrap p1) (show (16 * (p : Int) - N + 1) ≠ 0 by omega)
  have e4 := Int.emod_lt_of_pos (IntKind.u64.wrap p1) (show 0 < (16 * (p : Int) - N + 1) by omega)
  obtain ⟨K, hK⟩ : ∃ K : Nat, (K : Int) = IntKind.u64.wrap p1 % (16 * p - N + 1) := ⟨(IntKind.u64.wrap p1 % (16 * p - N + 1)).toNat, by omega⟩
  exact whole p0 p1 p2 a3 len cap x wait w h63 hx p N K q0 q1 hp hN (by omega) hK (by omega)
end Go.Proofs.Ytpdchgcpcnaklaa
