/- The law CountNames, walked. -/
import Derived.Test.YtkpenhichgkdkaaNam
import Derived.Laws.Cover1
namespace Go.Proofs.Ytkpenhichgkdkaa
open Go.RowKit
set_option linter.unusedVariables false

theorem below_drewN {B : Nat} {w w' : World} (h : Below B w w') (q : Nat) : Below B w (w'.drewN q) := ⟨h.os, h.tape, h.output, h.size, h.block⟩
theorem encF (v : ByteArray) : Go.Proofs.encStr v.data.toList = .string v := by simp [Go.Proofs.encStr]
theorem own_nil {F M : Nat} {blk : Bs → Nat} {j : Nat} (h : Own F M [] blk j) : j = F ∨ j = M := by
  rcases h with h | h | ⟨k, c, hk, _⟩
  · exact .inl h
  · exact .inr h
  · simp at hk
theorem Lst.view {w : World} {B : Nat} {v : Value} {xs : List Value} (h : Lst w B v xs) : ∃ a cap, v = .slice a xs.length cap ∧ (0 < xs.length → ∃ g, a = some ⟨g, 0, none⟩ ∧ g < w.heap.size ∧ ∀ j x, xs[j]? = some x → w.cell? ⟨g, j, none⟩ = some x) := by
  rcases h with ⟨rfl, rfl⟩ | ⟨g, cap, rfl, _, hg, hc⟩
  · exact ⟨none, 0, rfl, fun h => by simp at h⟩
  · exact ⟨some ⟨g, 0, none⟩, cap, rfl, fun _ => ⟨g, rfl, hg, hc⟩⟩
theorem Lst.kept {w w' : World} {B : Nat} {v : Value} {xs : List Value} (h : Lst w B v xs) (b : Below w.heap.size w w') : Lst w' B v xs := by
  rcases h with ⟨rfl, rfl⟩ | ⟨g, cap, rfl, hB, hg, hc⟩
  · exact .inl ⟨rfl, rfl⟩
  · exact .inr ⟨g, cap, rfl, hB, Nat.lt_of_lt_of_le hg b.size, fun j x hx => (b.cell (p := ⟨g, j, none⟩) hg).trans (hc j x hx)⟩
set_option maxRecDepth 100000 in
set_option maxHeartbeats 8000000 in
theorem namesLaw (p0 : Int) (a1 : Option Addr) (l1 c1 : Nat) (vf : Nat → ByteArray) (w : World) (u1 : l1 ≤ c1) (k1 : c1 ≤ 9223372036854775807) (hs : ∀ j, j < l1 → (vf j).size ≤ maxLen) (hk : CellsF w a1 l1 (fun j => .string (vf j)))
    (n : Nat) (n1 : n ≤ l1) (n80 : n ≤ 80) (hmin : min (l1 : Int) 80 = (n : Int)) :
    Calls Try.prog 6 #[.int .i64 p0, .slice a1 l1 c1] w fun e w' => e = .returned (.bool true) ∧ Below w.heap.size w w' := by
  have ha := dm_u64 p0
  generalize hza : IntKind.u64.wrap p0 = z at *
  obtain ⟨t, ht⟩ : ∃ t, t = 1 + z % 65535 := ⟨_, rfl⟩
  have ht0 : 1 ≤ t := by omega
  have ht1 : t ≤ 65535 := by omega
  have HTt := Lib.hid ht
  clear ht
  obtain ⟨f, hf⟩ : ∃ f : Nat → Bs, ∀ j, f j = (vf j).data.toList := ⟨_, fun _ => rfl⟩
  have hfe : ∀ j, Go.Proofs.encStr (f j) = .string (vf j) := fun j => (congrArg Go.Proofs.encStr (hf j)).trans (encF _)
  have HOK := Lib.hid (show ∀ j k, k = f j → j < n → k.length ≤ maxLen from fun j k e hj => by rw [e, hf, Array.length_toList]; exact hs j (by omega))
  have HC := Lib.hid (show CellsF w a1 n (fun j => Go.Proofs.encStr (f j)) from fun h0 => by
    obtain ⟨b, off, h1, h2, h3⟩ := hk (by omega)
    exact ⟨b, off, h1, h2, fun j hj => by show w.cell? _ = some (Go.Proofs.encStr (f j)); rw [hfe]; exact h3 j (by omega)⟩)
  have HFE := Lib.hid hfe
  have f1 : (0 : Int) ≤ (n : Int) := by omega
  have f2 : (n : Int) ≤ (c1 : Int) := by omega
  obtain ⟨blk, hblk⟩ : ∃ blk : Bs → Nat, blk = fun _ => 0 := ⟨_, rfl⟩
  obtain ⟨L, E, hLE⟩ : ∃ L E, holdFS t f n 0 [] = (L, E) := ⟨_, _, rfl⟩
  have HLE := Lib.hid hLE
  have hpos := holdF_pos t f n
  rw [hLE] at hpos
  have HPOS := Lib.hid hpos
  clear hs hk hf hfe hblk hLE hpos
  go_enter Try.func6, Try.ntmps6
  go_wp2_with fail
  rw [← HTt.out]
  refine (newS t w ht0 ht1 blk).mono ?_
  rintro e w1 ⟨rfl, tA, b1⟩
  have HA1 := Lib.hid tA
  have HB1 := Lib.hid b1
  clear tA b1
  obtain ⟨FA, hFA⟩ : ∃ FA, FA = w.heap.size + 1 := ⟨_, rfl⟩
  obtain ⟨MA, hMA⟩ : ∃ MA, MA = w.heap.size := ⟨_, rfl⟩
  rw [← hFA] at HA1 ⊢
  rw [show Tbl 9 78 w1 FA w.heap.size t ([] : St Bs) blk = Tbl 9 78 w1 FA MA t [] blk from by rw [hMA]] at HA1
  have HFM := Lib.hid (And.intro hFA hMA)
  clear hFA hMA
  go_wp2_with fail
  refine (newS t w1 ht0 ht1 blk).mono ?_
  rintro e w2 ⟨rfl, tB, b2⟩
  have HTB2 := Lib.hid tB
  have HB2 := Lib.hid b2
  clear tB b2
  obtain ⟨FB, hFB⟩ : ∃ FB, FB = w1.heap.size + 1 := ⟨_, rfl⟩
  obtain ⟨MB, hMB⟩ : ∃ MB, MB = w1.heap.size := ⟨_, rfl⟩
  rw [← hFB] at HTB2 ⊢
  rw [show Tbl 9 78 w2 FB w1.heap.size t ([] : St Bs) blk = Tbl 9 78 w2 FB MB t [] blk from by rw [hMB]] at HTB2
  have HGM := Lib.hid (And.intro hFB hMB)
  clear hFB hMB
  have HTA2 := Lib.hid (HA1.out.kept HB2.out)
  have HC2 := Lib.hid (show 0 < n → ∃ b off, a1 = some ⟨b, off, none⟩ ∧ b < w2.heap.size ∧ ¬ Own FA MA ([] : St Bs) blk b ∧ ∀ j, j < n → w2.cell? ⟨b, off + j, none⟩ = some (Go.Proofs.encStr (f j)) from fun h0 => by
    obtain ⟨b, off, h1, h2, h3⟩ := HC.out h0
    have b3 := HB1.out.size
    have b4 := HB2.out.size
    exact ⟨b, off, h1, by omega, fun ho => by have := own_nil ho; have := HFM.out; omega, fun j hj => ((HB1.out.trans (HB2.out.mono HB1.out.size)).cell (p := ⟨b, off + j, none⟩) h2).trans (h3 j hj)⟩)
  have HNA := Lib.hid (show ∀ j, Own FA MA ([] : St Bs) blk j → j < w1.heap.size from fun j hj => HA1.out.ownlt hj)
  have HNB := Lib.hid (show ∀ j, Own FB MB ([] : St Bs) blk j → w1.heap.size ≤ j ∧ j < w2.heap.size from fun j hj => ⟨by have := own_nil hj; have := HGM.out; omega, HTB2.out.ownlt hj⟩)
  go_wp2_with fail
  refine (holdsS a1 n c1 f HTA2.out (by omega) HOK.out HC2.out).mono ?_
  rintro e w3 ⟨blkA, rfl, tA3, sA⟩
  rw [HLE.out] at tA3 sA ⊢
  dsimp only at tA3 sA ⊢
  have HTA3 := Lib.hid tA3
  have HSA := Lib.hid sA
  have HTB3 := Lib.hid (HTB2.out.other sA.chg (fun j hj ho => by have := HNA.out j ho; have := HNB.out j hj; omega))
  have HBW3 := Lib.hid ((HB1.out.trans (HB2.out.mono HB1.out.size)).trans (sA.chg.below (B := w.heap.size) (fun j hj => by have := own_nil hj; have := HFM.out; omega) (by have := HB1.out.size; have := HB2.out.size; omega)))
  have HOA := Lib.hid (show ∀ j, Own FA MA L blkA j → j < w1.heap.size ∨ w2.heap.size ≤ j from fun j hj => (sA.mine j hj).imp (HNA.out j) id)
  clear tA3 sA
  go_wp2_with fail
  go_loopw [10, 11] (fun wa i wr => ∃ (j : Nat) (e : Int) (lb : St Bs) (bb : Bs → Nat), j ≤ n ∧ i = .int .i64 j ∧ wa = .int .i64 e ∧ Hid (Tbl 9 78 wr FB MB t lb bb) ∧ Hid (Step w3 wr FB MB [] lb blk bb) ∧ Hid ((e = 0 ∧ (L, E) = holdFS t f (n - j) j lb) ∨ (e ≠ 0 ∧ (L, E) = (lb, e)))) (fun wa i _ => n - (intOf i).toNat)
  case atStart => exact ⟨0, 0, [], blk, by omega, rfl, rfl, HTB3, Lib.hid (.refl (Below.refl _ _)), Lib.hid (.inl ⟨rfl, HLE.out.symm⟩)⟩
  case round =>
    obtain ⟨j, e, lb, bb, hj, rfl, rfl, HTj, HSj, HRj⟩ := hrel
    obtain ⟨wx, rfl⟩ : ∃ wx : World, wx = wr := ⟨_, rfl⟩
    by_cases hgo : j < n ∧ e = 0
    · obtain ⟨hlt, rfl⟩ := hgo
      obtain ⟨b, off, rfl, hb, hcs⟩ := HC.out (by omega)
      have d1 : decide ((j : Int) < (n : Int)) = true := decide_eq_true (by omega)
      have hcell : wx.cell? ⟨b, off + j, none⟩ = some (Go.Proofs.encStr (f j)) := ((HBW3.out.trans (HSj.out.chg.below (B := w.heap.size) (fun j hj => by have := HNB.out j hj; have := HB1.out.size; omega) (by have := HBW3.out.size; omega))).cell (p := ⟨b, off + j, none⟩) hb).trans (hcs j hlt)
      have hh := HRj.out
      have hh2 : (L, E) = holdFS t f (n - j - 1 + 1) j lb := by rw [show n - j - 1 + 1 = n - j from by omega]; exact (hh.resolve_right (fun h => h.1 rfl)).2
      unfold holdFS at hh2
      have HOj := Lib.hid (HOK.out j _ rfl hlt)
      have HR2 := Lib.hid hh2
      clear hh hh2 hcs
      generalize f j = fj at *
      have g1 : (0 : Int) ≤ (j : Int) := by omega
      have g2 : (j : Int) < (n : Int) := by omega
      have HCALL := Lib.hid (holdsS (w := wx.alloc (.cells #[Go.Proofs.encStr fj] 9)) (some ⟨wx.heap.size, 0, none⟩) 1 1 (fun _ => fj) (HTj.out.kept ((Below.refl _ _).alloc (Nat.le_refl _) _)) (by omega) (fun j k e _ => by rw [e]; exact HOj.out) (fun _ => ⟨wx.heap.size, 0, rfl, by simp, fun ho => by have := HTj.out.ownlt ho; omega, fun i hi => by
        obtain rfl : i = 0 := by omega
        have := cell_one_new wx (Go.Proofs.encStr fj) 9 0 _ rfl
        rw [addr_addF] at this
        exact this⟩))
      rw [holdF_one] at HCALL
      go_wp2_with fail
      refine HCALL.out.mono ?_
      rintro e w5 ⟨b5, rfl, t5, s5⟩
      have HT5 := Lib.hid t5
      have hstep : Step wx w5 FB MB lb (holdL t lb fj).1 bb b5 := Step.trans (.refl ((Below.refl wx.heap.size wx).alloc (Nat.le_refl _) (.cells #[Go.Proofs.encStr fj] 9))) s5
      have HS5 := Lib.hid (HSj.out.trans hstep)
      clear t5 s5 hstep HCALL hcell
      have HR3 := Lib.hid (show ((holdL t lb fj).2 = 0 ∧ (L, E) = holdFS t f (n - (j + 1)) (j + 1) (holdL t lb fj).1) ∨ ((holdL t lb fj).2 ≠ 0 ∧ (L, E) = ((holdL t lb fj).1, (holdL t lb fj).2)) from by
        have h := HR2.out
        by_cases hz : (holdL t lb fj).2 = 0
        · rw [if_pos hz] at h
          rw [show n - (j + 1) = n - j - 1 from by omega]
          exact .inl ⟨hz, h⟩
        · rw [if_neg hz] at h
          exact .inr ⟨hz, h⟩)
      generalize holdL t lb fj = g at *
      obtain ⟨g1', g2'⟩ := g
      dsimp only at HT5 HS5 HR3 ⊢
      go_wp2_with fail
      go_roundw
      case rel => exact ⟨j + 1, g2', g1', b5, by omega, by go_num, rfl, HT5, HS5, HR3⟩
      case measure => simp only [intOf]; omega
    · have hdone : (L, E) = (lb, e) := by
        rcases HRj.out with ⟨rfl, h⟩ | ⟨h1, h2⟩
        · obtain rfl : j = n := by
            by_cases hlt : j < n
            · exact absurd ⟨hlt, rfl⟩ hgo
            · omega
          rw [Nat.sub_self] at h
          unfold holdFS at h
          exact h
        · exact h2
      have hLl := (Prod.mk.inj hdone).1
      have hEe := (Prod.mk.inj hdone).2
      have hcond : n = j ∨ (j < n ∧ (e == 0) = false) := by
        by_cases he : e = 0
        · left
          by_cases hlt : j < n
          · exact absurd ⟨hlt, he⟩ hgo
          · omega
        · by_cases hlt : j < n
          · right; exact ⟨hlt, by rw [beq_eq_false_iff_ne]; exact he⟩
          · left; omega
      have HTBx := Lib.hid (show Tbl 9 78 wx FB MB t L bb from by rw [hLl]; exact HTj.out)
      have HTAx := Lib.hid (HTA3.out.other HSj.out.chg (fun q hq ho => by have := HOA.out q hq; have := HNB.out q ho; omega))
      have HBx := Lib.hid (HBW3.out.trans (HSj.out.chg.below (B := w.heap.size) (fun q hq => by have := HNB.out q hq; have := HB1.out.size; omega) (by have := HBW3.out.size; omega)))
      have HLok := Lib.hid (show ∀ q ∈ L, q.1.length ≤ maxLen from by
        have h1 := HLE.out
        have h2 := holdF_ok (P := fun k => k.length ≤ maxLen) (top := t) (f := f) n 0 [] (by simp) (fun q _ hq => HOK.out q _ rfl (by omega))
        rw [h1] at h2
        exact h2)
      subst hEe
      clear hdone hgo HRj HTj HSj hLl
      rcases hcond with rfl | ⟨hlt, he⟩
      · skip
        go_wp2_with fail
        refine (keysS HTAx.out).mono ?_
        rintro e5 w5 ⟨vx, rfl, lx, b5⟩
        have LX := Lib.hid lx
        have B5 := Lib.hid b5
        clear lx b5
        go_wp2_with fail
        refine (keysS (HTBx.out.kept B5.out)).mono ?_
        rintro e6 w6 ⟨vy, rfl, ly, b6⟩
        obtain ⟨ax, cx, rfl, hx⟩ := (LX.out.kept b6).view
        obtain ⟨ay, cy, rfl, hy⟩ := ly.view
        have HX := Lib.hid hx
        have HY := Lib.hid hy
        have HB6 := Lib.hid (HBx.out.trans ((B5.out.mono HBx.out.size).trans (b6.mono (Nat.le_trans HBx.out.size B5.out.size))))
        have HTA6 := Lib.hid ((HTAx.out.kept B5.out).kept b6)
        have HTB6 := Lib.hid ((HTBx.out.kept B5.out).kept b6)
        clear hx hy ly b6 LX
        have hm64 := HTA6.out.len
        have hml : ((L.map (·.1)).map Go.Proofs.encStr).length = L.length := by rw [List.length_map, List.length_map]
        rw [hml] at HX HY ⊢
        obtain ⟨m, hm⟩ : ∃ m, m = L.length := ⟨_, rfl⟩
        rw [← hm] at HX HY hm64 ⊢
        have HPM := HPOS
        rw [← hm] at HPM
        have HM := Lib.hid hm
        clear hm hml
        have e1 : (E != E) = false := by simp
        have e2 : ((m : Int) != (m : Int)) = false := by simp
        have d64 : decide ((64 : Int) < (m : Int)) = false := decide_eq_false (by omega)
        by_cases hz : m = 0
        · have e83 : ((m : Int) == 0) = true := by rw [hz]; rfl
          have dn : decide (0 < n) = false := decide_eq_false (fun hn => by have := HPM.out hn; omega)
          clear hz
          go_wp2_with fail
          go_loopw [14] (fun i wr => ∃ j : Nat, j ≤ m ∧ i = .int .i64 j ∧ Hid (Below w6.heap.size w6 wr)) (fun i _ => m - (intOf i).toNat)
          case atStart => exact ⟨0, by omega, rfl, Lib.hid (Below.refl _ _)⟩
          case round =>
            obtain ⟨i, hi, rfl, HW⟩ := hrel
            obtain ⟨wz, rfl⟩ : ∃ wz : World, wz = wr := ⟨_, rfl⟩
            by_cases hlt : i < m
            · obtain ⟨gx, rfl, hgx, hcx⟩ := HX.out (by omega)
              obtain ⟨gy, rfl, hgy, hcy⟩ := HY.out (by omega)
              have hiL : i < L.length := by have := HM.out; omega
              obtain ⟨k, c, hk⟩ : ∃ k c, L[i]? = some (k, c) := ⟨_, _, List.getElem?_eq_getElem hiL⟩
              have hc1 := (HW.out.cell (p := ⟨gx, i, none⟩) hgx).trans (hcx i (Go.Proofs.encStr k) (by simp [List.getElem?_map, hk]))
              have hc2 := (HW.out.cell (p := ⟨gy, i, none⟩) hgy).trans (hcy i (Go.Proofs.encStr k) (by simp [List.getElem?_map, hk]))
              have hmem := List.mem_of_getElem? hk
              have hok := HLok.out _ hmem
              have hv1 : 1 ≤ valLS L k := valLS_pos HTA6.out ⟨c, hmem⟩
              obtain ⟨bx, hbx⟩ : ∃ bx : ByteArray, bx = ⟨k.toArray⟩ := ⟨_, rfl⟩
              have hE : Go.Proofs.encStr k = .string bx := by rw [hbx]
              have HVA := Lib.hid (show ∀ q, Calls Try.prog 21 #[.pointer (some ⟨FA, 0, none⟩), .string bx] (wz.drewN q) fun e w' => e = .returned (.int .i64 (valLS L k)) ∧ w' = wz.drewN q from fun q => by
                rw [← hE]
                exact (valueS k (HTA6.out.kept (below_drewN HW.out q)) hok).mono fun e w' h => ⟨h.1, h.2.symm⟩)
              have HVB := Lib.hid (show ∀ q, Calls Try.prog 21 #[.pointer (some ⟨FB, 0, none⟩), .string bx] (wz.drewN q) fun e w' => e = .returned (.int .i64 (valLS L k)) ∧ w' = wz.drewN q from fun q => by
                rw [← hE]
                exact (valueS k (HTB6.out.kept (below_drewN HW.out q)) hok).mono fun e w' h => ⟨h.1, h.2.symm⟩)
              rw [hE] at hc1 hc2
              have hle : 0 < i → ∃ kp, wz.cell? ⟨gx, i - 1, none⟩ = some (Go.Proofs.encStr kp) ∧ Key.lt kp k := by
                intro h0
                obtain ⟨kp, cp, hkp⟩ : ∃ k c, L[i - 1]? = some (k, c) := ⟨_, _, List.getElem?_eq_getElem (by omega)⟩
                refine ⟨kp, (HW.out.cell (p := ⟨gx, i - 1, none⟩) hgx).trans (hcx (i - 1) (Go.Proofs.encStr kp) (by simp [List.getElem?_map, hkp])), ?_⟩
                have hp := List.pairwise_iff_getElem.1 HTA6.out.sorted (i - 1) i (by omega) hiL (by omega)
                rw [List.getElem?_eq_getElem (by omega)] at hkp hk
                simp only [Option.some.injEq] at hkp hk
                rw [hkp, hk] at hp
                exact hp
              have g1 : (0 : Int) ≤ (i : Int) := by omega
              have g2 : (i : Int) < (m : Int) := by omega
              have e3 : (valLS L k != valLS L k) = false := by simp
              have d1 : decide (valLS L k < 1) = false := decide_eq_false (by omega)
              have e4 : (bx != bx) = false := by have hb : (bx == bx) = true := (Go.MapKept.bytes_beq bx bx).2 rfl; show (!(bx == bx)) = false; rw [hb]; rfl
              clear hk hmem hok hv1 hcx hcy hE
              generalize valLS L k = vv at *
              by_cases h0 : 0 < i
              · obtain ⟨kp, hc3, hltk⟩ := hle h0
                have hnl := not_leq hltk
                rw [← hbx] at hnl
                obtain ⟨bp, hbp⟩ : ∃ bp : ByteArray, bp = ⟨kp.toArray⟩ := ⟨_, rfl⟩
                rw [← hbp] at hnl
                have hEp : Go.Proofs.encStr kp = .string bp := by rw [hbp]
                rw [hEp] at hc3
                obtain ⟨i', rfl⟩ : ∃ i', i = i' + 1 := ⟨i - 1, by omega⟩
                rw [Nat.add_sub_cancel] at hc3
                have g3 : (0 : Int) ≤ (i' : Int) := by omega
                have g4 : (i' : Int) < (m : Int) := by omega
                have g5 : (0 : Int) ≤ (i' : Int) + 1 := by omega
                have g6 : (i' : Int) + 1 < (m : Int) := by omega
                have d2 : decide ((0 : Int) < (i' : Int) + 1) = true := decide_eq_true (by omega)
                have g8 : IntKind.i64.wrap (i' : Int) = (i' : Int) := by rw [IntKind.wrap_i64]; omega
                clear hle hltk hEp hbp hbx h0
                go_wp2_with fail
                go_quiet ((first | (go_at_call 21; refine Calls.quiet_of_same (HVA.out _)) | (go_at_call 21; refine Calls.quiet_of_same (HVB.out _))))
                go_wp2_with fail
                go_roundw
                case rel => exact ⟨i' + 1 + 1, by omega, by go_num, Lib.hid (below_drewN HW.out _)⟩
                case measure => simp only [intOf]; omega
              · obtain rfl : i = 0 := by omega
                clear hle h0 hbx
                go_wp2_with fail
                go_quiet ((first | (go_at_call 21; refine Calls.quiet_of_same (HVA.out _)) | (go_at_call 21; refine Calls.quiet_of_same (HVB.out _))))
                go_wp2_with fail
                go_roundw
                case rel => exact ⟨1, by omega, by go_num, Lib.hid (below_drewN HW.out _)⟩
                case measure => simp only [intOf]; omega
            · obtain rfl : i = m := by omega
              go_wp2_with fail
              refine (cntKnown _).mono ?_
              rintro e7 w7 ⟨rfl, b7⟩
              have HB7 := Lib.hid (HB6.out.trans ((HW.out.trans (b7.mono HW.out.size)).mono HB6.out.size))
              clear b7
              go_wp2_with fail
              go_ret
              exact ⟨rfl, HB7.out⟩

        · have e83 : ((m : Int) == 0) = false := by rw [beq_eq_false_iff_ne]; omega
          clear hz
          go_wp2_with fail
          go_loopw [14] (fun i wr => ∃ j : Nat, j ≤ m ∧ i = .int .i64 j ∧ Hid (Below w6.heap.size w6 wr)) (fun i _ => m - (intOf i).toNat)
          case atStart => exact ⟨0, by omega, rfl, Lib.hid (Below.refl _ _)⟩
          case round =>
            obtain ⟨i, hi, rfl, HW⟩ := hrel
            obtain ⟨wz, rfl⟩ : ∃ wz : World, wz = wr := ⟨_, rfl⟩
            by_cases hlt : i < m
            · obtain ⟨gx, rfl, hgx, hcx⟩ := HX.out (by omega)
              obtain ⟨gy, rfl, hgy, hcy⟩ := HY.out (by omega)
              have hiL : i < L.length := by have := HM.out; omega
              obtain ⟨k, c, hk⟩ : ∃ k c, L[i]? = some (k, c) := ⟨_, _, List.getElem?_eq_getElem hiL⟩
              have hc1 := (HW.out.cell (p := ⟨gx, i, none⟩) hgx).trans (hcx i (Go.Proofs.encStr k) (by simp [List.getElem?_map, hk]))
              have hc2 := (HW.out.cell (p := ⟨gy, i, none⟩) hgy).trans (hcy i (Go.Proofs.encStr k) (by simp [List.getElem?_map, hk]))
              have hmem := List.mem_of_getElem? hk
              have hok := HLok.out _ hmem
              have hv1 : 1 ≤ valLS L k := valLS_pos HTA6.out ⟨c, hmem⟩
              obtain ⟨bx, hbx⟩ : ∃ bx : ByteArray, bx = ⟨k.toArray⟩ := ⟨_, rfl⟩
              have hE : Go.Proofs.encStr k = .string bx := by rw [hbx]
              have HVA := Lib.hid (show ∀ q, Calls Try.prog 21 #[.pointer (some ⟨FA, 0, none⟩), .string bx] (wz.drewN q) fun e w' => e = .returned (.int .i64 (valLS L k)) ∧ w' = wz.drewN q from fun q => by
                rw [← hE]
                exact (valueS k (HTA6.out.kept (below_drewN HW.out q)) hok).mono fun e w' h => ⟨h.1, h.2.symm⟩)
              have HVB := Lib.hid (show ∀ q, Calls Try.prog 21 #[.pointer (some ⟨FB, 0, none⟩), .string bx] (wz.drewN q) fun e w' => e = .returned (.int .i64 (valLS L k)) ∧ w' = wz.drewN q from fun q => by
                rw [← hE]
                exact (valueS k (HTB6.out.kept (below_drewN HW.out q)) hok).mono fun e w' h => ⟨h.1, h.2.symm⟩)
              rw [hE] at hc1 hc2
              have hle : 0 < i → ∃ kp, wz.cell? ⟨gx, i - 1, none⟩ = some (Go.Proofs.encStr kp) ∧ Key.lt kp k := by
                intro h0
                obtain ⟨kp, cp, hkp⟩ : ∃ k c, L[i - 1]? = some (k, c) := ⟨_, _, List.getElem?_eq_getElem (by omega)⟩
                refine ⟨kp, (HW.out.cell (p := ⟨gx, i - 1, none⟩) hgx).trans (hcx (i - 1) (Go.Proofs.encStr kp) (by simp [List.getElem?_map, hkp])), ?_⟩
                have hp := List.pairwise_iff_getElem.1 HTA6.out.sorted (i - 1) i (by omega) hiL (by omega)
                rw [List.getElem?_eq_getElem (by omega)] at hkp hk
                simp only [Option.some.injEq] at hkp hk
                rw [hkp, hk] at hp
                exact hp
              have g1 : (0 : Int) ≤ (i : Int) := by omega
              have g2 : (i : Int) < (m : Int) := by omega
              have e3 : (valLS L k != valLS L k) = false := by simp
              have d1 : decide (valLS L k < 1) = false := decide_eq_false (by omega)
              have e4 : (bx != bx) = false := by have hb : (bx == bx) = true := (Go.MapKept.bytes_beq bx bx).2 rfl; show (!(bx == bx)) = false; rw [hb]; rfl
              clear hk hmem hok hv1 hcx hcy hE
              generalize valLS L k = vv at *
              by_cases h0 : 0 < i
              · obtain ⟨kp, hc3, hltk⟩ := hle h0
                have hnl := not_leq hltk
                rw [← hbx] at hnl
                obtain ⟨bp, hbp⟩ : ∃ bp : ByteArray, bp = ⟨kp.toArray⟩ := ⟨_, rfl⟩
                rw [← hbp] at hnl
                have hEp : Go.Proofs.encStr kp = .string bp := by rw [hbp]
                rw [hEp] at hc3
                obtain ⟨i', rfl⟩ : ∃ i', i = i' + 1 := ⟨i - 1, by omega⟩
                rw [Nat.add_sub_cancel] at hc3
                have g3 : (0 : Int) ≤ (i' : Int) := by omega
                have g4 : (i' : Int) < (m : Int) := by omega
                have g5 : (0 : Int) ≤ (i' : Int) + 1 := by omega
                have g6 : (i' : Int) + 1 < (m : Int) := by omega
                have d2 : decide ((0 : Int) < (i' : Int) + 1) = true := decide_eq_true (by omega)
                have g8 : IntKind.i64.wrap (i' : Int) = (i' : Int) := by rw [IntKind.wrap_i64]; omega
                clear hle hltk hEp hbp hbx h0
                go_wp2_with fail
                go_quiet ((first | (go_at_call 21; refine Calls.quiet_of_same (HVA.out _)) | (go_at_call 21; refine Calls.quiet_of_same (HVB.out _))))
                go_wp2_with fail
                go_roundw
                case rel => exact ⟨i' + 1 + 1, by omega, by go_num, Lib.hid (below_drewN HW.out _)⟩
                case measure => simp only [intOf]; omega
              · obtain rfl : i = 0 := by omega
                clear hle h0 hbx
                go_wp2_with fail
                go_quiet ((first | (go_at_call 21; refine Calls.quiet_of_same (HVA.out _)) | (go_at_call 21; refine Calls.quiet_of_same (HVB.out _))))
                go_wp2_with fail
                go_roundw
                case rel => exact ⟨1, by omega, by go_num, Lib.hid (below_drewN HW.out _)⟩
                case measure => simp only [intOf]; omega
            · obtain rfl : i = m := by omega
              go_wp2_with fail
              refine (cntKnown _).mono ?_
              rintro e7 w7 ⟨rfl, b7⟩
              have HB7 := Lib.hid (HB6.out.trans ((HW.out.trans (b7.mono HW.out.size)).mono HB6.out.size))
              clear b7
              go_wp2_with fail
              go_ret
              exact ⟨rfl, HB7.out⟩


      · have d0 : decide ((j : Int) < (n : Int)) = true := decide_eq_true (by omega)
        go_wp2_with fail
        refine (keysS HTAx.out).mono ?_
        rintro e5 w5 ⟨vx, rfl, lx, b5⟩
        have LX := Lib.hid lx
        have B5 := Lib.hid b5
        clear lx b5
        go_wp2_with fail
        refine (keysS (HTBx.out.kept B5.out)).mono ?_
        rintro e6 w6 ⟨vy, rfl, ly, b6⟩
        obtain ⟨ax, cx, rfl, hx⟩ := (LX.out.kept b6).view
        obtain ⟨ay, cy, rfl, hy⟩ := ly.view
        have HX := Lib.hid hx
        have HY := Lib.hid hy
        have HB6 := Lib.hid (HBx.out.trans ((B5.out.mono HBx.out.size).trans (b6.mono (Nat.le_trans HBx.out.size B5.out.size))))
        have HTA6 := Lib.hid ((HTAx.out.kept B5.out).kept b6)
        have HTB6 := Lib.hid ((HTBx.out.kept B5.out).kept b6)
        clear hx hy ly b6 LX
        have hm64 := HTA6.out.len
        have hml : ((L.map (·.1)).map Go.Proofs.encStr).length = L.length := by rw [List.length_map, List.length_map]
        rw [hml] at HX HY ⊢
        obtain ⟨m, hm⟩ : ∃ m, m = L.length := ⟨_, rfl⟩
        rw [← hm] at HX HY hm64 ⊢
        have HPM := HPOS
        rw [← hm] at HPM
        have HM := Lib.hid hm
        clear hm hml
        have e1 : (E != E) = false := by simp
        have e2 : ((m : Int) != (m : Int)) = false := by simp
        have d64 : decide ((64 : Int) < (m : Int)) = false := decide_eq_false (by omega)
        by_cases hz : m = 0
        · have e83 : ((m : Int) == 0) = true := by rw [hz]; rfl
          have dn : decide (0 < n) = false := decide_eq_false (fun hn => by have := HPM.out hn; omega)
          clear hz
          go_wp2_with fail
          go_loopw [14] (fun i wr => ∃ j : Nat, j ≤ m ∧ i = .int .i64 j ∧ Hid (Below w6.heap.size w6 wr)) (fun i _ => m - (intOf i).toNat)
          case atStart => exact ⟨0, by omega, rfl, Lib.hid (Below.refl _ _)⟩
          case round =>
            obtain ⟨i, hi, rfl, HW⟩ := hrel
            obtain ⟨wz, rfl⟩ : ∃ wz : World, wz = wr := ⟨_, rfl⟩
            by_cases hlt : i < m
            · obtain ⟨gx, rfl, hgx, hcx⟩ := HX.out (by omega)
              obtain ⟨gy, rfl, hgy, hcy⟩ := HY.out (by omega)
              have hiL : i < L.length := by have := HM.out; omega
              obtain ⟨k, c, hk⟩ : ∃ k c, L[i]? = some (k, c) := ⟨_, _, List.getElem?_eq_getElem hiL⟩
              have hc1 := (HW.out.cell (p := ⟨gx, i, none⟩) hgx).trans (hcx i (Go.Proofs.encStr k) (by simp [List.getElem?_map, hk]))
              have hc2 := (HW.out.cell (p := ⟨gy, i, none⟩) hgy).trans (hcy i (Go.Proofs.encStr k) (by simp [List.getElem?_map, hk]))
              have hmem := List.mem_of_getElem? hk
              have hok := HLok.out _ hmem
              have hv1 : 1 ≤ valLS L k := valLS_pos HTA6.out ⟨c, hmem⟩
              obtain ⟨bx, hbx⟩ : ∃ bx : ByteArray, bx = ⟨k.toArray⟩ := ⟨_, rfl⟩
              have hE : Go.Proofs.encStr k = .string bx := by rw [hbx]
              have HVA := Lib.hid (show ∀ q, Calls Try.prog 21 #[.pointer (some ⟨FA, 0, none⟩), .string bx] (wz.drewN q) fun e w' => e = .returned (.int .i64 (valLS L k)) ∧ w' = wz.drewN q from fun q => by
                rw [← hE]
                exact (valueS k (HTA6.out.kept (below_drewN HW.out q)) hok).mono fun e w' h => ⟨h.1, h.2.symm⟩)
              have HVB := Lib.hid (show ∀ q, Calls Try.prog 21 #[.pointer (some ⟨FB, 0, none⟩), .string bx] (wz.drewN q) fun e w' => e = .returned (.int .i64 (valLS L k)) ∧ w' = wz.drewN q from fun q => by
                rw [← hE]
                exact (valueS k (HTB6.out.kept (below_drewN HW.out q)) hok).mono fun e w' h => ⟨h.1, h.2.symm⟩)
              rw [hE] at hc1 hc2
              have hle : 0 < i → ∃ kp, wz.cell? ⟨gx, i - 1, none⟩ = some (Go.Proofs.encStr kp) ∧ Key.lt kp k := by
                intro h0
                obtain ⟨kp, cp, hkp⟩ : ∃ k c, L[i - 1]? = some (k, c) := ⟨_, _, List.getElem?_eq_getElem (by omega)⟩
                refine ⟨kp, (HW.out.cell (p := ⟨gx, i - 1, none⟩) hgx).trans (hcx (i - 1) (Go.Proofs.encStr kp) (by simp [List.getElem?_map, hkp])), ?_⟩
                have hp := List.pairwise_iff_getElem.1 HTA6.out.sorted (i - 1) i (by omega) hiL (by omega)
                rw [List.getElem?_eq_getElem (by omega)] at hkp hk
                simp only [Option.some.injEq] at hkp hk
                rw [hkp, hk] at hp
                exact hp
              have g1 : (0 : Int) ≤ (i : Int) := by omega
              have g2 : (i : Int) < (m : Int) := by omega
              have e3 : (valLS L k != valLS L k) = false := by simp
              have d1 : decide (valLS L k < 1) = false := decide_eq_false (by omega)
              have e4 : (bx != bx) = false := by have hb : (bx == bx) = true := (Go.MapKept.bytes_beq bx bx).2 rfl; show (!(bx == bx)) = false; rw [hb]; rfl
              clear hk hmem hok hv1 hcx hcy hE
              generalize valLS L k = vv at *
              by_cases h0 : 0 < i
              · obtain ⟨kp, hc3, hltk⟩ := hle h0
                have hnl := not_leq hltk
                rw [← hbx] at hnl
                obtain ⟨bp, hbp⟩ : ∃ bp : ByteArray, bp = ⟨kp.toArray⟩ := ⟨_, rfl⟩
                rw [← hbp] at hnl
                have hEp : Go.Proofs.encStr kp = .string bp := by rw [hbp]
                rw [hEp] at hc3
                obtain ⟨i', rfl⟩ : ∃ i', i = i' + 1 := ⟨i - 1, by omega⟩
                rw [Nat.add_sub_cancel] at hc3
                have g3 : (0 : Int) ≤ (i' : Int) := by omega
                have g4 : (i' : Int) < (m : Int) := by omega
                have g5 : (0 : Int) ≤ (i' : Int) + 1 := by omega
                have g6 : (i' : Int) + 1 < (m : Int) := by omega
                have d2 : decide ((0 : Int) < (i' : Int) + 1) = true := decide_eq_true (by omega)
                have g8 : IntKind.i64.wrap (i' : Int) = (i' : Int) := by rw [IntKind.wrap_i64]; omega
                clear hle hltk hEp hbp hbx h0
                go_wp2_with fail
                go_quiet ((first | (go_at_call 21; refine Calls.quiet_of_same (HVA.out _)) | (go_at_call 21; refine Calls.quiet_of_same (HVB.out _))))
                go_wp2_with fail
                go_roundw
                case rel => exact ⟨i' + 1 + 1, by omega, by go_num, Lib.hid (below_drewN HW.out _)⟩
                case measure => simp only [intOf]; omega
              · obtain rfl : i = 0 := by omega
                clear hle h0 hbx
                go_wp2_with fail
                go_quiet ((first | (go_at_call 21; refine Calls.quiet_of_same (HVA.out _)) | (go_at_call 21; refine Calls.quiet_of_same (HVB.out _))))
                go_wp2_with fail
                go_roundw
                case rel => exact ⟨1, by omega, by go_num, Lib.hid (below_drewN HW.out _)⟩
                case measure => simp only [intOf]; omega
            · obtain rfl : i = m := by omega
              go_wp2_with fail
              refine (cntKnown _).mono ?_
              rintro e7 w7 ⟨rfl, b7⟩
              have HB7 := Lib.hid (HB6.out.trans ((HW.out.trans (b7.mono HW.out.size)).mono HB6.out.size))
              clear b7
              go_wp2_with fail
              go_ret
              exact ⟨rfl, HB7.out⟩

        · have e83 : ((m : Int) == 0) = false := by rw [beq_eq_false_iff_ne]; omega
          clear hz
          go_wp2_with fail
          go_loopw [14] (fun i wr => ∃ j : Nat, j ≤ m ∧ i = .int .i64 j ∧ Hid (Below w6.heap.size w6 wr)) (fun i _ => m - (intOf i).toNat)
          case atStart => exact ⟨0, by omega, rfl, Lib.hid (Below.refl _ _)⟩
          case round =>
            obtain ⟨i, hi, rfl, HW⟩ := hrel
            obtain ⟨wz, rfl⟩ : ∃ wz : World, wz = wr := ⟨_, rfl⟩
            by_cases hlt : i < m
            · obtain ⟨gx, rfl, hgx, hcx⟩ := HX.out (by omega)
              obtain ⟨gy, rfl, hgy, hcy⟩ := HY.out (by omega)
              have hiL : i < L.length := by have := HM.out; omega
              obtain ⟨k, c, hk⟩ : ∃ k c, L[i]? = some (k, c) := ⟨_, _, List.getElem?_eq_getElem hiL⟩
              have hc1 := (HW.out.cell (p := ⟨gx, i, none⟩) hgx).trans (hcx i (Go.Proofs.encStr k) (by simp [List.getElem?_map, hk]))
              have hc2 := (HW.out.cell (p := ⟨gy, i, none⟩) hgy).trans (hcy i (Go.Proofs.encStr k) (by simp [List.getElem?_map, hk]))
              have hmem := List.mem_of_getElem? hk
              have hok := HLok.out _ hmem
              have hv1 : 1 ≤ valLS L k := valLS_pos HTA6.out ⟨c, hmem⟩
              obtain ⟨bx, hbx⟩ : ∃ bx : ByteArray, bx = ⟨k.toArray⟩ := ⟨_, rfl⟩
              have hE : Go.Proofs.encStr k = .string bx := by rw [hbx]
              have HVA := Lib.hid (show ∀ q, Calls Try.prog 21 #[.pointer (some ⟨FA, 0, none⟩), .string bx] (wz.drewN q) fun e w' => e = .returned (.int .i64 (valLS L k)) ∧ w' = wz.drewN q from fun q => by
                rw [← hE]
                exact (valueS k (HTA6.out.kept (below_drewN HW.out q)) hok).mono fun e w' h => ⟨h.1, h.2.symm⟩)
              have HVB := Lib.hid (show ∀ q, Calls Try.prog 21 #[.pointer (some ⟨FB, 0, none⟩), .string bx] (wz.drewN q) fun e w' => e = .returned (.int .i64 (valLS L k)) ∧ w' = wz.drewN q from fun q => by
                rw [← hE]
                exact (valueS k (HTB6.out.kept (below_drewN HW.out q)) hok).mono fun e w' h => ⟨h.1, h.2.symm⟩)
              rw [hE] at hc1 hc2
              have hle : 0 < i → ∃ kp, wz.cell? ⟨gx, i - 1, none⟩ = some (Go.Proofs.encStr kp) ∧ Key.lt kp k := by
                intro h0
                obtain ⟨kp, cp, hkp⟩ : ∃ k c, L[i - 1]? = some (k, c) := ⟨_, _, List.getElem?_eq_getElem (by omega)⟩
                refine ⟨kp, (HW.out.cell (p := ⟨gx, i - 1, none⟩) hgx).trans (hcx (i - 1) (Go.Proofs.encStr kp) (by simp [List.getElem?_map, hkp])), ?_⟩
                have hp := List.pairwise_iff_getElem.1 HTA6.out.sorted (i - 1) i (by omega) hiL (by omega)
                rw [List.getElem?_eq_getElem (by omega)] at hkp hk
                simp only [Option.some.injEq] at hkp hk
                rw [hkp, hk] at hp
                exact hp
              have g1 : (0 : Int) ≤ (i : Int) := by omega
              have g2 : (i : Int) < (m : Int) := by omega
              have e3 : (valLS L k != valLS L k) = false := by simp
              have d1 : decide (valLS L k < 1) = false := decide_eq_false (by omega)
              have e4 : (bx != bx) = false := by have hb : (bx == bx) = true := (Go.MapKept.bytes_beq bx bx).2 rfl; show (!(bx == bx)) = false; rw [hb]; rfl
              clear hk hmem hok hv1 hcx hcy hE
              generalize valLS L k = vv at *
              by_cases h0 : 0 < i
              · obtain ⟨kp, hc3, hltk⟩ := hle h0
                have hnl := not_leq hltk
                rw [← hbx] at hnl
                obtain ⟨bp, hbp⟩ : ∃ bp : ByteArray, bp = ⟨kp.toArray⟩ := ⟨_, rfl⟩
                rw [← hbp] at hnl
                have hEp : Go.Proofs.encStr kp = .string bp := by rw [hbp]
                rw [hEp] at hc3
                obtain ⟨i', rfl⟩ : ∃ i', i = i' + 1 := ⟨i - 1, by omega⟩
                rw [Nat.add_sub_cancel] at hc3
                have g3 : (0 : Int) ≤ (i' : Int) := by omega
                have g4 : (i' : Int) < (m : Int) := by omega
                have g5 : (0 : Int) ≤ (i' : Int) + 1 := by omega
                have g6 : (i' : Int) + 1 < (m : Int) := by omega
                have d2 : decide ((0 : Int) < (i' : Int) + 1) = true := decide_eq_true (by omega)
                have g8 : IntKind.i64.wrap (i' : Int) = (i' : Int) := by rw [IntKind.wrap_i64]; omega
                clear hle hltk hEp hbp hbx h0
                go_wp2_with fail
                go_quiet ((first | (go_at_call 21; refine Calls.quiet_of_same (HVA.out _)) | (go_at_call 21; refine Calls.quiet_of_same (HVB.out _))))
                go_wp2_with fail
                go_roundw
                case rel => exact ⟨i' + 1 + 1, by omega, by go_num, Lib.hid (below_drewN HW.out _)⟩
                case measure => simp only [intOf]; omega
              · obtain rfl : i = 0 := by omega
                clear hle h0 hbx
                go_wp2_with fail
                go_quiet ((first | (go_at_call 21; refine Calls.quiet_of_same (HVA.out _)) | (go_at_call 21; refine Calls.quiet_of_same (HVB.out _))))
                go_wp2_with fail
                go_roundw
                case rel => exact ⟨1, by omega, by go_num, Lib.hid (below_drewN HW.out _)⟩
                case measure => simp only [intOf]; omega
            · obtain rfl : i = m := by omega
              go_wp2_with fail
              refine (cntKnown _).mono ?_
              rintro e7 w7 ⟨rfl, b7⟩
              have HB7 := Lib.hid (HB6.out.trans ((HW.out.trans (b7.mono HW.out.size)).mono HB6.out.size))
              clear b7
              go_wp2_with fail
              go_ret
              exact ⟨rfl, HB7.out⟩


theorem walk_CountNames (p0 : Int) (v : Value) (w : World) (h : StrsF w v) : Calls Try.prog 6 #[.int .i64 p0, v] w fun e w' => e = .returned (.bool true) ∧ Below w.heap.size w w' := by
  obtain ⟨a1, l1, c1, vf, rfl, u1, k1, hs, hk⟩ := h
  exact namesLaw p0 a1 l1 c1 vf w u1 k1 hs hk (min l1 80) (by omega) (by omega) (by omega)
end Go.Proofs.Ytkpenhichgkdkaa
