/- The law CopyPaged, walked. -/
import Derived.Test.YtpdchgcpcnaklaaLawF
namespace Go.Proofs.Ytpdchgcpcnaklaa
open Go.RowKit Go.ChangeShapes Go.WideShapes
set_option linter.unusedVariables false

/-- the pages from f to below q are present, the others absent -/
def prs (f q : Nat) : List Int := (List.range 16).map fun j => if f ≤ j ∧ j < q then 1 else 0
theorem prs_get (f q j : Nat) (h : j < 16) : (prs f q).getD j 0 = if f ≤ j ∧ j < q then 1 else 0 := by
  simp [prs, List.getD, List.getElem?_range h]
theorem prs_len (f q : Nat) : (prs f q).length = 16 := by simp [prs]
theorem prs_start (f : Nat) : prs f f = List.replicate 16 0 := by
  apply List.ext_getElem
  · simp [prs]
  · intro i h1 h2
    rw [List.getElem_replicate]
    simp only [prs, List.getElem_map, List.getElem_range]
    rw [if_neg (by omega)]
theorem prs_next (f q : Nat) (h : f ≤ q) : (prs f q).set q 1 = prs f (q + 1) := by
  apply List.ext_getElem
  · simp [prs]
  · intro i h1 h2
    have hi : i < 16 := by simpa [prs] using h2
    rw [List.getElem_set]
    simp only [prs, List.getElem_map, List.getElem_range]
    by_cases e : q = i
    · rw [if_pos e, if_pos (by omega)]
    · rw [if_neg e]
      by_cases c : f ≤ i ∧ i < q
      · rw [if_pos c, if_pos (by omega)]
      · rw [if_neg c, if_neg (by omega)]
theorem prs_fine {bs : List Int} {ps : List Int} (h : Fine bs ps) (f q : Nat) : Fine bs (prs f q) := by
  refine ⟨h.len, h.bytes, fun x hx => ?_⟩
  obtain ⟨j, _, rfl⟩ := List.mem_map.1 hx
  split <;> omega
theorem tch_all (f q k m : Nat) (h1 : f * 16 ≤ k) (h2 : k + m ≤ q * 16) (h3 : k + m ≤ 256) : tch (prs f q) k m = (0, 0) := by
  induction m generalizing k with
  | zero => rfl
  | succ m ih =>
    have e : (prs f q).getD (k / 16) 0 = 1 := by rw [prs_get _ _ _ (by omega), if_pos (by omega)]
    unfold tch
    rw [e, if_neg (by decide), if_neg (by decide)]
    exact ih (k + 1) (by omega) (by omega) (by omega)
theorem tch_wait (f q k m : Nat) (h1 : f * 16 ≤ k) (h2 : k / 16 ≤ q) (h3 : q * 16 < k + m) (h5 : 0 < m) (h4 : k + m ≤ 256) : tch (prs f q) k m = ((q : Int), 15) := by
  induction m generalizing k with
  | zero => omega
  | succ m ih =>
    unfold tch
    by_cases e : k / 16 = q
    · have e1 : (prs f q).getD (k / 16) 0 = 0 := by rw [prs_get _ _ _ (by omega), if_neg (by omega)]
      rw [e1, if_neg (by decide), if_pos rfl, e]
    · have e1 : (prs f q).getD (k / 16) 0 = 1 := by rw [prs_get _ _ _ (by omega), if_pos (by omega)]
      rw [e1, if_neg (by decide), if_neg (by decide)]
      exact ih (k + 1) (by omega) (by omega) (by omega) (by omega) (by omega)
theorem touch_in {bs ps : List Int} {k m : Nat} (h : k + m ≤ bs.length) : touchR bs ps k m = tch ps k m := by
  unfold touchR
  rw [if_neg (by unfold outB; rw [decide_eq_false (by omega)]; simp)]
  rfl
/-- a try that waits -/
theorem try_wait {bs : List Int} {f q k m : Nat} (hk : k + m ≤ bs.length) (hL : bs.length ≤ 256) (h1 : f * 16 ≤ k) (h2 : k / 16 ≤ q) (h3 : q * 16 < k + m) (h5 : 0 < m) (ws : Bool) (pg t : Int) (xs : List Int) :
    tryS bs (prs f q) k m false true ⟨false, ws, pg, t, xs⟩ = (bs, ⟨false, true, q, t + 1, xs⟩, 15) := by
  unfold tryS
  rw [if_neg (by simp), touch_in hk, tch_wait f q k m h1 h2 h3 h5 (by omega), if_neg (by simp), if_pos ⟨rfl, rfl⟩]
/-- a try that is done -/
theorem try_done {bs : List Int} {f q k m : Nat} (hk : k + m ≤ bs.length) (hL : bs.length ≤ 256) (h1 : f * 16 ≤ k) (h2 : k + m ≤ q * 16) (ws : Bool) (pg t : Int) (xs : List Int) :
    tryS bs (prs f q) k m false true ⟨false, ws, pg, t, xs⟩ = (bs, ⟨true, false, 0, t + 1, sub bs k m⟩, 0) := by
  unfold tryS
  rw [if_neg (by simp), touch_in hk, tch_all f q k m h1 h2 (by omega), if_pos rfl, if_neg (by decide)]
  rfl
theorem try_none {bs : List Int} {f q k m : Nat} (hk : k ≤ bs.length) (hm : m = 0) (ws : Bool) (pg t : Int) (xs : List Int) :
    tryS bs (prs f q) k m false true ⟨false, ws, pg, t, xs⟩ = (bs, ⟨true, false, 0, t + 1, sub bs k m⟩, 0) := by
  subst hm
  unfold tryS
  rw [if_neg (by simp), touch_in (by omega), show tch (prs f q) k 0 = (0, 0) from rfl, if_pos rfl, if_neg (by decide)]
  rfl
theorem try_over {bs ps : List Int} {k m : Int} (out wait ws : Bool) (pg t : Int) (xs : List Int) : tryS bs ps k m out wait ⟨true, ws, pg, t, xs⟩ = (bs, ⟨true, ws, pg, t, xs⟩, 6) := rfl

set_option maxHeartbeats 4000000 in
theorem paged (p0 p1 p2 : Int) (a3 : Option Addr) (l3 c3 : Nat) (hc3 : l3 ≤ c3) (h63 : l3 ≤ 9223372036854775807) (xs3 : List Int) (w : World) (hl3 : xs3.length = l3) (hb3 : ∀ x ∈ xs3, 0 ≤ x ∧ x ≤ 255) (hx3 : Holds w a3 xs3)
    (p N K m3 f L : Nat) (q0 : 1 ≤ p) (q1 : p ≤ 16) (hp : (p : Int) = 1 + IntKind.u64.wrap p0 % 16) (hN : (N : Int) = IntKind.u64.wrap p2 % ((if 64 ≤ 16 * p then 64 else 16 * (p : Int)) + 1)) (hN64 : N ≤ 64) (hK : (K : Int) = IntKind.u64.wrap p1 % (16 * p - N + 1)) (hkn : K + N ≤ 16 * p)
    (hm3 : m3 = if l3 ≤ 16 * p then l3 else 16 * p) (hf : f = K / 16) (hLL : L = if 0 < N then (K + N + 15) / 16 else f) :
    Calls Try.prog 7 #[.int .i64 p0, .int .i64 p1, .int .i64 p2, .slice a3 l3 c3] w fun e w' => e = .returned (.bool true) ∧ Below w.heap.size w w' := by
  have ha := dm_u64 p0
  generalize hza : IntKind.u64.wrap p0 = z at *
  have hb := dm_u64 p1
  generalize hzb : IntKind.u64.wrap p1 = y1 at *
  have hc := dm_u64 p2
  generalize hzc : IntKind.u64.wrap p2 = y2 at *
  have hm3' : m3 ≤ 16 * p ∧ m3 ≤ l3 := by split at hm3 <;> omega
  have HP := Lib.hid hp
  have HNew := Lib.hid (memNew p w q0 q1)
  have HF0 := fine0 p q0 q1
  obtain ⟨bs, hbs⟩ : ∃ bs, bs = List.replicate (16 * p) (0 : Int) := ⟨_, rfl⟩
  have hl : bs.length = 16 * p := by rw [hbs]; simp
  rw [← hbs] at HNew HF0
  clear hbs
  have L3 : (xs3.take m3).length = m3 := by rw [List.length_take]; omega
  have HF1 := HF0.pok (k := 0) (xs := xs3.take m3) (by omega) (fun x hx => hb3 x (List.mem_of_mem_take hx))
  obtain ⟨bs3, hb3⟩ : ∃ bs3, bs3 = pok bs 0 (xs3.take m3) := ⟨_, rfl⟩
  have k3 : bs3.length = 16 * p := by rw [hb3, pok_len (by omega)]; exact hl
  have HPk := Lib.hid (fun w1 (b : Below w.heap.size w w1) (h : IsMem w1 (w.heap.size + 1) w.heap.size bs (List.replicate 16 0)) => memPoke _ _ _ _ 0 a3 c3 (xs3.take m3) w1 m3 L3.symm h (by omega) (by omega) (hx3.kept b (by omega)))
  rw [← hb3] at HPk HF1
  rw [← prs_start f] at HPk HF1 HNew
  have HF := Lib.hid (fun q => prs_fine HF1 f q)
  have HIn := Lib.hid (fun w1 => cpIn K N w1 (by omega) (by omega))
  have HPe := Lib.hid (fun q w1 (h : IsMem w1 (w.heap.size + 1) w.heap.size bs3 (prs f q)) => memPeek _ _ _ _ K N w1 h (by omega) (by omega))
  have HSL := Lib.hid (show (sub bs3 K N).length = N from sub_len (by omega))
  have HS := Lib.hid (fun w1 a b ca cb h1 h2 => refSame a b ca cb (sub bs3 K N) w1 N (sub_len (by omega)) (by omega) h1 h2)
  have hL1 : L ≤ 16 := by split at hLL <;> omega
  have hL2 : f ≤ L := by split at hLL <;> omega
  have HTw := Lib.hid (fun (w1 : World) (C q : Nat) (ws : Bool) (pg t : Int) (t0 : 0 ≤ t) (t1 : t ≤ 1000) (hq : f ≤ q) (hq2 : q < L) (h : Cpy w1 (w.heap.size + 1) w.heap.size C K N false ⟨false, ws, pg, t, []⟩) (i : IsMem w1 (w.heap.size + 1) w.heap.size bs3 (prs f q)) => by
    have r := cpTry _ _ C bs3 (prs f q) K N false true _ w1 h i (HF.out q) (by omega) (by omega) (by omega) (by simp) t0 t1
    rw [try_wait (by omega) (by omega) (by omega) (by omega) (by split at hLL <;> omega) (by split at hLL <;> omega)] at r
    exact r)
  have HTd := Lib.hid (fun (w1 : World) (C : Nat) (ws : Bool) (pg t : Int) (t0 : 0 ≤ t) (t1 : t ≤ 1000) (h : Cpy w1 (w.heap.size + 1) w.heap.size C K N false ⟨false, ws, pg, t, []⟩) (i : IsMem w1 (w.heap.size + 1) w.heap.size bs3 (prs f L)) => by
    have r := cpTry _ _ C bs3 (prs f L) K N false true _ w1 h i (HF.out L) (by omega) (by omega) (by omega) (by simp) t0 t1
    rw [show tryS bs3 (prs f L) K N false true ⟨false, ws, pg, t, []⟩ = (bs3, ⟨true, false, 0, t + 1, sub bs3 K N⟩, 0) from by
      by_cases h0 : 0 < N
      · rw [if_pos h0] at hLL; exact try_done (by omega) (by omega) (by omega) (by omega) _ _ _ _
      · exact try_none (by omega) (by omega) _ _ _ _] at r
    exact r)
  have HTo := Lib.hid (fun (w1 : World) (C : Nat) (t : Int) (t0 : 0 ≤ t) (t1 : t ≤ 1000) (h : Cpy w1 (w.heap.size + 1) w.heap.size C K N false ⟨true, false, 0, t, sub bs3 K N⟩) (i : IsMem w1 (w.heap.size + 1) w.heap.size bs3 (prs f L)) => by
    have r := cpTry _ _ C bs3 (prs f L) K N false true _ w1 h i (HF.out L) (by omega) (by omega) (by omega) (by simp) t0 t1
    rw [try_over] at r
    exact r)
  have HBy := Lib.hid (fun (w1 : World) (C : Nat) (t : Int) (h : Cpy w1 (w.heap.size + 1) w.heap.size C K N false ⟨true, false, 0, t, sub bs3 K N⟩) => cpBytes _ _ C K N false _ w1 h (by dsimp only; rw [HSL.out]; omega))
  have HTr := Lib.hid (fun (w1 : World) (C : Nat) (t : Int) (h : Cpy w1 (w.heap.size + 1) w.heap.size C K N false ⟨true, false, 0, t, sub bs3 K N⟩) => cpTries _ _ C K N false _ w1 h)
  have HPg := Lib.hid (fun (w1 : World) (C : Nat) (pg t : Int) (h : Cpy w1 (w.heap.size + 1) w.heap.size C K N false ⟨false, true, pg, t, []⟩) => cpPage _ _ C K N false _ w1 h)
  have HBr := Lib.hid (fun (q : Nat) (w1 : World) (hq : f ≤ q) (hq2 : q < L) (h : IsMem w1 (w.heap.size + 1) w.heap.size bs3 (prs f q)) => by
    have hqq : q < 16 := by omega
    have hlast : q * 16 + 16 ≤ 16 * p := by split at hLL <;> omega
    have r := memBring _ _ _ _ q w1 h (HF.out q) (by omega) (by unfold pageB; exact decide_eq_false (by omega)) hqq
    rw [prs_get _ _ _ hqq, if_neg (by omega), show turnE 0 0 = 0 from rfl, show turnS 0 0 = 1 from rfl, prs_next _ _ hq] at r
    exact r)
  clear hx3 HF0 HF1 hb3 L3
  have HK := Lib.hid hK
  have HNN := Lib.hid hN
  have HLL := Lib.hid hLL
  have HFF := Lib.hid hf
  have hks : (K : Int) / 16 = f := by omega
  clear hK hN hLL hf
  by_cases g4 : 64 ≤ 16 * p
  · have ht2 : y2 % 65 = N := by have := HNN.out; rw [if_pos (by omega)] at this; exact this.symm
    have ht1 : y1 % (16 * (p : Int) - N + 1) = K := HK.out.symm
    have hbd : 0 ≤ y2 % 65 ∧ y2 % 65 ≤ 64 := by rw [ht2]; omega
    have hbe : 0 ≤ y1 % (16 * (p : Int) - N + 1) ∧ y1 % (16 * (p : Int) - N + 1) ≤ 256 := by rw [ht1]; omega
    have hpp : 1 + z % 16 = (p : Int) := HP.out.symm
    have hbg : 0 ≤ y1 % (16 * (1 + z % 16) - y2 % 65 + 1) ∧ y1 % (16 * (1 + z % 16) - y2 % 65 + 1) ≤ 256 := by rw [hpp, ht2, ht1]; omega
    have hbh : 0 ≤ y1 % (16 * (1 + z % 16) - N + 1) ∧ y1 % (16 * (1 + z % 16) - N + 1) ≤ 256 := by rw [hpp, ht1]; omega
    by_cases g3 : l3 ≤ 16 * p
    · obtain rfl : m3 = l3 := by rw [if_pos g3] at hm3; exact hm3
      clear hm3 hm3' hp hb3 hl k3 hl3
      by_cases n0 : 0 < N
      · have hls : ((K : Int) + N + 15) / 16 = L := by have := HLL.out; rw [if_pos n0] at this; omega
        have dn : decide (0 < N) = true := decide_eq_true n0
        have dn2 : decide ((0 : Int) < (N : Int)) = true := decide_eq_true (by omega)
        go_enter Try.func7, Try.ntmps7
        go_wp2_with fail
        try rw [hpp]
        refine HNew.out.mono ?_
        rintro e w1 ⟨rfl, b1, m1⟩
        have B1 := Lib.hid b1
        have M1 := Lib.hid m1
        clear b1 m1
        go_wp2_with fail
        refine (HIn.out _).mono ?_
        rintro e w2 ⟨rfl, b2, i2⟩
        have B2 := Lib.hid (B1.out.trans (b2.mono B1.out.size))
        have M2 := Lib.hid (M1.out.kept b2 M1.out.ltM M1.out.ltD)
        have C2 := Lib.hid (Cpy.empty (M := w.heap.size + 1) (D := w.heap.size) i2 (Nat.ne_of_gt M1.out.ltM) (Nat.ne_of_gt M1.out.ltD))
        have hgC : w.heap.size ≤ w1.heap.size := B1.out.size
        clear b2 i2
        obtain ⟨C, hC⟩ : ∃ C, C = w1.heap.size := ⟨_, rfl⟩
        rw [← hC] at C2 hgC ⊢
        clear hC
        go_wp2_with fail
        refine (HPk.out _ B2.out M2.out).mono ?_
        rintro e w3 ⟨rfl, g3, i3⟩
        have B3 := Lib.hid (B2.out.grown g3 B2.out.size (fun k hk => by have h := Option.some.inj hk; omega))
        have M3 := Lib.hid i3
        have C3 := Lib.hid (C2.out.apart (.grownD g3))
        clear g3 i3
        go_wp2_with fail
        try rw [hks]
        try rw [hls]
        try rw [ht1]
        try rw [ht2]
        clear hks hls ht1 ht2 hbd hbe hbg hbh hpp
        go_loopw [15] (fun i wr => ∃ (q : Nat) (ws : Bool) (pg : Int), f ≤ q ∧ q ≤ L ∧ i = .int .i64 q ∧ Hid (Cpy wr (w.heap.size + 1) w.heap.size C K N false ⟨false, ws, pg, (q : Int) - f, []⟩) ∧ Hid (IsMem wr (w.heap.size + 1) w.heap.size bs3 (prs f q)) ∧ Hid (Below w.heap.size w wr)) (fun i _ => L - (intOf i).toNat)
        case atStart => exact ⟨f, false, 0, by omega, by omega, rfl, by rw [Int.sub_self]; exact C3, M3, B3⟩
        case round =>
          obtain ⟨q, ws, pg, hq1, hq2, rfl, HCp, HMm, HBw⟩ := hrel
          clear C3 M3 B3
          by_cases hlt : q < L
          · have HTw1 := Lib.hid (HTw.out wr C q ws pg ((q : Int) - f) (by omega) (by omega) hq1 hlt HCp.out HMm.out)
            go_wp2_with fail
            refine HTw1.out.mono ?_
            rintro e w4 ⟨rfl, a4, i4, c4⟩
            dsimp only at i4 c4 ⊢
            have B4 := Lib.hid (HBw.out.trans (a4.below (by omega) (by omega) hgC HBw.out.size))
            have M4 := Lib.hid i4
            have C4 := Lib.hid c4
            clear a4 i4 c4
            go_wp2_with fail
            refine (HPg.out _ _ _ _ C4.out).mono ?_
            rintro e w5 ⟨rfl, b5⟩
            have M5 := Lib.hid (M4.out.kept b5 M4.out.ltM M4.out.ltD)
            have C5 := Lib.hid (C4.out.apart (.of b5))
            have B5 := Lib.hid (B4.out.trans (b5.mono B4.out.size))
            clear b5
            dsimp only
            go_wp2_with fail
            refine (HBr.out q _ hq1 hlt M5.out).mono ?_
            rintro e w6 ⟨rfl, g6, i6⟩
            have M6 := Lib.hid i6
            have C6 := Lib.hid (C5.out.apart (.grownM g6))
            have B6 := Lib.hid (B5.out.grown g6 B5.out.size (fun k hk => by have h := Option.some.inj hk; omega))
            clear g6 i6
            go_wp2_with fail
            go_roundw
            case rel => exact ⟨q + 1, true, q, by omega, by omega, by go_num, by rw [show ((q + 1 : Nat) : Int) - f = (q : Int) - f + 1 from by omega]; exact C6, M6, B6⟩
            case measure => simp only [intOf]; omega
          · obtain rfl : q = L := by omega
            go_wp2_with fail
            refine (HPe.out _ _ HMm.out).mono ?_
            rintro e w4 ⟨v4, rfl, hv4⟩
            obtain ⟨a4, cap4, rfl, n4⟩ := hv4.news
            rw [HSL.out]
            have H4 := Lib.hid (n4.holdsX HMm.out.ltM HMm.out.ltD HCp.out.lt)
            have M4 := Lib.hid (HMm.out.kept hv4.2 HMm.out.ltM HMm.out.ltD)
            have C4 := Lib.hid (HCp.out.apart (.of hv4.2))
            have B4 := Lib.hid (HBw.out.trans (hv4.2.mono HBw.out.size))
            clear hv4 n4
            go_wp2_with fail
            refine (knownCopy _).mono ?_
            rintro e w5 ⟨rfl, b5⟩
            have H5 := Lib.hid (H4.out.apart (.of b5))
            have M5 := Lib.hid (M4.out.kept b5 M4.out.ltM M4.out.ltD)
            have C5 := Lib.hid (C4.out.apart (.of b5))
            have B5 := Lib.hid (B4.out.trans (b5.mono B4.out.size))
            clear b5
            go_wp2_with fail
            refine (HTd.out _ C _ _ _ (by omega) (by omega) C5.out M5.out).mono ?_
            rintro e w6 ⟨rfl, a6, i6, c6⟩
            dsimp only at i6 c6 ⊢
            have B6 := Lib.hid (B5.out.trans (a6.below (by omega) (by omega) hgC B5.out.size))
            have M6 := Lib.hid i6
            have C6 := Lib.hid c6
            have H6 := Lib.hid (H5.out.apart a6)
            clear a6 i6 c6
            go_wp2_with fail
            refine (HBy.out _ C _ C6.out).mono ?_
            rintro e w7 ⟨a7, cap7, rfl, n7, b7⟩
            dsimp only at n7 ⊢
            rw [HSL.out]
            have N7 := Lib.hid n7.holds
            have H7 := Lib.hid (H6.out.apart (.of b7)).holds
            have M7 := Lib.hid (M6.out.kept b7 M6.out.ltM M6.out.ltD)
            have C7 := Lib.hid (C6.out.apart (.of b7))
            have B7 := Lib.hid (B6.out.trans (b7.mono B6.out.size))
            clear n7 b7
            go_wp2_with fail
            refine (HS.out _ _ _ _ _ (by exact N7.out) (by exact H7.out)).mono ?_
            rintro e w8 ⟨rfl, b8⟩
            have M8 := Lib.hid (M7.out.kept b8 M7.out.ltM M7.out.ltD)
            have C8 := Lib.hid (C7.out.apart (.of b8))
            have B8 := Lib.hid (B7.out.trans (b8.mono B7.out.size))
            clear b8
            go_wp2_with fail
            refine (HTr.out _ C _ C8.out).mono ?_
            rintro e w' ⟨rfl, rfl⟩
            dsimp only
            go_wp2_with fail
            refine (HTo.out _ C _ (by omega) (by omega) C8.out M8.out).mono ?_
            rintro e w9 ⟨rfl, a9, i9, c9⟩
            have B9 := Lib.hid (B8.out.trans (a9.below (by omega) (by omega) hgC B8.out.size))
            clear a9 i9 c9
            dsimp only
            go_wp2_with fail
            go_ret
            exact ⟨rfl, B9.out⟩
      · obtain rfl : L = f := by have := HLL.out; rw [if_neg n0] at this; exact this
        have dn : decide (0 < N) = false := decide_eq_false n0
        have dn2 : decide ((0 : Int) < (N : Int)) = false := decide_eq_false (by omega)
        go_enter Try.func7, Try.ntmps7
        go_wp2_with fail
        try rw [hpp]
        refine HNew.out.mono ?_
        rintro e w1 ⟨rfl, b1, m1⟩
        have B1 := Lib.hid b1
        have M1 := Lib.hid m1
        clear b1 m1
        go_wp2_with fail
        refine (HIn.out _).mono ?_
        rintro e w2 ⟨rfl, b2, i2⟩
        have B2 := Lib.hid (B1.out.trans (b2.mono B1.out.size))
        have M2 := Lib.hid (M1.out.kept b2 M1.out.ltM M1.out.ltD)
        have C2 := Lib.hid (Cpy.empty (M := w.heap.size + 1) (D := w.heap.size) i2 (Nat.ne_of_gt M1.out.ltM) (Nat.ne_of_gt M1.out.ltD))
        have hgC : w.heap.size ≤ w1.heap.size := B1.out.size
        clear b2 i2
        obtain ⟨C, hC⟩ : ∃ C, C = w1.heap.size := ⟨_, rfl⟩
        rw [← hC] at C2 hgC ⊢
        clear hC
        go_wp2_with fail
        refine (HPk.out _ B2.out M2.out).mono ?_
        rintro e w3 ⟨rfl, g3, i3⟩
        have B3 := Lib.hid (B2.out.grown g3 B2.out.size (fun k hk => by have h := Option.some.inj hk; omega))
        have M3 := Lib.hid i3
        have C3 := Lib.hid (C2.out.apart (.grownD g3))
        clear g3 i3
        go_wp2_with fail
        try rw [hks]
        try rw [ht1]
        try rw [ht2]
        clear hks ht1 ht2 hbd hbe hbg hbh hpp
        go_loopw [15] (fun i wr => ∃ (q : Nat) (ws : Bool) (pg : Int), L ≤ q ∧ q ≤ L ∧ i = .int .i64 q ∧ Hid (Cpy wr (w.heap.size + 1) w.heap.size C K N false ⟨false, ws, pg, (q : Int) - L, []⟩) ∧ Hid (IsMem wr (w.heap.size + 1) w.heap.size bs3 (prs L q)) ∧ Hid (Below w.heap.size w wr)) (fun i _ => L - (intOf i).toNat)
        case atStart => exact ⟨L, false, 0, by omega, by omega, rfl, by rw [Int.sub_self]; exact C3, M3, B3⟩
        case round =>
          obtain ⟨q, ws, pg, hq1, hq2, rfl, HCp, HMm, HBw⟩ := hrel
          clear C3 M3 B3
          by_cases hlt : q < L
          · have HTw1 := Lib.hid (HTw.out wr C q ws pg ((q : Int) - L) (by omega) (by omega) hq1 hlt HCp.out HMm.out)
            go_wp2_with fail
            refine HTw1.out.mono ?_
            rintro e w4 ⟨rfl, a4, i4, c4⟩
            dsimp only at i4 c4 ⊢
            have B4 := Lib.hid (HBw.out.trans (a4.below (by omega) (by omega) hgC HBw.out.size))
            have M4 := Lib.hid i4
            have C4 := Lib.hid c4
            clear a4 i4 c4
            go_wp2_with fail
            refine (HPg.out _ _ _ _ C4.out).mono ?_
            rintro e w5 ⟨rfl, b5⟩
            have M5 := Lib.hid (M4.out.kept b5 M4.out.ltM M4.out.ltD)
            have C5 := Lib.hid (C4.out.apart (.of b5))
            have B5 := Lib.hid (B4.out.trans (b5.mono B4.out.size))
            clear b5
            dsimp only
            go_wp2_with fail
            refine (HBr.out q _ hq1 hlt M5.out).mono ?_
            rintro e w6 ⟨rfl, g6, i6⟩
            have M6 := Lib.hid i6
            have C6 := Lib.hid (C5.out.apart (.grownM g6))
            have B6 := Lib.hid (B5.out.grown g6 B5.out.size (fun k hk => by have h := Option.some.inj hk; omega))
            clear g6 i6
            go_wp2_with fail
            go_roundw
            case rel => exact ⟨q + 1, true, q, by omega, by omega, by go_num, by rw [show ((q + 1 : Nat) : Int) - L = (q : Int) - L + 1 from by omega]; exact C6, M6, B6⟩
            case measure => simp only [intOf]; omega
          · obtain rfl : q = L := by omega
            go_wp2_with fail
            refine (HPe.out _ _ HMm.out).mono ?_
            rintro e w4 ⟨v4, rfl, hv4⟩
            obtain ⟨a4, cap4, rfl, n4⟩ := hv4.news
            rw [HSL.out]
            have H4 := Lib.hid (n4.holdsX HMm.out.ltM HMm.out.ltD HCp.out.lt)
            have M4 := Lib.hid (HMm.out.kept hv4.2 HMm.out.ltM HMm.out.ltD)
            have C4 := Lib.hid (HCp.out.apart (.of hv4.2))
            have B4 := Lib.hid (HBw.out.trans (hv4.2.mono HBw.out.size))
            clear hv4 n4
            go_wp2_with fail
            refine (knownCopy _).mono ?_
            rintro e w5 ⟨rfl, b5⟩
            have H5 := Lib.hid (H4.out.apart (.of b5))
            have M5 := Lib.hid (M4.out.kept b5 M4.out.ltM M4.out.ltD)
            have C5 := Lib.hid (C4.out.apart (.of b5))
            have B5 := Lib.hid (B4.out.trans (b5.mono B4.out.size))
            clear b5
            go_wp2_with fail
            refine (HTd.out _ C _ _ _ (by omega) (by omega) C5.out M5.out).mono ?_
            rintro e w6 ⟨rfl, a6, i6, c6⟩
            dsimp only at i6 c6 ⊢
            have B6 := Lib.hid (B5.out.trans (a6.below (by omega) (by omega) hgC B5.out.size))
            have M6 := Lib.hid i6
            have C6 := Lib.hid c6
            have H6 := Lib.hid (H5.out.apart a6)
            clear a6 i6 c6
            go_wp2_with fail
            refine (HBy.out _ C _ C6.out).mono ?_
            rintro e w7 ⟨a7, cap7, rfl, n7, b7⟩
            dsimp only at n7 ⊢
            rw [HSL.out]
            have N7 := Lib.hid n7.holds
            have H7 := Lib.hid (H6.out.apart (.of b7)).holds
            have M7 := Lib.hid (M6.out.kept b7 M6.out.ltM M6.out.ltD)
            have C7 := Lib.hid (C6.out.apart (.of b7))
            have B7 := Lib.hid (B6.out.trans (b7.mono B6.out.size))
            clear n7 b7
            go_wp2_with fail
            refine (HS.out _ _ _ _ _ (by exact N7.out) (by exact H7.out)).mono ?_
            rintro e w8 ⟨rfl, b8⟩
            have M8 := Lib.hid (M7.out.kept b8 M7.out.ltM M7.out.ltD)
            have C8 := Lib.hid (C7.out.apart (.of b8))
            have B8 := Lib.hid (B7.out.trans (b8.mono B7.out.size))
            clear b8
            go_wp2_with fail
            refine (HTr.out _ C _ C8.out).mono ?_
            rintro e w' ⟨rfl, rfl⟩
            dsimp only
            go_wp2_with fail
            refine (HTo.out _ C _ (by omega) (by omega) C8.out M8.out).mono ?_
            rintro e w9 ⟨rfl, a9, i9, c9⟩
            have B9 := Lib.hid (B8.out.trans (a9.below (by omega) (by omega) hgC B8.out.size))
            clear a9 i9 c9
            dsimp only
            go_wp2_with fail
            go_ret
            exact ⟨rfl, B9.out⟩
    · obtain rfl : m3 = 16 * p := by rw [if_neg g3] at hm3; exact hm3
      clear hm3 hm3' hp hb3 hl k3 hl3
      by_cases n0 : 0 < N
      · have hls : ((K : Int) + N + 15) / 16 = L := by have := HLL.out; rw [if_pos n0] at this; omega
        have dn : decide (0 < N) = true := decide_eq_true n0
        have dn2 : decide ((0 : Int) < (N : Int)) = true := decide_eq_true (by omega)
        go_enter Try.func7, Try.ntmps7
        go_wp2_with fail
        try rw [hpp]
        refine HNew.out.mono ?_
        rintro e w1 ⟨rfl, b1, m1⟩
        have B1 := Lib.hid b1
        have M1 := Lib.hid m1
        clear b1 m1
        go_wp2_with fail
        refine (HIn.out _).mono ?_
        rintro e w2 ⟨rfl, b2, i2⟩
        have B2 := Lib.hid (B1.out.trans (b2.mono B1.out.size))
        have M2 := Lib.hid (M1.out.kept b2 M1.out.ltM M1.out.ltD)
        have C2 := Lib.hid (Cpy.empty (M := w.heap.size + 1) (D := w.heap.size) i2 (Nat.ne_of_gt M1.out.ltM) (Nat.ne_of_gt M1.out.ltD))
        have hgC : w.heap.size ≤ w1.heap.size := B1.out.size
        clear b2 i2
        obtain ⟨C, hC⟩ : ∃ C, C = w1.heap.size := ⟨_, rfl⟩
        rw [← hC] at C2 hgC ⊢
        clear hC
        go_wp2_with fail
        refine (HPk.out _ B2.out M2.out).mono ?_
        rintro e w3 ⟨rfl, g3, i3⟩
        have B3 := Lib.hid (B2.out.grown g3 B2.out.size (fun k hk => by have h := Option.some.inj hk; omega))
        have M3 := Lib.hid i3
        have C3 := Lib.hid (C2.out.apart (.grownD g3))
        clear g3 i3
        go_wp2_with fail
        try rw [hks]
        try rw [hls]
        try rw [ht1]
        try rw [ht2]
        clear hks hls ht1 ht2 hbd hbe hbg hbh hpp
        go_loopw [15] (fun i wr => ∃ (q : Nat) (ws : Bool) (pg : Int), f ≤ q ∧ q ≤ L ∧ i = .int .i64 q ∧ Hid (Cpy wr (w.heap.size + 1) w.heap.size C K N false ⟨false, ws, pg, (q : Int) - f, []⟩) ∧ Hid (IsMem wr (w.heap.size + 1) w.heap.size bs3 (prs f q)) ∧ Hid (Below w.heap.size w wr)) (fun i _ => L - (intOf i).toNat)
        case atStart => exact ⟨f, false, 0, by omega, by omega, rfl, by rw [Int.sub_self]; exact C3, M3, B3⟩
        case round =>
          obtain ⟨q, ws, pg, hq1, hq2, rfl, HCp, HMm, HBw⟩ := hrel
          clear C3 M3 B3
          by_cases hlt : q < L
          · have HTw1 := Lib.hid (HTw.out wr C q ws pg ((q : Int) - f) (by omega) (by omega) hq1 hlt HCp.out HMm.out)
            go_wp2_with fail
            refine HTw1.out.mono ?_
            rintro e w4 ⟨rfl, a4, i4, c4⟩
            dsimp only at i4 c4 ⊢
            have B4 := Lib.hid (HBw.out.trans (a4.below (by omega) (by omega) hgC HBw.out.size))
            have M4 := Lib.hid i4
            have C4 := Lib.hid c4
            clear a4 i4 c4
            go_wp2_with fail
            refine (HPg.out _ _ _ _ C4.out).mono ?_
            rintro e w5 ⟨rfl, b5⟩
            have M5 := Lib.hid (M4.out.kept b5 M4.out.ltM M4.out.ltD)
            have C5 := Lib.hid (C4.out.apart (.of b5))
            have B5 := Lib.hid (B4.out.trans (b5.mono B4.out.size))
            clear b5
            dsimp only
            go_wp2_with fail
            refine (HBr.out q _ hq1 hlt M5.out).mono ?_
            rintro e w6 ⟨rfl, g6, i6⟩
            have M6 := Lib.hid i6
            have C6 := Lib.hid (C5.out.apart (.grownM g6))
            have B6 := Lib.hid (B5.out.grown g6 B5.out.size (fun k hk => by have h := Option.some.inj hk; omega))
            clear g6 i6
            go_wp2_with fail
            go_roundw
            case rel => exact ⟨q + 1, true, q, by omega, by omega, by go_num, by rw [show ((q + 1 : Nat) : Int) - f = (q : Int) - f + 1 from by omega]; exact C6, M6, B6⟩
            case measure => simp only [intOf]; omega
          · obtain rfl : q = L := by omega
            go_wp2_with fail
            refine (HPe.out _ _ HMm.out).mono ?_
            rintro e w4 ⟨v4, rfl, hv4⟩
            obtain ⟨a4, cap4, rfl, n4⟩ := hv4.news
            rw [HSL.out]
            have H4 := Lib.hid (n4.holdsX HMm.out.ltM HMm.out.ltD HCp.out.lt)
            have M4 := Lib.hid (HMm.out.kept hv4.2 HMm.out.ltM HMm.out.ltD)
            have C4 := Lib.hid (HCp.out.apart (.of hv4.2))
            have B4 := Lib.hid (HBw.out.trans (hv4.2.mono HBw.out.size))
            clear hv4 n4
            go_wp2_with fail
            refine (knownCopy _).mono ?_
            rintro e w5 ⟨rfl, b5⟩
            have H5 := Lib.hid (H4.out.apart (.of b5))
            have M5 := Lib.hid (M4.out.kept b5 M4.out.ltM M4.out.ltD)
            have C5 := Lib.hid (C4.out.apart (.of b5))
            have B5 := Lib.hid (B4.out.trans (b5.mono B4.out.size))
            clear b5
            go_wp2_with fail
            refine (HTd.out _ C _ _ _ (by omega) (by omega) C5.out M5.out).mono ?_
            rintro e w6 ⟨rfl, a6, i6, c6⟩
            dsimp only at i6 c6 ⊢
            have B6 := Lib.hid (B5.out.trans (a6.below (by omega) (by omega) hgC B5.out.size))
            have M6 := Lib.hid i6
            have C6 := Lib.hid c6
            have H6 := Lib.hid (H5.out.apart a6)
            clear a6 i6 c6
            go_wp2_with fail
            refine (HBy.out _ C _ C6.out).mono ?_
            rintro e w7 ⟨a7, cap7, rfl, n7, b7⟩
            dsimp only at n7 ⊢
            rw [HSL.out]
            have N7 := Lib.hid n7.holds
            have H7 := Lib.hid (H6.out.apart (.of b7)).holds
            have M7 := Lib.hid (M6.out.kept b7 M6.out.ltM M6.out.ltD)
            have C7 := Lib.hid (C6.out.apart (.of b7))
            have B7 := Lib.hid (B6.out.trans (b7.mono B6.out.size))
            clear n7 b7
            go_wp2_with fail
            refine (HS.out _ _ _ _ _ (by exact N7.out) (by exact H7.out)).mono ?_
            rintro e w8 ⟨rfl, b8⟩
            have M8 := Lib.hid (M7.out.kept b8 M7.out.ltM M7.out.ltD)
            have C8 := Lib.hid (C7.out.apart (.of b8))
            have B8 := Lib.hid (B7.out.trans (b8.mono B7.out.size))
            clear b8
            go_wp2_with fail
            refine (HTr.out _ C _ C8.out).mono ?_
            rintro e w' ⟨rfl, rfl⟩
            dsimp only
            go_wp2_with fail
            refine (HTo.out _ C _ (by omega) (by omega) C8.out M8.out).mono ?_
            rintro e w9 ⟨rfl, a9, i9, c9⟩
            have B9 := Lib.hid (B8.out.trans (a9.below (by omega) (by omega) hgC B8.out.size))
            clear a9 i9 c9
            dsimp only
            go_wp2_with fail
            go_ret
            exact ⟨rfl, B9.out⟩
      · obtain rfl : L = f := by have := HLL.out; rw [if_neg n0] at this; exact this
        have dn : decide (0 < N) = false := decide_eq_false n0
        have dn2 : decide ((0 : Int) < (N : Int)) = false := decide_eq_false (by omega)
        go_enter Try.func7, Try.ntmps7
        go_wp2_with fail
        try rw [hpp]
        refine HNew.out.mono ?_
        rintro e w1 ⟨rfl, b1, m1⟩
        have B1 := Lib.hid b1
        have M1 := Lib.hid m1
        clear b1 m1
        go_wp2_with fail
        refine (HIn.out _).mono ?_
        rintro e w2 ⟨rfl, b2, i2⟩
        have B2 := Lib.hid (B1.out.trans (b2.mono B1.out.size))
        have M2 := Lib.hid (M1.out.kept b2 M1.out.ltM M1.out.ltD)
        have C2 := Lib.hid (Cpy.empty (M := w.heap.size + 1) (D := w.heap.size) i2 (Nat.ne_of_gt M1.out.ltM) (Nat.ne_of_gt M1.out.ltD))
        have hgC : w.heap.size ≤ w1.heap.size := B1.out.size
        clear b2 i2
        obtain ⟨C, hC⟩ : ∃ C, C = w1.heap.size := ⟨_, rfl⟩
        rw [← hC] at C2 hgC ⊢
        clear hC
        go_wp2_with fail
        refine (HPk.out _ B2.out M2.out).mono ?_
        rintro e w3 ⟨rfl, g3, i3⟩
        have B3 := Lib.hid (B2.out.grown g3 B2.out.size (fun k hk => by have h := Option.some.inj hk; omega))
        have M3 := Lib.hid i3
        have C3 := Lib.hid (C2.out.apart (.grownD g3))
        clear g3 i3
        go_wp2_with fail
        try rw [hks]
        try rw [ht1]
        try rw [ht2]
        clear hks ht1 ht2 hbd hbe hbg hbh hpp
        go_loopw [15] (fun i wr => ∃ (q : Nat) (ws : Bool) (pg : Int), L ≤ q ∧ q ≤ L ∧ i = .int .i64 q ∧ Hid (Cpy wr (w.heap.size + 1) w.heap.size C K N false ⟨false, ws, pg, (q : Int) - L, []⟩) ∧ Hid (IsMem wr (w.heap.size + 1) w.heap.size bs3 (prs L q)) ∧ Hid (Below w.heap.size w wr)) (fun i _ => L - (intOf i).toNat)
        case atStart => exact ⟨L, false, 0, by omega, by omega, rfl, by rw [Int.sub_self]; exact C3, M3, B3⟩
        case round =>
          obtain ⟨q, ws, pg, hq1, hq2, rfl, HCp, HMm, HBw⟩ := hrel
          clear C3 M3 B3
          by_cases hlt : q < L
          · have HTw1 := Lib.hid (HTw.out wr C q ws pg ((q : Int) - L) (by omega) (by omega) hq1 hlt HCp.out HMm.out)
            go_wp2_with fail
            refine HTw1.out.mono ?_
            rintro e w4 ⟨rfl, a4, i4, c4⟩
            dsimp only at i4 c4 ⊢
            have B4 := Lib.hid (HBw.out.trans (a4.below (by omega) (by omega) hgC HBw.out.size))
            have M4 := Lib.hid i4
            have C4 := Lib.hid c4
            clear a4 i4 c4
            go_wp2_with fail
            refine (HPg.out _ _ _ _ C4.out).mono ?_
            rintro e w5 ⟨rfl, b5⟩
            have M5 := Lib.hid (M4.out.kept b5 M4.out.ltM M4.out.ltD)
            have C5 := Lib.hid (C4.out.apart (.of b5))
            have B5 := Lib.hid (B4.out.trans (b5.mono B4.out.size))
            clear b5
            dsimp only
            go_wp2_with fail
            refine (HBr.out q _ hq1 hlt M5.out).mono ?_
            rintro e w6 ⟨rfl, g6, i6⟩
            have M6 := Lib.hid i6
            have C6 := Lib.hid (C5.out.apart (.grownM g6))
            have B6 := Lib.hid (B5.out.grown g6 B5.out.size (fun k hk => by have h := Option.some.inj hk; omega))
            clear g6 i6
            go_wp2_with fail
            go_roundw
            case rel => exact ⟨q + 1, true, q, by omega, by omega, by go_num, by rw [show ((q + 1 : Nat) : Int) - L = (q : Int) - L + 1 from by omega]; exact C6, M6, B6⟩
            case measure => simp only [intOf]; omega
          · obtain rfl : q = L := by omega
            go_wp2_with fail
            refine (HPe.out _ _ HMm.out).mono ?_
            rintro e w4 ⟨v4, rfl, hv4⟩
            obtain ⟨a4, cap4, rfl, n4⟩ := hv4.news
            rw [HSL.out]
            have H4 := Lib.hid (n4.holdsX HMm.out.ltM HMm.out.ltD HCp.out.lt)
            have M4 := Lib.hid (HMm.out.kept hv4.2 HMm.out.ltM HMm.out.ltD)
            have C4 := Lib.hid (HCp.out.apart (.of hv4.2))
            have B4 := Lib.hid (HBw.out.trans (hv4.2.mono HBw.out.size))
            clear hv4 n4
            go_wp2_with fail
            refine (knownCopy _).mono ?_
            rintro e w5 ⟨rfl, b5⟩
            have H5 := Lib.hid (H4.out.apart (.of b5))
            have M5 := Lib.hid (M4.out.kept b5 M4.out.ltM M4.out.ltD)
            have C5 := Lib.hid (C4.out.apart (.of b5))
            have B5 := Lib.hid (B4.out.trans (b5.mono B4.out.size))
            clear b5
            go_wp2_with fail
            refine (HTd.out _ C _ _ _ (by omega) (by omega) C5.out M5.out).mono ?_
            rintro e w6 ⟨rfl, a6, i6, c6⟩
            dsimp only at i6 c6 ⊢
            have B6 := Lib.hid (B5.out.trans (a6.below (by omega) (by omega) hgC B5.out.size))
            have M6 := Lib.hid i6
            have C6 := Lib.hid c6
            have H6 := Lib.hid (H5.out.apart a6)
            clear a6 i6 c6
            go_wp2_with fail
            refine (HBy.out _ C _ C6.out).mono ?_
            rintro e w7 ⟨a7, cap7, rfl, n7, b7⟩
            dsimp only at n7 ⊢
            rw [HSL.out]
            have N7 := Lib.hid n7.holds
            have H7 := Lib.hid (H6.out.apart (.of b7)).holds
            have M7 := Lib.hid (M6.out.kept b7 M6.out.ltM M6.out.ltD)
            have C7 := Lib.hid (C6.out.apart (.of b7))
            have B7 := Lib.hid (B6.out.trans (b7.mono B6.out.size))
            clear n7 b7
            go_wp2_with fail
            refine (HS.out _ _ _ _ _ (by exact N7.out) (by exact H7.out)).mono ?_
            rintro e w8 ⟨rfl, b8⟩
            have M8 := Lib.hid (M7.out.kept b8 M7.out.ltM M7.out.ltD)
            have C8 := Lib.hid (C7.out.apart (.of b8))
            have B8 := Lib.hid (B7.out.trans (b8.mono B7.out.size))
            clear b8
            go_wp2_with fail
            refine (HTr.out _ C _ C8.out).mono ?_
            rintro e w' ⟨rfl, rfl⟩
            dsimp only
            go_wp2_with fail
            refine (HTo.out _ C _ (by omega) (by omega) C8.out M8.out).mono ?_
            rintro e w9 ⟨rfl, a9, i9, c9⟩
            have B9 := Lib.hid (B8.out.trans (a9.below (by omega) (by omega) hgC B8.out.size))
            clear a9 i9 c9
            dsimp only
            go_wp2_with fail
            go_ret
            exact ⟨rfl, B9.out⟩
  · have ht2 : y2 % (16 * (p : Int) + 1) = N := by have := HNN.out; rw [show (if 64 ≤ 16 * p then (64 : Int) else 16 * (p : Int)) = 16 * p from by split <;> omega] at this; exact this.symm
    have ht1 : y1 % (16 * (p : Int) - N + 1) = K := HK.out.symm
    have hbd : 0 ≤ y2 % (16 * (p : Int) + 1) ∧ y2 % (16 * (p : Int) + 1) ≤ 64 := by rw [ht2]; omega
    have hbe : 0 ≤ y1 % (16 * (p : Int) - N + 1) ∧ y1 % (16 * (p : Int) - N + 1) ≤ 256 := by rw [ht1]; omega
    have hpp : 1 + z % 16 = (p : Int) := HP.out.symm
    have hbf : 0 ≤ y2 % (16 * (1 + z % 16) + 1) ∧ y2 % (16 * (1 + z % 16) + 1) ≤ 64 := by rw [hpp, ht2]; omega
    have hbg : 0 ≤ y1 % (16 * (1 + z % 16) - y2 % (16 * (1 + z % 16) + 1) + 1) ∧ y1 % (16 * (1 + z % 16) - y2 % (16 * (1 + z % 16) + 1) + 1) ≤ 256 := by rw [hpp, ht2, ht1]; omega
    have hbh : 0 ≤ y1 % (16 * (1 + z % 16) - N + 1) ∧ y1 % (16 * (1 + z % 16) - N + 1) ≤ 256 := by rw [hpp, ht1]; omega
    by_cases g3 : l3 ≤ 16 * p
    · obtain rfl : m3 = l3 := by rw [if_pos g3] at hm3; exact hm3
      clear hm3 hm3' hp hb3 hl k3 hl3
      by_cases n0 : 0 < N
      · have hls : ((K : Int) + N + 15) / 16 = L := by have := HLL.out; rw [if_pos n0] at this; omega
        have dn : decide (0 < N) = true := decide_eq_true n0
        have dn2 : decide ((0 : Int) < (N : Int)) = true := decide_eq_true (by omega)
        go_enter Try.func7, Try.ntmps7
        go_wp2_with fail
        try rw [hpp]
        refine HNew.out.mono ?_
        rintro e w1 ⟨rfl, b1, m1⟩
        have B1 := Lib.hid b1
        have M1 := Lib.hid m1
        clear b1 m1
        go_wp2_with fail
        refine (HIn.out _).mono ?_
        rintro e w2 ⟨rfl, b2, i2⟩
        have B2 := Lib.hid (B1.out.trans (b2.mono B1.out.size))
        have M2 := Lib.hid (M1.out.kept b2 M1.out.ltM M1.out.ltD)
        have C2 := Lib.hid (Cpy.empty (M := w.heap.size + 1) (D := w.heap.size) i2 (Nat.ne_of_gt M1.out.ltM) (Nat.ne_of_gt M1.out.ltD))
        have hgC : w.heap.size ≤ w1.heap.size := B1.out.size
        clear b2 i2
        obtain ⟨C, hC⟩ : ∃ C, C = w1.heap.size := ⟨_, rfl⟩
        rw [← hC] at C2 hgC ⊢
        clear hC
        go_wp2_with fail
        refine (HPk.out _ B2.out M2.out).mono ?_
        rintro e w3 ⟨rfl, g3, i3⟩
        have B3 := Lib.hid (B2.out.grown g3 B2.out.size (fun k hk => by have h := Option.some.inj hk; omega))
        have M3 := Lib.hid i3
        have C3 := Lib.hid (C2.out.apart (.grownD g3))
        clear g3 i3
        go_wp2_with fail
        try rw [hks]
        try rw [hls]
        try rw [ht1]
        try rw [ht2]
        clear hks hls ht1 ht2 hbd hbe hbg hbh hpp
        go_loopw [15] (fun i wr => ∃ (q : Nat) (ws : Bool) (pg : Int), f ≤ q ∧ q ≤ L ∧ i = .int .i64 q ∧ Hid (Cpy wr (w.heap.size + 1) w.heap.size C K N false ⟨false, ws, pg, (q : Int) - f, []⟩) ∧ Hid (IsMem wr (w.heap.size + 1) w.heap.size bs3 (prs f q)) ∧ Hid (Below w.heap.size w wr)) (fun i _ => L - (intOf i).toNat)
        case atStart => exact ⟨f, false, 0, by omega, by omega, rfl, by rw [Int.sub_self]; exact C3, M3, B3⟩
        case round =>
          obtain ⟨q, ws, pg, hq1, hq2, rfl, HCp, HMm, HBw⟩ := hrel
          clear C3 M3 B3
          by_cases hlt : q < L
          · have HTw1 := Lib.hid (HTw.out wr C q ws pg ((q : Int) - f) (by omega) (by omega) hq1 hlt HCp.out HMm.out)
            go_wp2_with fail
            refine HTw1.out.mono ?_
            rintro e w4 ⟨rfl, a4, i4, c4⟩
            dsimp only at i4 c4 ⊢
            have B4 := Lib.hid (HBw.out.trans (a4.below (by omega) (by omega) hgC HBw.out.size))
            have M4 := Lib.hid i4
            have C4 := Lib.hid c4
            clear a4 i4 c4
            go_wp2_with fail
            refine (HPg.out _ _ _ _ C4.out).mono ?_
            rintro e w5 ⟨rfl, b5⟩
            have M5 := Lib.hid (M4.out.kept b5 M4.out.ltM M4.out.ltD)
            have C5 := Lib.hid (C4.out.apart (.of b5))
            have B5 := Lib.hid (B4.out.trans (b5.mono B4.out.size))
            clear b5
            dsimp only
            go_wp2_with fail
            refine (HBr.out q _ hq1 hlt M5.out).mono ?_
            rintro e w6 ⟨rfl, g6, i6⟩
            have M6 := Lib.hid i6
            have C6 := Lib.hid (C5.out.apart (.grownM g6))
            have B6 := Lib.hid (B5.out.grown g6 B5.out.size (fun k hk => by have h := Option.some.inj hk; omega))
            clear g6 i6
            go_wp2_with fail
            go_roundw
            case rel => exact ⟨q + 1, true, q, by omega, by omega, by go_num, by rw [show ((q + 1 : Nat) : Int) - f = (q : Int) - f + 1 from by omega]; exact C6, M6, B6⟩
            case measure => simp only [intOf]; omega
          · obtain rfl : q = L := by omega
            go_wp2_with fail
            refine (HPe.out _ _ HMm.out).mono ?_
            rintro e w4 ⟨v4, rfl, hv4⟩
            obtain ⟨a4, cap4, rfl, n4⟩ := hv4.news
            rw [HSL.out]
            have H4 := Lib.hid (n4.holdsX HMm.out.ltM HMm.out.ltD HCp.out.lt)
            have M4 := Lib.hid (HMm.out.kept hv4.2 HMm.out.ltM HMm.out.ltD)
            have C4 := Lib.hid (HCp.out.apart (.of hv4.2))
            have B4 := Lib.hid (HBw.out.trans (hv4.2.mono HBw.out.size))
            clear hv4 n4
            go_wp2_with fail
            refine (knownCopy _).mono ?_
            rintro e w5 ⟨rfl, b5⟩
            have H5 := Lib.hid (H4.out.apart (.of b5))
            have M5 := Lib.hid (M4.out.kept b5 M4.out.ltM M4.out.ltD)
            have C5 := Lib.hid (C4.out.apart (.of b5))
            have B5 := Lib.hid (B4.out.trans (b5.mono B4.out.size))
            clear b5
            go_wp2_with fail
            refine (HTd.out _ C _ _ _ (by omega) (by omega) C5.out M5.out).mono ?_
            rintro e w6 ⟨rfl, a6, i6, c6⟩
            dsimp only at i6 c6 ⊢
            have B6 := Lib.hid (B5.out.trans (a6.below (by omega) (by omega) hgC B5.out.size))
            have M6 := Lib.hid i6
            have C6 := Lib.hid c6
            have H6 := Lib.hid (H5.out.apart a6)
            clear a6 i6 c6
            go_wp2_with fail
            refine (HBy.out _ C _ C6.out).mono ?_
            rintro e w7 ⟨a7, cap7, rfl, n7, b7⟩
            dsimp only at n7 ⊢
            rw [HSL.out]
            have N7 := Lib.hid n7.holds
            have H7 := Lib.hid (H6.out.apart (.of b7)).holds
            have M7 := Lib.hid (M6.out.kept b7 M6.out.ltM M6.out.ltD)
            have C7 := Lib.hid (C6.out.apart (.of b7))
            have B7 := Lib.hid (B6.out.trans (b7.mono B6.out.size))
            clear n7 b7
            go_wp2_with fail
            refine (HS.out _ _ _ _ _ (by exact N7.out) (by exact H7.out)).mono ?_
            rintro e w8 ⟨rfl, b8⟩
            have M8 := Lib.hid (M7.out.kept b8 M7.out.ltM M7.out.ltD)
            have C8 := Lib.hid (C7.out.apart (.of b8))
            have B8 := Lib.hid (B7.out.trans (b8.mono B7.out.size))
            clear b8
            go_wp2_with fail
            refine (HTr.out _ C _ C8.out).mono ?_
            rintro e w' ⟨rfl, rfl⟩
            dsimp only
            go_wp2_with fail
            refine (HTo.out _ C _ (by omega) (by omega) C8.out M8.out).mono ?_
            rintro e w9 ⟨rfl, a9, i9, c9⟩
            have B9 := Lib.hid (B8.out.trans (a9.below (by omega) (by omega) hgC B8.out.size))
            clear a9 i9 c9
            dsimp only
            go_wp2_with fail
            go_ret
            exact ⟨rfl, B9.out⟩
      · obtain rfl : L = f := by have := HLL.out; rw [if_neg n0] at this; exact this
        have dn : decide (0 < N) = false := decide_eq_false n0
        have dn2 : decide ((0 : Int) < (N : Int)) = false := decide_eq_false (by omega)
        go_enter Try.func7, Try.ntmps7
        go_wp2_with fail
        try rw [hpp]
        refine HNew.out.mono ?_
        rintro e w1 ⟨rfl, b1, m1⟩
        have B1 := Lib.hid b1
        have M1 := Lib.hid m1
        clear b1 m1
        go_wp2_with fail
        refine (HIn.out _).mono ?_
        rintro e w2 ⟨rfl, b2, i2⟩
        have B2 := Lib.hid (B1.out.trans (b2.mono B1.out.size))
        have M2 := Lib.hid (M1.out.kept b2 M1.out.ltM M1.out.ltD)
        have C2 := Lib.hid (Cpy.empty (M := w.heap.size + 1) (D := w.heap.size) i2 (Nat.ne_of_gt M1.out.ltM) (Nat.ne_of_gt M1.out.ltD))
        have hgC : w.heap.size ≤ w1.heap.size := B1.out.size
        clear b2 i2
        obtain ⟨C, hC⟩ : ∃ C, C = w1.heap.size := ⟨_, rfl⟩
        rw [← hC] at C2 hgC ⊢
        clear hC
        go_wp2_with fail
        refine (HPk.out _ B2.out M2.out).mono ?_
        rintro e w3 ⟨rfl, g3, i3⟩
        have B3 := Lib.hid (B2.out.grown g3 B2.out.size (fun k hk => by have h := Option.some.inj hk; omega))
        have M3 := Lib.hid i3
        have C3 := Lib.hid (C2.out.apart (.grownD g3))
        clear g3 i3
        go_wp2_with fail
        try rw [hks]
        try rw [ht1]
        try rw [ht2]
        clear hks ht1 ht2 hbd hbe hbg hbh hpp
        go_loopw [15] (fun i wr => ∃ (q : Nat) (ws : Bool) (pg : Int), L ≤ q ∧ q ≤ L ∧ i = .int .i64 q ∧ Hid (Cpy wr (w.heap.size + 1) w.heap.size C K N false ⟨false, ws, pg, (q : Int) - L, []⟩) ∧ Hid (IsMem wr (w.heap.size + 1) w.heap.size bs3 (prs L q)) ∧ Hid (Below w.heap.size w wr)) (fun i _ => L - (intOf i).toNat)
        case atStart => exact ⟨L, false, 0, by omega, by omega, rfl, by rw [Int.sub_self]; exact C3, M3, B3⟩
        case round =>
          obtain ⟨q, ws, pg, hq1, hq2, rfl, HCp, HMm, HBw⟩ := hrel
          clear C3 M3 B3
          by_cases hlt : q < L
          · have HTw1 := Lib.hid (HTw.out wr C q ws pg ((q : Int) - L) (by omega) (by omega) hq1 hlt HCp.out HMm.out)
            go_wp2_with fail
            refine HTw1.out.mono ?_
            rintro e w4 ⟨rfl, a4, i4, c4⟩
            dsimp only at i4 c4 ⊢
            have B4 := Lib.hid (HBw.out.trans (a4.below (by omega) (by omega) hgC HBw.out.size))
            have M4 := Lib.hid i4
            have C4 := Lib.hid c4
            clear a4 i4 c4
            go_wp2_with fail
            refine (HPg.out _ _ _ _ C4.out).mono ?_
            rintro e w5 ⟨rfl, b5⟩
            have M5 := Lib.hid (M4.out.kept b5 M4.out.ltM M4.out.ltD)
            have C5 := Lib.hid (C4.out.apart (.of b5))
            have B5 := Lib.hid (B4.out.trans (b5.mono B4.out.size))
            clear b5
            dsimp only
            go_wp2_with fail
            refine (HBr.out q _ hq1 hlt M5.out).mono ?_
            rintro e w6 ⟨rfl, g6, i6⟩
            have M6 := Lib.hid i6
            have C6 := Lib.hid (C5.out.apart (.grownM g6))
            have B6 := Lib.hid (B5.out.grown g6 B5.out.size (fun k hk => by have h := Option.some.inj hk; omega))
            clear g6 i6
            go_wp2_with fail
            go_roundw
            case rel => exact ⟨q + 1, true, q, by omega, by omega, by go_num, by rw [show ((q + 1 : Nat) : Int) - L = (q : Int) - L + 1 from by omega]; exact C6, M6, B6⟩
            case measure => simp only [intOf]; omega
          · obtain rfl : q = L := by omega
            go_wp2_with fail
            refine (HPe.out _ _ HMm.out).mono ?_
            rintro e w4 ⟨v4, rfl, hv4⟩
            obtain ⟨a4, cap4, rfl, n4⟩ := hv4.news
            rw [HSL.out]
            have H4 := Lib.hid (n4.holdsX HMm.out.ltM HMm.out.ltD HCp.out.lt)
            have M4 := Lib.hid (HMm.out.kept hv4.2 HMm.out.ltM HMm.out.ltD)
            have C4 := Lib.hid (HCp.out.apart (.of hv4.2))
            have B4 := Lib.hid (HBw.out.trans (hv4.2.mono HBw.out.size))
            clear hv4 n4
            go_wp2_with fail
            refine (knownCopy _).mono ?_
            rintro e w5 ⟨rfl, b5⟩
            have H5 := Lib.hid (H4.out.apart (.of b5))
            have M5 := Lib.hid (M4.out.kept b5 M4.out.ltM M4.out.ltD)
            have C5 := Lib.hid (C4.out.apart (.of b5))
            have B5 := Lib.hid (B4.out.trans (b5.mono B4.out.size))
            clear b5
            go_wp2_with fail
            refine (HTd.out _ C _ _ _ (by omega) (by omega) C5.out M5.out).mono ?_
            rintro e w6 ⟨rfl, a6, i6, c6⟩
            dsimp only at i6 c6 ⊢
            have B6 := Lib.hid (B5.out.trans (a6.below (by omega) (by omega) hgC B5.out.size))
            have M6 := Lib.hid i6
            have C6 := Lib.hid c6
            have H6 := Lib.hid (H5.out.apart a6)
            clear a6 i6 c6
            go_wp2_with fail
            refine (HBy.out _ C _ C6.out).mono ?_
            rintro e w7 ⟨a7, cap7, rfl, n7, b7⟩
            dsimp only at n7 ⊢
            rw [HSL.out]
            have N7 := Lib.hid n7.holds
            have H7 := Lib.hid (H6.out.apart (.of b7)).holds
            have M7 := Lib.hid (M6.out.kept b7 M6.out.ltM M6.out.ltD)
            have C7 := Lib.hid (C6.out.apart (.of b7))
            have B7 := Lib.hid (B6.out.trans (b7.mono B6.out.size))
            clear n7 b7
            go_wp2_with fail
            refine (HS.out _ _ _ _ _ (by exact N7.out) (by exact H7.out)).mono ?_
            rintro e w8 ⟨rfl, b8⟩
            have M8 := Lib.hid (M7.out.kept b8 M7.out.ltM M7.out.ltD)
            have C8 := Lib.hid (C7.out.apart (.of b8))
            have B8 := Lib.hid (B7.out.trans (b8.mono B7.out.size))
            clear b8
            go_wp2_with fail
            refine (HTr.out _ C _ C8.out).mono ?_
            rintro e w' ⟨rfl, rfl⟩
            dsimp only
            go_wp2_with fail
            refine (HTo.out _ C _ (by omega) (by omega) C8.out M8.out).mono ?_
            rintro e w9 ⟨rfl, a9, i9, c9⟩
            have B9 := Lib.hid (B8.out.trans (a9.below (by omega) (by omega) hgC B8.out.size))
            clear a9 i9 c9
            dsimp only
            go_wp2_with fail
            go_ret
            exact ⟨rfl, B9.out⟩
    · obtain rfl : m3 = 16 * p := by rw [if_neg g3] at hm3; exact hm3
      clear hm3 hm3' hp hb3 hl k3 hl3
      by_cases n0 : 0 < N
      · have hls : ((K : Int) + N + 15) / 16 = L := by have := HLL.out; rw [if_pos n0] at this; omega
        have dn : decide (0 < N) = true := decide_eq_true n0
        have dn2 : decide ((0 : Int) < (N : Int)) = true := decide_eq_true (by omega)
        go_enter Try.func7, Try.ntmps7
        go_wp2_with fail
        try rw [hpp]
        refine HNew.out.mono ?_
        rintro e w1 ⟨rfl, b1, m1⟩
        have B1 := Lib.hid b1
        have M1 := Lib.hid m1
        clear b1 m1
        go_wp2_with fail
        refine (HIn.out _).mono ?_
        rintro e w2 ⟨rfl, b2, i2⟩
        have B2 := Lib.hid (B1.out.trans (b2.mono B1.out.size))
        have M2 := Lib.hid (M1.out.kept b2 M1.out.ltM M1.out.ltD)
        have C2 := Lib.hid (Cpy.empty (M := w.heap.size + 1) (D := w.heap.size) i2 (Nat.ne_of_gt M1.out.ltM) (Nat.ne_of_gt M1.out.ltD))
        have hgC : w.heap.size ≤ w1.heap.size := B1.out.size
        clear b2 i2
        obtain ⟨C, hC⟩ : ∃ C, C = w1.heap.size := ⟨_, rfl⟩
        rw [← hC] at C2 hgC ⊢
        clear hC
        go_wp2_with fail
        refine (HPk.out _ B2.out M2.out).mono ?_
        rintro e w3 ⟨rfl, g3, i3⟩
        have B3 := Lib.hid (B2.out.grown g3 B2.out.size (fun k hk => by have h := Option.some.inj hk; omega))
        have M3 := Lib.hid i3
        have C3 := Lib.hid (C2.out.apart (.grownD g3))
        clear g3 i3
        go_wp2_with fail
        try rw [hks]
        try rw [hls]
        try rw [ht1]
        try rw [ht2]
        clear hks hls ht1 ht2 hbd hbe hbg hbh hpp
        go_loopw [15] (fun i wr => ∃ (q : Nat) (ws : Bool) (pg : Int), f ≤ q ∧ q ≤ L ∧ i = .int .i64 q ∧ Hid (Cpy wr (w.heap.size + 1) w.heap.size C K N false ⟨false, ws, pg, (q : Int) - f, []⟩) ∧ Hid (IsMem wr (w.heap.size + 1) w.heap.size bs3 (prs f q)) ∧ Hid (Below w.heap.size w wr)) (fun i _ => L - (intOf i).toNat)
        case atStart => exact ⟨f, false, 0, by omega, by omega, rfl, by rw [Int.sub_self]; exact C3, M3, B3⟩
        case round =>
          obtain ⟨q, ws, pg, hq1, hq2, rfl, HCp, HMm, HBw⟩ := hrel
          clear C3 M3 B3
          by_cases hlt : q < L
          · have HTw1 := Lib.hid (HTw.out wr C q ws pg ((q : Int) - f) (by omega) (by omega) hq1 hlt HCp.out HMm.out)
            go_wp2_with fail
            refine HTw1.out.mono ?_
            rintro e w4 ⟨rfl, a4, i4, c4⟩
            dsimp only at i4 c4 ⊢
            have B4 := Lib.hid (HBw.out.trans (a4.below (by omega) (by omega) hgC HBw.out.size))
            have M4 := Lib.hid i4
            have C4 := Lib.hid c4
            clear a4 i4 c4
            go_wp2_with fail
            refine (HPg.out _ _ _ _ C4.out).mono ?_
            rintro e w5 ⟨rfl, b5⟩
            have M5 := Lib.hid (M4.out.kept b5 M4.out.ltM M4.out.ltD)
            have C5 := Lib.hid (C4.out.apart (.of b5))
            have B5 := Lib.hid (B4.out.trans (b5.mono B4.out.size))
            clear b5
            dsimp only
            go_wp2_with fail
            refine (HBr.out q _ hq1 hlt M5.out).mono ?_
            rintro e w6 ⟨rfl, g6, i6⟩
            have M6 := Lib.hid i6
            have C6 := Lib.hid (C5.out.apart (.grownM g6))
            have B6 := Lib.hid (B5.out.grown g6 B5.out.size (fun k hk => by have h := Option.some.inj hk; omega))
            clear g6 i6
            go_wp2_with fail
            go_roundw
            case rel => exact ⟨q + 1, true, q, by omega, by omega, by go_num, by rw [show ((q + 1 : Nat) : Int) - f = (q : Int) - f + 1 from by omega]; exact C6, M6, B6⟩
            case measure => simp only [intOf]; omega
          · obtain rfl : q = L := by omega
            go_wp2_with fail
            refine (HPe.out _ _ HMm.out).mono ?_
            rintro e w4 ⟨v4, rfl, hv4⟩
            obtain ⟨a4, cap4, rfl, n4⟩ := hv4.news
            rw [HSL.out]
            have H4 := Lib.hid (n4.holdsX HMm.out.ltM HMm.out.ltD HCp.out.lt)
            have M4 := Lib.hid (HMm.out.kept hv4.2 HMm.out.ltM HMm.out.ltD)
            have C4 := Lib.hid (HCp.out.apart (.of hv4.2))
            have B4 := Lib.hid (HBw.out.trans (hv4.2.mono HBw.out.size))
            clear hv4 n4
            go_wp2_with fail
            refine (knownCopy _).mono ?_
            rintro e w5 ⟨rfl, b5⟩
            have H5 := Lib.hid (H4.out.apart (.of b5))
            have M5 := Lib.hid (M4.out.kept b5 M4.out.ltM M4.out.ltD)
            have C5 := Lib.hid (C4.out.apart (.of b5))
            have B5 := Lib.hid (B4.out.trans (b5.mono B4.out.size))
            clear b5
            go_wp2_with fail
            refine (HTd.out _ C _ _ _ (by omega) (by omega) C5.out M5.out).mono ?_
            rintro e w6 ⟨rfl, a6, i6, c6⟩
            dsimp only at i6 c6 ⊢
            have B6 := Lib.hid (B5.out.trans (a6.below (by omega) (by omega) hgC B5.out.size))
            have M6 := Lib.hid i6
            have C6 := Lib.hid c6
            have H6 := Lib.hid (H5.out.apart a6)
            clear a6 i6 c6
            go_wp2_with fail
            refine (HBy.out _ C _ C6.out).mono ?_
            rintro e w7 ⟨a7, cap7, rfl, n7, b7⟩
            dsimp only at n7 ⊢
            rw [HSL.out]
            have N7 := Lib.hid n7.holds
            have H7 := Lib.hid (H6.out.apart (.of b7)).holds
            have M7 := Lib.hid (M6.out.kept b7 M6.out.ltM M6.out.ltD)
            have C7 := Lib.hid (C6.out.apart (.of b7))
            have B7 := Lib.hid (B6.out.trans (b7.mono B6.out.size))
            clear n7 b7
            go_wp2_with fail
            refine (HS.out _ _ _ _ _ (by exact N7.out) (by exact H7.out)).mono ?_
            rintro e w8 ⟨rfl, b8⟩
            have M8 := Lib.hid (M7.out.kept b8 M7.out.ltM M7.out.ltD)
            have C8 := Lib.hid (C7.out.apart (.of b8))
            have B8 := Lib.hid (B7.out.trans (b8.mono B7.out.size))
            clear b8
            go_wp2_with fail
            refine (HTr.out _ C _ C8.out).mono ?_
            rintro e w' ⟨rfl, rfl⟩
            dsimp only
            go_wp2_with fail
            refine (HTo.out _ C _ (by omega) (by omega) C8.out M8.out).mono ?_
            rintro e w9 ⟨rfl, a9, i9, c9⟩
            have B9 := Lib.hid (B8.out.trans (a9.below (by omega) (by omega) hgC B8.out.size))
            clear a9 i9 c9
            dsimp only
            go_wp2_with fail
            go_ret
            exact ⟨rfl, B9.out⟩
      · obtain rfl : L = f := by have := HLL.out; rw [if_neg n0] at this; exact this
        have dn : decide (0 < N) = false := decide_eq_false n0
        have dn2 : decide ((0 : Int) < (N : Int)) = false := decide_eq_false (by omega)
        have hwN : wrap64 (N : Int) = N := IntWalk.wrap64_in N ⟨by omega, by omega⟩
        go_enter Try.func7, Try.ntmps7
        go_wp2_with fail
        try rw [hpp]
        refine HNew.out.mono ?_
        rintro e w1 ⟨rfl, b1, m1⟩
        have B1 := Lib.hid b1
        have M1 := Lib.hid m1
        clear b1 m1
        go_wp2_with fail
        refine (HIn.out _).mono ?_
        rintro e w2 ⟨rfl, b2, i2⟩
        have B2 := Lib.hid (B1.out.trans (b2.mono B1.out.size))
        have M2 := Lib.hid (M1.out.kept b2 M1.out.ltM M1.out.ltD)
        have C2 := Lib.hid (Cpy.empty (M := w.heap.size + 1) (D := w.heap.size) i2 (Nat.ne_of_gt M1.out.ltM) (Nat.ne_of_gt M1.out.ltD))
        have hgC : w.heap.size ≤ w1.heap.size := B1.out.size
        clear b2 i2
        obtain ⟨C, hC⟩ : ∃ C, C = w1.heap.size := ⟨_, rfl⟩
        rw [← hC] at C2 hgC ⊢
        clear hC
        go_wp2_with fail
        refine (HPk.out _ B2.out M2.out).mono ?_
        rintro e w3 ⟨rfl, g3, i3⟩
        have B3 := Lib.hid (B2.out.grown g3 B2.out.size (fun k hk => by have h := Option.some.inj hk; omega))
        have M3 := Lib.hid i3
        have C3 := Lib.hid (C2.out.apart (.grownD g3))
        clear g3 i3
        go_wp2_with fail
        try rw [hks]
        try rw [ht1]
        try rw [ht2]
        clear hks ht1 ht2 hbd hbe hbg hbh hpp
        clear hwN
        go_loopw [15] (fun i wr => ∃ (q : Nat) (ws : Bool) (pg : Int), L ≤ q ∧ q ≤ L ∧ i = .int .i64 q ∧ Hid (Cpy wr (w.heap.size + 1) w.heap.size C K N false ⟨false, ws, pg, (q : Int) - L, []⟩) ∧ Hid (IsMem wr (w.heap.size + 1) w.heap.size bs3 (prs L q)) ∧ Hid (Below w.heap.size w wr)) (fun i _ => L - (intOf i).toNat)
        case atStart => exact ⟨L, false, 0, by omega, by omega, rfl, by rw [Int.sub_self]; exact C3, M3, B3⟩
        case round =>
          obtain ⟨q, ws, pg, hq1, hq2, rfl, HCp, HMm, HBw⟩ := hrel
          clear C3 M3 B3
          by_cases hlt : q < L
          · have HTw1 := Lib.hid (HTw.out wr C q ws pg ((q : Int) - L) (by omega) (by omega) hq1 hlt HCp.out HMm.out)
            go_wp2_with fail
            refine HTw1.out.mono ?_
            rintro e w4 ⟨rfl, a4, i4, c4⟩
            dsimp only at i4 c4 ⊢
            have B4 := Lib.hid (HBw.out.trans (a4.below (by omega) (by omega) hgC HBw.out.size))
            have M4 := Lib.hid i4
            have C4 := Lib.hid c4
            clear a4 i4 c4
            go_wp2_with fail
            refine (HPg.out _ _ _ _ C4.out).mono ?_
            rintro e w5 ⟨rfl, b5⟩
            have M5 := Lib.hid (M4.out.kept b5 M4.out.ltM M4.out.ltD)
            have C5 := Lib.hid (C4.out.apart (.of b5))
            have B5 := Lib.hid (B4.out.trans (b5.mono B4.out.size))
            clear b5
            dsimp only
            go_wp2_with fail
            refine (HBr.out q _ hq1 hlt M5.out).mono ?_
            rintro e w6 ⟨rfl, g6, i6⟩
            have M6 := Lib.hid i6
            have C6 := Lib.hid (C5.out.apart (.grownM g6))
            have B6 := Lib.hid (B5.out.grown g6 B5.out.size (fun k hk => by have h := Option.some.inj hk; omega))
            clear g6 i6
            go_wp2_with fail
            go_roundw
            case rel => exact ⟨q + 1, true, q, by omega, by omega, by go_num, by rw [show ((q + 1 : Nat) : Int) - L = (q : Int) - L + 1 from by omega]; exact C6, M6, B6⟩
            case measure => simp only [intOf]; omega
          · obtain rfl : q = L := by omega
            go_wp2_with fail
            refine (HPe.out _ _ HMm.out).mono ?_
            rintro e w4 ⟨v4, rfl, hv4⟩
            obtain ⟨a4, cap4, rfl, n4⟩ := hv4.news
            rw [HSL.out]
            have H4 := Lib.hid (n4.holdsX HMm.out.ltM HMm.out.ltD HCp.out.lt)
            have M4 := Lib.hid (HMm.out.kept hv4.2 HMm.out.ltM HMm.out.ltD)
            have C4 := Lib.hid (HCp.out.apart (.of hv4.2))
            have B4 := Lib.hid (HBw.out.trans (hv4.2.mono HBw.out.size))
            clear hv4 n4
            go_wp2_with fail
            refine (knownCopy _).mono ?_
            rintro e w5 ⟨rfl, b5⟩
            have H5 := Lib.hid (H4.out.apart (.of b5))
            have M5 := Lib.hid (M4.out.kept b5 M4.out.ltM M4.out.ltD)
            have C5 := Lib.hid (C4.out.apart (.of b5))
            have B5 := Lib.hid (B4.out.trans (b5.mono B4.out.size))
            clear b5
            go_wp2_with fail
            refine (HTd.out _ C _ _ _ (by omega) (by omega) C5.out M5.out).mono ?_
            rintro e w6 ⟨rfl, a6, i6, c6⟩
            dsimp only at i6 c6 ⊢
            have B6 := Lib.hid (B5.out.trans (a6.below (by omega) (by omega) hgC B5.out.size))
            have M6 := Lib.hid i6
            have C6 := Lib.hid c6
            have H6 := Lib.hid (H5.out.apart a6)
            clear a6 i6 c6
            go_wp2_with fail
            refine (HBy.out _ C _ C6.out).mono ?_
            rintro e w7 ⟨a7, cap7, rfl, n7, b7⟩
            dsimp only at n7 ⊢
            rw [HSL.out]
            have N7 := Lib.hid n7.holds
            have H7 := Lib.hid (H6.out.apart (.of b7)).holds
            have M7 := Lib.hid (M6.out.kept b7 M6.out.ltM M6.out.ltD)
            have C7 := Lib.hid (C6.out.apart (.of b7))
            have B7 := Lib.hid (B6.out.trans (b7.mono B6.out.size))
            clear n7 b7
            go_wp2_with fail
            refine (HS.out _ _ _ _ _ (by exact N7.out) (by exact H7.out)).mono ?_
            rintro e w8 ⟨rfl, b8⟩
            have M8 := Lib.hid (M7.out.kept b8 M7.out.ltM M7.out.ltD)
            have C8 := Lib.hid (C7.out.apart (.of b8))
            have B8 := Lib.hid (B7.out.trans (b8.mono B7.out.size))
            clear b8
            go_wp2_with fail
            refine (HTr.out _ C _ C8.out).mono ?_
            rintro e w' ⟨rfl, rfl⟩
            dsimp only
            go_wp2_with fail
            refine (HTo.out _ C _ (by omega) (by omega) C8.out M8.out).mono ?_
            rintro e w9 ⟨rfl, a9, i9, c9⟩
            have B9 := Lib.hid (B8.out.trans (a9.below (by omega) (by omega) hgC B8.out.size))
            clear a9 i9 c9
            dsimp only
            go_wp2_with fail
            go_ret
            exact ⟨rfl, B9.out⟩

theorem walk_CopyPaged (p0 p1 p2 : Int) (v3 : Value) (w : World) (h3 : Bytes w v3) : Calls Try.prog 7 #[.int .i64 p0, .int .i64 p1, .int .i64 p2, v3] w fun e w' => e = .returned (.bool true) ∧ Below w.heap.size w w' := by
  obtain ⟨a3, l3, c3, xs3, rfl, hc3, hm3, hl3, hb3, hx3⟩ := h3
  have ha := dm_u64 p0
  obtain ⟨p, hp⟩ : ∃ p : Nat, (p : Int) = 1 + IntKind.u64.wrap p0 % 16 := ⟨(1 + IntKind.u64.wrap p0 % 16).toNat, by omega⟩
  have q0 : 1 ≤ p := by omega
  have q1 : p ≤ 16 := by omega
  have hd : 0 < ((if 64 ≤ 16 * p then 64 else 16 * (p : Int)) + 1) ∧ ((if 64 ≤ 16 * p then 64 else 16 * (p : Int)) + 1) ≤ 16 * p + 1 ∧ ((if 64 ≤ 16 * p then 64 else 16 * (p : Int)) + 1) ≤ 65 := by split <;> omega
  have e1 := Int.emod_nonneg (IntKind.u64.wrap p2) (show ((if 64 ≤ 16 * p then 64 else 16 * (p : Int)) + 1) ≠ 0 by omega)
  have e2 := Int.emod_lt_of_pos (IntKind.u64.wrap p2) hd.1
  obtain ⟨N, hN⟩ : ∃ N : Nat, (N : Int) = IntKind.u64.wrap p2 % ((if 64 ≤ 16 * p then 64 else 16 * (p : Int)) + 1) := ⟨(IntKind.u64.wrap p2 % ((if 64 ≤ 16 * p then 64 else 16 * (p : Int)) + 1)).toNat, by omega⟩
  have e3 := Int.emod_nonneg (IntKind.u64.wrap p1) (show (16 * (p : Int) - N + 1) ≠ 0 by omega)
  have e4 := Int.emod_lt_of_pos (IntKind.u64.wrap p1) (show 0 < (16 * (p : Int) - N + 1) by omega)
  obtain ⟨K, hK⟩ : ∃ K : Nat, (K : Int) = IntKind.u64.wrap p1 % (16 * p - N + 1) := ⟨(IntKind.u64.wrap p1 % (16 * p - N + 1)).toNat, by omega⟩
  exact paged p0 p1 p2 a3 l3 c3 hc3 hm3 xs3 w hl3 hb3 hx3 p N K _ _ _ q0 q1 hp hN (by omega) hK (by omega) rfl rfl rfl
end Go.Proofs.Ytpdchgcpcnaklaa
