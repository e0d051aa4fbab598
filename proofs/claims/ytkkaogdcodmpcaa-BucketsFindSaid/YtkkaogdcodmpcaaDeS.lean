/- Buckets: keys are deleted. (ByteArray) -/
import Derived.Test.YtkkaogdcodmpcaaDlS
import Derived.Deep.RegionWith
namespace Go.Proofs.Ytkkaogdcodmpcaa
open Go.RowKit
set_option linter.unusedVariables false

/-- what a deletion leaves -/
def SDel (w : World) (T G nb room : Nat) (ch : Nat → Value) (m m' : List (Int × ByteArray)) (e : Ending) (w' : World) : Prop :=
  ∃ ch', e = .returned (.int .i64 ((m.length : Int) - m'.length)) ∧ Tab Value.string 73 75 76 w' T G nb room m' ch' ∧ Step w w' T G nb ch ch'
set_option maxRecDepth 100000 in
set_option maxHeartbeats 8000000 in
theorem Sdel (T G nb room : Nat) (ks : List Int) (kb ko kc : Nat) (m : List (Int × ByteArray)) (ch : Nat → Value) (w : World) (h : Tab Value.string 73 75 76 w T G nb room m ch) (hks : ∀ j x, ks[j]? = some x → w.cell? ⟨kb, ko + j, none⟩ = some (.int .u64 x)) (hL : ks.length ≤ 64) (hkb : kb < w.heap.size) (hno : ¬ Mine T G nb ch kb) :
    Calls Try.prog 9 #[.pointer (some ⟨T, 0, none⟩), .slice (some ⟨kb, ko, none⟩) ks.length kc] w (SDel w T G nb room ch m (ks.foldl del m)) := by
  have HT := Lib.hid h
  have HKS := Lib.hid hks
  have hcm := h.cnt
  have hrm := h.rm
  have hm64 : m.length ≤ 64 := by omega
  have hnb := h.hi
  have hlo := h.lo
  have hTG := h.nTG (by decide)
  have HFK := Lib.hid (show ks.foldl del m = (ks.take ks.length).foldl del m from by rw [List.take_length])
  clear h hks
  obtain ⟨L, hLe⟩ : ∃ L, L = ks.length := ⟨_, rfl⟩
  have HLE := Lib.hid hLe
  rw [← hLe] at hL HFK ⊢
  clear hLe
  go_enter Try.func9, Try.ntmps9
  go_wp2_with fail
  go_loopw [5, 12] (fun n i wr => ∃ (j : Nat) (mj : List (Int × ByteArray)) (ch1 : Nat → Value), j ≤ L ∧ mj.length ≤ m.length ∧ i = .int .i64 j ∧ n = .int .i64 ((m.length : Int) - mj.length) ∧ Hid (mj = (ks.take j).foldl del m) ∧ Hid (Tab Value.string 73 75 76 wr T G nb room mj ch1) ∧ Hid (Step w wr T G nb ch ch1)) (fun _ i _ => L - (intOf i).toNat)
  case atStart => exact ⟨0, m, ch, by omega, Nat.le_refl _, rfl, by rw [Int.sub_self], Lib.hid (by rw [List.take_zero]; rfl), HT, Lib.hid (Step.refl (Below.refl _ _))⟩
  case round =>
    obtain ⟨j, mj, ch1, hj, hmj, rfl, rfl, HM, HTj, HS⟩ := hrel
    by_cases hlt : j < L
    · have hlt' : j < ks.length := by rw [← HLE.out]; exact hlt
      have hcell : w.cell? ⟨kb, ko + j, none⟩ = some (.int .u64 ks[j]) := HKS.out j _ (List.getElem?_eq_getElem hlt')
      have hck : (wr.cell? ⟨kb, ko + j, none⟩) = some (.int .u64 ks[j]) := (World.cell?_of_block (a := ⟨kb, ko + j, none⟩) (HS.out.chg.block kb hkb hno)).trans hcell
      have HN := Lib.hid (show (ks.take (j + 1)).foldl del m = del mj ks[j] from by rw [List.take_succ_eq_append_getElem hlt', List.foldl_append, ← HM.out]; rfl)
      clear hcell
      generalize ks[j] = k at *
      have hb := bkt_lt k nb hlo
      by_cases hk : has mj k
      · obtain ⟨u, hu⟩ := hk
        obtain ⟨i, hi, hf, hg⟩ := fnd_yes hu HTj.out.nd nb
        have HF := Sfind T G nb room k mj ch1 wr HTj.out
        rw [hf] at HF
        replace HF := Lib.hid HF
        have hdl := del_len HTj.out.nd hu
        have hmp : 1 ≤ mj.length := List.length_pos_of_mem hu
        have hcn := chn_len mj nb (bkt k nb)
        have hL64 : (chn mj nb (bkt k nb)).length ≤ 64 := by omega
        have HBk := Lib.hid (fun (w1 : World) (b : Below wr.heap.size wr w1) => Sbucket T G nb room k mj ch1 w1 (HTj.out.kept b))
        rcases HTj.out.chain hb with ⟨_, hr⟩ | ⟨g, cap, hv, hgl, hcap, _⟩
        · rw [hr] at hi; simp at hi
        · have HD := Lib.hid (fun (w1 : World) (b : Below wr.heap.size wr w1) => Sdelete g (chn mj nb (bkt k nb)).length cap i (chn mj nb (bkt k nb)).reverse w1 (List.length_reverse ..) hL64 hi (by have ho := (HTj.out.kept b).own _ hb; rw [hv] at ho; exact ho))
          have HE := Lib.hid (fun (w0 w2 : World) (b : Below wr.heap.size wr w0) (hgr : w0.grownBy w2 (some g)) => Tab.erased HTj.out hg hv b hgr)
          have hTn : T ≠ g := fun e => HTj.out.nT (by decide) hb (by rw [hv, e]; rfl)
          have hGn : G ≠ g := fun e => HTj.out.nG (by decide) hb (by rw [hv, e]; rfl)
          have c0 := HTj.out.c0
          have c2 := HTj.out.c2
          have cg := HTj.out.cg hb
          rw [hv] at cg
          have fT := HTj.out.ft 2
          have fG := HTj.out.fg (bkt k nb)
          have lT := HTj.out.ltT
          have lG := HTj.out.ltG
          clear hf hg hv hu hgl hcap
          have HDL := Lib.hid hdl
          clear hdl
          generalize (chn mj nb (bkt k nb)).length = n at *
          generalize bkt k nb = b at *
          have hb0 : (0 : Int) ≤ (b : Int) := Int.natCast_nonneg _
          have hb1 : (b : Int) < (nb : Int) := by omega
          go_wp2_with fail
          refine HF.out.mono ?_
          rintro e w1 ⟨rfl, b1⟩
          have HB1 := Lib.hid b1
          have d0 := (b1.cell (p := ⟨T, 0, none⟩) lT).trans c0
          have d2 := (b1.cell (p := ⟨T, 2, none⟩) lT).trans c2
          have dg := (b1.cell (p := ⟨G, b, none⟩) lG).trans cg
          have gT := (b1.frozen (p := ⟨T, 2, none⟩) lT).trans fT
          have gG := (b1.frozen (p := ⟨G, b, none⟩) lG).trans fG
          have hsz := b1.size
          clear b1 c0 c2 cg fT fG hck
          go_wp2_with fail
          refine (HBk.out w1 HB1.out).mono ?_
          rintro e w' ⟨rfl, rfl⟩
          go_wp2_with fail
          have hw1 : IntKind.i64.wrap ((i : Int) + 1) = (i : Int) + 1 := by rw [IntKind.wrap_i64]; omega
          have lT1 : T < w1.heap.size := by omega
          have lG1 : G < w1.heap.size := by omega
          go_region_with ((go_at_call 36; refine (HD.out _ ?_).mono ?_; (first | exact HB1.out.drew | exact HB1.out); rintro e w2 ⟨rfl, hown2, hgr2⟩; have k0 := (World.cell?_of_block (a := ⟨T, 0, none⟩) (hgr2.block T lT1 (fun e => hTn (Option.some.inj e)))).trans d0; have k2 := (World.cell?_of_block (a := ⟨T, 2, none⟩) (hgr2.block T lT1 (fun e => hTn (Option.some.inj e)))).trans d2; have kg := (World.cell?_of_block (a := ⟨G, b, none⟩) (hgr2.block G lG1 (fun e => hGn (Option.some.inj e)))).trans dg; have ft2 := (World.frozen?_of_block (a := ⟨T, 2, none⟩) (hgr2.block T lT1 (fun e => hTn (Option.some.inj e)))).trans gT; have fg2 := (World.frozen?_of_block (a := ⟨G, b, none⟩) (hgr2.block G lG1 (fun e => hGn (Option.some.inj e)))).trans gG))
          all_goals
            have R := HE.out _ w2 HB1.out.drew hgr2 hown2 (by decide) (by decide) (by decide)
            have R1 := Lib.hid R.1
            have R2 := Lib.hid R.2
            clear R hown2 hgr2 hw1
            go_wp2_with fail
            go_roundw
            case rel => exact ⟨j + 1, del mj k, _, by omega, by rw [HDL.out]; omega, by go_num, by rw [HDL.out]; go_num, Lib.hid HN.out.symm, R1, Lib.hid (HS.out.trans R2.out)⟩
            case measure => simp only [intOf]; omega
      · have HF := Sfind T G nb room k mj ch1 wr HTj.out
        rw [fnd_no hk] at HF
        replace HF := Lib.hid HF
        have HDN := Lib.hid (del_no hk)
        clear hk
        go_wp2_with fail
        refine HF.out.mono ?_
        rintro e w1 ⟨rfl, b1⟩
        have HB1 := Lib.hid b1
        clear b1 hck
        go_wp2_with fail
        go_roundw
        case rel => exact ⟨j + 1, mj, ch1, by omega, hmj, by go_num, rfl, Lib.hid (by rw [HN.out, HDN.out]), Lib.hid (HTj.out.kept HB1.out), Lib.hid (HS.out.trans (Step.refl HB1.out))⟩
        case measure => simp only [intOf]; omega
    · obtain rfl : j = L := by omega
      go_wp2_with fail
      go_ret
      exact ⟨ch1, by rw [HFK.out, ← HM.out]; rfl, by rw [HFK.out, ← HM.out]; exact HTj.out, HS.out⟩

end Go.Proofs.Ytkkaogdcodmpcaa
