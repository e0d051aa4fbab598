/- Buckets: a key's value is put, and got. (Int) -/
import Derived.Test.YtkkaogdcodmpcaaKyI
import Derived.Test.YtkkaogdcodmpcaaLst
import Derived.Deep.RegionLaw
import Derived.Deep.AppendLies
import Derived.Deep.RegionHeld3
namespace Go.Proofs.Ytkkaogdcodmpcaa
open Go.RowKit
set_option linter.unusedVariables false

theorem info82 : (Try.prog.info? 82).map (fun i => (i.zero, i.size, i.bytes)) = some (some (.agg #[.int .u64 0, (.int .i64 0)]), 2, 16) := by kernel_rfl
/-- what a put leaves -/
def IPut (w : World) (T G nb room : Nat) (ch : Nat → Value) (m' : List (Int × Int)) (was : Bool) (err : Int) (e : Ending) (w' : World) : Prop :=
  ∃ ch', e = .returned (.tuple #[.bool was, .int .i64 err]) ∧ Tab (Value.int .i64) 80 82 83 w' T G nb room m' ch' ∧ Step w w' T G nb ch ch'
theorem IputNil (k : Int) (v : Int) (w : World) : Calls Try.prog 14 #[.pointer none, .int .u64 k, (Value.int .i64) v] w fun e w' => e = .returned (.tuple #[.bool false, .int .i64 6]) ∧ w = w' := by
  go_enter Try.func14, Try.ntmps14
  go_wp2
  go_ret2
  exact ⟨rfl, rfl⟩
set_option maxHeartbeats 3200000 in
theorem IputOld (T G nb room : Nat) (k : Int) (u v : Int) (m : List (Int × Int)) (ch : Nat → Value) (w : World) (h : Tab (Value.int .i64) 80 82 83 w T G nb room m ch) (hk : (k, u) ∈ m) :
    Calls Try.prog 14 #[.pointer (some ⟨T, 0, none⟩), .int .u64 k, (Value.int .i64) v] w (IPut w T G nb room ch (upd1 m k v) true 0) := by
  have hb := bkt_lt k nb h.lo
  have hnb := h.hi
  obtain ⟨i, hi, hf, hg⟩ := fnd_yes hk h.nd nb
  have HB := Lib.hid (Ibucket T G nb room k m ch w h)
  have HF := Ifind T G nb room k m ch w h
  rw [hf] at HF
  replace HF := Lib.hid HF
  have hcn := chn_len m nb (bkt k nb)
  have hcm := h.cnt
  have hrm := h.rm
  rcases h.chain hb with ⟨_, hr⟩ | ⟨g, cap, hv, hgl, hcap, hcs⟩
  · rw [hr] at hi; simp at hi
  · have hc := hcs ((chn m nb (bkt k nb)).length - 1 - i) (k, u) (by rw [← hg, List.getElem?_reverse hi])
    rw [show (chn m nb (bkt k nb)).length - 1 - ((chn m nb (bkt k nb)).length - 1 - i) = i from by omega] at hc
    have hc2 := hc.2
    have hfr := own_fr (h.own _ hb) hv (i * 2 + 1)
    have c0 := h.c0
    have cg := h.cg hb
    rw [hv] at cg
    have lT := h.ltT
    have lG := h.ltG
    have HT := Lib.hid h
    have HV := Lib.hid hv
    have HG := Lib.hid hg
    clear h hg hf hv hc hcs hk
    have hL64 : (chn m nb (bkt k nb)).length ≤ 64 := by omega
    have HP := Lib.hid (fun (w1 : World) (b : Below w.heap.size w w1) => Tab.stored (v := v) (HT.out.kept b) HG.out HV.out (by decide) (by decide))
    clear HG HV
    generalize (chn m nb (bkt k nb)).length = L at *
    generalize bkt k nb = b at *
    go_enter Try.func14, Try.ntmps14
    go_wp2_with fail
    refine HB.out.mono ?_
    rintro e w' ⟨rfl, rfl⟩
    go_wp2_with fail
    refine HF.out.mono ?_
    rintro e w1 ⟨rfl, b1⟩
    have HB1 := Lib.hid b1
    have d0 := (b1.cell (p := ⟨T, 0, none⟩) lT).trans c0
    have dg := (b1.cell (p := ⟨G, b, none⟩) lG).trans cg
    have dc := (b1.cell (p := ⟨g, i * 2 + 1, none⟩) hgl).trans hc2
    have df := (b1.frozen (p := ⟨g, i * 2 + 1, none⟩) hgl).trans hfr
    clear b1
    go_wp2_with fail
    go_ret2
    have r := HP.out w1 HB1.out
    exact ⟨ch, rfl, r.1, (Step.refl HB1.out).trans r.2⟩

set_option maxHeartbeats 3200000 in
theorem IputFull (T G nb room : Nat) (k : Int) (v : Int) (m : List (Int × Int)) (ch : Nat → Value) (w : World) (h : Tab (Value.int .i64) 80 82 83 w T G nb room m ch) (hk : ¬ has m k) (hn : m.length = room) :
    Calls Try.prog 14 #[.pointer (some ⟨T, 0, none⟩), .int .u64 k, (Value.int .i64) v] w (IPut w T G nb room ch m false 3) := by
  have hb := bkt_lt k nb h.lo
  have HB := Lib.hid (Ibucket T G nb room k m ch w h)
  have HF := Ifind T G nb room k m ch w h
  rw [fnd_no hk] at HF
  replace HF := Lib.hid HF
  have c1 := h.c1
  have c2 := h.c2
  rw [hn] at c2
  have lT := h.ltT
  have HT := Lib.hid h
  clear h hn hk
  have hq : ((room : Int) == (room : Int)) = true := beq_self_eq_true _
  go_enter Try.func14, Try.ntmps14
  go_wp2_with fail
  refine HB.out.mono ?_
  rintro e w' ⟨rfl, rfl⟩
  go_wp2_with fail
  refine HF.out.mono ?_
  rintro e w1 ⟨rfl, b1⟩
  have HB1 := Lib.hid b1
  have d1 := (b1.cell (p := ⟨T, 1, none⟩) lT).trans c1
  have d2 := (b1.cell (p := ⟨T, 2, none⟩) lT).trans c2
  clear b1
  go_wp2_with fail
  go_quiet (fail)
  go_wp2_with fail
  go_ret2
  exact ⟨ch, rfl, (HT.out.kept HB1.out).kept (below_drewN _ _ _), Step.refl (HB1.out.trans (below_drewN _ _ _))⟩
set_option maxRecDepth 100000 in
set_option maxHeartbeats 8000000 in
theorem IputNew (T G nb room : Nat) (k : Int) (v : Int) (m : List (Int × Int)) (ch : Nat → Value) (w : World) (h : Tab (Value.int .i64) 80 82 83 w T G nb room m ch) (hk : ¬ has m k) (hn : m.length < room) :
    Calls Try.prog 14 #[.pointer (some ⟨T, 0, none⟩), .int .u64 k, (Value.int .i64) v] w (IPut w T G nb room ch ((k, v) :: m) false 0) := by
  have hb := bkt_lt k nb h.lo
  have HB := Lib.hid (Ibucket T G nb room k m ch w h)
  have HF := Ifind T G nb room k m ch w h
  rw [fnd_no hk] at HF
  replace HF := Lib.hid HF
  have c0 := h.c0
  have c1 := h.c1
  have c2 := h.c2
  have cg := h.cg hb
  have lT := h.ltT
  have lG := h.ltG
  have hnb := h.hi
  have hrm := h.rm
  have hTn := h.nT (by decide) hb
  have hGn := h.nG (by decide) hb
  have hTG := h.nTG (by decide)
  have hcl := chn_len m nb (bkt k nb)
  obtain ⟨i0, hi0, hz0, hz1, hz2⟩ := info_parts info82
  have HT := Lib.hid h
  have HK := Lib.hid hk
  have HO := Lib.hid (fun (w1 : World) (b : Below w.heap.size w w1) => (h.kept b).own _ hb)
  have HP := Lib.hid (fun (w0 w2 : World) (g cap : Nat) (b : Below w.heap.size w w0) (hg : w0.grownBy w2 (ch (bkt k nb)).ownBlock) => Tab.pushed (v := v) (cap := cap) (g := g) h hk hn b hg)
  have hq : ((m.length : Int) == (room : Int)) = false := beq_eq_false_iff_ne.2 (by omega)
  have hq2 : (m.length == room) = false := beq_eq_false_iff_ne.2 (by omega)
  have hml : m.length ≤ 64 := by omega
  clear h hk hn
  generalize bkt k nb = b at *
  have hb0 : (0 : Int) ≤ (b : Int) := Int.natCast_nonneg _
  have hb1 : (b : Int) < (nb : Int) := by omega
  go_enter Try.func14, Try.ntmps14
  go_wp2_with fail
  refine HB.out.mono ?_
  rintro e w' ⟨rfl, rfl⟩
  go_wp2_with fail
  refine HF.out.mono ?_
  rintro e w1 ⟨rfl, b1⟩
  have HB1 := Lib.hid b1
  have d0 := (b1.cell (p := ⟨T, 0, none⟩) lT).trans c0
  have d1 := (b1.cell (p := ⟨T, 1, none⟩) lT).trans c1
  have d2 := (b1.cell (p := ⟨T, 2, none⟩) lT).trans c2
  have dg := (b1.cell (p := ⟨G, b, none⟩) lG).trans cg
  have hsz := b1.size
  clear b1 c0 c1 c2 cg
  go_wp2_with fail
  go_quiet (fail)
  go_wp2_with fail
  have B3 := Lib.hid (HB1.out.trans (below_drewN _ w1 nq))
  have e0 : (w1.drewN nq).cell? ⟨T, 0, none⟩ = _ := d0
  have e2 : (w1.drewN nq).cell? ⟨T, 2, none⟩ = _ := d2
  have eg : (w1.drewN nq).cell? ⟨G, b, none⟩ = _ := dg
  have hsz3 : w.heap.size ≤ (w1.drewN nq).heap.size := hsz
  clear d0 d1 d2 dg HB1 hsz
  generalize w1.drewN nq = w3 at *
  have HOwn := HO.out w3 B3.out
  have lT3 : T < w3.heap.size := by omega
  have lG3 : G < w3.heap.size := by omega
  have fT := fun j => (HT.out.kept B3.out).ft j
  have fG := (HT.out.kept B3.out).fg b
  clear hq hq2
  have L1 := Lib.hid (show ∀ u ∈ [Value.int .u64 k, (Value.int .i64) v], u.oneCell' = true from by simp [Value.oneCell'])
  have L2 : (chn m nb b).length + 1 ≤ maxLen := by unfold maxLen; omega
  have L3 : ((chn m nb b).length + 1) * 16 ≤ 140737488355328 := by omega
  have L4 := Lib.hid (show ((w3.alloc (.cells #[.int .u64 k, (Value.int .i64) v] 82)).drew).heap.size = w3.heap.size + 1 from by simp)
  have L5 := Lib.hid (World.news_of_block (w := (w3.alloc (.cells #[.int .u64 k, (Value.int .i64) v] 82)).drew) (cs := #[.int .u64 k, (Value.int .i64) v]) (t := 82) (fr := (0, 0)) (heap_alloc_new w3 _))
  have L6 := Lib.hid (show ((w3.alloc (.cells #[.int .u64 k, (Value.int .i64) v] 82)).drew).ownsRow 0 82 2 (ch b) (chn m nb b).length _ from (HOwn.alloc _).drew)
  go_region_law ((refine step_append_lies _ (by rfl) _ _ _ (by rfl) 0 82 i0 _ 2 16 Try.underlying83 hi0 hz0 hz1 hz2 (by rfl) (by omega) (ch b) (chn m nb b).length _ (by rfl) L6.out ⟨w3.heap.size, 0, none⟩ 1 1 [.int .u64 k, (Value.int .i64) v] (by rfl) (by rfl) L5.out L1.out (by omega) L2 L3 (Nat.zero_le _) (w3.heap.size + 1) L4.out ?_; intro gg cap w4 hown1 hgrow hat hlt; have k0 := (World.cell?_of_block (a := ⟨T, 0, none⟩) (far_block hgrow lT3 hTn)).trans e0; have k2 := (World.cell?_of_block (a := ⟨T, 2, none⟩) (far_block hgrow lT3 hTn)).trans e2; have kg := (World.cell?_of_block (a := ⟨G, b, none⟩) (far_block hgrow lG3 hGn)).trans eg; have ft2 := (World.frozen?_of_block (a := ⟨T, 2, none⟩) (far_block hgrow lT3 hTn)).trans (fT 2); have fg2 := (World.frozen?_of_block (a := ⟨G, b, none⟩) (far_block hgrow lG3 hGn)).trans fG))
  all_goals
    have R := Lib.hid (HP.out _ w4 gg cap ((B3.out.alloc hsz3 _).drew) hgrow hown1 (hat.imp id (fun e => by omega)) (by decide) (by decide) (by decide))
    clear hown1 hgrow hat L1 L4 L5 L6 HOwn fT fG HO HP e0 e2 eg
    go_wp2_with fail
    go_ret2
    exact ⟨_, rfl, R.out.1, R.out.2⟩

end Go.Proofs.Ytkkaogdcodmpcaa
