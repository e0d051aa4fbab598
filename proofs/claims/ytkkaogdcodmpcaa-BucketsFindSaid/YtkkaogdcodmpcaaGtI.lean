/- Buckets: a key's value is got. (Int) -/
import Derived.Test.YtkkaogdcodmpcaaFdI
import Derived.Test.YtkkaogdcodmpcaaLst
namespace Go.Proofs.Ytkkaogdcodmpcaa
open Go.RowKit
set_option linter.unusedVariables false

theorem IgetNil (k : Int) (w : World) : Calls Try.prog 18 #[.pointer none, .int .u64 k] w fun e w' => e = .returned (.tuple #[(.int .i64 0), .bool false]) ∧ Below w.heap.size w w' := by
  have HF := Lib.hid (IfindNil k w)
  go_enter Try.func18, Try.ntmps18
  go_wp2_with fail
  refine HF.out.mono ?_
  rintro e w1 ⟨rfl, b1⟩
  have HB1 := Lib.hid b1
  clear b1
  go_wp2_with fail
  go_ret2
  exact ⟨rfl, HB1.out⟩
theorem IgetNo (T G nb room : Nat) (k : Int) (m : List (Int × Int)) (ch : Nat → Value) (w : World) (h : Tab (Value.int .i64) 80 82 83 w T G nb room m ch) (hk : ¬ has m k) :
    Calls Try.prog 18 #[.pointer (some ⟨T, 0, none⟩), .int .u64 k] w fun e w' => e = .returned (.tuple #[(.int .i64 0), .bool false]) ∧ Below w.heap.size w w' := by
  have HF := Ifind T G nb room k m ch w h
  rw [fnd_no hk] at HF
  replace HF := Lib.hid HF
  clear h hk
  go_enter Try.func18, Try.ntmps18
  go_wp2_with fail
  refine HF.out.mono ?_
  rintro e w1 ⟨rfl, b1⟩
  have HB1 := Lib.hid b1
  clear b1
  go_wp2_with fail
  go_ret2
  exact ⟨rfl, HB1.out⟩
set_option maxHeartbeats 3200000 in
theorem IgetYes (T G nb room : Nat) (k : Int) (u : Int) (m : List (Int × Int)) (ch : Nat → Value) (w : World) (h : Tab (Value.int .i64) 80 82 83 w T G nb room m ch) (hk : (k, u) ∈ m) :
    Calls Try.prog 18 #[.pointer (some ⟨T, 0, none⟩), .int .u64 k] w fun e w' => e = .returned (.tuple #[(Value.int .i64) u, .bool true]) ∧ Below w.heap.size w w' := by
  have hb := bkt_lt k nb h.lo
  have hnb := h.hi
  obtain ⟨i, hi, hf, hg⟩ := fnd_yes hk h.nd nb
  have HB := Lib.hid (fun (w1 : World) (b : Below w.heap.size w w1) => Ibucket T G nb room k m ch w1 (h.kept b))
  have HF := Ifind T G nb room k m ch w h
  rw [hf] at HF
  replace HF := Lib.hid HF
  have hcn := chn_len m nb (bkt k nb)
  have hcm := h.cnt
  have hrm := h.rm
  rcases h.chain hb with ⟨_, hr⟩ | ⟨g, cap, hv, hgl, hcap, hcs⟩
  · rw [hr] at hi; simp at hi
  · have hc := hcs ((chn m nb (bkt k nb)).length - 1 - i) (k, u) (by rw [← hg, List.getElem?_reverse hi])
    rw [show (chn m nb (bkt k nb)).length - 1 - ((chn m nb (bkt k nb)).length - 1 - i) = i from by omega] at hc
    have hc2 := hc.2
    have c0 := h.c0
    have cg := h.cg hb
    rw [hv] at cg
    have lT := h.ltT
    have lG := h.ltG
    clear h hg hf hv hc hcs hk
    have hL64 : (chn m nb (bkt k nb)).length ≤ 64 := by omega
    generalize (chn m nb (bkt k nb)).length = L at *
    generalize bkt k nb = b at *
    have hb0 : (0 : Int) ≤ (b : Int) := Int.natCast_nonneg _
    have hb1 : (b : Int) < (nb : Int) := by omega
    have hi0 : (0 : Int) ≤ (i : Int) := Int.natCast_nonneg _
    have hi1 : (i : Int) < (L : Int) := by omega
    go_enter Try.func18, Try.ntmps18
    go_wp2_with fail
    refine HF.out.mono ?_
    rintro e w1 ⟨rfl, b1⟩
    have HB1 := Lib.hid b1
    have d0 := (b1.cell (p := ⟨T, 0, none⟩) lT).trans c0
    have dg := (b1.cell (p := ⟨G, b, none⟩) lG).trans cg
    have dc := (b1.cell (p := ⟨g, i * 2 + 1, none⟩) hgl).trans hc2
    clear b1 c0 cg hc2
    go_wp2_with fail
    go_quiet ((go_at_call 19; exact Calls.quiet_of_same ((HB.out _ (HB1.out.trans (below_drewN _ _ _))).mono fun e w' ⟨he, hw⟩ => ⟨he, hw.symm⟩)))
    go_wp2_with fail
    go_ret2
    exact ⟨rfl, HB1.out.trans (below_drewN _ _ _)⟩

end Go.Proofs.Ytkkaogdcodmpcaa
