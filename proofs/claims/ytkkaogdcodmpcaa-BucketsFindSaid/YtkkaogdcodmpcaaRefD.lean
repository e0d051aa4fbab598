/- The document's buckets: Chain, Keys, Same. -/
import Derived.Test.YtkkaogdcodmpcaaRefC
namespace Go.Proofs.Ytkkaogdcodmpcaa
open Go.RowKit
set_option linter.unusedVariables false

theorem chn_take_succ (m : MI) (nb b : Nat) {j : Nat} (h : j < m.length) : chn (m.take (j + 1)) nb b = chn (m.take j) nb b ++ (if bkt m[j].1 nb = b then [m[j]] else []) := by
  rw [List.take_succ_eq_append_getElem h]
  unfold chn
  rw [List.filter_append]
  congr 1
  by_cases e : bkt m[j].1 nb = b
  · rw [if_pos e]; simp [e]
  · rw [if_neg e]; simp [e]
set_option maxHeartbeats 4000000 in
theorem refChain (m : MI) (v : Value) (b nb : Nat) (w : World) (h : RL w v m) (hm : m.length ≤ 64) (h1 : 1 ≤ nb) (h2 : nb ≤ 64) (hb : b < nb) : Calls Try.prog 26 #[v, .int .i64 b, .int .i64 nb] w (WordsPost w ((chn m nb b).map (·.1))) := by
  obtain ⟨i0, hi, hz0, hz1, hz2⟩ := info_parts info29
  rcases h.cells with ⟨rfl, rfl⟩ | ⟨g, cap, rfl, hg, hcap, _, hc, _⟩
  · go_enter Try.func26, Try.ntmps26
    go_wp2_with fail
    go_loop [7, 8] (fun o i => i = .int .i64 0 ∧ o = .slice none 0 0) (fun _ _ => 0)
    case atStart => exact ⟨rfl, rfl⟩
    case round =>
      obtain ⟨rfl, rfl⟩ := hrel
      go_wp2_with fail
      go_ret
      exact ⟨_, rfl, World.ownsRow_nil _ _ _ _, Below.refl _ _⟩
  · have HC := Lib.hid hc
    clear hc h
    obtain ⟨L, hL⟩ : ∃ L, L = m.length := ⟨_, rfl⟩
    have HL := Lib.hid hL
    have HFin := Lib.hid (show m.take L = m from by rw [hL, List.take_length])
    have HCL := Lib.hid (fun j => show ((chn (m.take j) nb b).map (·.1)).length ≤ 64 from by rw [List.length_map]; exact Nat.le_trans (chn_len _ _ _) (by rw [List.length_take]; omega))
    rw [← hL] at hm hcap ⊢
    clear hL
    go_enter Try.func26, Try.ntmps26
    go_wp2_with fail
    go_loopw [7, 8] (fun o i wr => ∃ (j : Nat) (v : Value) (X : List Int), j ≤ L ∧ o = v ∧ i = .int .i64 j ∧ X.length ≤ 64 ∧ Hid (X = (chn (m.take j) nb b).map (·.1)) ∧ Hid (wr.ownsRow w.heap.size 29 1 v X.length (X.map (Value.int .u64))) ∧ Hid (Below w.heap.size w wr)) (fun _ i _ => L - (intOf i).toNat)
    case atStart => exact ⟨0, _, [], by omega, rfl, rfl, by simp, Lib.hid (by simp [chn]), Lib.hid (World.ownsRow_nil _ _ _ _), Lib.hid (Below.refl _ _)⟩
    case round =>
      obtain ⟨j, v, X, hj, rfl, rfl, hX, HX, HR, HB⟩ := hrel
      by_cases hlt : j < L
      · have hjm : j < m.length := by rw [← HL.out]; exact hlt
        have hj2 := HC.out j _ (List.getElem?_eq_getElem hjm)
        have c0 := (HB.out.cell (p := ⟨g, j * 2, none⟩) hg).trans hj2.1
        have HS := Lib.hid (chn_take_succ m nb b hjm)
        clear hj2
        generalize m[j] = x at *
        by_cases hx : bkt x.1 nb = b
        · have HX2 := Lib.hid (show X ++ [x.1] = (chn (m.take (j + 1)) nb b).map (·.1) from by rw [HS.out, if_pos hx, List.map_append, ← HX.out]; rfl)
          have hXl : X.length + 1 ≤ 64 := by have := HCL.out (j + 1); rw [← HX2.out, List.length_append] at this; exact this
          have hd : ((b : Int) == (b : Int)) = true := beq_self_eq_true _
          have HR0 := HR.out
          have HHX := Lib.hid hx
          clear hx
          go_wp2_with (first | (go_at_call 20; refine (refBucket x.1 nb _ h1 h2).mono ?_; rintro e w' ⟨rfl, rfl⟩; rw [HHX.out]) | (at_builtin; refine wpList_append_own _ rfl _ _ 22 rfl w.heap.size 29 i0 (.int .u64 0) 1 8 Try.underlying22 hi hz0 hz1 hz2 rfl (by decide) _ _ _ rfl (HR0.alloc _) ⟨wr.heap.size, 0, none⟩ 1 1 [.int .u64 x.1] rfl rfl (cell_one_new _ _ _) (by simp [Value.oneCell']) (by unfold maxLen; omega) (by omega) (by have := HB.out.size; simp; omega) ?_; intro v2 w2 hown hgrow _))
          have hlt2 := HR0.lt
          have HO := Lib.hid (show w2.ownsRow w.heap.size 29 1 v2 (X ++ [x.1]).length ((X ++ [x.1]).map (Value.int .u64)) from by rw [List.length_append, List.map_append]; exact hown)
          have HB2 := Lib.hid ((HB.out.alloc HB.out.size _).grown hgrow (by have := HB.out.size; simp; omega) (fun q e => (hlt2 q e).1))
          clear hown hgrow HR0 hlt2
          go_wp2_with fail
          go_roundw
          case rel => exact ⟨j + 1, v2, X ++ [x.1], by omega, rfl, by go_num, by simpa using hXl, HX2, HO, HB2⟩
          case measure => simp only [intOf]; omega
        · have HX2 := Lib.hid (show X = (chn (m.take (j + 1)) nb b).map (·.1) from by rw [HS.out, if_neg hx, List.append_nil, ← HX.out])
          have hd : ((bkt x.1 nb : Int) == (b : Int)) = false := beq_eq_false_iff_ne.2 (by omega)
          have hd2 : (bkt x.1 nb == b) = false := beq_eq_false_iff_ne.2 hx
          go_wp2_with (first | (go_at_call 20; refine (refBucket x.1 nb _ h1 h2).mono ?_; rintro e w' ⟨rfl, rfl⟩))
          go_roundw
          case rel => exact ⟨j + 1, _, X, by omega, rfl, by go_num, hX, HX2, HR, HB⟩
          case measure => simp only [intOf]; omega
      · obtain rfl : j = L := by omega
        go_wp2_with fail
        go_ret
        exact ⟨_, rfl, by have h := HR.out; rw [HX.out, HFin.out] at h; exact h, HB.out⟩
set_option maxHeartbeats 2000000 in
theorem refKeys (m : MI) (v : Value) (nb : Nat) (w : World) (h : RL w v m) (hm : m.length ≤ 64) (h1 : 1 ≤ nb) (h2 : nb ≤ 64) : Calls Try.prog 24 #[v, .int .i64 nb] w (WordsPost w (allKeys m nb nb)) := by
  have HC := Lib.hid (fun w1 (k : Below w.heap.size w w1) (b : Nat) (hb : b < nb) => refChain m v b nb w1 (h.below k) hm h1 h2 hb)
  have hL := fun b => Nat.le_trans (chn_len m nb b) hm
  have HL := Lib.hid (fun b => allKeys_bd m nb b hL)
  obtain ⟨i0, hi, hz0, hz1, hz2⟩ := info_parts info29
  clear h hL
  go_enter Try.func24, Try.ntmps24
  go_wp2_with fail
  go_loopw [5, 6] (fun o i wr => ∃ (j : Nat) (v1 : Value), j ≤ nb ∧ o = v1 ∧ i = .int .i64 j ∧ Hid (wr.ownsRow w.heap.size 29 1 v1 (allKeys m nb j).length ((allKeys m nb j).map (Value.int .u64))) ∧ Hid (Below w.heap.size w wr)) (fun _ i _ => nb - (intOf i).toNat)
  case atStart => exact ⟨0, _, by omega, rfl, rfl, Lib.hid (World.ownsRow_nil _ _ _ _), Lib.hid (Below.refl _ _)⟩
  case round =>
    obtain ⟨j, v0, hj, rfl, rfl, HR, HB⟩ := hrel
    by_cases hlt : j < nb
    · have hb1 := HL.out j
      have hb2 := HL.out (j + 1)
      go_wp2_with fail
      refine (HC.out wr HB.out j hlt).mono ?_
      rintro e w1 ⟨v1, rfl, hv1, b1⟩
      have hR1 := HR.out.kept b1.grownNone (own_ne_none _)
      have hBw := HB.out.trans (b1.mono HB.out.size)
      have hks := allKeys_succ m nb j
      have hln : (allKeys m nb (j + 1)).length = (allKeys m nb j).length + ((chn m nb j).map (·.1)).length := by rw [hks, List.length_append]
      have HKS := Lib.hid hks
      have HLN := Lib.hid hln
      have hbb : (allKeys m nb j).length + ((chn m nb j).map (·.1)).length ≤ 8192 := by omega
      have HB1 := Lib.hid hBw
      clear hks hln b1
      go_wp2_with (at_builtin; refine wpList_append_rows rfl _ _ 22 rfl w.heap.size 29 i0 (.int .u64 0) 1 8 Try.underlying22 hi hz0 hz1 hz2 rfl (by decide) _ _ _ rfl hR1 _ _ _ _ rfl hv1 (words_one _) (by unfold maxLen; omega) (by omega) HB1.out.size ?_; intro v2 w2 hown hgrow _)
      have HW := Lib.hid hown
      have hbv := hR1.lt
      have HB2 := Lib.hid (HB1.out.grown hgrow HB1.out.size (fun k e => (hbv k e).1))
      clear hR1 hv1 hown hgrow hbv hBw
      go_wp2_with fail
      go_roundw
      case rel => exact ⟨j + 1, v2, by omega, rfl, by go_num, Lib.hid (by rw [HLN.out, HKS.out, List.map_append]; exact HW.out), HB2⟩
      case measure => simp only [intOf]; omega
    · obtain rfl : j = nb := by omega
      go_wp2_with fail
      go_ret
      exact ⟨_, rfl, HR.out, HB.out⟩
/-- a slice of words, wherever it lies -/
theorem words_cells {w : World} {base : Nat} {v : Value} {l : List Int} (h : w.ownsRow base 29 1 v l.length (l.map (Value.int .u64))) : (v = .slice none 0 0 ∧ l = []) ∨ ∃ g cap, v = .slice (some ⟨g, 0, none⟩) l.length cap ∧ l.length ≤ cap ∧ ∀ (j : Nat) x, l[j]? = some x → w.cell? ⟨g, j, none⟩ = some (.int .u64 x) := by
  rcases h.2 with ⟨rfl, h0⟩ | ⟨g, cap, cur, rfl, hb, hg, hn, hm, hs, ht⟩
  · exact .inl ⟨rfl, List.eq_nil_of_length_eq_zero h0⟩
  · refine .inr ⟨g, cap, rfl, hn, fun j x hj => ?_⟩
    have hjl : j < l.length := (List.getElem?_eq_some_iff.1 hj).1
    rw [Go.Joins.cell_of_block hg]
    have : (cur.toList.take (l.length * 1))[j]? = some (.int .u64 x) := by rw [ht, List.getElem?_map, hj]; rfl
    rw [List.getElem?_take_of_lt (by omega)] at this
    simpa using this
set_option maxHeartbeats 2000000 in
theorem refSame (l : List Int) (u v : Value) (b1 b2 : Nat) (w : World) (hu : w.ownsRow b1 29 1 u l.length (l.map (Value.int .u64))) (hv : w.ownsRow b2 29 1 v l.length (l.map (Value.int .u64))) (hl : l.length ≤ 8192) : Calls Try.prog 22 #[u, v] w fun e w' => e = .returned (.bool true) ∧ Below w.heap.size w w' := by
  cases l with
  | nil =>
    rcases words_cells hu with ⟨rfl, _⟩ | ⟨g, cap, rfl, _, _⟩ <;> rcases words_cells hv with ⟨rfl, _⟩ | ⟨g', cap', rfl, _, _⟩
    all_goals
      clear hu hv
      go_enter Try.func22, Try.ntmps22
      go_wp2_with fail
      go_loop [5] (fun i => i = .int .i64 0) (fun _ => 0)
      case atStart => rfl
      case round =>
        subst hrel
        go_wp2_with fail
        go_ret
        exact ⟨rfl, Below.refl _ _⟩
  | cons x0 l0 =>
    rcases words_cells hu with ⟨_, h⟩ | ⟨g, cap, rfl, hc1, h1⟩
    · simp at h
    rcases words_cells hv with ⟨_, h⟩ | ⟨g', cap', rfl, hc2, h2⟩
    · simp at h
    generalize x0 :: l0 = l at *
    have H1 := Lib.hid h1
    have H2 := Lib.hid h2
    have HLt := Lib.hid (hu.lt g rfl).2
    have HLt2 := Lib.hid (hv.lt g' rfl).2
    clear hu hv h1 h2
    obtain ⟨L, hL⟩ : ∃ L, L = l.length := ⟨_, rfl⟩
    have HL := Lib.hid hL
    rw [← hL] at hl hc1 hc2 ⊢
    clear hL
    go_enter Try.func22, Try.ntmps22
    go_wp2_with fail
    go_loopw [5] (fun i wr => ∃ j : Nat, j ≤ L ∧ i = .int .i64 j ∧ Hid (Below w.heap.size w wr)) (fun i _ => L - (intOf i).toNat)
    case atStart => exact ⟨0, by omega, rfl, Lib.hid (Below.refl _ _)⟩
    case round =>
      obtain ⟨j, hj, rfl, HB⟩ := hrel
      by_cases hlt : j < L
      · have hjl : j < l.length := by rw [← HL.out]; exact hlt
        have c1 := (HB.out.cell (p := ⟨g, j, none⟩) HLt.out).trans (H1.out j _ (List.getElem?_eq_getElem hjl))
        have c2 := (HB.out.cell (p := ⟨g', j, none⟩) HLt2.out).trans (H2.out j _ (List.getElem?_eq_getElem hjl))
        generalize l[j] = x at *
        have j0 : (0 : Int) ≤ (j : Int) := Int.natCast_nonneg _
        have j1 : (j : Int) < (L : Int) := by omega
        have hd : (x != x) = false := by simp
        go_wp2_with fail
        go_quiet (fail)
        go_wp2_with fail
        go_roundw
        case rel => exact ⟨j + 1, by omega, by go_num, Lib.hid (HB.out.trans (below_drewN _ _ _))⟩
        case measure => simp only [intOf]; omega
      · obtain rfl : j = L := by omega
        go_wp2_with fail
        go_ret
        exact ⟨rfl, HB.out⟩
end Go.Proofs.Ytkkaogdcodmpcaa
