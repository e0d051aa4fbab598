/- The document's Hold of a new key. -/
import Derived.Test.YtkpenhichgkdkaaKh
namespace Go.Proofs.Ytkpenhichgkdkaa
open Go.RowKit
set_option linter.unusedVariables false
set_option linter.unusedSectionVars false

/-- where a new key goes -/
theorem ins_at (l : SI) (k : Int) (c : Int × Bool) {j : Nat} (h1 : ∀ q e, q < j → l[q]? = some e → e.1 < k) (h2 : ∀ e, l[j]? = some e → ¬ e.1 < k) (hj : j ≤ l.length) : ins l k c = l.take j ++ (k, c) :: l.drop j := by
  induction l generalizing j with
  | nil =>
    obtain rfl : j = 0 := by simpa using hj
    rfl
  | cons e l ih =>
    cases j with
    | zero =>
      have := h2 e (by simp)
      show (if Key.lt e.1 k then e :: ins l k c else (k, c) :: e :: l) = _
      rw [if_neg (show ¬ Key.lt e.1 k from this)]
      rfl
    | succ j =>
      have := h1 0 e (by omega) (by simp)
      show (if Key.lt e.1 k then e :: ins l k c else (k, c) :: e :: l) = _
      rw [if_pos (show Key.lt e.1 k from this), ih (j := j) (fun q x hq hx => h1 (q + 1) x (by omega) (by simpa using hx)) (fun x hx => h2 x (by simpa using hx)) (by simpa using hj)]
      rfl

set_option maxRecDepth 100000 in
set_option maxHeartbeats 4000000 in
theorem refHoldNew (l : SI) (top k : Int) (v : Value) (w : World) (h : KL w v top l) (hm : l.length < 64) (hk : look l k = none) :
    Calls Try.prog 28 #[v, .int .i64 k, .int .i64 top] w fun e w' => ∃ v', e = .returned (.tuple #[v', .int .i64 0]) ∧ KL w' v' top (ins l k (1, false)) ∧ Below w.heap.size w w' := by
  obtain ⟨i0, hi, hz0, hz1, hz2⟩ := info_parts info69
  rcases kidx_spec l k with ⟨h1, h2⟩ | ⟨at_, c, _, _, _, h5, _⟩
  · have HF := Lib.hid (refFind l top k v w h (by omega))
    rw [h1] at HF
    have HK := Lib.hid h
    rcases h.cells with ⟨rfl, rfl⟩ | ⟨g, cap, rfl, hg, hcap, hmx, hc⟩
    · clear h h1 h2 hk hm
      go_enter Try.func28, Try.ntmps28
      go_wp2_with (go_at_call 30; refine HF.out.mono ?_; rintro e w' ⟨rfl, rfl⟩)
      go_loopw [12, 13] (fun o i wr => o = .slice none 0 0 ∧ i = .int .i64 0 ∧ w = wr) (fun _ _ _ => 0)
      case atStart => exact ⟨rfl, rfl, rfl⟩
      case round =>
        obtain ⟨rfl, rfl, rfl⟩ := hrel
        obtain ⟨wz, rfl⟩ : ∃ wz : World, wz = w := ⟨_, rfl⟩
        have hrow := World.ownsRow_nil wz wz.heap.size 69 4
        have HW := Lib.hid (Below.refl wz.heap.size wz)
        go_wp2_with (first
          | (at_builtin; have hsel := HO3.out; refine wpList_append_own_none rfl _ _ 61 rfl wz.heap.size 69 i0 4 Try.underlying61 hi _ 1 _ rfl hsel rfl ?_; go_frame)
          | (at_builtin; refine wpList_append_own _ rfl _ _ 61 rfl wz.heap.size 69 i0 (.agg #[.int .i64 0, .int .i64 0, .int .i64 0, .bool false]) 4 32 Try.underlying61 hi hz0 hz1 hz2 rfl (by decide) _ 0 _ rfl (hrow.alloc _) ⟨wz.heap.size, 0, none⟩ 1 1 [.int .i64 k, .int .i64 1, .int .i64 top, .bool false] rfl rfl (cells4_new _ _ _ _ _ _) (by intro u hu; simp at hu; rcases hu with rfl | rfl | rfl | rfl <;> rfl) (by unfold maxLen; omega) (by omega) (by simp) ?_; intro v' w3 hown' hg3 hnil3; have HO3 := Lib.hid hown'; have HG3 := Lib.hid hg3; clear hown' hg3; go_frame)
          | go_in)
        go_ret2
        refine ⟨_, rfl, owns0 HO3.out, ?_⟩
        exact (HW.out.alloc (Nat.le_refl _) (.cells #[.int .i64 k, .int .i64 1, .int .i64 top, .bool false] 69)).grown HG3.out (by simp) (fun q hq => (hrow.lt q hq).1)
    · have HC := Lib.hid hc
      have HRAW := Lib.hid (show ∀ q u, (kc top l)[q]? = some u → w.cell? ⟨g, q, none⟩ = some u from fun q u hu => by
        have hl0 : 0 < l.length := by
          have := (List.getElem?_eq_some_iff.1 hu).1
          rw [kc_len] at this
          omega
        obtain ⟨g', cap', e1, _, _, _, hcl⟩ := own_some h hl0
        simp at e1
        rw [e1.1]
        exact hcl q u hu)
      obtain ⟨L, hL⟩ : ∃ L, L = l.length := ⟨_, rfl⟩
      have HL := Lib.hid hL
      rw [← hL] at hm hcap HF HK ⊢
      have d64 : decide ((64 : Int) ≤ (L : Int)) = false := decide_eq_false (by omega)
      have hg2 := hg
      clear h h1 h2 hc hk hL
      go_enter Try.func28, Try.ntmps28
      go_wp2_with (go_at_call 30; refine HF.out.mono ?_; rintro e w' ⟨rfl, rfl⟩)
      go_loopw [12, 13] (fun o i wr => ∃ (j : Nat) (ov : Value), j ≤ L ∧ i = .int .i64 j ∧ ov = o ∧ Hid (∀ q e, q < j → l[q]? = some e → e.1 < k) ∧ wr.ownsRow w.heap.size 69 4 ov j (kc top (l.take j)) ∧ Hid (Below w.heap.size w wr)) (fun _ i _ => L - (intOf i).toNat)
      case atStart => exact ⟨0, _, by omega, rfl, rfl, Lib.hid (fun q e hq => by omega), World.ownsRow_nil _ _ _ _, Lib.hid (Below.refl _ _)⟩
      case round =>
        obtain ⟨j, o, hj, rfl, rfl, HQ, hrow, HW⟩ := hrel
        obtain ⟨wz, rfl⟩ : ∃ wz : World, wz = wr := ⟨_, rfl⟩
        have hsz := HW.out.size
        by_cases hgo : ∃ e, l[j]? = some e ∧ e.1 < k
        · obtain ⟨e, he, hek⟩ := hgo
          have hjl : j < L := by have := (List.getElem?_eq_some_iff.1 he).1; have := HL.out; omega
          have hcs := HC.out j e he
          have hk1 : ∀ q, wz.cell? ⟨g, q, none⟩ = w.cell? ⟨g, q, none⟩ := fun q => HW.out.cell (p := ⟨g, q, none⟩) hg2
          have c0 := (hk1 _).trans hcs.1
          have c1 := (hk1 _).trans hcs.2.1
          have c2 := (hk1 _).trans hcs.2.2.1
          have c3 := (hk1 _).trans hcs.2.2.2
          have f1 : (0 : Int) ≤ (j : Int) := by omega
          have f2 : (j : Int) < (L : Int) := by omega
          have d1 : decide ((j : Int) < (L : Int)) = true := decide_eq_true f2
          have HT := Lib.hid (show kc top (l.take (j + 1)) = kc top (l.take j) ++ [.int .i64 e.1, .int .i64 e.2.1, .int .i64 top, .bool e.2.2] from by rw [List.take_add_one, he, kc_app]; simp [kc])
          have HQ2 := Lib.hid (show ∀ q x, q < j + 1 → l[q]? = some x → x.1 < k from fun q x hq hx => by
            by_cases e' : q = j
            · subst e'; rw [he] at hx; cases hx; exact hek
            · exact HQ.out q x (by omega) hx)
          have d2 : decide (e.1 < k) = true := decide_eq_true hek
          clear hcs hk1 he hek
          obtain ⟨e1, e2, e3⟩ := e
          dsimp only at c0 c1 c2 c3 d2
          go_wp2_with (first
            | (at_builtin; refine wpList_append_own _ rfl _ _ 61 rfl w.heap.size 69 i0 (.agg #[.int .i64 0, .int .i64 0, .int .i64 0, .bool false]) 4 32 Try.underlying61 hi hz0 hz1 hz2 rfl (by decide) _ _ _ rfl (hrow.alloc _) ⟨wz.heap.size, 0, none⟩ 1 1 [.int .i64 e1, .int .i64 e2, .int .i64 top, .bool e3] rfl rfl (cells4_new _ _ _ _ _ _) (by intro u hu; simp at hu; rcases hu with rfl | rfl | rfl | rfl <;> rfl) (by unfold maxLen; omega) (by omega) (by have := HW.out.size; simp at this ⊢; omega) ?_; intro v' w3 hown' hg3 hnil3; go_frame)
            | go_in)
          go_roundw
          case rel => exact ⟨j + 1, _, by omega, by go_num, rfl, HQ2, by rw [HT.out]; exact hown', Lib.hid ((HW.out.alloc (by omega) _).grown hg3 (by simp; omega) (fun q hq => (hrow.lt q hq).1))⟩
          case measure => simp only [intOf]; omega
        · have hins : ins l k (1, false) = l.take j ++ (k, 1, false) :: l.drop j := ins_at l k (1, false) HQ.out (fun e he hek => hgo ⟨e, he, hek⟩) (by have := HL.out; omega)
          have HINS := Lib.hid hins
          have hJ0 : (0 : Int) ≤ (j : Int) := by omega
          have hJL : (j : Int) ≤ (L : Int) := by omega
          clear hins
          have HLEN := Lib.hid (show (kc top (l.drop j)).length = (L - j) * 4 from by rw [kc_len, List.length_drop, HL.out])
          have hn1 : (j + 1) + (L - j) ≤ maxLen := by unfold maxLen; omega
          have hn2 : ((j + 1) + (L - j)) * 32 ≤ 140737488355328 := by omega
          have HSRC := Lib.hid (show ∀ w3 : World, (wz.alloc (.cells #[.int .i64 k, .int .i64 1, .int .i64 top, .bool false] 69)).grownBy w3 o.ownBlock → ∀ q u, (kc top (l.drop j))[q]? = some u → w3.cell? ((⟨g, j * 4, none⟩ : Addr).add q) = some u from fun w3 g3 q u hu => by
            have ha : (⟨g, j * 4, none⟩ : Addr).add q = ⟨g, j * 4 + q, none⟩ := by unfold Addr.add; split <;> simp_all
            rw [ha]
            have hd : kc top l = kc top (l.take j) ++ kc top (l.drop j) := by rw [← kc_app, List.take_append_drop]
            have hlt4 : (kc top (l.take j)).length = j * 4 := by rw [kc_len, List.length_take, ← HL.out]; congr 1; omega
            have h1 : (kc top l)[j * 4 + q]? = some u := by rw [hd, List.getElem?_append_right (by omega), hlt4, Nat.add_sub_cancel_left]; exact hu
            have h2 := HRAW.out _ _ h1
            have hw1 : (wz.alloc (.cells #[.int .i64 k, .int .i64 1, .int .i64 top, .bool false] 69)).heap[g]? = w.heap[g]? := (Below.heap_alloc _ _ _ (by omega)).trans (HW.out.block g hg2)
            have hw3 := (g3.block g (by simp; omega) (row_ne_low hrow hg2)).trans hw1
            rw [← h2]
            unfold World.cell?
            rw [hw3])
          have HSZ := Lib.hid (show ∀ w3 : World, (wz.alloc (.cells #[.int .i64 k, .int .i64 1, .int .i64 top, .bool false] 69)).grownBy w3 o.ownBlock → w.heap.size ≤ w3.heap.size from fun w3 g3 => by have h1 := g3.size; simp at h1; omega)
          by_cases hjl : j < L
          · obtain ⟨e, he⟩ : ∃ e, l[j]? = some e := ⟨_, List.getElem?_eq_getElem (by have := HL.out; omega)⟩
            have hek : ¬ e.1 < k := fun h => hgo ⟨e, he, h⟩
            have c0 := (HW.out.cell (p := ⟨g, j * 4, none⟩) hg2).trans (HC.out j e he).1
            have f2 : (j : Int) < (L : Int) := by omega
            have d1 : decide ((j : Int) < (L : Int)) = true := decide_eq_true f2
            have d2 : decide (e.1 < k) = false := decide_eq_false hek
            clear he hek hgo
            generalize e.1 = e1 at *
            go_wp2_with (first
              | (at_builtin; have hsel := hown'; refine wpList_append_own _ rfl _ _ 61 rfl w.heap.size 69 i0 (.agg #[.int .i64 0, .int .i64 0, .int .i64 0, .bool false]) 4 32 Try.underlying61 hi hz0 hz1 hz2 rfl (by decide) _ (j + 1) _ rfl hsel ⟨g, j * 4, none⟩ (L - j) (cap - j) (kc top (l.drop j)) rfl HLEN.out (HSRC.out w3 hg3) (kc_one top _) hn1 hn2 (HSZ.out w3 hg3) ?_; intro v'' w4 hown'' hg4 hnil4; have HO4 := Lib.hid hown''; have HG4 := Lib.hid hg4; clear hown'' hg4; go_frame)
              | (at_builtin; refine wpList_append_own _ rfl _ _ 61 rfl w.heap.size 69 i0 (.agg #[.int .i64 0, .int .i64 0, .int .i64 0, .bool false]) 4 32 Try.underlying61 hi hz0 hz1 hz2 rfl (by decide) _ _ _ rfl (hrow.alloc _) ⟨wz.heap.size, 0, none⟩ 1 1 [.int .i64 k, .int .i64 1, .int .i64 top, .bool false] rfl rfl (cells4_new _ _ _ _ _ _) (by intro u hu; simp at hu; rcases hu with rfl | rfl | rfl | rfl <;> rfl) (by unfold maxLen; omega) (by omega) (by have := HW.out.size; simp at this ⊢; omega) ?_; intro v' w3 hown' hg3 hnil3; go_frame)
              | go_in)
            go_ret2
            have hlen : (l.take j ++ (k, 1, false) :: l.drop j).length = j + 1 + (L - j) := by
              rw [List.length_append, List.length_cons, List.length_take, List.length_drop, ← HL.out]; omega
            refine ⟨_, rfl, ?_, ?_⟩
            · unfold KL
              rw [HINS.out, hlen]
              have := owns0 HO4.out
              rw [show kc top (l.take j ++ (k, 1, false) :: l.drop j) = kc top (l.take j) ++ [.int .i64 k, .int .i64 1, .int .i64 top, .bool false] ++ kc top (l.drop j) from by rw [kc_app]; simp [kc]]
              exact this
            · have h3 := (HW.out.alloc (by omega) (.cells #[.int .i64 k, .int .i64 1, .int .i64 top, .bool false] 69)).grown hg3 (by simp; omega) (fun q hq => (hrow.lt q hq).1)
              exact h3.grown HG4.out h3.size (fun q hq => (hown'.lt q hq).1)
          · obtain rfl : j = L := by omega
            have d1 : decide ((j : Int) < (j : Int)) = false := decide_eq_false (by omega)
            have HNIL := Lib.hid (show ∀ (w : World) (ad : Addr) (q : Nat) (u : Value), ([] : List Value)[q]? = some u → w.cell? (ad.add q) = some u from fun _ _ q u h => by simp at h)
            have HN1 := Lib.hid (show ∀ u ∈ ([] : List Value), u.oneCell' = true from fun u h => by simp at h)
            have hn3 : (j + 1) + 0 ≤ maxLen := by unfold maxLen; omega
            have hn4 : ((j + 1) + 0) * 32 ≤ 140737488355328 := by omega
            clear hgo
            by_cases hcj : cap = j
            · have hcap0 : cap - j = 0 := by omega
              go_wp2_with (first
                | (at_builtin; have hsel := hown'; refine wpList_append_own _ rfl _ _ 61 rfl w.heap.size 69 i0 (.agg #[.int .i64 0, .int .i64 0, .int .i64 0, .bool false]) 4 32 Try.underlying61 hi hz0 hz1 hz2 rfl (by decide) _ (j + 1) _ rfl hsel _ 0 _ [] rfl rfl (HNIL.out _ _) HN1.out hn3 hn4 (HSZ.out w3 hg3) ?_; intro v'' w4 hown'' hg4 hnil4; have HO4 := Lib.hid hown''; have HG4 := Lib.hid hg4; clear hown'' hg4; go_frame)
                | (at_builtin; refine wpList_append_own _ rfl _ _ 61 rfl w.heap.size 69 i0 (.agg #[.int .i64 0, .int .i64 0, .int .i64 0, .bool false]) 4 32 Try.underlying61 hi hz0 hz1 hz2 rfl (by decide) _ _ _ rfl (hrow.alloc _) ⟨wz.heap.size, 0, none⟩ 1 1 [.int .i64 k, .int .i64 1, .int .i64 top, .bool false] rfl rfl (cells4_new _ _ _ _ _ _) (by intro u hu; simp at hu; rcases hu with rfl | rfl | rfl | rfl <;> rfl) (by unfold maxLen; omega) (by omega) (by have := HW.out.size; simp at this ⊢; omega) ?_; intro v' w3 hown' hg3 hnil3; go_frame)
                | go_in)
              go_ret2
              have hlen : (l.take j ++ (k, 1, false) :: l.drop j).length = j + 1 + (j - j) := by
                rw [List.length_append, List.length_cons, List.length_take, List.length_drop, ← HL.out]; omega
              refine ⟨_, rfl, ?_, ?_⟩
              · unfold KL
                rw [HINS.out, hlen]
                have h9 := owns0 HO4.out
                have hdr : l.drop j = [] := List.drop_eq_nil_of_le (by have := HL.out; omega)
                rw [Nat.add_zero, List.append_nil] at h9
                rw [hdr, Nat.sub_self, Nat.add_zero]
                rw [show kc top (l.take j ++ [(k, 1, false)]) = kc top (l.take j) ++ [.int .i64 k, .int .i64 1, .int .i64 top, .bool false] from by rw [kc_app]; simp [kc]]
                exact h9
              · have h3 := (HW.out.alloc (by omega) (.cells #[.int .i64 k, .int .i64 1, .int .i64 top, .bool false] 69)).grown hg3 (by simp; omega) (fun q hq => (hrow.lt q hq).1)
                exact h3.grown HG4.out h3.size (fun q hq => (hown'.lt q hq).1)
            · have hcap1 : ¬ cap - j = 0 := by omega
              go_wp2_with (first
                | (at_builtin; have hsel := hown'; refine wpList_append_own _ rfl _ _ 61 rfl w.heap.size 69 i0 (.agg #[.int .i64 0, .int .i64 0, .int .i64 0, .bool false]) 4 32 Try.underlying61 hi hz0 hz1 hz2 rfl (by decide) _ (j + 1) _ rfl hsel _ 0 _ [] rfl rfl (HNIL.out _ _) HN1.out hn3 hn4 (HSZ.out w3 hg3) ?_; intro v'' w4 hown'' hg4 hnil4; have HO4 := Lib.hid hown''; have HG4 := Lib.hid hg4; clear hown'' hg4; go_frame)
                | (at_builtin; refine wpList_append_own _ rfl _ _ 61 rfl w.heap.size 69 i0 (.agg #[.int .i64 0, .int .i64 0, .int .i64 0, .bool false]) 4 32 Try.underlying61 hi hz0 hz1 hz2 rfl (by decide) _ _ _ rfl (hrow.alloc _) ⟨wz.heap.size, 0, none⟩ 1 1 [.int .i64 k, .int .i64 1, .int .i64 top, .bool false] rfl rfl (cells4_new _ _ _ _ _ _) (by intro u hu; simp at hu; rcases hu with rfl | rfl | rfl | rfl <;> rfl) (by unfold maxLen; omega) (by omega) (by have := HW.out.size; simp at this ⊢; omega) ?_; intro v' w3 hown' hg3 hnil3; go_frame)
                | go_in)
              go_ret2
              have hlen : (l.take j ++ (k, 1, false) :: l.drop j).length = j + 1 + (j - j) := by
                rw [List.length_append, List.length_cons, List.length_take, List.length_drop, ← HL.out]; omega
              refine ⟨_, rfl, ?_, ?_⟩
              · unfold KL
                rw [HINS.out, hlen]
                have h9 := owns0 HO4.out
                have hdr : l.drop j = [] := List.drop_eq_nil_of_le (by have := HL.out; omega)
                rw [Nat.add_zero, List.append_nil] at h9
                rw [hdr, Nat.sub_self, Nat.add_zero]
                rw [show kc top (l.take j ++ [(k, 1, false)]) = kc top (l.take j) ++ [.int .i64 k, .int .i64 1, .int .i64 top, .bool false] from by rw [kc_app]; simp [kc]]
                exact h9
              · have h3 := (HW.out.alloc (by omega) (.cells #[.int .i64 k, .int .i64 1, .int .i64 top, .bool false] 69)).grown hg3 (by simp; omega) (fun q hq => (hrow.lt q hq).1)
                exact h3.grown HG4.out h3.size (fun q hq => (hown'.lt q hq).1)
  · rw [hk] at h5; cases h5
end Go.Proofs.Ytkpenhichgkdkaa
