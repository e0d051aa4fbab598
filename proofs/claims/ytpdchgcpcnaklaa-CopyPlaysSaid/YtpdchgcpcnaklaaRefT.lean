/- The document's memory: Turn, by a contract. -/
import Derived.Test.YtpdchgcpcnaklaaRefP
namespace Go.Proofs.Ytpdchgcpcnaklaa
open Go.RowKit Go.ChangeShapes Go.WideShapes
set_option linter.unusedVariables false

theorem refTurnBad (a : Option Addr) (n c : Nat) (p kd : Int) (w : World) (hn : n ≤ 256) (h : pageB p n = true) : Calls Try.prog 40 #[.slice a n c, .int .i64 p, .int .i64 kd] w fun e w' => e = .returned (.tuple #[.slice a n c, .int .i64 2]) ∧ w = w' := by
  have h' := of_decide_eq_true h
  clear h
  by_cases a1 : p < 0
  · clear h'
    go_enter Try.func40, Try.ntmps40
    go_wp2
    go_ret2
    exact ⟨rfl, rfl⟩
  · have a2 : (n : Int) / 16 ≤ p := by omega
    clear h'
    go_enter Try.func40, Try.ntmps40
    go_wp2
    go_ret2
    exact ⟨rfl, rfl⟩

theorem refTurnNo (R c n k : Nat) (f g : Nat → Int) (kd : Nat) (w : World) (h : RefAt w R c n f g) (hs : ∀ j, j < n → 0 ≤ g j ∧ g j ≤ 2) (hn : n ≤ 256) (hk : pageB k n = false) (hkd : kd < 3) (he : turnE kd (g (k * 16)) ≠ 0) :
    Calls Try.prog 40 #[.slice (some ⟨R, 0, none⟩) n c, .int .i64 k, .int .i64 kd] w fun e w' => e = .returned (.tuple #[.slice (some ⟨R, 0, none⟩) n c, .int .i64 (turnE kd (g (k * 16)))]) ∧ w = w' := by
  have h' := of_decide_eq_false hk
  have a1 : (k : Int) < (n : Int) / 16 := by omega
  have hb := hs (k * 16) (by omega)
  have HS := Lib.hid (refState R c n k f g w h hn hk)
  generalize g (k * 16) = s at *
  clear h h' hk hs
  obtain rfl | rfl | rfl : kd = 0 ∨ kd = 1 ∨ kd = 2 := by omega
  all_goals
    rcases three hb.1 hb.2 with rfl | rfl | rfl
  all_goals first
    | exact absurd rfl he
    | (clear he
       go_enter Try.func40, Try.ntmps40
       go_wp2_with (go_at_call 21; refine HS.out.mono ?_; rintro e w' ⟨rfl, rfl⟩)
       go_ret2
       exact ⟨rfl, rfl⟩)

set_option maxHeartbeats 1600000 in
theorem refTurn (R c n k : Nat) (f g : Nat → Int) (kd : Nat) (w : World) (h : RefAt w R c n f g) (hs : ∀ j, j < n → 0 ≤ g j ∧ g j ≤ 2) (hn : n ≤ 256) (h16 : k * 16 + 16 ≤ n) (hk : pageB k n = false) (hkd : kd < 3) (he : turnE kd (g (k * 16)) = 0) :
    Calls Try.prog 40 #[.slice (some ⟨R, 0, none⟩) n c, .int .i64 k, .int .i64 kd] w fun e w' => ∃ R' c', e = .returned (.tuple #[.slice (some ⟨R', 0, none⟩) n c', .int .i64 0]) ∧ w.heap.size ≤ R' ∧ Below w.heap.size w w' ∧ RefAt w' R' c' n f (fun q => if k * 16 ≤ q ∧ q < k * 16 + 16 then turnS kd (g (k * 16)) else g q) := by
  have h' := of_decide_eq_false hk
  have a1 : (k : Int) < (n : Int) / 16 := by omega
  have hb := hs (k * 16) (by omega)
  have HST := Lib.hid (refState R c n k f g w h hn hk)
  obtain ⟨i0, hi, hz0, hz1, hz2⟩ := info_parts info82
  have HNE := Lib.hid (fun (q : Nat) (u : Value) (hq : (rcells n f g)[q]? = some u) => (World.grownBy_alloc w (.cells #[] 82) none).cell (World.ownsRow.cells h (g := R) rfl q u hq) (by simp))
  have HO := Lib.hid (World.ownsRow_made (e := 82) (size := 2) (base := w.heap.size) w #[] 0 (Nat.le_refl _) (by unfold maxLen; omega) (by simp))
  have HL := Lib.hid (rcells_len n f g)
  have H1 := Lib.hid (show ∀ u ∈ rcells n f g, u.oneCell' = true from by intro u hu; unfold rcells at hu; obtain ⟨x, _, rfl⟩ := List.mem_map.1 hu; split <;> rfl)
  obtain ⟨s, hse⟩ : ∃ s, s = g (k * 16) := ⟨_, rfl⟩
  rw [← hse] at he hb HST ⊢
  clear h h' hk hs hse
  obtain rfl | rfl | rfl : kd = 0 ∨ kd = 1 ∨ kd = 2 := by omega
  all_goals
    rcases three hb.1 hb.2 with rfl | rfl | rfl
  all_goals first
    | exact absurd he (by decide)
    | skip
  · clear he
    go_enter Try.func40, Try.ntmps40
    go_wp2_with (first
      | (go_at_call 21; refine HST.out.mono ?_; rintro e w' ⟨rfl, rfl⟩)
      | (at_builtin; refine wpList_append_own _ rfl (.tmp 42) (.tmp 43) 35 rfl w.heap.size 82 i0 _ 2 16 Try.underlying35 hi hz0 hz1 hz2 rfl (by decide) _ _ _ rfl HO.out ⟨R, 0, none⟩ n c (rcells n f g) rfl HL.out HNE.out H1.out (by unfold maxLen; omega) (by omega) (by simp) ?_; intro v' w1 hown hgrow _))
    rw [Nat.zero_add, List.nil_append] at hown
    obtain ⟨R', c', rfl, hR, hR'⟩ := hown.form (by omega)
    have HOW := Lib.hid (show RefAt w1 R' c' n f g from ownsRow_at hown)
    have HG := Lib.hid (((Below.refl w.heap.size w).alloc (Nat.le_refl _) (.cells #[] 82)).grown hgrow (by simp) (fun q hq => by have h : some w.heap.size = some q := hq; have h := Option.some.inj h; omega))
    clear hown hgrow
    go_loopw [11] (fun i wr => ∃ j : Nat, j ≤ 16 ∧ i = .int .i64 j ∧ Below w.heap.size w wr ∧ RefAt wr R' c' n f (fun q => if k * 16 ≤ q ∧ q < k * 16 + j then (1 : Int) else g q)) (fun i _ => 16 - (intOf i).toNat)
    case atStart => exact ⟨0, by omega, rfl, HG.out, HOW.out.congr (fun _ _ => rfl) (fun q _ => by rw [if_neg (by omega)])⟩
    case round =>
      obtain ⟨j, hj1, rfl, hbw, ho⟩ := hrel
      have HBW := Lib.hid hbw
      have HO2 := Lib.hid ho
      clear hbw ho
      by_cases hlt : j < 16
      · have hy := HO2.out.s (j := k * 16 + j) (by omega)
        have hf := HO2.out.fr ((k * 16 + j) * 2 + 1)
        have HS := Lib.hid (HO2.out.setS (k * 16 + j) (1 : Int))
        go_wp2_with fail
        refine ⟨?_, ?_⟩
        · refine ⟨j + 1, by omega, by simp, HBW.out.setCell hR _, HS.out.congr (fun _ _ => rfl) (fun y _ => ?_)⟩
          show (if y = k * 16 + j then (1 : Int) else _) = _
          by_cases e1 : y = k * 16 + j
          · rw [if_pos e1, if_pos (by omega)]
          · rw [if_neg e1]
            by_cases e2 : k * 16 ≤ y ∧ y < k * 16 + j
            · rw [if_pos e2, if_pos (by omega)]
            · rw [if_neg e2, if_neg (by omega)]
        · simp only [intOf]; omega
      · go_wp2_with fail
        go_ret2
        obtain rfl : j = 16 := by omega
        exact ⟨R', c', rfl, hR, HBW.out, HO2.out⟩
  · clear he
    go_enter Try.func40, Try.ntmps40
    go_wp2_with (first
      | (go_at_call 21; refine HST.out.mono ?_; rintro e w' ⟨rfl, rfl⟩)
      | (at_builtin; refine wpList_append_own _ rfl (.tmp 42) (.tmp 43) 35 rfl w.heap.size 82 i0 _ 2 16 Try.underlying35 hi hz0 hz1 hz2 rfl (by decide) _ _ _ rfl HO.out ⟨R, 0, none⟩ n c (rcells n f g) rfl HL.out HNE.out H1.out (by unfold maxLen; omega) (by omega) (by simp) ?_; intro v' w1 hown hgrow _))
    rw [Nat.zero_add, List.nil_append] at hown
    obtain ⟨R', c', rfl, hR, hR'⟩ := hown.form (by omega)
    have HOW := Lib.hid (show RefAt w1 R' c' n f g from ownsRow_at hown)
    have HG := Lib.hid (((Below.refl w.heap.size w).alloc (Nat.le_refl _) (.cells #[] 82)).grown hgrow (by simp) (fun q hq => by have h : some w.heap.size = some q := hq; have h := Option.some.inj h; omega))
    clear hown hgrow
    go_loopw [11] (fun i wr => ∃ j : Nat, j ≤ 16 ∧ i = .int .i64 j ∧ Below w.heap.size w wr ∧ RefAt wr R' c' n f (fun q => if k * 16 ≤ q ∧ q < k * 16 + j then (0 : Int) else g q)) (fun i _ => 16 - (intOf i).toNat)
    case atStart => exact ⟨0, by omega, rfl, HG.out, HOW.out.congr (fun _ _ => rfl) (fun q _ => by rw [if_neg (by omega)])⟩
    case round =>
      obtain ⟨j, hj1, rfl, hbw, ho⟩ := hrel
      have HBW := Lib.hid hbw
      have HO2 := Lib.hid ho
      clear hbw ho
      by_cases hlt : j < 16
      · have hy := HO2.out.s (j := k * 16 + j) (by omega)
        have hf := HO2.out.fr ((k * 16 + j) * 2 + 1)
        have HS := Lib.hid (HO2.out.setS (k * 16 + j) (0 : Int))
        go_wp2_with fail
        refine ⟨?_, ?_⟩
        · refine ⟨j + 1, by omega, by simp, HBW.out.setCell hR _, HS.out.congr (fun _ _ => rfl) (fun y _ => ?_)⟩
          show (if y = k * 16 + j then (0 : Int) else _) = _
          by_cases e1 : y = k * 16 + j
          · rw [if_pos e1, if_pos (by omega)]
          · rw [if_neg e1]
            by_cases e2 : k * 16 ≤ y ∧ y < k * 16 + j
            · rw [if_pos e2, if_pos (by omega)]
            · rw [if_neg e2, if_neg (by omega)]
        · simp only [intOf]; omega
      · go_wp2_with fail
        go_ret2
        obtain rfl : j = 16 := by omega
        exact ⟨R', c', rfl, hR, HBW.out, HO2.out⟩
  · clear he
    go_enter Try.func40, Try.ntmps40
    go_wp2_with (first
      | (go_at_call 21; refine HST.out.mono ?_; rintro e w' ⟨rfl, rfl⟩)
      | (at_builtin; refine wpList_append_own _ rfl (.tmp 42) (.tmp 43) 35 rfl w.heap.size 82 i0 _ 2 16 Try.underlying35 hi hz0 hz1 hz2 rfl (by decide) _ _ _ rfl HO.out ⟨R, 0, none⟩ n c (rcells n f g) rfl HL.out HNE.out H1.out (by unfold maxLen; omega) (by omega) (by simp) ?_; intro v' w1 hown hgrow _))
    rw [Nat.zero_add, List.nil_append] at hown
    obtain ⟨R', c', rfl, hR, hR'⟩ := hown.form (by omega)
    have HOW := Lib.hid (show RefAt w1 R' c' n f g from ownsRow_at hown)
    have HG := Lib.hid (((Below.refl w.heap.size w).alloc (Nat.le_refl _) (.cells #[] 82)).grown hgrow (by simp) (fun q hq => by have h : some w.heap.size = some q := hq; have h := Option.some.inj h; omega))
    clear hown hgrow
    go_loopw [11] (fun i wr => ∃ j : Nat, j ≤ 16 ∧ i = .int .i64 j ∧ Below w.heap.size w wr ∧ RefAt wr R' c' n f (fun q => if k * 16 ≤ q ∧ q < k * 16 + j then (2 : Int) else g q)) (fun i _ => 16 - (intOf i).toNat)
    case atStart => exact ⟨0, by omega, rfl, HG.out, HOW.out.congr (fun _ _ => rfl) (fun q _ => by rw [if_neg (by omega)])⟩
    case round =>
      obtain ⟨j, hj1, rfl, hbw, ho⟩ := hrel
      have HBW := Lib.hid hbw
      have HO2 := Lib.hid ho
      clear hbw ho
      by_cases hlt : j < 16
      · have hy := HO2.out.s (j := k * 16 + j) (by omega)
        have hf := HO2.out.fr ((k * 16 + j) * 2 + 1)
        have HS := Lib.hid (HO2.out.setS (k * 16 + j) (2 : Int))
        go_wp2_with fail
        refine ⟨?_, ?_⟩
        · refine ⟨j + 1, by omega, by simp, HBW.out.setCell hR _, HS.out.congr (fun _ _ => rfl) (fun y _ => ?_)⟩
          show (if y = k * 16 + j then (2 : Int) else _) = _
          by_cases e1 : y = k * 16 + j
          · rw [if_pos e1, if_pos (by omega)]
          · rw [if_neg e1]
            by_cases e2 : k * 16 ≤ y ∧ y < k * 16 + j
            · rw [if_pos e2, if_pos (by omega)]
            · rw [if_neg e2, if_neg (by omega)]
        · simp only [intOf]; omega
      · go_wp2_with fail
        go_ret2
        obtain rfl : j = 16 := by omega
        exact ⟨R', c', rfl, hR, HBW.out, HO2.out⟩
  · clear he
    go_enter Try.func40, Try.ntmps40
    go_wp2_with (first
      | (go_at_call 21; refine HST.out.mono ?_; rintro e w' ⟨rfl, rfl⟩)
      | (at_builtin; refine wpList_append_own _ rfl (.tmp 42) (.tmp 43) 35 rfl w.heap.size 82 i0 _ 2 16 Try.underlying35 hi hz0 hz1 hz2 rfl (by decide) _ _ _ rfl HO.out ⟨R, 0, none⟩ n c (rcells n f g) rfl HL.out HNE.out H1.out (by unfold maxLen; omega) (by omega) (by simp) ?_; intro v' w1 hown hgrow _))
    rw [Nat.zero_add, List.nil_append] at hown
    obtain ⟨R', c', rfl, hR, hR'⟩ := hown.form (by omega)
    have HOW := Lib.hid (show RefAt w1 R' c' n f g from ownsRow_at hown)
    have HG := Lib.hid (((Below.refl w.heap.size w).alloc (Nat.le_refl _) (.cells #[] 82)).grown hgrow (by simp) (fun q hq => by have h : some w.heap.size = some q := hq; have h := Option.some.inj h; omega))
    clear hown hgrow
    go_loopw [11] (fun i wr => ∃ j : Nat, j ≤ 16 ∧ i = .int .i64 j ∧ Below w.heap.size w wr ∧ RefAt wr R' c' n f (fun q => if k * 16 ≤ q ∧ q < k * 16 + j then (2 : Int) else g q)) (fun i _ => 16 - (intOf i).toNat)
    case atStart => exact ⟨0, by omega, rfl, HG.out, HOW.out.congr (fun _ _ => rfl) (fun q _ => by rw [if_neg (by omega)])⟩
    case round =>
      obtain ⟨j, hj1, rfl, hbw, ho⟩ := hrel
      have HBW := Lib.hid hbw
      have HO2 := Lib.hid ho
      clear hbw ho
      by_cases hlt : j < 16
      · have hy := HO2.out.s (j := k * 16 + j) (by omega)
        have hf := HO2.out.fr ((k * 16 + j) * 2 + 1)
        have HS := Lib.hid (HO2.out.setS (k * 16 + j) (2 : Int))
        go_wp2_with fail
        refine ⟨?_, ?_⟩
        · refine ⟨j + 1, by omega, by simp, HBW.out.setCell hR _, HS.out.congr (fun _ _ => rfl) (fun y _ => ?_)⟩
          show (if y = k * 16 + j then (2 : Int) else _) = _
          by_cases e1 : y = k * 16 + j
          · rw [if_pos e1, if_pos (by omega)]
          · rw [if_neg e1]
            by_cases e2 : k * 16 ≤ y ∧ y < k * 16 + j
            · rw [if_pos e2, if_pos (by omega)]
            · rw [if_neg e2, if_neg (by omega)]
        · simp only [intOf]; omega
      · go_wp2_with fail
        go_ret2
        obtain rfl : j = 16 := by omega
        exact ⟨R', c', rfl, hR, HBW.out, HO2.out⟩
end Go.Proofs.Ytpdchgcpcnaklaa
