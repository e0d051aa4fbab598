/- The document's memory: Poke, Turn, each by a contract. -/
import Derived.Test.YtpdchgcpcnaklaaRefS
namespace Go.Proofs.Ytpdchgcpcnaklaa
open Go.RowKit Go.ChangeShapes Go.WideShapes
set_option linter.unusedVariables false

theorem refPokeBad (a : Option Addr) (n c : Nat) (p : Int) (b : Option Addr) (m cb : Nat) (w : World) (hn : n ≤ 256) (h : outB p m n = true) : Calls Try.prog 39 #[.slice a n c, .int .i64 p, .slice b m cb] w fun e w' => e = .returned (.tuple #[.slice a n c, .int .i64 2]) ∧ w = w' := by
  have HW := Lib.hid (refWithin a n c p m w hn)
  rw [h] at HW
  clear h
  go_enter Try.func39, Try.ntmps39
  go_wp2_with (go_at_call 42; refine HW.out.mono ?_; rintro e w' ⟨rfl, rfl⟩)
  go_ret2
  exact ⟨rfl, rfl⟩

set_option maxHeartbeats 1600000 in
theorem refPoke (R c n : Nat) (f g : Nat → Int) (k m : Nat) (b : Option Addr) (cb : Nat) (xs : List Int) (w : World) (h : RefAt w R c n f g) (h0 : 0 < n) (hn : n ≤ 256) (hk : k + m ≤ n) (hm : xs.length = m) (hb : Holds w b xs) :
    Calls Try.prog 39 #[.slice (some ⟨R, 0, none⟩) n c, .int .i64 k, .slice b m cb] w fun e w' => ∃ R' c', e = .returned (.tuple #[.slice (some ⟨R', 0, none⟩) n c', .int .i64 0]) ∧ w.heap.size ≤ R' ∧ Below w.heap.size w w' ∧ RefAt w' R' c' n (fun j => if k ≤ j ∧ j - k < m then xs.getD (j - k) 0 else f j) g := by
  have HW := Lib.hid (refWithin (some ⟨R, 0, none⟩) n c k m w hn)
  rw [show outB k m n = false from decide_eq_false (by omega)] at HW
  obtain ⟨i0, hi, hz0, hz1, hz2⟩ := info_parts info82
  have HNE := Lib.hid (fun (q : Nat) (u : Value) (hq : (rcells n f g)[q]? = some u) => (World.grownBy_alloc w (.cells #[] 82) none).cell (World.ownsRow.cells h (g := R) rfl q u hq) (by simp))
  have HO := Lib.hid (World.ownsRow_made (e := 82) (size := 2) (base := w.heap.size) w #[] 0 (Nat.le_refl _) (by unfold maxLen; omega) (by simp))
  have HL := Lib.hid (rcells_len n f g)
  have H1 := Lib.hid (show ∀ u ∈ rcells n f g, u.oneCell' = true from by intro u hu; unfold rcells at hu; obtain ⟨x, _, rfl⟩ := List.mem_map.1 hu; split <;> rfl)
  have HB := Lib.hid hb
  clear h hb
  go_enter Try.func39, Try.ntmps39
  go_wp2_with (first
    | (go_at_call 42; refine HW.out.mono ?_; rintro e w' ⟨rfl, rfl⟩)
    | (at_builtin; refine wpList_append_own _ rfl (.tmp 17) (.tmp 18) 35 rfl w.heap.size 82 i0 _ 2 16 Try.underlying35 hi hz0 hz1 hz2 rfl (by decide) _ _ _ rfl HO.out ⟨R, 0, none⟩ n c (rcells n f g) rfl HL.out HNE.out H1.out (by unfold maxLen; omega) (by omega) (by simp) ?_; intro v' w1 hown hgrow _))
  rw [Nat.zero_add, List.nil_append] at hown
  obtain ⟨R', c', rfl, hR, hR'⟩ := hown.form h0
  have HOW := Lib.hid (show RefAt w1 R' c' n f g from ownsRow_at hown)
  have HG := Lib.hid (((Below.refl w.heap.size w).alloc (Nat.le_refl _) (.cells #[] 82)).grown hgrow (by simp) (fun q hq => by have h : some w.heap.size = some q := hq; have h := Option.some.inj h; omega))
  clear hown hgrow
  go_loopw [9] (fun i wr => ∃ j : Nat, j ≤ m ∧ i = .int .i64 j ∧ Below w.heap.size w wr ∧ RefAt wr R' c' n (fun q => if k ≤ q ∧ q - k < j then xs.getD (q - k) 0 else f q) g) (fun i _ => m - (intOf i).toNat)
  case atStart => exact ⟨0, by omega, rfl, HG.out, HOW.out.congr (fun q _ => by rw [if_neg (by omega)]) (fun _ _ => rfl)⟩
  case round =>
    obtain ⟨j, hj1, rfl, hbw, ho⟩ := hrel
    have HBW := Lib.hid hbw
    have HO2 := Lib.hid ho
    clear hbw ho
    by_cases hlt : j < m
    · obtain ⟨B2, o2, hs2, hl2, hc2⟩ := HB.out.below HBW.out (by rw [hm]; omega)
      have hx := hc2 j (by rw [hm]; exact hlt)
      subst hs2
      clear hc2
      have hy := HO2.out.b (j := k + j) (by omega)
      have hf := HO2.out.fr ((k + j) * 2)
      have HS := Lib.hid (HO2.out.setB (k + j) (xs.getD j 0))
      generalize hq : xs.getD j 0 = q at *
      clear hm
      go_wp2_with fail
      refine ⟨?_, ?_⟩
      · refine ⟨j + 1, by omega, by simp, HBW.out.setCell hR _, HS.out.congr (fun y _ => ?_) (fun _ _ => rfl)⟩
        show (if y = k + j then q else _) = _
        by_cases e1 : y = k + j
        · rw [if_pos e1, if_pos (by omega), show y - k = j from by omega]
          exact hq.symm
        · rw [if_neg e1]
          by_cases e2 : k ≤ y ∧ y - k < j
          · rw [if_pos e2, if_pos (by omega)]
          · rw [if_neg e2, if_neg (by omega)]
      · simp only [intOf]; omega
    · go_wp2_with fail
      go_ret2
      obtain rfl : j = m := by omega
      exact ⟨R', c', rfl, hR, HBW.out, HO2.out⟩
end Go.Proofs.Ytpdchgcpcnaklaa
