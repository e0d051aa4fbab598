/- The law ClockGoes, walked: true at every word and every list of words. -/
import Derived.Test.YtcoimnajoihlnaaStep
namespace Go.Proofs.Ytcoimnajoihlnaa
open Go.RowKit
set_option linter.unusedVariables false

theorem isClk_new (w : World) (v : Int) : IsClk (w.alloc (.cells #[.int .u64 v] 65)) w.heap.size v := heap_alloc_new w _
theorem isClk_alloc {w : World} {B : Nat} {v : Int} (h : IsClk w B v) (o : Obj) : IsClk (w.alloc o) B v := (Below.heap_alloc w o B (lt_of_block h)).trans h
theorem isClk_grown {w w' : World} {B C : Nat} {v : Int} (h : IsClk w B v) (g : w.grownBy w' (some C)) (hne : B ≠ C) : IsClk w' B v := (g.block B (lt_of_block h) (by simpa using hne)).trans h
theorem below_grown {B C : Nat} {a w w' : World} (h : Below B a w) (g : w.grownBy w' (some C)) (hB : B ≤ w.heap.size) (hC : B ≤ C) : Below B a w' := h.grown g hB (fun k hk => by cases hk; exact hC)
theorem getD_mem {xs : List Int} {k : Nat} (h : k < xs.length) : xs.getD k 0 ∈ xs := by rw [List.getD_eq_getElem?_getD, List.getElem?_eq_getElem h]; exact List.getElem_mem h

set_option maxHeartbeats 1600000 in
theorem goes_few (m : Int) (w : World) (hm0 : 0 ≤ m) (hm1 : m ≤ 18446744073709551615) (b off len cap : Nat) (hpos : 0 < len) (hfew : len ≤ 60) (hlc : len ≤ cap) (hlm : cap ≤ 9223372036854775807) (xs : List Int) (hn : len = xs.length)
    (hx : ∀ j, j < len → w.cell? ⟨b, off + j, none⟩ = some (.int .u64 (xs.getD j 0))) (hw : ∀ x ∈ xs, 0 ≤ x ∧ x ≤ 18446744073709551615) :
    Calls Try.prog 5 #[.int .u64 m, .slice (some ⟨b, off, none⟩) len cap] w fun e w' => e = .returned (.bool true) ∧ Below w.heap.size w w' := by
  have HN := Lib.hid hn
  clear hn
  have hbw : b < w.heap.size := World.block_lt_of_cell? w _ (hx 0 (by omega))
  have HX := Lib.hid hx
  have HW := Lib.hid hw
  have HBW := Lib.hid hbw
  clear hx hw hbw
  have hc1 : IsClk ((w.alloc (.cells #[.int .u64 m] 65)).alloc (.cells #[.int .u64 m] 65)) w.heap.size m := isClk_alloc (isClk_new w m) _
  have hc2 : IsClk ((w.alloc (.cells #[.int .u64 m] 65)).alloc (.cells #[.int .u64 m] 65)) (w.heap.size + 1) m := by have := isClk_new (w.alloc (.cells #[.int .u64 m] 65)) m; rwa [World.size_alloc] at this
  have hB : Below w.heap.size w ((w.alloc (.cells #[.int .u64 m] 65)).alloc (.cells #[.int .u64 m] 65)) := ((Below.refl _ _).alloc (Nat.le_refl _) _).alloc (by simp) _
  have HC := Lib.hid (And.intro hc1 (And.intro hc2 hB))
  clear hc1 hc2 hB
  go_enter Try.func5, Try.ntmps5
  go_wp2_with (go_at_call 24; refine (clkAt _ _).mono ?_; rintro e w' ⟨rfl, rfl⟩)
  go_loopw [7, 8] (fun v i wr => ∃ k : Nat, k ≤ len ∧ i = .int .i64 k ∧ v = .int .u64 ((xs.take k).foldl addV m) ∧ IsClk wr w.heap.size ((xs.take k).foldl addV m) ∧ IsClk wr (w.heap.size + 1) m ∧ Below w.heap.size w wr) (fun _ i _ => len - (intOf i).toNat)
  case atStart => exact ⟨0, Nat.zero_le _, rfl, rfl, HC.out.1, HC.out.2.1, HC.out.2.2⟩
  case round =>
    obtain ⟨k, hk, rfl, rfl, hc, hd, hbel⟩ := hrel
    have hbk := fold_bd (xs.take k) m hm0 hm1 (fun x hx => HW.out x (List.mem_of_mem_take hx))
    have hsz : w.heap.size + 1 < wr.heap.size := lt_of_block hd
    by_cases hlt : k < len
    · have hcx : wr.cell? ⟨b, off + k, none⟩ = some (.int .u64 (xs.getD k 0)) := (hbel.cell (p := ⟨b, off + k, none⟩) HBW.out).trans (HX.out k hlt)
      have hxk := HW.out (xs.getD k 0) (getD_mem (by rw [← HN.out]; exact hlt))
      have HT := Lib.hid (fold_take m xs k (by rw [← HN.out]; exact hlt))
      obtain ⟨x, hxe⟩ : ∃ x, x = xs.getD k 0 := ⟨_, rfl⟩
      rw [← hxe] at hcx hxk
      have HXE := Lib.hid hxe
      clear hxe
      generalize hv : (xs.take k).foldl addV m = v at *
      clear hv
      have hnx := addV_bd hbk.2.1 hbk.2.2 hxk.1
      have HCD := Lib.hid (And.intro hc (And.intro hd hbel))
      clear hc hd hbel
      have hcN : ∀ j, j < 1 → (wr.alloc (.cells #[.int .u64 x] 22)).cell? ⟨wr.heap.size, 0 + j, none⟩ = some (.int .u64 ([x].getD j 0)) := by intro j hj; obtain rfl : j = 0 := (by omega); exact cell_of_one (heap_alloc_new wr _)
      have hwN : ∀ y ∈ [x], 0 ≤ y ∧ y ≤ 18446744073709551615 := by intro y hy; rw [List.mem_singleton] at hy; rw [hy]; exact hxk
      have HS := Lib.hid (clkStep w.heap.size v _ (isClk_alloc HCD.out.1 (.cells #[.int .u64 x] 22)) hbk.2.1 hbk.2.2 wr.heap.size 0 1 1 [x] rfl (fun _ => by omega) hcN hwN (by omega))
      clear hcN hwN
      go_wp2_with (first
        | (go_at_call 25; refine (clkNow w.heap.size v _ HCD.out.1).mono ?_; rintro e w' ⟨rfl, rfl⟩)
        | (go_at_call 26; refine (clkStopped w.heap.size v _ HCD.out.1).mono ?_; rintro e w' ⟨rfl, rfl⟩)
        | (go_at_call 19; refine (refAdd v x _ hbk.2.1 hbk.2.2 hxk.1 hxk.2).mono ?_; rintro e w' ⟨rfl, rfl⟩)
        | (go_at_call 27; refine HS.out.mono ?_; rintro e w' ⟨rfl, hg, hc'⟩; rw [List.foldl_cons, List.foldl_nil] at *))
      go_roundw
      case rel =>
        have hg' := grownBy_trans (World.grownBy_alloc wr (.cells #[.int .u64 x] 22) (some w.heap.size)) hg
        exact ⟨k + 1, by omega, by go_num, by rw [HT.out, ← HXE.out], by rw [HT.out, ← HXE.out]; exact hc', isClk_grown HCD.out.2.1 hg' (by omega), below_grown HCD.out.2.2 hg' (by omega) (Nat.le_refl _)⟩
      case measure => simp [intOf]; omega
    · have hall : xs.take k = xs := List.take_of_length_le (by have := HN.out; omega)
      rw [hall] at hc hbk ⊢
      clear hall
      have HCD := Lib.hid (And.intro hc (And.intro hd hbel))
      clear hc hd hbel
      have HS := Lib.hid (clkStep (w.heap.size + 1) m wr HCD.out.2.1 hm0 hm1 b off len cap xs HN.out (fun _ => by have := HBW.out; omega) (fun j hj => (HCD.out.2.2.cell (p := ⟨b, off + j, none⟩) HBW.out).trans (HX.out j hj)) HW.out (by omega))
      generalize hv : xs.foldl addV m = v at *
      clear hv
      go_wp2_with fail
      refine (clkKnown _).mono ?_; rintro e w' ⟨rfl, rfl⟩
      go_wp2_with fail
      refine (clkNow w.heap.size v _ HCD.out.1).mono ?_; rintro e w' ⟨rfl, rfl⟩
      go_wp2_with fail
      refine HS.out.mono ?_; rintro e w' ⟨rfl, hg, hc'⟩
      have HC' := Lib.hid (And.intro hg hc')
      clear hg hc'
      go_wp2_with fail
      refine (clkNow (w.heap.size + 1) v _ HC'.out.2).mono ?_; rintro e w'' ⟨rfl, rfl⟩
      go_wp2_with fail
      refine (clkStep0 (w.heap.size + 1) v _ HC'.out.2 _ _).mono ?_; rintro e w'' ⟨rfl, rfl⟩
      go_wp2_with fail
      go_ret
      exact ⟨rfl, below_grown HCD.out.2.2 HC'.out.1 (by omega) (by omega)⟩

set_option maxHeartbeats 1600000 in
theorem goes_many (m : Int) (w : World) (hm0 : 0 ≤ m) (hm1 : m ≤ 18446744073709551615) (b off len cap : Nat) (hmany : 60 < len) (hlc : len ≤ cap) (hlm : cap ≤ 9223372036854775807) (xs : List Int) (hn : 60 = xs.length)
    (hx : ∀ j, j < 60 → w.cell? ⟨b, off + j, none⟩ = some (.int .u64 (xs.getD j 0))) (hw : ∀ x ∈ xs, 0 ≤ x ∧ x ≤ 18446744073709551615) :
    Calls Try.prog 5 #[.int .u64 m, .slice (some ⟨b, off, none⟩) len cap] w fun e w' => e = .returned (.bool true) ∧ Below w.heap.size w w' := by
  have HN := Lib.hid hn
  clear hn
  have hbw : b < w.heap.size := World.block_lt_of_cell? w _ (hx 0 (by omega))
  have HX := Lib.hid hx
  have HW := Lib.hid hw
  have HBW := Lib.hid hbw
  clear hx hw hbw
  have hc1 : IsClk ((w.alloc (.cells #[.int .u64 m] 65)).alloc (.cells #[.int .u64 m] 65)) w.heap.size m := isClk_alloc (isClk_new w m) _
  have hc2 : IsClk ((w.alloc (.cells #[.int .u64 m] 65)).alloc (.cells #[.int .u64 m] 65)) (w.heap.size + 1) m := by have := isClk_new (w.alloc (.cells #[.int .u64 m] 65)) m; rwa [World.size_alloc] at this
  have hB : Below w.heap.size w ((w.alloc (.cells #[.int .u64 m] 65)).alloc (.cells #[.int .u64 m] 65)) := ((Below.refl _ _).alloc (Nat.le_refl _) _).alloc (by simp) _
  have HC := Lib.hid (And.intro hc1 (And.intro hc2 hB))
  clear hc1 hc2 hB
  go_enter Try.func5, Try.ntmps5
  go_wp2_with (go_at_call 24; refine (clkAt _ _).mono ?_; rintro e w' ⟨rfl, rfl⟩)
  go_loopw [7, 8] (fun v i wr => ∃ k : Nat, k ≤ 60 ∧ i = .int .i64 k ∧ v = .int .u64 ((xs.take k).foldl addV m) ∧ IsClk wr w.heap.size ((xs.take k).foldl addV m) ∧ IsClk wr (w.heap.size + 1) m ∧ Below w.heap.size w wr) (fun _ i _ => 60 - (intOf i).toNat)
  case atStart => exact ⟨0, Nat.zero_le _, rfl, rfl, HC.out.1, HC.out.2.1, HC.out.2.2⟩
  case round =>
    obtain ⟨k, hk, rfl, rfl, hc, hd, hbel⟩ := hrel
    have hbk := fold_bd (xs.take k) m hm0 hm1 (fun x hx => HW.out x (List.mem_of_mem_take hx))
    have hsz : w.heap.size + 1 < wr.heap.size := lt_of_block hd
    by_cases hlt : k < 60
    · have hcx : wr.cell? ⟨b, off + k, none⟩ = some (.int .u64 (xs.getD k 0)) := (hbel.cell (p := ⟨b, off + k, none⟩) HBW.out).trans (HX.out k hlt)
      have hxk := HW.out (xs.getD k 0) (getD_mem (by rw [← HN.out]; exact hlt))
      have HT := Lib.hid (fold_take m xs k (by rw [← HN.out]; exact hlt))
      obtain ⟨x, hxe⟩ : ∃ x, x = xs.getD k 0 := ⟨_, rfl⟩
      rw [← hxe] at hcx hxk
      have HXE := Lib.hid hxe
      clear hxe
      generalize hv : (xs.take k).foldl addV m = v at *
      clear hv
      have hnx := addV_bd hbk.2.1 hbk.2.2 hxk.1
      have HCD := Lib.hid (And.intro hc (And.intro hd hbel))
      clear hc hd hbel
      have hcN : ∀ j, j < 1 → (wr.alloc (.cells #[.int .u64 x] 22)).cell? ⟨wr.heap.size, 0 + j, none⟩ = some (.int .u64 ([x].getD j 0)) := by intro j hj; obtain rfl : j = 0 := (by omega); exact cell_of_one (heap_alloc_new wr _)
      have hwN : ∀ y ∈ [x], 0 ≤ y ∧ y ≤ 18446744073709551615 := by intro y hy; rw [List.mem_singleton] at hy; rw [hy]; exact hxk
      have HS := Lib.hid (clkStep w.heap.size v _ (isClk_alloc HCD.out.1 (.cells #[.int .u64 x] 22)) hbk.2.1 hbk.2.2 wr.heap.size 0 1 1 [x] rfl (fun _ => by omega) hcN hwN (by omega))
      clear hcN hwN
      go_wp2_with (first
        | (go_at_call 25; refine (clkNow w.heap.size v _ HCD.out.1).mono ?_; rintro e w' ⟨rfl, rfl⟩)
        | (go_at_call 26; refine (clkStopped w.heap.size v _ HCD.out.1).mono ?_; rintro e w' ⟨rfl, rfl⟩)
        | (go_at_call 19; refine (refAdd v x _ hbk.2.1 hbk.2.2 hxk.1 hxk.2).mono ?_; rintro e w' ⟨rfl, rfl⟩)
        | (go_at_call 27; refine HS.out.mono ?_; rintro e w' ⟨rfl, hg, hc'⟩; rw [List.foldl_cons, List.foldl_nil] at *))
      go_roundw
      case rel =>
        have hg' := grownBy_trans (World.grownBy_alloc wr (.cells #[.int .u64 x] 22) (some w.heap.size)) hg
        exact ⟨k + 1, by omega, by go_num, by rw [HT.out, ← HXE.out], by rw [HT.out, ← HXE.out]; exact hc', isClk_grown HCD.out.2.1 hg' (by omega), below_grown HCD.out.2.2 hg' (by omega) (Nat.le_refl _)⟩
      case measure => simp [intOf]; omega
    · have hall : xs.take k = xs := List.take_of_length_le (by have := HN.out; omega)
      rw [hall] at hc hbk ⊢
      clear hall
      have HCD := Lib.hid (And.intro hc (And.intro hd hbel))
      clear hc hd hbel
      have HS := Lib.hid (clkStep (w.heap.size + 1) m wr HCD.out.2.1 hm0 hm1 b off 60 cap xs HN.out (fun _ => by have := HBW.out; omega) (fun j hj => (HCD.out.2.2.cell (p := ⟨b, off + j, none⟩) HBW.out).trans (HX.out j hj)) HW.out (by omega))
      generalize hv : xs.foldl addV m = v at *
      clear hv
      go_wp2_with fail
      refine (clkKnown _).mono ?_; rintro e w' ⟨rfl, rfl⟩
      go_wp2_with fail
      refine (clkNow w.heap.size v _ HCD.out.1).mono ?_; rintro e w' ⟨rfl, rfl⟩
      go_wp2_with fail
      refine HS.out.mono ?_; rintro e w' ⟨rfl, hg, hc'⟩
      have HC' := Lib.hid (And.intro hg hc')
      clear hg hc'
      go_wp2_with fail
      refine (clkNow (w.heap.size + 1) v _ HC'.out.2).mono ?_; rintro e w'' ⟨rfl, rfl⟩
      go_wp2_with fail
      refine (clkStep0 (w.heap.size + 1) v _ HC'.out.2 _ _).mono ?_; rintro e w'' ⟨rfl, rfl⟩
      go_wp2_with fail
      go_ret
      exact ⟨rfl, below_grown HCD.out.2.2 HC'.out.1 (by omega) (by omega)⟩

theorem goes_none (m : Int) (w : World) (hm0 : 0 ≤ m) (hm1 : m ≤ 18446744073709551615) (a : Option Addr) (cap : Nat) (hcap : a = none → cap = 0) :
    Calls Try.prog 5 #[.int .u64 m, .slice a 0 cap] w fun e w' => e = .returned (.bool true) ∧ Below w.heap.size w w' := by
  have hc1 : IsClk ((w.alloc (.cells #[.int .u64 m] 65)).alloc (.cells #[.int .u64 m] 65)) w.heap.size m := isClk_alloc (isClk_new w m) _
  have hc2 : IsClk ((w.alloc (.cells #[.int .u64 m] 65)).alloc (.cells #[.int .u64 m] 65)) (w.heap.size + 1) m := by have := isClk_new (w.alloc (.cells #[.int .u64 m] 65)) m; rwa [World.size_alloc] at this
  have hB : Below w.heap.size w ((w.alloc (.cells #[.int .u64 m] 65)).alloc (.cells #[.int .u64 m] 65)) := ((Below.refl _ _).alloc (Nat.le_refl _) _).alloc (by simp) _
  have HC := Lib.hid (And.intro hc1 (And.intro hc2 hB))
  clear hc1 hc2 hB
  cases a
  all_goals
    try (obtain rfl := hcap rfl)
    clear hcap
    go_enter Try.func5, Try.ntmps5
    go_wp2_with (go_at_call 24; refine (clkAt _ _).mono ?_; rintro e w' ⟨rfl, rfl⟩)
    refine wp_loop_rounds 1 ?_
    rw [rounds_succ]
    go_wp2_with fail
    refine (clkKnown _).mono ?_; rintro e w' ⟨rfl, rfl⟩
    go_wp2_with fail
    refine (clkNow w.heap.size m _ HC.out.1).mono ?_; rintro e w' ⟨rfl, rfl⟩
    go_wp2_with fail
    refine (clkStep0 (w.heap.size + 1) m _ HC.out.2.1 _ _).mono ?_; rintro e w'' ⟨rfl, rfl⟩
    go_wp2_with fail
    refine (clkNow (w.heap.size + 1) m _ HC.out.2.1).mono ?_; rintro e w'' ⟨rfl, rfl⟩
    go_wp2_with fail
    refine (clkStep0 (w.heap.size + 1) m _ HC.out.2.1 _ _).mono ?_; rintro e w'' ⟨rfl, rfl⟩
    go_wp2_with fail
    go_ret
    exact ⟨rfl, HC.out.2.2⟩

theorem row_view {w : World} {a : Option Addr} {len cap : Nat} {zs : List Int}
    (h : (a = none ∧ len = 0 ∧ cap = 0 ∧ zs = []) ∨ ∃ x, a = some x ∧ len ≤ cap ∧ cap ≤ maxLen ∧ zs.length = cap ∧ (∀ i, i < zs.length → w.cell? (x.add i) = some (.int .u64 (zs.getD i 0))) ∧ ∀ n ∈ zs, (Lit.int .u64 n).wf = true) :
    (len = 0 ∧ (a = none → cap = 0)) ∨ (0 < len ∧ len ≤ cap ∧ cap ≤ 9223372036854775807 ∧ ∃ b off, a = some ⟨b, off, none⟩ ∧
      ∀ n, n ≤ len → n = (zs.take n).length ∧ (∀ j, j < n → w.cell? ⟨b, off + j, none⟩ = some (.int .u64 ((zs.take n).getD j 0))) ∧ ∀ x ∈ zs.take n, 0 ≤ x ∧ x ≤ 18446744073709551615) := by
  rcases h with ⟨rfl, rfl, rfl, rfl⟩ | ⟨x, rfl, hl, hm, hz, hc, hw⟩
  · exact .inl ⟨rfl, fun _ => rfl⟩
  by_cases h0 : len = 0
  · exact .inl ⟨h0, fun e => by cases e⟩
  right
  refine ⟨by omega, hl, by unfold maxLen at hm; omega, ?_⟩
  obtain ⟨b, off, spot⟩ := x
  have hc0 := hc 0 (by omega)
  have hspot : spot = none := by simpa [Addr.add] using World.cell?_spot hc0
  subst hspot
  refine ⟨b, off, rfl, fun n hn => ⟨by rw [List.length_take]; omega, fun j hj => ?_, fun y hy => bounds_u64 (hw y (List.mem_of_mem_take hy))⟩⟩
  have h1 := hc j (by omega)
  have h2 : (⟨b, off, none⟩ : Addr).add j = ⟨b, off + j, none⟩ := by unfold Addr.add; split <;> simp_all
  rw [h2] at h1
  rw [h1]
  congr 2
  rw [List.getD_eq_getElem?_getD, List.getD_eq_getElem?_getD, List.getElem?_take, if_pos hj]

theorem walk_ClockGoes (m : Int) (a : Option Addr) (len cap : Nat) (zs : List Int) (w : World) (hm : (Lit.int .u64 m).wf = true)
    (h : (a = none ∧ len = 0 ∧ cap = 0 ∧ zs = []) ∨ ∃ x, a = some x ∧ len ≤ cap ∧ cap ≤ maxLen ∧ zs.length = cap ∧ (∀ i, i < zs.length → w.cell? (x.add i) = some (.int .u64 (zs.getD i 0))) ∧ ∀ n ∈ zs, (Lit.int .u64 n).wf = true) :
    Calls Try.prog 5 #[.int .u64 m, .slice a len cap] w fun e w' => e = .returned (.bool true) ∧ Below w.heap.size w w' := by
  have hb := bounds_u64 hm
  rcases row_view h with ⟨rfl, hcap⟩ | ⟨hpos, hlc, hcm, b, off, rfl, hx⟩
  · exact goes_none m w hb.1 hb.2 a cap hcap
  · by_cases hl : len ≤ 60
    · obtain ⟨h1, h2, h3⟩ := hx len (Nat.le_refl _)
      exact goes_few m w hb.1 hb.2 b off len cap hpos hl hlc hcm _ h1 h2 h3
    · obtain ⟨h1, h2, h3⟩ := hx 60 (by omega)
      exact goes_many m w hb.1 hb.2 b off len cap (by omega) hlc hcm _ h1 h2 h3
end Go.Proofs.Ytcoimnajoihlnaa
