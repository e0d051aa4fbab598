/- The law ClockDue, walked: true at every two words and every list of words. -/
import Derived.Test.YtcoimnajoihlnaaDue
import Derived.Deep.RegionHeld3
namespace Go.Proofs.Ytcoimnajoihlnaa
open Go.RowKit
set_option linter.unusedVariables false
theorem isClk_drew {w : World} {B : Nat} {v : Int} (h : IsClk w B v) : IsClk w.drew B v := h
theorem clkDueR (m : Int) (B : Nat) (w : World) (x r : Int) (hr : dueN m [x] = r) (h : IsClk w B m) (b : Nat) (hx : w.heap[b]? = some (.cells #[.int .u64 x] 22 (0, 0))) :
    Calls Try.prog 28 #[.pointer (some ⟨B, 0, none⟩), .slice (some ⟨b, 0, none⟩) 1 1] w fun e w' => e = .returned (.int .i64 r) ∧ w.alloc (.cells #[.pointer (some ⟨B, 0, none⟩)] 36) = w' := by
  subst hr
  exact clkDue m B w h b 0 1 1 [x] rfl (by intro j hj; obtain rfl : j = 0 := (by omega); exact cell_of_one hx) (by omega)
theorem refLeftR (a b r : Int) (hr : leftV a b = r) (w : World) (ha : 0 ≤ a) (ha' : a ≤ 18446744073709551615) (hb : 0 ≤ b) (hb' : b ≤ 18446744073709551615) :
    Calls Try.prog 21 #[.int .u64 a, .int .u64 b] w fun e w' => e = .returned (.int .u64 r) ∧ w = w' := by
  subst hr; exact refLeft a b w ha ha' hb hb'
theorem heap_new_drew (w : World) (o : Obj) : (w.drew.alloc o).heap[w.heap.size]? = some o := heap_alloc_new w.drew o
theorem below_drew {B : Nat} {a w : World} (h : Below B a w) : Below B a w.drew := h.drew

set_option maxHeartbeats 1600000 in
theorem due_few (m d : Int) (w : World) (hm0 : 0 ≤ m) (hm1 : m ≤ 18446744073709551615) (hd0 : 0 ≤ d) (hd1 : d ≤ 18446744073709551615) (b off len cap : Nat) (hpos : 0 < len) (hfew : len ≤ 60) (hlc : len ≤ cap) (hlm : cap ≤ 9223372036854775807) (xs : List Int) (hn : len = xs.length)
    (hx : ∀ j, j < len → w.cell? ⟨b, off + j, none⟩ = some (.int .u64 (xs.getD j 0))) (hw : ∀ x ∈ xs, 0 ≤ x ∧ x ≤ 18446744073709551615) :
    Calls Try.prog 6 #[.int .u64 m, .int .u64 d, .slice (some ⟨b, off, none⟩) len cap] w fun e w' => e = .returned (.bool true) ∧ Below w.heap.size w w' := by
  have HN := Lib.hid hn
  clear hn
  have hbw : b < w.heap.size := World.block_lt_of_cell? w _ (hx 0 (by omega))
  have HX := Lib.hid hx
  have HW := Lib.hid hw
  have HBW := Lib.hid hbw
  clear hx hw hbw
  have HC := Lib.hid (And.intro (isClk_new w m) ((Below.refl w.heap.size w).alloc (Nat.le_refl _) (.cells #[.int .u64 m] 65)))
  go_enter Try.func6, Try.ntmps6
  go_wp2_with (go_at_call 24; refine (clkAt _ _).mono ?_; rintro e w' ⟨rfl, rfl⟩)
  go_loopw [8, 9] (fun v i wr => ∃ k : Nat, k ≤ len ∧ i = .int .i64 k ∧ v = .int .i64 (dueN m (xs.take k)) ∧ IsClk wr w.heap.size m ∧ Below w.heap.size w wr) (fun _ i _ => len - (intOf i).toNat)
  case atStart => exact ⟨0, Nat.zero_le _, rfl, rfl, HC.out.1, HC.out.2⟩
  case round =>
    obtain ⟨k, hk, rfl, rfl, hc, hbel⟩ := hrel
    have hsz : w.heap.size < wr.heap.size := lt_of_block hc
    have hbd : 0 ≤ dueN m (xs.take k) ∧ dueN m (xs.take k) ≤ k := by have h1 := dueN_bd m (xs.take k); have hlk : (xs.take k).length ≤ k := List.length_take_le _ _; omega
    by_cases hlt : k < len
    · have hcx : wr.cell? ⟨b, off + k, none⟩ = some (.int .u64 (xs.getD k 0)) := (hbel.cell (p := ⟨b, off + k, none⟩) HBW.out).trans (HX.out k hlt)
      have hxk := HW.out (xs.getD k 0) (getD_mem (by rw [← HN.out]; exact hlt))
      have HT := Lib.hid (dueN_take m xs k (by rw [← HN.out]; exact hlt))
      obtain ⟨x, hxe⟩ : ∃ x, x = xs.getD k 0 := ⟨_, rfl⟩
      rw [← hxe] at hcx hxk
      have HXE := Lib.hid hxe
      clear hxe
      generalize hv : dueN m (xs.take k) = v at *
      clear hv
      have HCD := Lib.hid (And.intro hc hbel)
      clear hc hbel
      have i0 : (0 : Int) ≤ (k : Int) := Int.natCast_nonneg _
      have i1 : (k : Int) < ((len : Nat) : Int) := by omega
      by_cases hle : x ≤ m
      · skip
        have HD := Lib.hid (show dueIs m x = true from decide_eq_true hle)
        have HL := Lib.hid (leftV_no hle)
        have HO := Lib.hid (show dueN m [x] = 1 from by rw [dueN_one, HD.out]; rfl)
        skip
        go_wp2_with fail
        go_region_held3 (fun w' => w'.cell? ⟨b, off + k, none⟩ = some (.int .u64 x)) (go_keep)
          (first
            | (go_at_call 28; refine (clkDueR m w.heap.size _ x 1 HO.out ?_ _ ?_).mono ?_; (repeat (first | exact HCD.out.1 | apply isClk_alloc | apply isClk_drew)); (first | exact heap_alloc_new _ _ | exact heap_new_drew _ _); rintro e w' ⟨rfl, rfl⟩)
            | (go_at_call 21; refine (refLeftR m x _ HL.out _ hm0 hm1 hxk.1 hxk.2).mono ?_; rintro e w' ⟨rfl, rfl⟩))
        rename_i hdead
        clear hdead
        go_wp2
        go_roundw
        case rel => exact ⟨k + 1, by omega, by go_num, by rw [HT.out, ← HXE.out, HD.out]; first | rfl | simp, by repeat (first | exact HCD.out.1 | apply isClk_drew | apply isClk_alloc), by have hB := HCD.out.2; go_grown⟩
        case measure => simp [intOf]; omega
      · skip
        have HD := Lib.hid (show dueIs m x = false from decide_eq_false hle)
        have HL := Lib.hid (leftV_yes hle)
        have HO := Lib.hid (show dueN m [x] = 0 from by rw [dueN_one, HD.out]; rfl)
        have hz : (x - m == 0) = false := (by rw [beq_eq_false_iff_ne]; omega)
        go_wp2_with fail
        go_region_held3 (fun w' => w'.cell? ⟨b, off + k, none⟩ = some (.int .u64 x)) (go_keep)
          (first
            | (go_at_call 28; refine (clkDueR m w.heap.size _ x 0 HO.out ?_ _ ?_).mono ?_; (repeat (first | exact HCD.out.1 | apply isClk_alloc | apply isClk_drew)); (first | exact heap_alloc_new _ _ | exact heap_new_drew _ _); rintro e w' ⟨rfl, rfl⟩)
            | (go_at_call 21; refine (refLeftR m x _ HL.out _ hm0 hm1 hxk.1 hxk.2).mono ?_; rintro e w' ⟨rfl, rfl⟩))
        rename_i hdead
        clear hdead
        go_wp2
        go_roundw
        case rel => exact ⟨k + 1, by omega, by go_num, by rw [HT.out, ← HXE.out, HD.out]; first | rfl | simp, by repeat (first | exact HCD.out.1 | apply isClk_drew | apply isClk_alloc), by have hB := HCD.out.2; go_grown⟩
        case measure => simp [intOf]; omega
    · have hall : xs.take k = xs := List.take_of_length_le (by have := HN.out; omega)
      rw [hall] at hbd ⊢
      clear hall
      have HCD := Lib.hid (And.intro hc hbel)
      clear hc hbel
      have hma := addV_bd hm0 hm1 hd0
      have hmo := dueN_mono hma.1 xs
      have HX2 := Lib.hid (fun (W : World) (hW : Below w.heap.size w W) j hj => (hW.cell (p := ⟨b, off + j, none⟩) HBW.out).trans (HX.out j hj))
      go_wp2_with fail
      refine (clkDue m w.heap.size _ HCD.out.1 b off len cap xs HN.out (HX2.out _ HCD.out.2) (by omega)).mono ?_; rintro e w' ⟨rfl, rfl⟩
      go_wp2_with fail
      refine (clkStep w.heap.size m _ (isClk_alloc (isClk_alloc HCD.out.1 _) _) hm0 hm1 (wr.heap.size + 1) 0 1 1 [d] rfl (fun _ => by omega) ?hc (by intro y hy; rw [List.mem_singleton] at hy; rw [hy]; exact ⟨hd0, hd1⟩) (by omega)).mono ?_
      case hc => intro j hj; obtain rfl : j = 0 := (by omega); exact cell_of_one (by have h := heap_alloc_new (wr.alloc (.cells #[.pointer (some ⟨w.heap.size, 0, none⟩)] 36)) (.cells #[.int .u64 d] 22); rwa [World.size_alloc] at h)
      rintro e w2 ⟨rfl, hg, hc2⟩
      have hb2 : Below w.heap.size w w2 := below_grown ((HCD.out.2.alloc (by omega) _).alloc (by simp; omega) _) hg (by simp; omega) (Nat.le_refl _)
      have HC2 := Lib.hid (And.intro hc2 hb2)
      clear hg hc2 hb2
      go_wp2_with fail
      refine (clkKnown _).mono ?_; rintro e w' ⟨rfl, rfl⟩
      go_wp2_with fail
      refine (clkDue (addV m d) w.heap.size _ HC2.out.1 b off len cap xs HN.out (HX2.out _ HC2.out.2) (by omega)).mono ?_; rintro e w' ⟨rfl, rfl⟩
      go_wp2_with fail
      refine (clkDue0 (addV m d) w.heap.size _ (isClk_alloc HC2.out.1 _) _ _).mono ?_; rintro e w' ⟨rfl, rfl⟩
      go_wp2_with fail
      go_ret
      have hs2 := lt_of_block HC2.out.1
      exact ⟨rfl, (HC2.out.2.alloc (by omega) _).alloc (by simp; omega) _⟩

set_option maxHeartbeats 1600000 in
theorem due_many (m d : Int) (w : World) (hm0 : 0 ≤ m) (hm1 : m ≤ 18446744073709551615) (hd0 : 0 ≤ d) (hd1 : d ≤ 18446744073709551615) (b off len cap : Nat) (hmany : 60 < len) (hlc : len ≤ cap) (hlm : cap ≤ 9223372036854775807) (xs : List Int) (hn : 60 = xs.length)
    (hx : ∀ j, j < 60 → w.cell? ⟨b, off + j, none⟩ = some (.int .u64 (xs.getD j 0))) (hw : ∀ x ∈ xs, 0 ≤ x ∧ x ≤ 18446744073709551615) :
    Calls Try.prog 6 #[.int .u64 m, .int .u64 d, .slice (some ⟨b, off, none⟩) len cap] w fun e w' => e = .returned (.bool true) ∧ Below w.heap.size w w' := by
  have HN := Lib.hid hn
  clear hn
  have hbw : b < w.heap.size := World.block_lt_of_cell? w _ (hx 0 (by omega))
  have HX := Lib.hid hx
  have HW := Lib.hid hw
  have HBW := Lib.hid hbw
  clear hx hw hbw
  have HC := Lib.hid (And.intro (isClk_new w m) ((Below.refl w.heap.size w).alloc (Nat.le_refl _) (.cells #[.int .u64 m] 65)))
  go_enter Try.func6, Try.ntmps6
  go_wp2_with (go_at_call 24; refine (clkAt _ _).mono ?_; rintro e w' ⟨rfl, rfl⟩)
  go_loopw [8, 9] (fun v i wr => ∃ k : Nat, k ≤ 60 ∧ i = .int .i64 k ∧ v = .int .i64 (dueN m (xs.take k)) ∧ IsClk wr w.heap.size m ∧ Below w.heap.size w wr) (fun _ i _ => 60 - (intOf i).toNat)
  case atStart => exact ⟨0, Nat.zero_le _, rfl, rfl, HC.out.1, HC.out.2⟩
  case round =>
    obtain ⟨k, hk, rfl, rfl, hc, hbel⟩ := hrel
    have hsz : w.heap.size < wr.heap.size := lt_of_block hc
    have hbd : 0 ≤ dueN m (xs.take k) ∧ dueN m (xs.take k) ≤ k := by have h1 := dueN_bd m (xs.take k); have hlk : (xs.take k).length ≤ k := List.length_take_le _ _; omega
    by_cases hlt : k < 60
    · have hcx : wr.cell? ⟨b, off + k, none⟩ = some (.int .u64 (xs.getD k 0)) := (hbel.cell (p := ⟨b, off + k, none⟩) HBW.out).trans (HX.out k hlt)
      have hxk := HW.out (xs.getD k 0) (getD_mem (by rw [← HN.out]; exact hlt))
      have HT := Lib.hid (dueN_take m xs k (by rw [← HN.out]; exact hlt))
      obtain ⟨x, hxe⟩ : ∃ x, x = xs.getD k 0 := ⟨_, rfl⟩
      rw [← hxe] at hcx hxk
      have HXE := Lib.hid hxe
      clear hxe
      generalize hv : dueN m (xs.take k) = v at *
      clear hv
      have HCD := Lib.hid (And.intro hc hbel)
      clear hc hbel
      have i0 : (0 : Int) ≤ (k : Int) := Int.natCast_nonneg _
      have i1 : (k : Int) < ((60 : Nat) : Int) := by omega
      by_cases hle : x ≤ m
      · skip
        have HD := Lib.hid (show dueIs m x = true from decide_eq_true hle)
        have HL := Lib.hid (leftV_no hle)
        have HO := Lib.hid (show dueN m [x] = 1 from by rw [dueN_one, HD.out]; rfl)
        skip
        go_wp2_with fail
        go_region_held3 (fun w' => w'.cell? ⟨b, off + k, none⟩ = some (.int .u64 x)) (go_keep)
          (first
            | (go_at_call 28; refine (clkDueR m w.heap.size _ x 1 HO.out ?_ _ ?_).mono ?_; (repeat (first | exact HCD.out.1 | apply isClk_alloc | apply isClk_drew)); (first | exact heap_alloc_new _ _ | exact heap_new_drew _ _); rintro e w' ⟨rfl, rfl⟩)
            | (go_at_call 21; refine (refLeftR m x _ HL.out _ hm0 hm1 hxk.1 hxk.2).mono ?_; rintro e w' ⟨rfl, rfl⟩))
        rename_i hdead
        clear hdead
        go_wp2
        go_roundw
        case rel => exact ⟨k + 1, by omega, by go_num, by rw [HT.out, ← HXE.out, HD.out]; first | rfl | simp, by repeat (first | exact HCD.out.1 | apply isClk_drew | apply isClk_alloc), by have hB := HCD.out.2; go_grown⟩
        case measure => simp [intOf]; omega
      · skip
        have HD := Lib.hid (show dueIs m x = false from decide_eq_false hle)
        have HL := Lib.hid (leftV_yes hle)
        have HO := Lib.hid (show dueN m [x] = 0 from by rw [dueN_one, HD.out]; rfl)
        have hz : (x - m == 0) = false := (by rw [beq_eq_false_iff_ne]; omega)
        go_wp2_with fail
        go_region_held3 (fun w' => w'.cell? ⟨b, off + k, none⟩ = some (.int .u64 x)) (go_keep)
          (first
            | (go_at_call 28; refine (clkDueR m w.heap.size _ x 0 HO.out ?_ _ ?_).mono ?_; (repeat (first | exact HCD.out.1 | apply isClk_alloc | apply isClk_drew)); (first | exact heap_alloc_new _ _ | exact heap_new_drew _ _); rintro e w' ⟨rfl, rfl⟩)
            | (go_at_call 21; refine (refLeftR m x _ HL.out _ hm0 hm1 hxk.1 hxk.2).mono ?_; rintro e w' ⟨rfl, rfl⟩))
        rename_i hdead
        clear hdead
        go_wp2
        go_roundw
        case rel => exact ⟨k + 1, by omega, by go_num, by rw [HT.out, ← HXE.out, HD.out]; first | rfl | simp, by repeat (first | exact HCD.out.1 | apply isClk_drew | apply isClk_alloc), by have hB := HCD.out.2; go_grown⟩
        case measure => simp [intOf]; omega
    · have hall : xs.take k = xs := List.take_of_length_le (by have := HN.out; omega)
      rw [hall] at hbd ⊢
      clear hall
      have HCD := Lib.hid (And.intro hc hbel)
      clear hc hbel
      have hma := addV_bd hm0 hm1 hd0
      have hmo := dueN_mono hma.1 xs
      have HX2 := Lib.hid (fun (W : World) (hW : Below w.heap.size w W) j hj => (hW.cell (p := ⟨b, off + j, none⟩) HBW.out).trans (HX.out j hj))
      go_wp2_with fail
      refine (clkDue m w.heap.size _ HCD.out.1 b off 60 cap xs HN.out (HX2.out _ HCD.out.2) (by omega)).mono ?_; rintro e w' ⟨rfl, rfl⟩
      go_wp2_with fail
      refine (clkStep w.heap.size m _ (isClk_alloc (isClk_alloc HCD.out.1 _) _) hm0 hm1 (wr.heap.size + 1) 0 1 1 [d] rfl (fun _ => by omega) ?hc (by intro y hy; rw [List.mem_singleton] at hy; rw [hy]; exact ⟨hd0, hd1⟩) (by omega)).mono ?_
      case hc => intro j hj; obtain rfl : j = 0 := (by omega); exact cell_of_one (by have h := heap_alloc_new (wr.alloc (.cells #[.pointer (some ⟨w.heap.size, 0, none⟩)] 36)) (.cells #[.int .u64 d] 22); rwa [World.size_alloc] at h)
      rintro e w2 ⟨rfl, hg, hc2⟩
      have hb2 : Below w.heap.size w w2 := below_grown ((HCD.out.2.alloc (by omega) _).alloc (by simp; omega) _) hg (by simp; omega) (Nat.le_refl _)
      have HC2 := Lib.hid (And.intro hc2 hb2)
      clear hg hc2 hb2
      go_wp2_with fail
      refine (clkKnown _).mono ?_; rintro e w' ⟨rfl, rfl⟩
      go_wp2_with fail
      refine (clkDue (addV m d) w.heap.size _ HC2.out.1 b off 60 cap xs HN.out (HX2.out _ HC2.out.2) (by omega)).mono ?_; rintro e w' ⟨rfl, rfl⟩
      go_wp2_with fail
      refine (clkDue0 (addV m d) w.heap.size _ (isClk_alloc HC2.out.1 _) _ _).mono ?_; rintro e w' ⟨rfl, rfl⟩
      go_wp2_with fail
      go_ret
      have hs2 := lt_of_block HC2.out.1
      exact ⟨rfl, (HC2.out.2.alloc (by omega) _).alloc (by simp; omega) _⟩

theorem due_none (m d : Int) (w : World) (hm0 : 0 ≤ m) (hm1 : m ≤ 18446744073709551615) (hd0 : 0 ≤ d) (hd1 : d ≤ 18446744073709551615) (a : Option Addr) (cap : Nat) (hcap : a = none → cap = 0) :
    Calls Try.prog 6 #[.int .u64 m, .int .u64 d, .slice a 0 cap] w fun e w' => e = .returned (.bool true) ∧ Below w.heap.size w w' := by
  have hma := addV_bd hm0 hm1 hd0
  have HC := Lib.hid (And.intro (isClk_new w m) ((Below.refl w.heap.size w).alloc (Nat.le_refl _) (.cells #[.int .u64 m] 65)))
  cases a
  all_goals
    try (obtain rfl := hcap rfl)
    clear hcap
    go_enter Try.func6, Try.ntmps6
    go_wp2_with (go_at_call 24; refine (clkAt _ _).mono ?_; rintro e w' ⟨rfl, rfl⟩)
    refine wp_loop_rounds 1 ?_
    rw [rounds_succ]
    go_wp2_with fail
    refine (clkDue0 m w.heap.size _ HC.out.1 _ _).mono ?_; rintro e w' ⟨rfl, rfl⟩
    go_wp2_with fail
    refine (clkStep w.heap.size m _ (isClk_alloc (isClk_alloc HC.out.1 _) _) hm0 hm1 (w.heap.size + 1 + 1) 0 1 1 [d] rfl (fun _ => by omega) ?hc (by intro y hy; rw [List.mem_singleton] at hy; rw [hy]; exact ⟨hd0, hd1⟩) (by omega)).mono ?_
    case hc => intro j hj; obtain rfl : j = 0 := (by omega); exact cell_of_one (by have h := heap_alloc_new ((w.alloc (.cells #[.int .u64 m] 65)).alloc (.cells #[.pointer (some ⟨w.heap.size, 0, none⟩)] 36)) (.cells #[.int .u64 d] 22); rwa [World.size_alloc, World.size_alloc] at h)
    rintro e w2 ⟨rfl, hg, hc2⟩
    have hb2 : Below w.heap.size w w2 := below_grown ((HC.out.2.alloc (by simp) _).alloc (by simp; omega) _) hg (by simp; omega) (Nat.le_refl _)
    have HC2 := Lib.hid (And.intro hc2 hb2)
    clear hg hc2 hb2
    go_wp2_with fail
    refine (clkKnown _).mono ?_; rintro e w' ⟨rfl, rfl⟩
    go_wp2_with fail
    refine (clkDue0 (addV m d) w.heap.size _ HC2.out.1 _ _).mono ?_; rintro e w' ⟨rfl, rfl⟩
    go_wp2_with fail
    refine (clkDue0 (addV m d) w.heap.size _ (isClk_alloc HC2.out.1 _) _ _).mono ?_; rintro e w' ⟨rfl, rfl⟩
    go_wp2_with fail
    go_ret
    have hs2 := lt_of_block HC2.out.1
    exact ⟨rfl, (HC2.out.2.alloc (by omega) _).alloc (by simp; omega) _⟩

theorem walk_ClockDue (m d : Int) (a : Option Addr) (len cap : Nat) (zs : List Int) (w : World) (hm : (Lit.int .u64 m).wf = true) (hd : (Lit.int .u64 d).wf = true)
    (h : (a = none ∧ len = 0 ∧ cap = 0 ∧ zs = []) ∨ ∃ x, a = some x ∧ len ≤ cap ∧ cap ≤ maxLen ∧ zs.length = cap ∧ (∀ i, i < zs.length → w.cell? (x.add i) = some (.int .u64 (zs.getD i 0))) ∧ ∀ n ∈ zs, (Lit.int .u64 n).wf = true) :
    Calls Try.prog 6 #[.int .u64 m, .int .u64 d, .slice a len cap] w fun e w' => e = .returned (.bool true) ∧ Below w.heap.size w w' := by
  have hb := bounds_u64 hm
  have hc := bounds_u64 hd
  rcases row_view h with ⟨rfl, hcap⟩ | ⟨hpos, hlc, hcm, b, off, rfl, hx⟩
  · exact due_none m d w hb.1 hb.2 hc.1 hc.2 a cap hcap
  · by_cases hl : len ≤ 60
    · obtain ⟨h1, h2, h3⟩ := hx len (Nat.le_refl _)
      exact due_few m d w hb.1 hb.2 hc.1 hc.2 b off len cap hpos hl hlc hcm _ h1 h2 h3
    · obtain ⟨h1, h2, h3⟩ := hx 60 (by omega)
      exact due_many m d w hb.1 hb.2 hc.1 hc.2 b off len cap (by omega) hlc hcm _ h1 h2 h3
end Go.Proofs.Ytcoimnajoihlnaa
