/- A table of counts by strings: its methods by contracts. -/
import Derived.Test.YtkpenhichgkdkaaRfI
namespace Go.Proofs.Ytkpenhichgkdkaa
open Go.RowKit
set_option linter.unusedVariables false
set_option linter.unusedSectionVars false

instance : Key (List UInt8) where
  dec := inferInstance
  lt := (· < ·)
  dlt := fun a b => inferInstanceAs (Decidable (a < b))
  irr := fun a h => List.lt_irrefl a h
  tr := fun a b c h1 h2 => List.lt_trans h1 h2
  tot := fun a b => by
    by_cases h1 : a < b
    · exact .inr (.inl h1)
    by_cases h2 : b < a
    · exact .inr (.inr h2)
    exact .inl (List.le_antisymm (List.not_lt.1 h2) (List.not_lt.1 h1))
  lit := .string
  inj := fun a b h => by simpa using h
  isKey := fun a => trivial

theorem lawS : Maps.Keyed Try.prog 9 := Maps.string_keyed Try.underlying9
theorem zeroS (w : World) : (zeroValue 23).run Try.prog w = .ok (.pointer none) w := by kernel_rfl
theorem keyOfS {k : (List UInt8)} (h : k.length ≤ maxLen) : keyOf Try.prog 9 (Go.Proofs.encStr k) = some (Key.lit k) := WideMaps.keyOf_string_mk Try.underlying9 (by simpa [ByteArray.size] using h)
variable {w : World} {F M : Nat} {top : Int} {l : St (List UInt8)} {blk : (List UInt8) → Nat}

theorem findSYes (k : (List UInt8)) (n : Int) (s : Bool) (h : Tbl 9 78 w F M top l blk) (ok : k.length ≤ maxLen) (hk : look l k = some (n, s)) :
    Calls Try.prog 35 #[.pointer (some ⟨F, 0, none⟩), Go.Proofs.encStr k] w fun e w' => e = .returned (.pointer (some ⟨blk k, 0, none⟩)) ∧ w = w' := by
  obtain ⟨D, hD, hS⟩ := h.map
  have ha := hS.at_ k
  rw [hk] at ha
  have HA := Lib.hid (And.intro hD ha)
  have c1 := h.c1
  clear hD ha hS h hk
  go_enter Try.func35, Try.ntmps35
  go_wp2_with (first
    | (at_lookup; refine wpList_lookup_ptr _ rfl _ _ 76 rfl 9 23 lawS Try.underlying76 (zeroS _) M _ D rfl HA.out.1 _ (Key.lit k) rfl (keyOfS ok) (some (blk k)) HA.out.2 (.pointer (some ⟨blk k, 0, none⟩)) rfl ?_; go_frame)
    | go_in)
  go_ret
  exact ⟨rfl, rfl⟩
theorem findSNo (k : (List UInt8)) (h : Tbl 9 78 w F M top l blk) (ok : k.length ≤ maxLen) (hk : look l k = none) :
    Calls Try.prog 35 #[.pointer (some ⟨F, 0, none⟩), Go.Proofs.encStr k] w fun e w' => e = .returned (.pointer none) ∧ w = w' := by
  obtain ⟨D, hD, hS⟩ := h.map
  have ha := hS.at_ k
  rw [hk] at ha
  have HA := Lib.hid (And.intro hD ha)
  have c1 := h.c1
  clear hD ha hS h hk
  go_enter Try.func35, Try.ntmps35
  go_wp2_with (first
    | (at_lookup; refine wpList_lookup_ptr _ rfl _ _ 76 rfl 9 23 lawS Try.underlying76 (zeroS _) M _ D rfl HA.out.1 _ (Key.lit k) rfl (keyOfS ok) none HA.out.2 (.pointer none) rfl ?_; go_frame)
    | go_in)
  go_ret
  exact ⟨rfl, rfl⟩

set_option maxRecDepth 100000 in
theorem holdS (k : (List UInt8)) (h : Tbl 9 78 w F M top l blk) (ok : k.length ≤ maxLen) :
    Calls Try.prog 33 #[.pointer (some ⟨F, 0, none⟩), Go.Proofs.encStr k] w fun e w' => ∃ blk', e = .returned (.int .i64 (holdL top l k).2) ∧ Tbl 9 78 w' F M top (holdL top l k).1 blk' ∧ Step w w' F M l (holdL top l k).1 blk blk' := by
  have HT := Lib.hid h
  have ht1 := h.top1
  have ht2 := h.top2
  cases hk : look l k with
  | some c =>
    obtain ⟨n, s⟩ := c
    obtain ⟨i1, i2, i3⟩ := h.cnt k n s (look_some hk)
    have HI := Lib.hid i1
    have HK := Lib.hid hk
    rw [show holdL top l k = (updt l k (getN n top s, getS n top s), getE n top s) from by unfold holdL; rw [hk]]
    dsimp only
    clear h hk i1
    go_enter Try.func33, Try.ntmps33
    go_wp2_with (first
      | (go_at_call 35; refine (findSYes k n s HT.out ok HK.out).mono ?_; rintro e w' ⟨rfl, rfl⟩)
      | (go_at_call 13; fail))
    refine (cntGet (blk k) n top s w HI.out (by omega) i3 ht2).mono ?_
    rintro e w2 ⟨rfl, g, c⟩
    have HU := Lib.hid (HT.out.upd (look_some HK.out) g c (by unfold getN; split <;> omega) (by unfold getN; split <;> omega))
    clear g c
    go_wp2_with fail
    go_ret
    exact ⟨blk, rfl, HU.out⟩
  | none =>
    obtain ⟨D, hD, hS⟩ := h.map
    have hsz := hS.size
    have hlen := h.len
    have c1 := h.c1
    have c0 := h.c0
    have HD := Lib.hid hD
    have HS := Lib.hid hS
    have HK := Lib.hid hk
    by_cases hfull : 64 ≤ l.length
    · have e1 : l.length = 64 := by omega
      rw [show holdL top l k = (l, 3) from by unfold holdL; rw [hk, if_pos hfull]]
      dsimp only
      clear h hk hD hS
      go_enter Try.func33, Try.ntmps33
      go_wp2_with (first
        | (go_at_call 35; refine (findSNo k HT.out ok HK.out).mono ?_; rintro e w' ⟨rfl, rfl⟩)
        | (at_len; refine wpList_len_own _ rfl _ 76 rfl 9 23 Try.underlying76 ptrR M _ D rfl HD.out ?_; rw [hsz, e1]; go_frame))
      go_ret
      exact ⟨blk, rfl, HT.out, .refl (Below.refl _ _)⟩
    · have e1 : ((l.length : Int) == 64) = false := by rw [beq_eq_false_iff_ne]; omega
      have c2 : (w.alloc (Obj.cells #[.int .i64 1, .int .i64 top, .bool false] 75)).cell? ⟨F, 1, none⟩ = some (.map (some M)) := (((Below.refl w.heap.size w).alloc (Nat.le_refl _) _).cell (p := ⟨F, 1, none⟩) (h.ownlt (.inl rfl))).trans c1
      have hl64 : l.length < 64 := by omega
      have hmax : l.length < maxLen := by unfold maxLen; omega
      have HN := Lib.hid (fun (w1 : World) hown1 hgrow1 => Tbl.insK (w' := w1) h hk hl64 (Nat.le_refl _) ((Below.refl w.heap.size w).alloc (Nat.le_refl _) (Obj.cells #[.int .i64 1, .int .i64 top, .bool false] 75)) (isCnt_new w 1 top false) hD hS (hD.tidy lawS) (n0 := l.length + 1) hown1 hgrow1)
      rw [show holdL top l k = (ins l k (1, false), 0) from by unfold holdL; rw [hk, if_neg hfull]]
      dsimp only
      clear h hk hD hS
      go_enter Try.func33, Try.ntmps33
      go_wp2_with (first
        | (go_at_call 35; refine (findSNo k HT.out ok HK.out).mono ?_; rintro e w' ⟨rfl, rfl⟩)
        | (at_len; refine wpList_len_own _ rfl _ 76 rfl 9 23 Try.underlying76 ptrR M _ D rfl HD.out ?_; rw [hsz]; go_frame)
        | (go_at_call 9; refine (cntNew 1 top w (by omega) ht2 (by omega) (by omega)).mono ?_; rintro e w' ⟨rfl, rfl⟩)
        | (at_mapUpdate; refine wpList_mapUpdate_own _ rfl _ _ _ 76 rfl 9 23 lawS Try.underlying76 ptrR M l.length D rfl (HD.out.alloc _) hmax _ _ (Key.lit k) rfl rfl (keyOfS ok) (pd (some w.heap.size)) [] (ptrR_ptr (some w.heap.size)) ?_; intro w1 hown1 hgrow1; have HU := Lib.hid (HN.out w1 hown1 hgrow1); clear hown1 hgrow1; go_frame))
      go_ret
      exact ⟨_, rfl, HU.out⟩

theorem newSBad (top : Int) (w : World) (h : top < 1 ∨ 65535 < top) : Calls Try.prog 18 #[.int .i64 top] w fun e w' => e = .returned (.tuple #[.pointer none, .int .i64 2]) ∧ w = w' := by
  by_cases h1 : top < 1
  · have d1 : decide (top < 1) = true := decide_eq_true h1
    go_enter Try.func18, Try.ntmps18
    go_wp2
    go_ret2
    exact ⟨rfl, rfl⟩
  · have h2 : 65535 < top := by omega
    have d1 : decide (top < 1) = false := decide_eq_false h1
    have d2 : decide (65535 < top) = true := decide_eq_true h2
    go_enter Try.func18, Try.ntmps18
    go_wp2
    go_ret2
    exact ⟨rfl, rfl⟩
theorem newS (top : Int) (w : World) (h1 : 1 ≤ top) (h2 : top ≤ 65535) (blk : (List UInt8) → Nat) : Calls Try.prog 18 #[.int .i64 top] w fun e w' =>
    e = .returned (.tuple #[.pointer (some ⟨w.heap.size + 1, 0, none⟩), .int .i64 0]) ∧ Tbl 9 78 w' (w.heap.size + 1) w.heap.size top [] blk ∧ Below w.heap.size w w' := by
  have d1 : decide (top < 1) = false := decide_eq_false (by omega)
  have d2 : decide (65535 < top) = false := decide_eq_false (by omega)
  have hmm := @run_makeMap Try.prog
  go_enter Try.func18, Try.ntmps18
  go_wp2_with fail
  go_ret2
  have o1 := World.ownsMap_made w Try.prog 9 ptrR
  have e1 : (w.alloc (.map #[] 0)).heap.size = w.heap.size + 1 := by simp
  have b2 := (Below.refl (w.heap.size + 1) (w.alloc (.map #[] 0))).alloc (Nat.le_of_eq e1.symm) (.cells #[.int .i64 top, .map (some w.heap.size)] 78)
  have h3 := (MapKept.heap_alloc (w.alloc (.map #[] 0)) (.cells #[.int .i64 top, .map (some w.heap.size)] 78)).1
  rw [e1] at h3
  refine ⟨by simp, ⟨h1, h2, h3, ⟨_, map_keep o1 (b2.block _ (by omega)), ⟨fun k => rfl, fun k => rfl, rfl⟩⟩, List.Pairwise.nil, by simp, by simp, by simp⟩, ((Below.refl _ _).alloc (Nat.le_refl _) _).alloc (by simp) _⟩

def valLS (l : St (List UInt8)) (k : (List UInt8)) : Int := match look l k with | some c => c.1 | none => 0
def stLS (l : St (List UInt8)) (k : (List UInt8)) : Bool := match look l k with | some c => c.2 | none => false
theorem valueS (k : (List UInt8)) (h : Tbl 9 78 w F M top l blk) (ok : k.length ≤ maxLen) : Calls Try.prog 21 #[.pointer (some ⟨F, 0, none⟩), Go.Proofs.encStr k] w fun e w' => e = .returned (.int .i64 (valLS l k)) ∧ w = w' := by
  have HT := Lib.hid h
  cases hk : look l k with
  | some c =>
    obtain ⟨n, s⟩ := c
    have HI := Lib.hid (h.cnt k n s (look_some hk)).1
    have HK := Lib.hid hk
    rw [show valLS l k = n from by unfold valLS; rw [hk]]
    clear h hk
    go_enter Try.func21, Try.ntmps21
    go_wp2_with (first
      | (go_at_call 35; refine (findSYes k n s HT.out ok HK.out).mono ?_; rintro e w' ⟨rfl, rfl⟩)
      | (go_at_call 16; refine (cntValue (blk k) n top s w HI.out).mono ?_; rintro e w' ⟨rfl, rfl⟩))
    go_ret
    exact ⟨rfl, rfl⟩
  | none =>
    have HK := Lib.hid hk
    rw [show valLS l k = 0 from by unfold valLS; rw [hk]]
    clear h hk
    go_enter Try.func21, Try.ntmps21
    go_wp2_with (first
      | (go_at_call 35; refine (findSNo k HT.out ok HK.out).mono ?_; rintro e w' ⟨rfl, rfl⟩)
      | (go_at_call 16; refine (valueNil w).mono ?_; rintro e w' ⟨rfl, rfl⟩))
    go_ret
    exact ⟨rfl, rfl⟩

/-- holding several keys, up to the first that is refused -/
def holdFS (top : Int) (f : Nat → (List UInt8)) : Nat → Nat → St (List UInt8) → St (List UInt8) × Int
  | 0, _, l => (l, 0)
  | n + 1, i, l => if (holdL top l (f i)).2 = 0 then holdFS top f n (i + 1) (holdL top l (f i)).1 else holdL top l (f i)
set_option maxRecDepth 100000 in
theorem holdsS (a : Option Addr) (len cap : Nat) (f : Nat → (List UInt8)) (h : Tbl 9 78 w F M top l blk) (hlm : len ≤ 9223372036854775807) (ok : ∀ j k, k = f j → j < len → k.length ≤ maxLen)
    (hc : 0 < len → ∃ b off, a = some ⟨b, off, none⟩ ∧ b < w.heap.size ∧ ¬ Own F M l blk b ∧ ∀ j, j < len → w.cell? ⟨b, off + j, none⟩ = some (Go.Proofs.encStr (f j))) :
    Calls Try.prog 19 #[.pointer (some ⟨F, 0, none⟩), .slice a len cap] w fun e w' => ∃ blk', e = .returned (.int .i64 (holdFS top f len 0 l).2) ∧ Tbl 9 78 w' F M top (holdFS top f len 0 l).1 blk' ∧ Step w w' F M l (holdFS top f len 0 l).1 blk blk' := by
  have HT := Lib.hid h
  have HC := Lib.hid hc
  have HOK := Lib.hid ok
  obtain ⟨R, hR⟩ : ∃ R, R = holdFS top f len 0 l := ⟨_, rfl⟩
  rw [← hR]
  have HR := Lib.hid hR
  clear h hc ok hR
  go_enter Try.func19, Try.ntmps19
  go_wp2_with fail
  go_loopw [12] (fun i wr => ∃ (j : Nat) (lj : St (List UInt8)) (bj : (List UInt8) → Nat), j ≤ len ∧ i = .int .i64 j ∧ Hid (Tbl 9 78 wr F M top lj bj) ∧ Hid (Step w wr F M l lj blk bj) ∧ Hid (R = holdFS top f (len - j) j lj)) (fun i _ => len - (intOf i).toNat)
  case atStart => exact ⟨0, l, blk, by omega, rfl, HT, Lib.hid (.refl (Below.refl _ _)), HR⟩
  case round =>
    obtain ⟨j, lj, bj, hj, rfl, HTj, HSj, HRj⟩ := hrel
    by_cases hlt : j < len
    · obtain ⟨b, off, rfl, hb, hno, hcs⟩ := HC.out (by omega)
      have hcell : wr.cell? ⟨b, off + j, none⟩ = some (Go.Proofs.encStr (f j)) := (show wr.cell? ⟨b, off + j, none⟩ = w.cell? ⟨b, off + j, none⟩ from by unfold World.cell?; rw [HSj.out.chg.block b hb hno]).trans (hcs j hlt)
      have hok := HOK.out j _ rfl hlt
      have f1 : (0 : Int) ≤ (j : Int) := by omega
      have f2 : (j : Int) < (len : Int) := by omega
      have hr := HRj.out
      rw [show len - j = (len - j - 1) + 1 from by omega] at hr
      unfold holdFS at hr
      clear hcs hno
      obtain ⟨k, hk⟩ : ∃ k, k = f j := ⟨_, rfl⟩
      rw [← hk] at hcell hok hr
      have HKf := Lib.hid hk
      clear hk
      obtain ⟨w0, rfl⟩ : ∃ w0, w0 = wr := ⟨_, rfl⟩
      cases hz : (decide ((holdL top lj k).2 = 0)) with
      | true =>
        have hz' := of_decide_eq_true hz
        rw [if_pos hz'] at hr
        have HR2 := Lib.hid hr
        have HZ := Lib.hid hz'
        clear hr hz hz'
        go_wp2_with fail
        refine (holdS k HTj.out hok).mono ?_
        rintro e w2 ⟨b2, rfl, t2, s2⟩
        rw [HZ.out]
        have HT2 := Lib.hid t2
        have HS2 := Lib.hid (HSj.out.trans s2)
        clear t2 s2 hcell
        go_wp2_with fail
        go_roundw
        case rel => exact ⟨j + 1, _, b2, by omega, by go_num, HT2, HS2, HR2⟩
        case measure => simp only [intOf]; omega
      | false =>
        have hz' := of_decide_eq_false hz
        rw [if_neg hz'] at hr
        have e1 : ((holdL top lj k).2 != 0) = true := by simpa using hz'
        have HR2 := Lib.hid hr
        clear hr hz hz'
        generalize hg : holdL top lj k = g at *
        have HG := Lib.hid hg
        clear hg
        obtain ⟨g1, g2⟩ := g
        dsimp only at e1
        go_wp2_with fail
        refine (holdS k HTj.out hok).mono ?_
        rintro e w2 ⟨b2, rfl, t2, s2⟩
        rw [HG.out] at t2 s2 ⊢
        dsimp only at t2 s2 ⊢
        have HT2 := Lib.hid t2
        have HS2 := Lib.hid (HSj.out.trans s2)
        clear t2 s2 hcell
        go_wp2_with fail
        go_ret
        rw [HR2.out]
        exact ⟨b2, rfl, HT2.out, HS2.out⟩
    · obtain rfl : j = len := by omega
      have hr := HRj.out
      rw [Nat.sub_self] at hr
      unfold holdFS at hr
      have HR2 := Lib.hid hr
      clear hr
      go_wp2_with fail
      go_ret
      rw [HR2.out]
      exact ⟨bj, rfl, HTj.out, HSj.out⟩
end Go.Proofs.Ytkpenhichgkdkaa
