/- A user's memory: its pages, its size, and a new one, each by a contract. -/
import Derived.Test.YtpdchgcpcnaklaaMem
import Derived.WalkMore
namespace Go.Proofs.Ytpdchgcpcnaklaa
open Go.RowKit
set_option linter.unusedVariables false

/-- the error of 0 Bring, 1 Evict, 2 Break at a page's state, and the state behind it -/
def turnE (kind : Nat) (s : Int) : Int := if kind = 0 then (if s = 2 then 14 else if s = 1 then 5 else 0) else if kind = 1 then (if s = 1 then 0 else 4) else (if s = 2 then 5 else 0)
def turnS (kind : Nat) (s : Int) : Int := if kind = 0 then (if s = 2 then 2 else 1) else if kind = 1 then (if s = 1 then 0 else s) else 2
theorem turnS_bd {kind : Nat} {s : Int} (h0 : 0 ≤ s) (h1 : s ≤ 2) : 0 ≤ turnS kind s ∧ turnS kind s ≤ 2 := by unfold turnS; repeat' split
                                                                                                              all_goals omega
theorem three {s : Int} (h0 : 0 ≤ s) (h1 : s ≤ 2) : s = 0 ∨ s = 1 ∨ s = 2 := by omega
theorem set_same {l : List Int} {k : Nat} {s : Int} (h : l.getD k 0 = s) (hk : k < l.length) : l.set k s = l := by
  subst h
  rw [List.getD_eq_getElem?_getD, List.getElem?_eq_getElem hk, Option.getD_some, List.set_getElem_self]
theorem state_bd {bs ps : List Int} (f : Fine bs ps) {k : Nat} (hk : k < ps.length) : 0 ≤ ps.getD k 0 ∧ ps.getD k 0 ≤ 2 := by
  apply f.states
  rw [List.getD_eq_getElem?_getD, List.getElem?_eq_getElem hk]
  exact List.getElem_mem hk
theorem grownBy_refl (w : World) (r : Option Nat) : w.grownBy w r := ⟨rfl, rfl, rfl, Nat.le_refl _, fun _ _ _ => rfl⟩
theorem grownBy_trans {a b c : World} {r : Option Nat} (h : a.grownBy b r) (k : b.grownBy c r) : a.grownBy c r :=
  ⟨k.os.trans h.os, k.tape.trans h.tape, k.output.trans h.output, Nat.le_trans h.size k.size, fun i hi hr => (k.block i (Nat.lt_of_lt_of_le hi h.size) hr).trans (h.block i hi hr)⟩
theorem grownBy_set (w : World) (B o : Nat) (v : Value) : w.grownBy (w.setCell ⟨B, o, none⟩ v) (some B) :=
  ⟨rfl, rfl, rfl, by simp [World.setCell], fun k _ hr => Below.heap_setCell _ _ _ _ (fun e => hr (by rw [e]))⟩
theorem page_good {p : Int} {L : Nat} (h : pageB p L = false) (hL : L ≤ 256) : ∃ k : Nat, p = k ∧ k < 16 ∧ k < L / 16 := by
  have h' := of_decide_eq_false h
  exact ⟨p.toNat, by omega, by omega, by omega⟩

theorem memStateBad (M D : Nat) (bs ps : List Int) (p : Int) (w : World) (h : IsMem w M D bs ps) (hL : bs.length ≤ 256) (hp : pageB p bs.length = true) :
    Calls Try.prog 16 #[.pointer (some ⟨M, 0, none⟩), .int .i64 p] w fun e w' => e = .returned (.int .i64 2) ∧ w = w' := by
  have HP := Lib.hid (memPage M D bs ps p w h hL)
  rw [show pageE p bs.length = 2 from by unfold pageE; rw [hp]; rfl] at HP
  clear hp
  go_enter Try.func16, Try.ntmps16
  go_wp2_with (go_at_call 38; refine HP.out.mono ?_; rintro e w' ⟨rfl, rfl⟩)
  go_ret
  exact ⟨rfl, rfl⟩
theorem memState (M D : Nat) (bs ps : List Int) (k : Nat) (w : World) (h : IsMem w M D bs ps) (hL : bs.length ≤ 256) (hp : pageB k bs.length = false) (hk : k < 16) :
    Calls Try.prog 16 #[.pointer (some ⟨M, 0, none⟩), .int .i64 k] w fun e w' => e = .returned (.int .i64 (ps.getD k 0)) ∧ w = w' := by
  have HP := Lib.hid (memPage M D bs ps k w h hL)
  rw [show pageE k bs.length = 0 from by unfold pageE; rw [hp]; rfl] at HP
  have cp := h.cp k hk
  clear hp
  generalize ps.getD k 0 = s at *
  go_enter Try.func16, Try.ntmps16
  go_wp2_with (go_at_call 38; refine HP.out.mono ?_; rintro e w' ⟨rfl, rfl⟩)
  go_ret
  exact ⟨rfl, rfl⟩

theorem memBringBad (M D : Nat) (bs ps : List Int) (p : Int) (w : World) (h : IsMem w M D bs ps) (hL : bs.length ≤ 256) (hp : pageB p bs.length = true) :
    Calls Try.prog 24 #[.pointer (some ⟨M, 0, none⟩), .int .i64 p] w fun e w' => e = .returned (.int .i64 2) ∧ w = w' := by
  have HP := Lib.hid (memPage M D bs ps p w h hL)
  rw [show pageE p bs.length = 2 from by unfold pageE; rw [hp]; rfl] at HP
  clear hp
  go_enter Try.func24, Try.ntmps24
  go_wp2_with (go_at_call 38; refine HP.out.mono ?_; rintro e w' ⟨rfl, rfl⟩)
  go_ret
  exact ⟨rfl, rfl⟩
set_option maxHeartbeats 800000 in
theorem memBring (M D : Nat) (bs ps : List Int) (k : Nat) (w : World) (h : IsMem w M D bs ps) (fn : Fine bs ps) (hL : bs.length ≤ 256) (hp : pageB k bs.length = false) (hk : k < 16) :
    Calls Try.prog 24 #[.pointer (some ⟨M, 0, none⟩), .int .i64 k] w fun e w' => e = .returned (.int .i64 (turnE 0 (ps.getD k 0))) ∧ w.grownBy w' (some M) ∧ IsMem w' M D bs (ps.set k (turnS 0 (ps.getD k 0))) := by
  have HP := Lib.hid (memPage M D bs ps k w h hL)
  rw [show pageE k bs.length = 0 from by unfold pageE; rw [hp]; rfl] at HP
  have cp := h.cp k hk
  have fr := h.fr (1 + k)
  have hb := state_bd fn (k := k) (by rw [h.plen]; exact hk)
  have hs := set_same (l := ps) (k := k) rfl (by rw [h.plen]; exact hk)
  have HE := Lib.hid h
  clear hp h
  generalize hq : ps.getD k 0 = s at *
  have HS := Lib.hid hs
  clear hs hq
  rcases three hb.1 hb.2 with rfl | rfl | rfl
  all_goals
    go_enter Try.func24, Try.ntmps24
    go_wp2_with (go_at_call 38; refine HP.out.mono ?_; rintro e w' ⟨rfl, rfl⟩)
    go_ret
    first
      | exact ⟨rfl, grownBy_set _ _ _ _, HE.out.setP k _⟩
      | exact ⟨rfl, grownBy_refl _ _, by have q := HE.out; rw [← HS.out] at q; exact q⟩

theorem memEvictBad (M D : Nat) (bs ps : List Int) (p : Int) (w : World) (h : IsMem w M D bs ps) (hL : bs.length ≤ 256) (hp : pageB p bs.length = true) :
    Calls Try.prog 25 #[.pointer (some ⟨M, 0, none⟩), .int .i64 p] w fun e w' => e = .returned (.int .i64 2) ∧ w = w' := by
  have HP := Lib.hid (memPage M D bs ps p w h hL)
  rw [show pageE p bs.length = 2 from by unfold pageE; rw [hp]; rfl] at HP
  clear hp
  go_enter Try.func25, Try.ntmps25
  go_wp2_with (go_at_call 38; refine HP.out.mono ?_; rintro e w' ⟨rfl, rfl⟩)
  go_ret
  exact ⟨rfl, rfl⟩
set_option maxHeartbeats 800000 in
theorem memEvict (M D : Nat) (bs ps : List Int) (k : Nat) (w : World) (h : IsMem w M D bs ps) (fn : Fine bs ps) (hL : bs.length ≤ 256) (hp : pageB k bs.length = false) (hk : k < 16) :
    Calls Try.prog 25 #[.pointer (some ⟨M, 0, none⟩), .int .i64 k] w fun e w' => e = .returned (.int .i64 (turnE 1 (ps.getD k 0))) ∧ w.grownBy w' (some M) ∧ IsMem w' M D bs (ps.set k (turnS 1 (ps.getD k 0))) := by
  have HP := Lib.hid (memPage M D bs ps k w h hL)
  rw [show pageE k bs.length = 0 from by unfold pageE; rw [hp]; rfl] at HP
  have cp := h.cp k hk
  have fr := h.fr (1 + k)
  have hb := state_bd fn (k := k) (by rw [h.plen]; exact hk)
  have hs := set_same (l := ps) (k := k) rfl (by rw [h.plen]; exact hk)
  have HE := Lib.hid h
  clear hp h
  generalize hq : ps.getD k 0 = s at *
  have HS := Lib.hid hs
  clear hs hq
  rcases three hb.1 hb.2 with rfl | rfl | rfl
  all_goals
    go_enter Try.func25, Try.ntmps25
    go_wp2_with (go_at_call 38; refine HP.out.mono ?_; rintro e w' ⟨rfl, rfl⟩)
    go_ret
    first
      | exact ⟨rfl, grownBy_set _ _ _ _, HE.out.setP k _⟩
      | exact ⟨rfl, grownBy_refl _ _, by have q := HE.out; rw [← HS.out] at q; exact q⟩

theorem memBreakBad (M D : Nat) (bs ps : List Int) (p : Int) (w : World) (h : IsMem w M D bs ps) (hL : bs.length ≤ 256) (hp : pageB p bs.length = true) :
    Calls Try.prog 26 #[.pointer (some ⟨M, 0, none⟩), .int .i64 p] w fun e w' => e = .returned (.int .i64 2) ∧ w = w' := by
  have HP := Lib.hid (memPage M D bs ps p w h hL)
  rw [show pageE p bs.length = 2 from by unfold pageE; rw [hp]; rfl] at HP
  clear hp
  go_enter Try.func26, Try.ntmps26
  go_wp2_with (go_at_call 38; refine HP.out.mono ?_; rintro e w' ⟨rfl, rfl⟩)
  go_ret
  exact ⟨rfl, rfl⟩
set_option maxHeartbeats 800000 in
theorem memBreak (M D : Nat) (bs ps : List Int) (k : Nat) (w : World) (h : IsMem w M D bs ps) (fn : Fine bs ps) (hL : bs.length ≤ 256) (hp : pageB k bs.length = false) (hk : k < 16) :
    Calls Try.prog 26 #[.pointer (some ⟨M, 0, none⟩), .int .i64 k] w fun e w' => e = .returned (.int .i64 (turnE 2 (ps.getD k 0))) ∧ w.grownBy w' (some M) ∧ IsMem w' M D bs (ps.set k (turnS 2 (ps.getD k 0))) := by
  have HP := Lib.hid (memPage M D bs ps k w h hL)
  rw [show pageE k bs.length = 0 from by unfold pageE; rw [hp]; rfl] at HP
  have cp := h.cp k hk
  have fr := h.fr (1 + k)
  have hb := state_bd fn (k := k) (by rw [h.plen]; exact hk)
  have hs := set_same (l := ps) (k := k) rfl (by rw [h.plen]; exact hk)
  have HE := Lib.hid h
  clear hp h
  generalize hq : ps.getD k 0 = s at *
  have HS := Lib.hid hs
  clear hs hq
  rcases three hb.1 hb.2 with rfl | rfl | rfl
  all_goals
    go_enter Try.func26, Try.ntmps26
    go_wp2_with (go_at_call 38; refine HP.out.mono ?_; rintro e w' ⟨rfl, rfl⟩)
    go_ret
    first
      | exact ⟨rfl, grownBy_set _ _ _ _, HE.out.setP k _⟩
      | exact ⟨rfl, grownBy_refl _ _, by have q := HE.out; rw [← HS.out] at q; exact q⟩

theorem memSize (M D : Nat) (bs ps : List Int) (w : World) (h : IsMem w M D bs ps) : Calls Try.prog 20 #[.pointer (some ⟨M, 0, none⟩)] w fun e w' => e = .returned (.int .i64 bs.length) ∧ w = w' := by
  have c0 := h.c0
  clear h
  go_enter Try.func20, Try.ntmps20
  go_wp2
  go_ret
  exact ⟨rfl, rfl⟩

theorem memNewBad (p : Int) (w : World) (h : p < 1 ∨ 16 < p) : Calls Try.prog 12 #[.int .i64 p] w fun e w' => e = .returned (.tuple #[.pointer none, .int .i64 2]) ∧ w = w' := by
  by_cases a : p < 1
  · have d1 : decide (p < 1) = true := decide_eq_true a
    clear h
    go_enter Try.func12, Try.ntmps12
    go_wp2
    go_ret2
    exact ⟨rfl, rfl⟩
  · have d1 : decide (p < 1) = false := decide_eq_false a
    have d2 : decide (16 < p) = true := decide_eq_true (by omega)
    clear h
    go_enter Try.func12, Try.ntmps12
    go_wp2
    go_ret2
    exact ⟨rfl, rfl⟩

theorem info5 : (Try.prog.info? 5).map (fun i => (i.zero, i.size, i.bytes)) = some (some (.int .u8 0), 1, 1) := by kernel_rfl
theorem madeCells_bytes (n : Nat) : madeCells #[Value.int .u8 0] n = (bcells (List.replicate n 0)).toArray := by
  unfold madeCells bcells
  apply Array.ext
  · simp
  · intro i h1 h2
    simp [Nat.mod_one]

theorem memNew (p : Nat) (w : World) (h1 : 1 ≤ p) (h2 : p ≤ 16) :
    Calls Try.prog 12 #[.int .i64 p] w fun e w' => e = .returned (.tuple #[.pointer (some ⟨w.heap.size + 1, 0, none⟩), .int .i64 0]) ∧ Below w.heap.size w w' ∧ IsMem w' (w.heap.size + 1) w.heap.size (List.replicate (16 * p) 0) (List.replicate 16 0) := by
  have hmk := fun w => run_make_row' (P := Try.prog) 22 5 (.int .u8 0) 1 Try.underlying22 info5 rfl .i64 .i64 (p * 16) (by omega) (by omega) w
  rw [show ((p * 16 : Nat) : Int) = (p : Int) * 16 from by omega] at hmk
  have d1 : decide (p < 1) = false := decide_eq_false (by omega)
  have d2 : decide (16 < p) = false := decide_eq_false (by omega)
  have d3 : decide ((p : Int) < 1) = false := decide_eq_false (by omega)
  have d4 : decide ((16 : Int) < p) = false := decide_eq_false (by omega)
  have hD := heap_alloc_new w (.cells (madeCells #[.int .u8 0] (p * 16)) 5)
  have hfin : ∀ o, IsMem ((w.alloc (.cells (madeCells #[.int .u8 0] (p * 16)) 5)).alloc o) (w.heap.size + 1) w.heap.size (List.replicate (16 * p) 0) (List.replicate 16 0) ↔ o = .cells (Value.slice (some ⟨w.heap.size, 0, none⟩) (16 * p) (16 * p) :: pcells (List.replicate 16 0)).toArray 73 (0, 0) := by
    intro o
    have hM : ((w.alloc (.cells (madeCells #[.int .u8 0] (p * 16)) 5)).alloc o).heap[w.heap.size + 1]? = some o := by have := heap_alloc_new (w.alloc (.cells (madeCells #[.int .u8 0] (p * 16)) 5)) o; rwa [World.size_alloc] at this
    constructor
    · intro h; have := h.mem; rw [hM] at this; simpa using this
    · intro h
      refine ⟨by rw [hM, h]; simp, ?_, by simp, by omega⟩
      rw [Below.heap_alloc _ _ _ (by simp), hD, madeCells_bytes, Nat.mul_comm p 16]
  have HF := Lib.hid hfin
  clear hD hfin
  go_enter Try.func12, Try.ntmps12
  go_wp2
  go_ret2
  refine ⟨rfl, by go_grown, (HF.out _).2 ?_⟩
  rw [Nat.mul_comm 16 p]
  rfl

theorem nilWithin (addr n : Int) (w : World) : Calls Try.prog 36 #[.pointer none, .int .i64 addr, .int .i64 n] w fun e w' => e = .returned (.int .i64 6) ∧ w = w' := by
  go_enter Try.func36, Try.ntmps36
  go_wp2
  go_ret
  exact ⟨rfl, rfl⟩
theorem nilPage (p : Int) (w : World) : Calls Try.prog 38 #[.pointer none, .int .i64 p] w fun e w' => e = .returned (.int .i64 6) ∧ w = w' := by
  go_enter Try.func38, Try.ntmps38
  go_wp2
  go_ret
  exact ⟨rfl, rfl⟩
theorem nilState (p : Int) (w : World) : Calls Try.prog 16 #[.pointer none, .int .i64 p] w fun e w' => e = .returned (.int .i64 2) ∧ w = w' := by
  go_enter Try.func16, Try.ntmps16
  go_wp2_with (go_at_call 38; refine (nilPage _ _).mono ?_; rintro e w' ⟨rfl, rfl⟩)
  go_ret
  exact ⟨rfl, rfl⟩
theorem nilBring (p : Int) (w : World) : Calls Try.prog 24 #[.pointer none, .int .i64 p] w fun e w' => e = .returned (.int .i64 6) ∧ w = w' := by
  go_enter Try.func24, Try.ntmps24
  go_wp2_with (go_at_call 38; refine (nilPage _ _).mono ?_; rintro e w' ⟨rfl, rfl⟩)
  go_ret
  exact ⟨rfl, rfl⟩
theorem nilEvict (p : Int) (w : World) : Calls Try.prog 25 #[.pointer none, .int .i64 p] w fun e w' => e = .returned (.int .i64 6) ∧ w = w' := by
  go_enter Try.func25, Try.ntmps25
  go_wp2_with (go_at_call 38; refine (nilPage _ _).mono ?_; rintro e w' ⟨rfl, rfl⟩)
  go_ret
  exact ⟨rfl, rfl⟩
theorem nilBreak (p : Int) (w : World) : Calls Try.prog 26 #[.pointer none, .int .i64 p] w fun e w' => e = .returned (.int .i64 6) ∧ w = w' := by
  go_enter Try.func26, Try.ntmps26
  go_wp2_with (go_at_call 38; refine (nilPage _ _).mono ?_; rintro e w' ⟨rfl, rfl⟩)
  go_ret
  exact ⟨rfl, rfl⟩
theorem nilSize (w : World) : Calls Try.prog 20 #[.pointer none] w fun e w' => e = .returned (.int .i64 0) ∧ w = w' := by
  go_enter Try.func20, Try.ntmps20
  go_wp2
  go_ret
  exact ⟨rfl, rfl⟩
theorem nilPeek (addr n : Int) (w : World) : Calls Try.prog 14 #[.pointer none, .int .i64 addr, .int .i64 n] w fun e w' => e = .returned (.tuple #[.slice none 0 0, .int .i64 6]) ∧ w = w' := by
  go_enter Try.func14, Try.ntmps14
  go_wp2_with (go_at_call 36; refine (nilWithin _ _ _).mono ?_; rintro e w' ⟨rfl, rfl⟩)
  go_ret2
  exact ⟨rfl, rfl⟩
theorem nilTouch (addr n : Int) (w : World) : Calls Try.prog 19 #[.pointer none, .int .i64 addr, .int .i64 n] w fun e w' => e = .returned (.tuple #[.int .i64 0, .int .i64 6]) ∧ w = w' := by
  go_enter Try.func19, Try.ntmps19
  go_wp2_with fail
  go_step3
  go_wp2_with (go_at_call 36; refine (nilWithin _ _ _).mono ?_; rintro e w' ⟨rfl, rfl⟩)
  rw [Exit.noGoto_ret]
  go_ret2
  exact ⟨rfl, rfl⟩
theorem nilPoke (addr : Int) (a : Option Addr) (len cap : Nat) (w : World) : Calls Try.prog 13 #[.pointer none, .int .i64 addr, .slice a len cap] w fun e w' => e = .returned (.int .i64 6) ∧ w = w' := by
  go_enter Try.func13, Try.ntmps13
  go_wp2_with (go_at_call 36; refine (nilWithin _ _ _).mono ?_; rintro e w' ⟨rfl, rfl⟩)
  go_ret
  exact ⟨rfl, rfl⟩
end Go.Proofs.Ytpdchgcpcnaklaa
