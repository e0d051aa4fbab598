/- A copy: its end, done or failed, by contracts. -/
import Derived.Test.YtpdchgcpcnaklaaCopE
namespace Go.Proofs.Ytpdchgcpcnaklaa
open Go.RowKit Go.ChangeShapes Go.WideShapes
set_option linter.unusedVariables false

/-- the world where the end's deed begins -/
abbrev endW (w : World) (C : Nat) : World := ((w.setCell ⟨C, 3, none⟩ (.bool true)).setCell ⟨C, 4, none⟩ (.bool false)).setCell ⟨C, 6, none⟩ (.int .i64 0)
theorem endW_is {w : World} {C : Nat} {addr n page tries : Int} {out over waits : Bool} {a : Option Addr} {len cap : Nat} (h : IsCp w C addr n out over waits a len cap page tries) : IsCp (endW w C) C addr n out true false a len cap 0 tries :=
  block_setCell (block_setCell (block_setCell h))
theorem endW_other (w : World) (C b : Nat) (h : b ≠ C) : (endW w C).heap[b]? = w.heap[b]? := by
  rw [Below.heap_setCell _ _ _ _ (by exact h), Below.heap_setCell _ _ _ _ (by exact h), Below.heap_setCell _ _ _ _ (by exact h)]
theorem endW_size (w : World) (C : Nat) : (endW w C).heap.size = w.heap.size := by simp [endW, World.setCell]
theorem endW_grown (w : World) (C : Nat) : w.grownBy (endW w C) (some C) := grownBy_trans (grownBy_trans (grownBy_set _ C 3 _) (grownBy_set _ C 4 _)) (grownBy_set _ C 6 _)
theorem IsMem.ofBlocks {w w' : World} {M D : Nat} {bs ps : List Int} (h : IsMem w M D bs ps) (h1 : w'.heap[M]? = w.heap[M]?) (h2 : w'.heap[D]? = w.heap[D]?) : IsMem w' M D bs ps := ⟨h1.trans h.mem, h2.trans h.dat, h.plen, h.ne⟩

abbrev bx52 (C : Nat) : Obj := .cells #[.pointer (some ⟨C, 0, none⟩)] 52 (0, 0)
abbrev bx24 (M : Nat) : Obj := .cells #[.pointer (some ⟨M, 0, none⟩)] 24 (0, 0)
theorem alloc_old (w : World) (o : Obj) (b : Nat) (h : b < w.heap.size) : (w.alloc o).heap[b]? = w.heap[b]? := Below.heap_alloc w o b h

theorem NewBytes.from {w w1 w' : World} {a : Option Addr} {xs : List Int} (h : NewBytes w1 a xs w') (hs : w.heap.size ≤ w1.heap.size) : NewBytes w a xs w' := fun h0 => by
  obtain ⟨b, off, e, hb, hlt, hc⟩ := h h0
  exact ⟨b, off, e, by omega, hlt, hc⟩

theorem cpEnd48 (C Bc Bm : Nat) (addr n page tries : Int) (out over waits : Bool) (a : Option Addr) (len cap : Nat) (w : World) (Q : World → Prop) (h : IsCp w C addr n out over waits a len cap page tries)
    (H : Calls Try.prog 48 #[.pointer (some ⟨Bc, 0, none⟩), .pointer (some ⟨Bm, 0, none⟩)] (endW w C) fun e w' => e = .returned (.tuple #[]) ∧ Q w') :
    Calls Try.prog 47 #[.pointer (some ⟨C, 0, none⟩), .func (.func 48) #[] #[.pointer (some ⟨Bc, 0, none⟩), .pointer (some ⟨Bm, 0, none⟩)]] w fun e w' => e = .returned (.tuple #[]) ∧ Q w' := by
  have c3 := h.c3
  have c4 := h.c4
  have c6 := h.c6
  have f3 := h.fr 3
  have f4 := h.fr 4
  have f6 := h.fr 6
  have HD := Lib.hid H
  clear h H
  go_enter Try.func47, Try.ntmps47
  go_wp2_with (go_at_call 48; refine HD.out.mono ?_; rintro e w' ⟨rfl, hq⟩)
  go_end0
  exact ⟨rfl, hq⟩
theorem cpEnd49 (C Bc : Nat) (addr n page tries : Int) (out over waits : Bool) (a : Option Addr) (len cap : Nat) (w : World) (Q : World → Prop) (h : IsCp w C addr n out over waits a len cap page tries)
    (H : Calls Try.prog 49 #[.pointer (some ⟨Bc, 0, none⟩)] (endW w C) fun e w' => e = .returned (.tuple #[]) ∧ Q w') :
    Calls Try.prog 47 #[.pointer (some ⟨C, 0, none⟩), .func (.func 49) #[] #[.pointer (some ⟨Bc, 0, none⟩)]] w fun e w' => e = .returned (.tuple #[]) ∧ Q w' := by
  have c3 := h.c3
  have c4 := h.c4
  have c6 := h.c6
  have f3 := h.fr 3
  have f4 := h.fr 4
  have f6 := h.fr 6
  have HD := Lib.hid H
  clear h H
  go_enter Try.func47, Try.ntmps47
  go_wp2_with (go_at_call 49; refine HD.out.mono ?_; rintro e w' ⟨rfl, hq⟩)
  go_end0
  exact ⟨rfl, hq⟩

set_option maxHeartbeats 1600000 in
theorem cpDoneIn (C M D : Nat) (bs ps : List Int) (page tries : Int) (k m : Nat) (over waits : Bool) (a : Option Addr) (len cap : Nat) (w : World)
    (h : IsCp w C k m false over waits a len cap page tries) (i : IsMem w M D bs ps) (hL : bs.length ≤ 256) (hkm : k + m ≤ bs.length) (hCM : C ≠ M) (hCD : C ≠ D) :
    Calls Try.prog 45 #[.pointer (some ⟨C, 0, none⟩), .pointer (some ⟨M, 0, none⟩)] w fun e w' => e = .returned (.tuple #[]) ∧ w.grownBy w' (some C) ∧ ∃ a' cap', IsCp w' C k m false true false a' m cap' 0 tries ∧ NewBytes w a' (sub bs k m) w' := by
  have lc := lt_of_block h
  have hs1 : (w.alloc (bx52 C)).heap.size = w.heap.size + 1 := by simp
  have hI : IsCp ((w.alloc (bx52 C)).alloc (bx24 M)) C k m false over waits a len cap page tries := (alloc_old _ _ C (by omega)).trans ((alloc_old _ _ C lc).trans h)
  have hMm : IsMem ((w.alloc (bx52 C)).alloc (bx24 M)) M D bs ps := i.ofBlocks ((alloc_old _ _ M (by have := i.ltM; omega)).trans (alloc_old _ _ M i.ltM)) ((alloc_old _ _ D (by have := i.ltD; omega)).trans (alloc_old _ _ D i.ltD))
  have HE := Lib.hid (cpEnd48 C w.heap.size (w.heap.size + 1) k m page tries false over waits a len cap ((w.alloc (bx52 C)).alloc (bx24 M)) _ hI (cpDone1In w.heap.size (w.heap.size + 1) C M D bs ps 0 tries k m true false a len cap (endW ((w.alloc (bx52 C)).alloc (bx24 M)) C)
    ((endW_other _ C _ (by omega)).trans ((alloc_old _ _ _ (by omega)).trans (heap_alloc_new w _)))
    ((endW_other _ C _ (by omega)).trans (by have := heap_alloc_new (w.alloc (bx52 C)) (bx24 M); rwa [hs1] at this))
    (endW_is hI) (hMm.ofBlocks (endW_other _ C _ (by omega)) (endW_other _ C _ (by omega))) hL hkm hCM hCD))
  have HG := Lib.hid (grownBy_trans (grownBy_trans (World.grownBy_alloc w (bx52 C) (some C)) (World.grownBy_alloc (w.alloc (bx52 C)) (bx24 M) (some C))) (endW_grown ((w.alloc (bx52 C)).alloc (bx24 M)) C))
  clear h i hI hMm hs1
  go_enter Try.func45, Try.ntmps45
  go_wp2_with fail
  refine HE.out.mono ?_
  rintro e w' ⟨rfl, hg, a', cap', hi, hn⟩
  have H1 := Lib.hid hg
  have H2 := Lib.hid hi
  have H3 := Lib.hid hn
  clear hg hi hn
  go_wp2_with fail
  go_end0
  exact ⟨rfl, grownBy_trans HG.out H1.out, a', cap', H2.out, H3.out.from HG.out.size⟩

set_option maxHeartbeats 1600000 in
theorem cpDoneOut (C M D : Nat) (bs ps : List Int) (page tries n : Int) (k m : Nat) (over waits : Bool) (a : Option Addr) (cap : Nat) (xs : List Int) (w : World)
    (h : IsCp w C k n true over waits a m cap page tries) (hl : m = xs.length) (hx : HoldsX w a xs M D C) (i : IsMem w M D bs ps) (hL : bs.length ≤ 256) (hkm : k + m ≤ bs.length) (hCM : C ≠ M) (hCD : C ≠ D) :
    Calls Try.prog 45 #[.pointer (some ⟨C, 0, none⟩), .pointer (some ⟨M, 0, none⟩)] w fun e w' => e = .returned (.tuple #[]) ∧ Apart3 M D C w w' ∧ IsMem w' M D (pok bs k xs) ps ∧ IsCp w' C k n true true false a m cap 0 tries := by
  have lc := lt_of_block h
  have hs1 : (w.alloc (bx52 C)).heap.size = w.heap.size + 1 := by simp
  have hI : IsCp ((w.alloc (bx52 C)).alloc (bx24 M)) C k n true over waits a m cap page tries := (alloc_old _ _ C (by omega)).trans ((alloc_old _ _ C lc).trans h)
  have hMm : IsMem ((w.alloc (bx52 C)).alloc (bx24 M)) M D bs ps := i.ofBlocks ((alloc_old _ _ M (by have := i.ltM; omega)).trans (alloc_old _ _ M i.ltM)) ((alloc_old _ _ D (by have := i.ltD; omega)).trans (alloc_old _ _ D i.ltD))
  have hg := grownBy_trans (grownBy_trans (World.grownBy_alloc w (bx52 C) (some C)) (World.grownBy_alloc (w.alloc (bx52 C)) (bx24 M) (some C))) (endW_grown ((w.alloc (bx52 C)).alloc (bx24 M)) C)
  have hE := endW_is hI
  have HE := Lib.hid (cpEnd48 C w.heap.size (w.heap.size + 1) k n page tries true over waits a m cap ((w.alloc (bx52 C)).alloc (bx24 M)) _ hI (cpDone1Out w.heap.size (w.heap.size + 1) C M D bs ps 0 tries n k m true false a cap xs (endW ((w.alloc (bx52 C)).alloc (bx24 M)) C)
    ((endW_other _ C _ (by omega)).trans ((alloc_old _ _ _ (by omega)).trans (heap_alloc_new w _)))
    ((endW_other _ C _ (by omega)).trans (by have := heap_alloc_new (w.alloc (bx52 C)) (bx24 M); rwa [hs1] at this))
    hE hl (hx.apart (.grownC hg)) (hMm.ofBlocks (endW_other _ C _ (by omega)) (endW_other _ C _ (by omega))) hL hkm hCM hCD))
  have HG := Lib.hid hg
  have HE2 := Lib.hid hE
  clear h i hI hMm hs1 hg hE hx hl
  go_enter Try.func45, Try.ntmps45
  go_wp2_with fail
  refine HE.out.mono ?_
  rintro e w' ⟨rfl, hg, hi⟩
  have H1 := Lib.hid hg
  have H2 := Lib.hid hi
  clear hg hi
  go_wp2_with fail
  go_end0
  exact ⟨rfl, (Apart3.grownC HG.out).trans (.grownD H1.out), H2.out, (H1.out.block C (lt_of_block HE2.out) (fun e => hCD (Option.some.inj e))).trans HE2.out⟩

set_option maxHeartbeats 1600000 in
theorem cpFail (C : Nat) (addr page tries : Int) (m : Nat) (over waits : Bool) (a : Option Addr) (len cap : Nat) (w : World)
    (h : IsCp w C addr m false over waits a len cap page tries) (hm : m ≤ 64) :
    Calls Try.prog 46 #[.pointer (some ⟨C, 0, none⟩)] w fun e w' => e = .returned (.tuple #[]) ∧ w.grownBy w' (some C) ∧ ∃ a' cap', IsCp w' C addr m false true false a' m cap' 0 tries ∧ NewBytes w a' (List.replicate m 0) w' := by
  have lc := lt_of_block h
  have hI : IsCp (w.alloc (bx52 C)) C addr m false over waits a len cap page tries := (alloc_old _ _ C lc).trans h
  have HE := Lib.hid (cpEnd49 C w.heap.size addr m page tries false over waits a len cap (w.alloc (bx52 C)) _ hI (cpFail1 w.heap.size C addr 0 tries m true false a len cap (endW (w.alloc (bx52 C)) C)
    ((endW_other _ C _ (by omega)).trans (heap_alloc_new w _)) (endW_is hI) hm))
  have HG := Lib.hid (grownBy_trans (World.grownBy_alloc w (bx52 C) (some C)) (endW_grown (w.alloc (bx52 C)) C))
  clear h hI
  go_enter Try.func46, Try.ntmps46
  go_wp2_with fail
  refine HE.out.mono ?_
  rintro e w' ⟨rfl, hg, a', cap', hi, hn⟩
  have H1 := Lib.hid hg
  have H2 := Lib.hid hi
  have H3 := Lib.hid hn
  clear hg hi hn
  go_wp2_with fail
  go_end0
  exact ⟨rfl, grownBy_trans HG.out H1.out, a', cap', H2.out, H3.out.from HG.out.size⟩
theorem cpFailOut (C : Nat) (addr n page tries : Int) (over waits : Bool) (a : Option Addr) (len cap : Nat) (w : World)
    (h : IsCp w C addr n true over waits a len cap page tries) :
    Calls Try.prog 46 #[.pointer (some ⟨C, 0, none⟩)] w fun e w' => e = .returned (.tuple #[]) ∧ w.grownBy w' (some C) ∧ IsCp w' C addr n true true false a len cap 0 tries := by
  have lc := lt_of_block h
  have hI : IsCp (w.alloc (bx52 C)) C addr n true over waits a len cap page tries := (alloc_old _ _ C lc).trans h
  have HE := Lib.hid (cpEnd49 C w.heap.size addr n page tries true over waits a len cap (w.alloc (bx52 C)) _ hI (cpFail1Out w.heap.size C addr n 0 tries true false a len cap (endW (w.alloc (bx52 C)) C)
    ((endW_other _ C _ (by omega)).trans (heap_alloc_new w _)) (endW_is hI)))
  have HG := Lib.hid (grownBy_trans (World.grownBy_alloc w (bx52 C) (some C)) (endW_grown (w.alloc (bx52 C)) C))
  have H2 := Lib.hid (endW_is hI)
  clear h hI
  go_enter Try.func46, Try.ntmps46
  go_wp2_with fail
  refine HE.out.mono ?_
  rintro e w' ⟨rfl, rfl⟩
  go_wp2_with fail
  go_end0
  exact ⟨rfl, HG.out, H2.out⟩
end Go.Proofs.Ytpdchgcpcnaklaa
