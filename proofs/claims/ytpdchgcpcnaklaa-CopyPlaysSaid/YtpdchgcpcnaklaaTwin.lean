/- The memory and the document's, side by side: what a call leaves of both. -/
import Derived.Test.YtpdchgcpcnaklaaRefT
namespace Go.Proofs.Ytpdchgcpcnaklaa
open Go.RowKit Go.ChangeShapes Go.WideShapes
set_option linter.unusedVariables false

/-- new blocks, and writes to the blocks M and D alone -/
structure Apart (M D : Nat) (w w' : World) : Prop where
  os : w'.os = w.os
  tape : w'.tape = w.tape
  output : w'.output = w.output
  size : w.heap.size ≤ w'.heap.size
  block : ∀ k, k < w.heap.size → k ≠ M → k ≠ D → w'.heap[k]? = w.heap[k]?
theorem Apart.refl (M D : Nat) (w : World) : Apart M D w w := ⟨rfl, rfl, rfl, Nat.le_refl _, fun _ _ _ _ => rfl⟩
theorem Apart.trans {M D : Nat} {a b c : World} (h : Apart M D a b) (k : Apart M D b c) : Apart M D a c :=
  ⟨k.os.trans h.os, k.tape.trans h.tape, k.output.trans h.output, Nat.le_trans h.size k.size, fun i hi h1 h2 => (k.block i (Nat.lt_of_lt_of_le hi h.size) h1 h2).trans (h.block i hi h1 h2)⟩
theorem Apart.of {M D : Nat} {w w' : World} (h : Below w.heap.size w w') : Apart M D w w' := ⟨h.os, h.tape, h.output, h.size, fun k hk _ _ => h.block k hk⟩
theorem Apart.grownM {M D : Nat} {w w' : World} (h : w.grownBy w' (some M)) : Apart M D w w' := ⟨h.os, h.tape, h.output, h.size, fun k hk h1 _ => h.block k hk (fun e => h1 (Option.some.inj e))⟩
theorem Apart.grownD {M D : Nat} {w w' : World} (h : w.grownBy w' (some D)) : Apart M D w w' := ⟨h.os, h.tape, h.output, h.size, fun k hk _ h2 => h.block k hk (fun e => h2 (Option.some.inj e))⟩
theorem Apart.below {M D B : Nat} {w w' : World} (h : Apart M D w w') (h1 : B ≤ M) (h2 : B ≤ D) (h3 : B ≤ w.heap.size) : Below B w w' :=
  ⟨h.os, h.tape, h.output, h.size, fun k hk => h.block k (by omega) (by omega) (by omega)⟩

/-- the memory and the document's -/
structure Twin (w : World) (M D R c : Nat) (bs ps : List Int) : Prop where
  mem : IsMem w M D bs ps
  fine : Fine bs ps
  ref : RefAt w R c bs.length (fun j => bs.getD j 0) (fun j => ps.getD (j / 16) 0)
  nM : R ≠ M
  nD : R ≠ D
theorem Twin.kept {w w' : World} {M D R c : Nat} {bs ps : List Int} (h : Twin w M D R c bs ps) (b : Below w.heap.size w w') : Twin w' M D R c bs ps :=
  ⟨h.mem.kept b h.mem.ltM h.mem.ltD, h.fine, h.ref.kept b h.ref.lt, h.nM, h.nD⟩
theorem Twin.len {w : World} {M D R c : Nat} {bs ps : List Int} (h : Twin w M D R c bs ps) : 16 ≤ bs.length ∧ bs.length ≤ 256 ∧ bs.length % 16 = 0 := by
  obtain ⟨p, h1, h2, h3⟩ := h.fine.len
  omega
theorem Twin.alloc {w : World} {M D R c : Nat} {bs ps : List Int} (h : Twin w M D R c bs ps) (o : Obj) : Twin (w.alloc o) M D R c bs ps :=
  h.kept ((Below.refl _ _).alloc (Nat.le_refl _) o)
theorem Twin.states {w : World} {M D R c : Nat} {bs ps : List Int} (h : Twin w M D R c bs ps) : ∀ j, j < bs.length → 0 ≤ ps.getD (j / 16) 0 ∧ ps.getD (j / 16) 0 ≤ 2 := fun j hj =>
  state_bd h.fine (by rw [h.mem.plen]; have := h.len; omega)
/-- behind a write to M or D: the other side's row lies apart -/
theorem Apart.ref {M D R c n : Nat} {w w' : World} {f g : Nat → Int} (h : RefAt w R c n f g) (a : Apart M D w w') (h1 : R ≠ M) (h2 : R ≠ D) : RefAt w' R c n f g := by
  have hlt := h.lt
  refine ⟨h.1, ?_⟩
  rcases h.2 with ⟨h', _⟩ | ⟨g', cap', cur, h', hb, hg, hr⟩
  · simp at h'
  · simp only [Value.slice.injEq, Option.some.injEq, Addr.mk.injEq, and_true, true_and] at h'
    obtain ⟨rfl, rfl⟩ := h'
    exact .inr ⟨R, c, cur, rfl, Nat.le_refl _, (a.block R hlt h1 h2).trans hg, hr⟩

/-- what a call on both leaves -/
def DoPost (w : World) (M D R n : Nat) (e : Ending) (w' : World) : Prop := ∃ R' c' bs' ps', e = .returned (.tuple #[.slice (some ⟨R', 0, none⟩) n c', .bool true]) ∧ bs'.length = n ∧ Twin w' M D R' c' bs' ps' ∧ Apart M D w w' ∧ (R' = R ∨ w.heap.size ≤ R')

theorem getD_set (ps : List Int) (k q : Nat) (v : Int) (h : k < ps.length) : (ps.set k v).getD q 0 = if q = k then v else ps.getD q 0 := by
  simp only [List.getD_eq_getElem?_getD, List.getElem?_set]
  by_cases e : k = q
  · subst e; simp [h]
  · rw [if_neg e, if_neg (fun e' => e e'.symm)]

/-- a page turned on both sides -/
theorem Twin.turn {w w1 w2 : World} {M D R c R' c' k : Nat} {bs ps : List Int} {kd : Nat} (h : Twin w M D R c bs ps) (hk : k * 16 + 16 ≤ bs.length) (b : Below w.heap.size w w1) (hR : w.heap.size ≤ R')
    (r : RefAt w1 R' c' bs.length (fun j => bs.getD j 0) (fun q => if k * 16 ≤ q ∧ q < k * 16 + 16 then turnS kd (ps.getD (k * 16 / 16) 0) else ps.getD (q / 16) 0))
    (g : w1.grownBy w2 (some M)) (m : IsMem w2 M D bs (ps.set k (turnS kd (ps.getD k 0)))) : Twin w2 M D R' c' bs (ps.set k (turnS kd (ps.getD k 0))) := by
  have hl := h.len
  have hp := h.mem.plen
  have hs := state_bd h.fine (k := k) (by omega)
  have hb := turnS_bd (kind := kd) hs.1 hs.2
  have h1 := h.mem.ltM
  have h2 := h.mem.ltD
  refine ⟨m, h.fine.setP k hb.1 hb.2, ?_, by omega, by omega⟩
  refine Apart.ref (M := M) (D := D) ?_ (Apart.grownM g) (by omega) (by omega)
  refine r.congr (fun _ _ => rfl) (fun j hj => ?_)
  rw [getD_set _ _ _ _ (by omega), Nat.mul_div_cancel _ (by omega)]
  by_cases e : k * 16 ≤ j ∧ j < k * 16 + 16
  · rw [if_pos e, if_pos (by omega)]
  · rw [if_neg e, if_neg (by omega)]

/-- bytes poked on both sides -/
theorem Twin.poke {w w1 w2 : World} {M D R c R' c' k m : Nat} {bs ps xs : List Int} (h : Twin w M D R c bs ps) (hk : k + m ≤ bs.length) (hm : xs.length = m) (hx : ∀ x ∈ xs, 0 ≤ x ∧ x ≤ 255) (b : Below w.heap.size w w1) (hR : w.heap.size ≤ R')
    (r : RefAt w1 R' c' bs.length (fun j => if k ≤ j ∧ j - k < m then xs.getD (j - k) 0 else bs.getD j 0) (fun q => ps.getD (q / 16) 0))
    (g : w1.grownBy w2 (some D)) (i : IsMem w2 M D (pok bs k xs) ps) : Twin w2 M D R' c' (pok bs k xs) ps := by
  have h1 := h.mem.ltM
  have h2 := h.mem.ltD
  refine ⟨i, h.fine.pok (by omega) hx, ?_, by omega, by omega⟩
  rw [pok_len (by omega)]
  refine Apart.ref (M := M) (D := D) ?_ (Apart.grownD g) (by omega) (by omega)
  refine r.congr (fun j _ => ?_) (fun _ _ => rfl)
  rw [pok_get (by omega), hm]
end Go.Proofs.Ytpdchgcpcnaklaa
