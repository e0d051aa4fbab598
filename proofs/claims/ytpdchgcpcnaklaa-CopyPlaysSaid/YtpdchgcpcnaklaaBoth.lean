/- A copy and the document's, side by side: what a try leaves of both. -/
import Derived.Test.YtpdchgcpcnaklaaRefY
import Derived.Test.YtpdchgcpcnaklaaActs2
import Derived.Test.YtpdchgcpcnaklaaLawD
namespace Go.Proofs.Ytpdchgcpcnaklaa
open Go.RowKit Go.ChangeShapes Go.WideShapes
set_option linter.unusedVariables false

/-- what a slice holds, at places of old that lie apart of four blocks -/
def Holds4 (w : World) (a : Option Addr) (xs : List Int) (M D C X : Nat) : Prop := 0 < xs.length → ∃ b off, a = some ⟨b, off, none⟩ ∧ b < w.heap.size ∧ b ≠ M ∧ b ≠ D ∧ b ≠ C ∧ b ≠ X ∧ ∀ j, j < xs.length → w.cell? ⟨b, off + j, none⟩ = some (.int .u8 (xs.getD j 0))
theorem Holds4.holds {w : World} {a : Option Addr} {xs : List Int} {M D C X : Nat} (h : Holds4 w a xs M D C X) : Holds w a xs := fun h0 => by
  obtain ⟨b, off, e, hlt, _, _, _, _, hc⟩ := h h0
  exact ⟨b, off, e, hlt, hc⟩
theorem Holds4.apart3 {w w' : World} {a : Option Addr} {xs : List Int} {M D C X : Nat} (h : Holds4 w a xs M D C X) (b : Apart3 M D C w w') : Holds4 w' a xs M D C X := fun h0 => by
  obtain ⟨B, off, e, hlt, n1, n2, n3, n4, hc⟩ := h h0
  exact ⟨B, off, e, Nat.lt_of_lt_of_le hlt b.size, n1, n2, n3, n4, fun j hj => (World.cell?_of_block (w := w) (b.block B hlt n1 n2 n3)).trans (hc j hj)⟩
theorem Holds4.grownX {w w' : World} {a : Option Addr} {xs : List Int} {M D C X : Nat} (h : Holds4 w a xs M D C X) (g : w.grownBy w' (some X)) : Holds4 w' a xs M D C X := fun h0 => by
  obtain ⟨B, off, e, hlt, n1, n2, n3, n4, hc⟩ := h h0
  exact ⟨B, off, e, Nat.lt_of_lt_of_le hlt g.size, n1, n2, n3, n4, fun j hj => (World.cell?_of_block (w := w) (g.block B hlt (fun e => n4 (Option.some.inj e)))).trans (hc j hj)⟩
/-- the document's copy in block X -/
def IsRc (w : World) (X : Nat) (out : Bool) (addr n : Int) (over waits : Bool) (page tries : Int) (a : Option Addr) (len cap : Nat) : Prop :=
  w.heap[X]? = some (.cells #[.bool out, .bool over, .bool waits, .int .i64 addr, .int .i64 n, .int .i64 page, .int .i64 tries, .slice a len cap] 65 (0, 0))
theorem IsRc.ne {w : World} {X C : Nat} {out over waits o2 v2 w2 : Bool} {addr n page tries a2 n2 p2 t2 : Int} {a b : Option Addr} {len cap l2 c2 : Nat} (h : IsRc w X out addr n over waits page tries a len cap) (k : IsCp w C a2 n2 o2 v2 w2 b l2 c2 p2 t2) : X ≠ C := by
  rintro rfl; rw [IsRc] at h; rw [IsCp, h] at k; simp at k
theorem IsRc.neM {w : World} {X M D : Nat} {out over waits : Bool} {addr n page tries : Int} {a : Option Addr} {len cap : Nat} {bs ps : List Int} (h : IsRc w X out addr n over waits page tries a len cap) (k : IsMem w M D bs ps) : X ≠ M ∧ X ≠ D := by
  constructor
  · rintro rfl; have := k.mem; rw [IsRc] at h; rw [h] at this; simp at this
  · rintro rfl; have := k.dat; rw [IsRc] at h; rw [h] at this; simp at this
theorem RefAt.ne {w : World} {R c n X t : Nat} {f g : Nat → Int} {cs : Array Value} {fr : Nat × Nat} (h : RefAt w R c n f g) (k : w.heap[X]? = some (.cells cs t fr)) (ht : t ≠ 82) : R ≠ X := by
  rintro rfl
  rcases h.2 with ⟨h', _⟩ | ⟨g', cap', cur, h', hb, hg, hr⟩
  · simp at h'
  · simp only [Value.slice.injEq, Option.some.injEq, Addr.mk.injEq, and_true, true_and] at h'
    obtain ⟨rfl, rfl⟩ := h'
    rw [k] at hg
    simp at hg
    exact ht hg.2.1
theorem RefAt.other {w w' : World} {R c n X : Nat} {f g : Nat → Int} (h : RefAt w R c n f g) (k : w.grownBy w' (some X)) (hn : R ≠ X) : RefAt w' R c n f g := Apart.ref (M := X) (D := X) h (Apart.grownM k) hn hn
theorem RefAt.apart3 {w w' : World} {M D C R c n : Nat} {f g : Nat → Int} (h : RefAt w R c n f g) (a : Apart3 M D C w w') (h1 : R ≠ M) (h2 : R ≠ D) (h3 : R ≠ C) : RefAt w' R c n f g := by
  have hlt := h.lt
  refine ⟨h.1, ?_⟩
  rcases h.2 with ⟨h', _⟩ | ⟨g', cap', cur, h', hb, hg, hr⟩
  · simp at h'
  · simp only [Value.slice.injEq, Option.some.injEq, Addr.mk.injEq, and_true, true_and] at h'
    obtain ⟨rfl, rfl⟩ := h'
    exact .inr ⟨R, c, cur, rfl, Nat.le_refl _, (a.block R hlt h1 h2 h3).trans hg, hr⟩

/-- what a try leaves as it was, and what within bounds -/
theorem tryS_props {bs ps : List Int} {addr : Int} {m : Nat} {out wait : Bool} {s : CS} (f : Fine bs ps) (hm : m ≤ 64) (hx : out = true → s.xs.length = m) (hl : s.xs.length ≤ 64) (hb : ∀ x ∈ s.xs, 0 ≤ x ∧ x ≤ 255) :
    (tryS bs ps addr m out wait s).1.length = bs.length ∧ Fine (tryS bs ps addr m out wait s).1 ps ∧ (out = true → (tryS bs ps addr m out wait s).2.1.xs.length = m) ∧ (tryS bs ps addr m out wait s).2.1.xs.length ≤ 64 ∧ (∀ x ∈ (tryS bs ps addr m out wait s).2.1.xs, 0 ≤ x ∧ x ≤ 255) ∧
      s.tries ≤ (tryS bs ps addr m out wait s).2.1.tries ∧ (tryS bs ps addr m out wait s).2.1.tries ≤ s.tries + 1 := by
  unfold tryS
  by_cases h1 : s.over = true
  · rw [if_pos h1]
    exact ⟨rfl, f, hx, hl, hb, by dsimp only; omega, by dsimp only; omega⟩
  · rw [if_neg h1]
    by_cases h2 : (touchR bs ps addr m).2 = 0
    · rw [if_pos h2]
      obtain ⟨k, m', rfl, hm', hkm⟩ := touchR_in (bs := bs) (ps := ps) (addr := addr) (n := m) (by omega)
      obtain rfl : m = m' := by omega
      cases out with
      | true =>
        rw [if_pos rfl]
        have hxl := hx rfl
        rw [Int.toNat_natCast]
        exact ⟨pok_len (by omega), f.pok (by omega) hb, fun _ => hxl, hl, hb, by dsimp only; omega, by dsimp only; omega⟩
      | false =>
        rw [if_neg (by decide), Int.toNat_natCast, Int.toNat_natCast]
        refine ⟨rfl, f, fun h => (by cases h), (by dsimp only; rw [sub_len hkm]; exact hm), fun x hx => ?_, (by dsimp only; omega), (by dsimp only; omega)⟩
        exact f.bytes x (List.mem_of_mem_drop (List.mem_of_mem_take hx))
    · rw [if_neg h2]
      by_cases h3 : (touchR bs ps addr m).2 = 15 ∧ wait = true
      · rw [if_pos h3]
        exact ⟨rfl, f, hx, hl, hb, by dsimp only; omega, by dsimp only; omega⟩
      · rw [if_neg h3]
        cases out with
        | true =>
          exact ⟨rfl, f, hx, hl, hb, by dsimp only; omega, by dsimp only; omega⟩
        | false =>
          refine ⟨rfl, f, fun h => (by cases h), ?_, fun x hx => ?_, by dsimp only; omega, by dsimp only; omega⟩
          · simp; omega
          · simp at hx; omega
end Go.Proofs.Ytpdchgcpcnaklaa
