/- The law CopyPlays, walked: a copy that is taken. -/
import Derived.Test.YtpdchgcpcnaklaaPair
import Derived.Test.YtpdchgcpcnaklaaLawJ
namespace Go.Proofs.Ytpdchgcpcnaklaa
open Go.RowKit Go.ChangeShapes Go.WideShapes
attribute [local go_sem ↓] Go.wp_at_zero Go.wp_at_succ
set_option linter.unusedVariables false

theorem share {P Q : Prop} (h : P → Q) (p : P) : Q := h p
theorem stored {w : World} {X : Nat} {o0 v0 w0 : Bool} {a0 n0 p0 t0 : Int} {ad0 : Option Addr} {l0 c0 : Nat} (h : w.heap[X]? = some (.cells #[.bool o0, .bool v0, .bool w0, .int .i64 a0, .int .i64 n0, .int .i64 p0, .int .i64 t0, .slice ad0 l0 c0] 65 (0, 0))) (o v ws : Bool) (a n p t : Int) (ad : Option Addr) (len cap : Nat) :
    IsRc ((((((((w.setCell ⟨X, 0, none⟩ (.bool o)).setCell ⟨X, 1, none⟩ (.bool v)).setCell ⟨X, 2, none⟩ (.bool ws)).setCell ⟨X, 3, none⟩ (.int .i64 a)).setCell ⟨X, 4, none⟩ (.int .i64 n)).setCell ⟨X, 5, none⟩ (.int .i64 p)).setCell ⟨X, 6, none⟩ (.int .i64 t)).setCell ⟨X, 7, none⟩ (.slice ad len cap)) X o a n v ws p t ad len cap ∧ w.grownBy ((((((((w.setCell ⟨X, 0, none⟩ (.bool o)).setCell ⟨X, 1, none⟩ (.bool v)).setCell ⟨X, 2, none⟩ (.bool ws)).setCell ⟨X, 3, none⟩ (.int .i64 a)).setCell ⟨X, 4, none⟩ (.int .i64 n)).setCell ⟨X, 5, none⟩ (.int .i64 p)).setCell ⟨X, 6, none⟩ (.int .i64 t)).setCell ⟨X, 7, none⟩ (.slice ad len cap)) (some X) := by
  have h0 : (w.setCell ⟨X, 0, none⟩ (.bool o)).heap[X]? = some (.cells #[.bool o, .bool v0, .bool w0, .int .i64 a0, .int .i64 n0, .int .i64 p0, .int .i64 t0, .slice ad0 l0 c0] 65 (0, 0)) := block_setCell h
  have h1 : ((w.setCell ⟨X, 0, none⟩ (.bool o)).setCell ⟨X, 1, none⟩ (.bool v)).heap[X]? = some (.cells #[.bool o, .bool v, .bool w0, .int .i64 a0, .int .i64 n0, .int .i64 p0, .int .i64 t0, .slice ad0 l0 c0] 65 (0, 0)) := block_setCell h0
  have h2 : (((w.setCell ⟨X, 0, none⟩ (.bool o)).setCell ⟨X, 1, none⟩ (.bool v)).setCell ⟨X, 2, none⟩ (.bool ws)).heap[X]? = some (.cells #[.bool o, .bool v, .bool ws, .int .i64 a0, .int .i64 n0, .int .i64 p0, .int .i64 t0, .slice ad0 l0 c0] 65 (0, 0)) := block_setCell h1
  have h3 : ((((w.setCell ⟨X, 0, none⟩ (.bool o)).setCell ⟨X, 1, none⟩ (.bool v)).setCell ⟨X, 2, none⟩ (.bool ws)).setCell ⟨X, 3, none⟩ (.int .i64 a)).heap[X]? = some (.cells #[.bool o, .bool v, .bool ws, .int .i64 a, .int .i64 n0, .int .i64 p0, .int .i64 t0, .slice ad0 l0 c0] 65 (0, 0)) := block_setCell h2
  have h4 : (((((w.setCell ⟨X, 0, none⟩ (.bool o)).setCell ⟨X, 1, none⟩ (.bool v)).setCell ⟨X, 2, none⟩ (.bool ws)).setCell ⟨X, 3, none⟩ (.int .i64 a)).setCell ⟨X, 4, none⟩ (.int .i64 n)).heap[X]? = some (.cells #[.bool o, .bool v, .bool ws, .int .i64 a, .int .i64 n, .int .i64 p0, .int .i64 t0, .slice ad0 l0 c0] 65 (0, 0)) := block_setCell h3
  have h5 : ((((((w.setCell ⟨X, 0, none⟩ (.bool o)).setCell ⟨X, 1, none⟩ (.bool v)).setCell ⟨X, 2, none⟩ (.bool ws)).setCell ⟨X, 3, none⟩ (.int .i64 a)).setCell ⟨X, 4, none⟩ (.int .i64 n)).setCell ⟨X, 5, none⟩ (.int .i64 p)).heap[X]? = some (.cells #[.bool o, .bool v, .bool ws, .int .i64 a, .int .i64 n, .int .i64 p, .int .i64 t0, .slice ad0 l0 c0] 65 (0, 0)) := block_setCell h4
  have h6 : (((((((w.setCell ⟨X, 0, none⟩ (.bool o)).setCell ⟨X, 1, none⟩ (.bool v)).setCell ⟨X, 2, none⟩ (.bool ws)).setCell ⟨X, 3, none⟩ (.int .i64 a)).setCell ⟨X, 4, none⟩ (.int .i64 n)).setCell ⟨X, 5, none⟩ (.int .i64 p)).setCell ⟨X, 6, none⟩ (.int .i64 t)).heap[X]? = some (.cells #[.bool o, .bool v, .bool ws, .int .i64 a, .int .i64 n, .int .i64 p, .int .i64 t, .slice ad0 l0 c0] 65 (0, 0)) := block_setCell h5
  have h7 : ((((((((w.setCell ⟨X, 0, none⟩ (.bool o)).setCell ⟨X, 1, none⟩ (.bool v)).setCell ⟨X, 2, none⟩ (.bool ws)).setCell ⟨X, 3, none⟩ (.int .i64 a)).setCell ⟨X, 4, none⟩ (.int .i64 n)).setCell ⟨X, 5, none⟩ (.int .i64 p)).setCell ⟨X, 6, none⟩ (.int .i64 t)).setCell ⟨X, 7, none⟩ (.slice ad len cap)).heap[X]? = some (.cells #[.bool o, .bool v, .bool ws, .int .i64 a, .int .i64 n, .int .i64 p, .int .i64 t, .slice ad len cap] 65 (0, 0)) := block_setCell h6
  exact ⟨h7, grownBy_trans (grownBy_trans (grownBy_trans (grownBy_trans (grownBy_trans (grownBy_trans (grownBy_trans (grownBy_set _ X 0 _) (grownBy_set _ X 1 _)) (grownBy_set _ X 2 _)) (grownBy_set _ X 3 _)) (grownBy_set _ X 4 _)) (grownBy_set _ X 5 _)) (grownBy_set _ X 6 _)) (grownBy_set _ X 7 _)⟩
theorem Pair.fresh {w : World} {M D C R c m : Nat} {bs ps : List Int} {addr : Int} (t : Twin w M D R c bs ps) (k : Cpy w M D C addr m false ⟨false, false, 0, 0, []⟩) (hm : m ≤ 64) :
    Pair (w.alloc (.cells #[.bool false, .bool false, .bool false, .int .i64 addr, .int .i64 m, .int .i64 0, .int .i64 0, .slice none 0 0] 65)) M D C w.heap.size R c bs ps false addr m ⟨false, false, 0, 0, []⟩ none 0 := by
  have b := below_alloc w (.cells #[.bool false, .bool false, .bool false, .int .i64 addr, .int .i64 m, .int .i64 0, .int .i64 0, .slice none 0 0] 65)
  exact ⟨t.kept b, k.apart (.of b), heap_alloc_new w _, fun h => (by simp at h), fun h => (by cases h), (by simp), (by simp)⟩

theorem Pair.freshOut {w4 W : World} {M D C X R c m cap : Nat} {bs ps xs : List Int} {addr : Int} {a : Option Addr} {o0 v0 w0 : Bool} {a0 n0 p0 t0 : Int} {ad0 : Option Addr} {l0 c0 : Nat} (t : Twin w4 M D R c bs ps) (k : Cpy w4 M D C addr m true ⟨false, false, 0, 0, xs⟩) (rX : R ≠ X) (g : w4.grownBy W (some X))
    (rc : IsRc W X true addr m false false 0 0 a m cap) (rc0 : w4.heap[X]? = some (.cells #[.bool o0, .bool v0, .bool w0, .int .i64 a0, .int .i64 n0, .int .i64 p0, .int .i64 t0, .slice ad0 l0 c0] 65 (0, 0))) (h4 : Holds4 W a xs M D C X) (hm : m ≤ 64) (hl : xs.length = m) (hb : ∀ x ∈ xs, 0 ≤ x ∧ x ≤ 255) : Pair W M D C X R c bs ps true addr m ⟨false, false, 0, 0, xs⟩ a cap := by
  have rc0' : IsRc w4 X o0 a0 n0 v0 w0 p0 t0 ad0 l0 c0 := rc0
  have hX := rc0'.neM t.mem
  obtain ⟨b0, cap0, hi, hx⟩ := k.is
  have hXC := rc0'.ne hi
  have two : ∀ k, k < w4.heap.size → k ≠ X → W.heap[k]? = w4.heap[k]? := fun k hk hn => g.block k hk (fun e => hn (Option.some.inj e))
  refine ⟨⟨t.mem.apart g hX.1 hX.2, t.fine, t.ref.other g rX, t.nM, t.nD⟩, ⟨⟨b0, cap0, (two C (lt_of_block hi) (Ne.symm hXC)).trans hi, fun h0 => ?_⟩, k.nM, k.nD⟩, ?_, h4, fun _ => hl, by dsimp only; omega, hb⟩
  · obtain ⟨B, off, e, hlt, n1, n2, n3, hc⟩ := hx h0
    have hBX : B ≠ X := by rintro rfl; exact rc0'.no8 (hc 0 h0)
    exact ⟨B, off, e, Nat.lt_of_lt_of_le hlt g.size, n1, n2, n3, fun j hj => (World.cell?_of_block (w := w4) (two B hlt hBX)).trans (hc j hj)⟩
  · dsimp only
    rw [hl]
    exact rc

theorem Holds.to4 {w W : World} {a : Option Addr} {xs : List Int} {M D C X : Nat} (h : Holds w a xs) (b : Below w.heap.size w W) (h1 : w.heap.size ≤ M) (h2 : w.heap.size ≤ D) (h3 : w.heap.size ≤ C) (h4 : w.heap.size ≤ X) : Holds4 W a xs M D C X := fun h0 => by
  obtain ⟨B, off, e, hlt, hc⟩ := h h0
  exact ⟨B, off, e, Nat.lt_of_lt_of_le hlt b.size, by omega, by omega, by omega, by omega, fun j hj => (b.cell (p := ⟨B, off + j, none⟩) hlt).trans (hc j hj)⟩

end Go.Proofs.Ytpdchgcpcnaklaa
