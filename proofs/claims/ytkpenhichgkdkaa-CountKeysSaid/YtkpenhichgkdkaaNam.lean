/- A []string argument; what holding several keys comes to. -/
import Derived.Test.YtkpenhichgkdkaaRkS
import Derived.SliceStrings
import Derived.Sort.Walk0
namespace Go.Proofs.Ytkpenhichgkdkaa
open Go.RowKit Go.ChangeShapes Go.WideShapes
set_option linter.unusedVariables false

def CellsF (w : World) (a : Option Addr) (len : Nat) (f : Nat → Value) : Prop := 0 < len → ∃ b off, a = some ⟨b, off, none⟩ ∧ b < w.heap.size ∧ ∀ j, j < len → w.cell? ⟨b, off + j, none⟩ = some (f j)
theorem addr_addF (b o i : Nat) : (⟨b, o, none⟩ : Addr).add i = ⟨b, o + i, none⟩ := by unfold Addr.add; split <;> simp_all
theorem cellsF_of {w : World} {x : Addr} {len : Nat} {f : Nat → Value} (h : ∀ j, j < len → w.cell? (x.add j) = some (f j)) : CellsF w (some x) len f := fun h0 => by
  obtain ⟨b, off, spot⟩ := x
  have hc0 := h 0 h0
  have hspot : spot = none := by simpa [Addr.add] using World.cell?_spot hc0
  subst hspot
  refine ⟨b, off, rfl, ?_, fun j hj => by rw [← addr_addF]; exact h j hj⟩
  have := World.block_lt_of_cell? w _ hc0
  simpa [Addr.add] using this
def StrsF (w : World) (v : Value) : Prop := ∃ (a : Option Addr) (len cap : Nat) (f : Nat → ByteArray), v = .slice a len cap ∧ len ≤ cap ∧ cap ≤ 9223372036854775807 ∧ (∀ j, j < len → (f j).size ≤ maxLen) ∧ CellsF w a len (fun j => .string (f j))
theorem strsF_view {H : Type} {enc : TypeId × Value → H} {P : Program} {W : World} {base t e : Nat} {v : Value} {d : DataW H} {ps : List MemPlace} (ht : P.underlying t = some (.slice e)) (he : P.underlying e = some .string) (hc : P.cellsOf e = 1)
    (hv : Value.okWide P W .any base t v) (h : DataW.Trod enc P W 0 (fun _ => true) true t v d ps) : StrsF W v := by
  obtain ⟨a, len, cap, rfl⟩ := okWide_slice ht hv
  obtain ⟨fuel, hf⟩ := h
  rcases open_strings ht he hc hf with ⟨hcs, _⟩ | ⟨x, l, c, ss, hcs, _, hl, hm, hmm, _, hx, hb⟩
  · simp [Value.cells] at hcs
    obtain ⟨rfl, rfl, rfl⟩ := hcs
    exact ⟨none, 0, 0, fun _ => ByteArray.empty, rfl, by omega, by omega, fun j hj => by omega, fun h => by omega⟩
  · simp [Value.cells] at hcs
    obtain ⟨rfl, rfl, rfl⟩ := hcs
    refine ⟨some x, len, cap, fun j => ss.getD j ByteArray.empty, rfl, hl, by unfold maxLen at hm; omega, fun j hj => ?_, cellsF_of (fun j hj => hx j (by simp at hmm; omega))⟩
    have hj' : j < ss.length := by simp at hmm; omega
    have := hb _ (List.getElem_mem hj')
    simpa [List.getD, List.getElem?_eq_getElem hj'] using this
theorem min2 (a : Nat) : ∃ n : Nat, n ≤ a ∧ n ≤ 80 ∧ (0 < a → 0 < n) ∧ ∀ (ts : Array TypeId) (t : TypeId) (w : World), (Builtin.min_ ts t #[.int .i64 a, .int .i64 80]).run Try.prog w = .ok (.int .i64 n) w := by
  refine ⟨min a 80, by omega, by omega, by omega, fun ts t w => ?_⟩
  rw [run_min_int2]
  congr 2
  split <;> omega

abbrev Bs := List UInt8
theorem holdL_len (top : Int) (l : St Bs) (k : Bs) : l.length ≤ (holdL top l k).1.length := by
  unfold holdL
  split
  · rw [updt_len]; exact Nat.le_refl _
  · split
    · exact Nat.le_refl _
    · rw [ins_len]; omega
theorem holdF_len (top : Int) (f : Nat → Bs) (n : Nat) : ∀ (i : Nat) (l : St Bs), l.length ≤ (holdFS top f n i l).1.length := by
  induction n with
  | zero => intro i l; exact Nat.le_refl _
  | succ n ih =>
    intro i l
    unfold holdFS
    split
    · exact Nat.le_trans (holdL_len top l (f i)) (ih _ _)
    · exact holdL_len top l (f i)
theorem holdF_pos (top : Int) (f : Nat → Bs) (n : Nat) (h : 0 < n) : 0 < (holdFS top f n 0 []).1.length := by
  obtain ⟨m, rfl⟩ : ∃ m, n = m + 1 := ⟨n - 1, by omega⟩
  have h1 : holdL top ([] : St Bs) (f 0) = ([(f 0, 1, false)], 0) := rfl
  unfold holdFS
  rw [h1]
  exact holdF_len top f m 1 [(f 0, 1, false)]
theorem holdF_one (top : Int) (f : Nat → Bs) (l : St Bs) : holdFS top f 1 0 l = holdL top l (f 0) := by
  unfold holdFS
  split
  · rename_i h; unfold holdFS; rw [← h]
  · rfl

theorem holdL_ok {P : Bs → Prop} {top : Int} {l : St Bs} {k : Bs} (h : ∀ e ∈ l, P e.1) (hk : P k) : ∀ e ∈ (holdL top l k).1, P e.1 := by
  intro e he
  unfold holdL at he
  split at he
  · rcases mem_updt.1 he with ⟨_, h1⟩ | ⟨h1, _⟩
    · exact h e h1
    · rw [h1]; exact hk
  · split at he
    · exact h e he
    · rcases mem_ins.1 he with h1 | h1
      · rw [h1]; exact hk
      · exact h e h1
theorem holdF_ok {P : Bs → Prop} {top : Int} {f : Nat → Bs} (n : Nat) : ∀ (i : Nat) (l : St Bs), (∀ e ∈ l, P e.1) → (∀ j, i ≤ j → j < i + n → P (f j)) → ∀ e ∈ (holdFS top f n i l).1, P e.1 := by
  induction n with
  | zero => intro i l h _; exact h
  | succ n ih =>
    intro i l h hf
    have h1 := holdL_ok (top := top) h (hf i (Nat.le_refl _) (by omega))
    unfold holdFS
    split
    · exact ih _ _ h1 (fun j h2 h3 => hf j (by omega) (by omega))
    · exact h1
theorem valLS_pos {K tR : TypeId} {w : World} {F M : Nat} {top : Int} {l : St Bs} {blk : Bs → Nat} (h : Tbl K tR w F M top l blk) {k : Bs} (hk : hasK l k) : 1 ≤ valLS l k := by
  obtain ⟨c, hc⟩ := hk
  have hl := look_of_mem h.sorted hc
  unfold valLS
  rw [hl]
  exact (h.cnt k c.1 c.2 hc).2.1
theorem not_leq {a b : Bs} (h : Key.lt a b) : (Op.bytesLess (⟨b.toArray⟩ : ByteArray).toList (⟨a.toArray⟩ : ByteArray).toList || (⟨b.toArray⟩ : ByteArray).toList == (⟨a.toArray⟩ : ByteArray).toList) = false := by
  have h' : a < b := h
  rw [Go.Proofs.bytesLess_eq, Lib.toList_data, Lib.toList_data]
  have h1 : ¬ b < a := fun h2 => List.lt_irrefl a (List.lt_trans h' h2)
  have h2 : b ≠ a := fun e => by rw [e] at h'; exact List.lt_irrefl a h'
  simp [h1, h2]
end Go.Proofs.Ytkpenhichgkdkaa
