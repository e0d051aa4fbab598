/- Buckets: chains are a list's keys, each once; slices of words that came in. -/
import Derived.Test.YtkkaogdcodmpcaaKno
import Derived.Test.YtkkaogdcodmpcaaPtB
import Derived.Test.YtkkaogdcodmpcaaGtB
import Derived.Test.YtkkaogdcodmpcaaChB
import Derived.OpenShut
import Derived.ShutString
import Derived.ChangeOld
import Derived.Deep.Slices
namespace Go.Proofs.Ytkkaogdcodmpcaa
open Go.RowKit Go.ChangeShapes Go.WideShapes
set_option linter.unusedVariables false
variable {β : Type}

theorem flat_congr {α γ : Type} {f g : α → List γ} {l : List α} (h : ∀ b ∈ l, f b = g b) : l.flatMap f = l.flatMap g := by
  induction l with
  | nil => rfl
  | cons x l ih => rw [List.flatMap_cons, List.flatMap_cons, h x (by simp), ih (fun b hb => h b (by simp [hb]))]
theorem flat_insert {γ : Type} (x : γ) (g : Nat → List γ) (b0 n : Nat) (h : b0 < n) : ((List.range n).flatMap fun b => if b0 = b then x :: g b else g b).Perm (x :: (List.range n).flatMap g) := by
  induction n with
  | zero => omega
  | succ n ih =>
    rw [List.range_succ, List.flatMap_append, List.flatMap_append]
    simp only [List.flatMap_cons, List.flatMap_nil, List.append_nil]
    by_cases e : b0 = n
    · subst e
      rw [if_pos rfl]
      have : ((List.range b0).flatMap fun b => if b0 = b then x :: g b else g b) = (List.range b0).flatMap g := by
        apply flat_congr
        intro b hb
        rw [if_neg]
        have := List.mem_range.1 hb
        omega
      rw [this]
      exact List.perm_middle
    · rw [if_neg e]
      exact (ih (by omega)).append_right _
theorem allKeys_perm (m : List (Int × β)) (nb : Nat) (h : 1 ≤ nb) : (allKeys m nb nb).Perm (m.map (·.1)) := by
  induction m with
  | nil => simp [allKeys, chn]
  | cons e m ih =>
    have : allKeys (e :: m) nb nb = (List.range nb).flatMap fun b => if bkt e.1 nb = b then e.1 :: (chn m nb b).map (·.1) else (chn m nb b).map (·.1) := by
      unfold allKeys
      apply flat_congr
      intro b _
      rw [chn_cons]
      by_cases hb : bkt e.1 nb = b
      · rw [if_pos hb, if_pos hb]; rfl
      · rw [if_neg hb, if_neg hb]
    rw [this]
    exact (flat_insert e.1 _ _ nb (bkt_lt e.1 nb h)).trans (ih.cons e.1)
theorem allKeys_len (m : List (Int × β)) (nb : Nat) (h : 1 ≤ nb) : (allKeys m nb nb).length = m.length := by rw [(allKeys_perm m nb h).length_eq, List.length_map]
theorem allKeys_nodup {m : List (Int × β)} (nb : Nat) (h : 1 ≤ nb) (hd : (m.map (·.1)).Nodup) : (allKeys m nb nb).Nodup := (allKeys_perm m nb h).nodup_iff.2 hd
theorem allKeys_prefix (m : List (Int × β)) (nb b n : Nat) (h : b ≤ n) : ∃ rest, allKeys m nb n = allKeys m nb b ++ rest := by
  induction n with
  | zero =>
    obtain rfl : b = 0 := by omega
    exact ⟨[], by simp⟩
  | succ n ih =>
    by_cases e : b = n + 1
    · subst e; exact ⟨[], by simp⟩
    · obtain ⟨r, hr⟩ := ih (by omega)
      exact ⟨r ++ (chn m nb n).map (·.1), by rw [allKeys_succ, hr, List.append_assoc]⟩
theorem allKeys_get (m : List (Int × β)) (nb : Nat) {b i : Nat} {x : Int} (hb : b < nb) (hi : ((chn m nb b).map (·.1))[i]? = some x) : (allKeys m nb nb)[(allKeys m nb b).length + i]? = some x := by
  obtain ⟨r, hr⟩ := allKeys_prefix m nb (b + 1) nb (by omega)
  have hil := (List.getElem?_eq_some_iff.1 hi).1
  rw [hr, allKeys_succ, List.append_assoc, List.getElem?_append_right (by omega), Nat.add_sub_cancel_left, List.getElem?_append_left hil]
  exact hi
theorem chn_bkt {m : List (Int × β)} {nb b i : Nat} {x : Int} (hi : ((chn m nb b).map (·.1))[i]? = some x) : bkt x nb = b := by
  have := List.mem_of_getElem? hi
  obtain ⟨e, he, rfl⟩ := List.mem_map.1 this
  exact (mem_chn.1 he).2

/-- words at places of old -/
def HoldsW (w : World) (a : Option Addr) (xs : List Int) : Prop := 0 < xs.length → ∃ b off, a = some ⟨b, off, none⟩ ∧ b < w.heap.size ∧ ∀ j x, xs[j]? = some x → w.cell? ⟨b, off + j, none⟩ = some (.int .u64 x)
def Words (w : World) (v : Value) : Prop := ∃ a len cap xs, v = .slice a len cap ∧ len ≤ cap ∧ len ≤ 9223372036854775807 ∧ xs.length = len ∧ HoldsW w a xs
theorem addr_add (b o i : Nat) : (⟨b, o, none⟩ : Addr).add i = ⟨b, o + i, none⟩ := by unfold Addr.add; split <;> simp_all
theorem words_view {H : Type} {enc : TypeId × Value → H} {P : Program} {W : World} {base t e : Nat} {v : Value} {d : DataW H} {ps : List MemPlace} (ht : P.underlying t = some (.slice e)) (he : P.underlying e = some (.int .u64)) (hc : P.cellsOf e = 1)
    (hv : Value.okWide P W .any base t v) (h : DataW.Trod enc P W 0 (fun _ => true) true t v d ps) : Words W v := by
  obtain ⟨a, len, cap, rfl⟩ := okWide_slice ht hv
  obtain ⟨fuel, hf⟩ := h
  rcases Deep.open_slice1 ht hc hf with ⟨hcs, _⟩ | ⟨x, l, c, m, n, V, D, Pl, hcs, _, hl, hm, hmm, _, hx⟩
  · simp [Value.cells] at hcs
    obtain ⟨rfl, rfl, rfl⟩ := hcs
    exact ⟨none, 0, 0, [], rfl, by omega, by omega, rfl, fun h => by simp at h⟩
  · simp [Value.cells] at hcs
    obtain ⟨rfl, rfl, rfl⟩ := hcs
    have hb : ∀ j, j < len → ∃ q : Int, W.cell? (x.add j) = some (.int .u64 q) := by
      intro j hj
      have h1 := hx j (by simp at hmm; omega)
      obtain ⟨q, h2, _, h3⟩ := DataW.trod_int he h1.2
      simp at h2
      exact ⟨q, by rw [h1.1, h2]⟩
    obtain ⟨bs, hbs⟩ := Deep.choose_lt hb
    refine ⟨some x, len, cap, (List.range len).map bs, rfl, hl, by unfold maxLen at hm; omega, by simp, ?_⟩
    intro h0
    have h0 : 0 < len := by simpa using h0
    obtain ⟨b, off, spot⟩ := x
    have hc0 := hbs 0 (by omega)
    have hspot : spot = none := by simpa [Addr.add] using World.cell?_spot hc0
    subst hspot
    refine ⟨b, off, rfl, ?_, fun j y hj => ?_⟩
    · have := World.block_lt_of_cell? W _ hc0
      simpa [Addr.add] using this
    · have hjl := (List.getElem?_eq_some_iff.1 hj).1
      have hj' : j < len := by simpa using hjl
      rw [← addr_add, hbs j hj']
      simp [hj'] at hj
      rw [hj]
/-- a put, whatever the key, where there is room -/
theorem BputAny (T G nb room : Nat) (k : Int) (v : Bool) (m : List (Int × Bool)) (ch : Nat → Value) (w : World) (h : Tab Value.bool 91 93 94 w T G nb room m ch) (hr : m.length < room) : Calls Try.prog 28 #[.pointer (some ⟨T, 0, none⟩), .int .u64 k, .bool v] w fun e w' => ∃ m' ch' b, e = .returned (.tuple #[.bool b, .int .i64 0]) ∧ Tab Value.bool 91 93 94 w' T G nb room m' ch' ∧ Step w w' T G nb ch ch' ∧ m'.length ≤ m.length + 1 ∧ (∀ q, has m q → has m' q) ∧ has m' k := by
  by_cases hk : has m k
  · obtain ⟨u, hu⟩ := hk
    refine (BputOld T G nb room k u v m ch w h hu).mono ?_
    rintro e w' ⟨ch', rfl, t, s⟩
    refine ⟨_, ch', true, rfl, t, s, by rw [upd1_len]; omega, fun q hq => ?_, ?_⟩
    · obtain ⟨y, hy⟩ := hq
      have : q ∈ (upd1 m k v).map (·.1) := by rw [upd1_keys]; exact List.mem_map.2 ⟨_, hy, rfl⟩
      obtain ⟨e, he, rfl⟩ := List.mem_map.1 this
      exact ⟨e.2, he⟩
    · have : k ∈ (upd1 m k v).map (·.1) := by rw [upd1_keys]; exact List.mem_map.2 ⟨_, hu, rfl⟩
      obtain ⟨e, he, rfl⟩ := List.mem_map.1 this
      exact ⟨e.2, he⟩
  · refine (BputNew T G nb room k v m ch w h hk hr).mono ?_
    rintro e w' ⟨ch', rfl, t, s⟩
    exact ⟨_, ch', false, rfl, t, s, by simp, fun q ⟨y, hy⟩ => ⟨y, List.mem_cons_of_mem _ hy⟩, ⟨v, by simp⟩⟩
end Go.Proofs.Ytkkaogdcodmpcaa
