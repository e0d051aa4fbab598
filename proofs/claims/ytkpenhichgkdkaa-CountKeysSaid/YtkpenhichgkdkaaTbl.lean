/- A table of counts by keys: its state in memory, told by a sorted list. -/
import Derived.Test.YtkpenhichgkdkaaNil
import Derived.Maps.OwnSet
import Derived.Maps.OwnOps
import Derived.Sort.KeysCollected
namespace Go.Proofs.Ytkpenhichgkdkaa
open Go.RowKit
set_option linter.unusedVariables false
set_option linter.unusedSectionVars false

/-- writes to the blocks of O, and new blocks -/
structure Chg (w w' : World) (O : Nat → Prop) : Prop where
  os : w'.os = w.os
  tape : w'.tape = w.tape
  output : w'.output = w.output
  size : w.heap.size ≤ w'.heap.size
  block : ∀ k, k < w.heap.size → ¬ O k → w'.heap[k]? = w.heap[k]?
theorem Chg.of {w w' : World} {O : Nat → Prop} (h : Below w.heap.size w w') : Chg w w' O := ⟨h.os, h.tape, h.output, h.size, fun k hk _ => h.block k hk⟩
theorem Chg.refl (w : World) (O : Nat → Prop) : Chg w w O := .of (Below.refl _ _)
theorem Chg.grown {w w' : World} {O : Nat → Prop} {r : Option Nat} (h : w.grownBy w' r) (hr : ∀ k, r = some k → O k ∨ w.heap.size ≤ k) : Chg w w' O :=
  ⟨h.os, h.tape, h.output, h.size, fun k hk ho => h.block k hk (fun e => by rcases hr k e.symm with h | h; exact ho h; omega)⟩
theorem Chg.trans {a b c : World} {O O' : Nat → Prop} (h : Chg a b O) (g : Chg b c O') (hO : ∀ k, O' k → O k ∨ a.heap.size ≤ k) : Chg a c O :=
  ⟨g.os.trans h.os, g.tape.trans h.tape, g.output.trans h.output, Nat.le_trans h.size g.size, fun k hk ho => (g.block k (Nat.lt_of_lt_of_le hk h.size) (fun e => (hO k e).elim ho (by omega))).trans (h.block k hk ho)⟩
theorem Chg.below {w w' : World} {O : Nat → Prop} {B : Nat} (h : Chg w w' O) (hO : ∀ k, O k → B ≤ k) (hB : B ≤ w.heap.size) : Below B w w' := ⟨h.os, h.tape, h.output, h.size, fun k hk => h.block k (by omega) (fun o => by have := hO k o; omega)⟩

/-! ### keys -/
class Key (κ : Type) where
  dec : DecidableEq κ
  lt : κ → κ → Prop
  dlt : ∀ a b, Decidable (lt a b)
  irr : ∀ a, ¬ lt a a
  tr : ∀ a b c, lt a b → lt b c → lt a c
  tot : ∀ a b, a = b ∨ lt a b ∨ lt b a
  lit : κ → Lit
  inj : ∀ a b, lit a = lit b → a = b
  isKey : ∀ a, WideAt.IsKeyLit (lit a)
instance {κ : Type} [Key κ] : DecidableEq κ := Key.dec
instance {κ : Type} [Key κ] (a b : κ) : Decidable (Key.lt a b) := Key.dlt a b

variable {κ : Type} [Key κ]
/-- keys in order, each with its number and whether it sticks -/
abbrev St (κ : Type) := List (κ × Int × Bool)
def look : St κ → κ → Option (Int × Bool)
  | [], _ => none
  | e :: l, k => if e.1 = k then some e.2 else look l k
def ins : St κ → κ → Int × Bool → St κ
  | [], k, c => [(k, c)]
  | e :: l, k, c => if Key.lt e.1 k then e :: ins l k c else (k, c) :: e :: l
def updt (l : St κ) (k : κ) (c : Int × Bool) : St κ := l.map fun e => if e.1 = k then (k, c) else e
def del (l : St κ) (k : κ) : St κ := l.filter fun e => decide (e.1 ≠ k)
def holdL (top : Int) (l : St κ) (k : κ) : St κ × Int :=
  match look l k with
  | some (n, s) => (updt l k (getN n top s, getS n top s), getE n top s)
  | none => if 64 ≤ l.length then (l, 3) else (ins l k (1, false), 0)
def dropL (l : St κ) (k : κ) : St κ × Bool × Int :=
  match look l k with
  | some (n, s) => (if putB n s then del l k else updt l k (putN n s, s), putB n s, putE n)
  | none => (l, false, 4)
def Sorted (l : St κ) : Prop := l.Pairwise fun a b => Key.lt a.1 b.1
def hasK (l : St κ) (k : κ) : Prop := ∃ c, (k, c) ∈ l

theorem look_some {l : St κ} {k : κ} {c : Int × Bool} (h : look l k = some c) : (k, c) ∈ l := by
  induction l with
  | nil => simp [look] at h
  | cons e l ih =>
    unfold look at h
    by_cases he : e.1 = k
    · rw [if_pos he] at h
      obtain rfl := Option.some.inj h
      rw [← he]; exact List.mem_cons_self
    · rw [if_neg he] at h
      exact List.mem_cons_of_mem _ (ih h)
theorem look_none {l : St κ} {k : κ} (h : look l k = none) : ∀ c, (k, c) ∉ l := by
  induction l with
  | nil => simp
  | cons e l ih =>
    unfold look at h
    by_cases he : e.1 = k
    · rw [if_pos he] at h; cases h
    · rw [if_neg he] at h
      intro c hc
      rcases List.mem_cons.1 hc with hc | hc
      · exact he (by rw [← hc])
      · exact ih h c hc
theorem sorted_one {l : St κ} (hs : Sorted l) {k : κ} {c d : Int × Bool} (h1 : (k, c) ∈ l) (h2 : (k, d) ∈ l) : c = d := by
  induction l with
  | nil => simp at h1
  | cons e l ih =>
    have hp := List.pairwise_cons.1 hs
    rcases List.mem_cons.1 h1 with e1 | e1 <;> rcases List.mem_cons.1 h2 with e2 | e2
    · rw [← e1] at e2; simp at e2; exact e2.symm
    · exact absurd (hp.1 _ e2) (by rw [← e1]; exact Key.irr _)
    · exact absurd (hp.1 _ e1) (by rw [← e2]; exact Key.irr _)
    · exact ih hp.2 e1 e2
theorem look_of_mem {l : St κ} (hs : Sorted l) {k : κ} {c : Int × Bool} (h : (k, c) ∈ l) : look l k = some c := by
  cases hl : look l k with
  | none => exact absurd h (look_none hl c)
  | some d => rw [sorted_one hs h (look_some hl)]
theorem mem_ins {l : St κ} {k : κ} {c : Int × Bool} {e : κ × Int × Bool} : e ∈ ins l k c ↔ e = (k, c) ∨ e ∈ l := by
  induction l with
  | nil => simp [ins]
  | cons a l ih =>
    unfold ins
    by_cases h : Key.lt a.1 k
    · rw [if_pos h, List.mem_cons, ih, List.mem_cons]
      constructor
      · rintro (h | h | h)
        · exact .inr (.inl h)
        · exact .inl h
        · exact .inr (.inr h)
      · rintro (h | h | h)
        · exact .inr (.inl h)
        · exact .inl h
        · exact .inr (.inr h)
    · rw [if_neg h, List.mem_cons]
theorem ins_len (l : St κ) (k : κ) (c : Int × Bool) : (ins l k c).length = l.length + 1 := by
  induction l with
  | nil => rfl
  | cons e l ih => unfold ins; split <;> simp [ih]
theorem ins_sorted {l : St κ} (hs : Sorted l) {k : κ} (hn : ∀ c, (k, c) ∉ l) (c : Int × Bool) : Sorted (ins l k c) := by
  induction l with
  | nil => simp [ins, Sorted]
  | cons e l ih =>
    have hp := List.pairwise_cons.1 hs
    have hl : ∀ c, (k, c) ∉ l := fun c hc => hn c (List.mem_cons_of_mem _ hc)
    unfold ins
    by_cases h : Key.lt e.1 k
    · rw [if_pos h]
      refine List.pairwise_cons.2 ⟨fun x hx => ?_, ih hp.2 hl⟩
      rcases mem_ins.1 hx with rfl | hx
      · exact h
      · exact hp.1 x hx
    · rw [if_neg h]
      have hk : Key.lt k e.1 := by
        rcases Key.tot k e.1 with h1 | h1 | h1
        · exact absurd (by rw [h1]; exact List.mem_cons_self) (hn e.2)
        · exact h1
        · exact absurd h1 h
      refine List.pairwise_cons.2 ⟨fun x hx => ?_, hs⟩
      rcases List.mem_cons.1 hx with rfl | hx
      · exact hk
      · exact Key.tr _ _ _ hk (hp.1 x hx)
theorem mem_updt {l : St κ} {k : κ} {c : Int × Bool} {e : κ × Int × Bool} : e ∈ updt l k c ↔ (e.1 ≠ k ∧ e ∈ l) ∨ (e = (k, c) ∧ hasK l k) := by
  unfold updt
  rw [List.mem_map]
  constructor
  · rintro ⟨a, ha, rfl⟩
    by_cases h : a.1 = k
    · rw [if_pos h]; exact .inr ⟨rfl, a.2, by rw [← h]; exact ha⟩
    · rw [if_neg h]; exact .inl ⟨h, ha⟩
  · rintro (⟨h, he⟩ | ⟨rfl, d, hd⟩)
    · exact ⟨e, he, if_neg h⟩
    · exact ⟨(k, d), hd, if_pos rfl⟩
theorem updt_len (l : St κ) (k : κ) (c : Int × Bool) : (updt l k c).length = l.length := by simp [updt]
theorem updt_keys (l : St κ) (k : κ) (c : Int × Bool) : (updt l k c).map (·.1) = l.map (·.1) := by
  unfold updt
  rw [List.map_map]
  refine List.map_congr_left fun e he => ?_
  show (if e.1 = k then (k, c) else e).1 = e.1
  by_cases h : e.1 = k
  · rw [if_pos h, h]
  · rw [if_neg h]
theorem sorted_keys {l : St κ} : Sorted l ↔ (l.map (·.1)).Pairwise Key.lt := by rw [List.pairwise_map]; rfl
theorem updt_sorted {l : St κ} (hs : Sorted l) (k : κ) (c : Int × Bool) : Sorted (updt l k c) := by rw [sorted_keys, updt_keys, ← sorted_keys]; exact hs
theorem mem_del {l : St κ} {k : κ} {e : κ × Int × Bool} : e ∈ del l k ↔ e ∈ l ∧ e.1 ≠ k := by unfold del; rw [List.mem_filter, decide_eq_true_eq]
theorem del_sorted {l : St κ} (hs : Sorted l) (k : κ) : Sorted (del l k) := List.Pairwise.filter _ hs
theorem del_len {l : St κ} (hs : Sorted l) {k : κ} (h : hasK l k) : (del l k).length + 1 = l.length := by
  induction l with
  | nil => obtain ⟨c, hc⟩ := h; simp at hc
  | cons e l ih =>
    have hp := List.pairwise_cons.1 hs
    by_cases he : e.1 = k
    · have h1 : del (e :: l) k = l := by
        unfold del
        rw [List.filter_cons_of_neg (by simp [he])]
        exact List.filter_eq_self.2 fun x hx => decide_eq_true fun e' => Key.irr k (by have := hp.1 x hx; rw [he, e'] at this; exact this)
      rw [h1]; rfl
    · have h1 : del (e :: l) k = e :: del l k := by unfold del; rw [List.filter_cons_of_pos (by simp [he])]
      obtain ⟨c, hc⟩ := h
      rw [h1, List.length_cons, List.length_cons, ih hp.2 ⟨c, by
        rcases List.mem_cons.1 hc with hc | hc
        · exact absurd (by rw [← hc]) he
        · exact hc⟩]

/-! ### the reader of a map's elements -/
def ptr : Option Nat → Value
  | none => .pointer none
  | some B => .pointer (some ⟨B, 0, none⟩)
def pd : Option Nat → DataW Unit
  | none => .nil
  | some B => .lit (.int .u64 B)
def ptrR (v : Value) : Option (DataW Unit × List MemPlace) :=
  match v with
  | .pointer none => some (.nil, [])
  | .pointer (some a) => if a.off = 0 ∧ a.spot = none then some (.lit (.int .u64 a.block), []) else none
  | _ => none
theorem ptrR_ptr (o : Option Nat) : ptrR (ptr o) = some (pd o, []) := by cases o <;> simp [ptr, pd, ptrR]
theorem ptrR_shape {v : Value} {y : DataW Unit × List MemPlace} (h : ptrR v = some y) : ∃ o, v = ptr o ∧ y = (pd o, []) := by
  unfold ptrR at h
  split at h
  · cases h; exact ⟨none, rfl, rfl⟩
  · rename_i a
    split at h
    · rename_i ha
      cases h
      obtain ⟨b, off, sp⟩ := a
      obtain ⟨h1, h2⟩ := ha
      simp at h1 h2
      subst h1 h2
      exact ⟨some b, rfl, rfl⟩
    · cases h
  · cases h
theorem pd_inj {o p : Option Nat} (h : pd o = pd p) : o = p := by
  cases o <;> cases p <;> simp [pd] at h ⊢
  omega
theorem ptrR_pd {v : Value} {o : Option Nat} {ps : List MemPlace} (h : ptrR v = some (pd o, ps)) : v = ptr o := by
  obtain ⟨p, rfl, hp⟩ := ptrR_shape h
  simp at hp
  rw [pd_inj hp.1]
theorem exact_n {P : Program} {k : TypeId} {w : World} {b n : Nat} {D : DataW Unit} (h : w.ownsMap P k ptrR b n D) : w.ownsMap P k ptrR b (Maps.size D) D := by
  obtain ⟨es, clock, hb, F, _, rfl⟩ := h
  exact ⟨es, clock, hb, F, by simp [Maps.size, length_sorted], rfl⟩

/-! ### the table in memory -/
/-- what the map's datum says -/
structure Says (D : DataW Unit) (l : St κ) (blk : κ → Nat) : Prop where
  at_ : ∀ k, D.atKey (Key.lit k) .nil = pd ((look l k).map fun _ => blk k)
  has : ∀ k, Maps.has D (Key.lit k) = (look l k).isSome
  size : Maps.size D = l.length
structure Tbl (K tR : TypeId) (w : World) (F M : Nat) (top : Int) (l : St κ) (blk : κ → Nat) : Prop where
  top1 : 1 ≤ top
  top2 : top ≤ 65535
  head : w.heap[F]? = some (.cells #[.int .i64 top, .map (some M)] tR (0, 0))
  map : ∃ D, w.ownsMap Try.prog K ptrR M l.length D ∧ Says D l blk
  sorted : Sorted l
  len : l.length ≤ 64
  cnt : ∀ k n s, (k, n, s) ∈ l → IsCnt w (blk k) n top s ∧ 1 ≤ n ∧ n ≤ top
  inj : ∀ k k' c c', (k, c) ∈ l → (k', c') ∈ l → blk k = blk k' → k = k'
def Own (F M : Nat) (l : St κ) (blk : κ → Nat) (j : Nat) : Prop := j = F ∨ j = M ∨ ∃ k c, (k, c) ∈ l ∧ j = blk k
/-- what a change of a table leaves -/
structure Step (w w' : World) (F M : Nat) (l l' : St κ) (blk blk' : κ → Nat) : Prop where
  chg : Chg w w' (Own F M l blk)
  mine : ∀ j, Own F M l' blk' j → Own F M l blk j ∨ w.heap.size ≤ j
theorem Step.refl {w w' : World} {F M : Nat} {l : St κ} {blk : κ → Nat} (h : Below w.heap.size w w') : Step w w' F M l l blk blk := ⟨.of h, fun _ h => .inl h⟩
theorem Step.trans {a b c : World} {F M : Nat} {l l' l'' : St κ} {blk blk' blk'' : κ → Nat} (h : Step a b F M l l' blk blk') (g : Step b c F M l' l'' blk' blk'') : Step a c F M l l'' blk blk'' :=
  ⟨h.chg.trans g.chg h.mine, fun k hk => (g.mine k hk).elim (h.mine k) (fun h' => .inr (Nat.le_trans h.chg.size h'))⟩
theorem Step.below {w w' : World} {F M B : Nat} {l l' : St κ} {blk blk' : κ → Nat} (h : Step w w' F M l l' blk blk') (hO : ∀ j, Own F M l blk j → B ≤ j) (hB : B ≤ w.heap.size) : Below B w w' ∧ ∀ j, Own F M l' blk' j → B ≤ j :=
  ⟨h.chg.below hO hB, fun j hj => (h.mine j hj).elim (hO j) (Nat.le_trans hB)⟩

variable {K tR : TypeId} {w : World} {F M : Nat} {top : Int} {l : St κ} {blk : κ → Nat}
theorem isMap_block {P : Program} {k : TypeId} {b n : Nat} {D : DataW Unit} (h : w.ownsMap P k ptrR b n D) : ∃ es c, w.heap[b]? = some (.map es c) := by obtain ⟨es, c, hb, _⟩ := h; exact ⟨es, c, hb⟩
theorem map_keep {P : Program} {k : TypeId} {w' : World} {b n : Nat} {D : DataW Unit} (h : w.ownsMap P k ptrR b n D) (e : w'.heap[b]? = w.heap[b]?) : w'.ownsMap P k ptrR b n D := by
  obtain ⟨es, c, hb, r⟩ := h
  exact ⟨es, c, e.trans hb, r⟩
theorem Tbl.keep {w' : World} (h : Tbl K tR w F M top l blk) (hF : w'.heap[F]? = w.heap[F]?) (hM : w'.heap[M]? = w.heap[M]?) (hB : ∀ k c, (k, c) ∈ l → w'.heap[blk k]? = w.heap[blk k]?) : Tbl K tR w' F M top l blk :=
  ⟨h.top1, h.top2, hF.trans h.head, by obtain ⟨D, h1, h2⟩ := h.map; exact ⟨D, map_keep h1 hM, h2⟩, h.sorted, h.len,
   fun k n s hk => ⟨(hB k _ hk).trans (h.cnt k n s hk).1, (h.cnt k n s hk).2⟩, h.inj⟩
theorem Tbl.ownlt (h : Tbl K tR w F M top l blk) {j : Nat} (hj : Own F M l blk j) : j < w.heap.size := by
  rcases hj with rfl | rfl | ⟨k, ⟨n, s⟩, hk, rfl⟩
  · exact lt_of_block h.head
  · obtain ⟨D, h1, _⟩ := h.map; exact h1.lt
  · exact lt_of_block (h.cnt k n s hk).1
theorem Tbl.other {w' : World} {O : Nat → Prop} (h : Tbl K tR w F M top l blk) (hc : Chg w w' O) (hO : ∀ j, Own F M l blk j → ¬ O j) : Tbl K tR w' F M top l blk :=
  h.keep (hc.block _ (h.ownlt (.inl rfl)) (hO _ (.inl rfl))) (hc.block _ (h.ownlt (.inr (.inl rfl))) (hO _ (.inr (.inl rfl)))) (fun k c hk => hc.block _ (h.ownlt (.inr (.inr ⟨k, c, hk, rfl⟩))) (hO _ (.inr (.inr ⟨k, c, hk, rfl⟩))))
theorem Tbl.kept {w' : World} (h : Tbl K tR w F M top l blk) (b : Below w.heap.size w w') : Tbl K tR w' F M top l blk := h.other (O := fun _ => False) (.of b) (fun _ _ h => h)
/-- blocks of three kinds -/
theorem Tbl.nFM (h : Tbl K tR w F M top l blk) : F ≠ M := by
  rintro rfl
  obtain ⟨D, h1, _⟩ := h.map
  obtain ⟨es, c, hb⟩ := isMap_block h1
  rw [h.head] at hb; simp at hb
theorem Tbl.nB (h : Tbl K tR w F M top l blk) {k : κ} {c : Int × Bool} (hk : (k, c) ∈ l) : blk k ≠ M ∧ blk k ≠ F := by
  have hc := (h.cnt k c.1 c.2 hk).1
  constructor
  · intro e
    obtain ⟨D, h1, _⟩ := h.map
    obtain ⟨es, c', hb⟩ := isMap_block h1
    rw [← e] at hb
    rw [IsCnt, hb] at hc; simp at hc
  · intro e
    have := h.head
    rw [← e, hc] at this
    simp at this

/-- one count has turned -/
theorem Tbl.upd {w' : World} (h : Tbl K tR w F M top l blk) {k : κ} {c : Int × Bool} (hk : (k, c) ∈ l) {n' : Int} {s' : Bool} (g : w.grownBy w' (some (blk k))) (hc : IsCnt w' (blk k) n' top s') (h1 : 1 ≤ n') (h2 : n' ≤ top) :
    Tbl K tR w' F M top (updt l k (n', s')) blk ∧ Step w w' F M l (updt l k (n', s')) blk blk := by
  have hb := h.nB hk
  refine ⟨⟨h.top1, h.top2, (g.block _ (h.ownlt (.inl rfl)) (by simp; exact fun e => hb.2 e.symm)).trans h.head, ?_, updt_sorted h.sorted k _, by rw [updt_len]; exact h.len, ?_, ?_⟩, ⟨.grown g (fun j e => by cases e; exact .inl (.inr (.inr ⟨k, c, hk, rfl⟩))), ?_⟩⟩
  · obtain ⟨D, d1, d2⟩ := h.map
    refine ⟨D, by rw [updt_len]; exact map_keep d1 (g.block _ (h.ownlt (.inr (.inl rfl))) (by simp; exact fun e => hb.1 e.symm)), ?_⟩
    have hl : ∀ x, (look (updt l k (n', s')) x).isSome = (look l x).isSome := by
      intro x
      cases hx : look l x with
      | none =>
        cases hy : look (updt l k (n', s')) x with
        | none => rfl
        | some y =>
          rcases mem_updt.1 (look_some hy) with ⟨_, hm⟩ | ⟨he, d, hd⟩
          · exact absurd hm (look_none hx _)
          · simp at he; rw [he.1] at hx; exact absurd hd (look_none hx _)
      | some y =>
        cases hy : look (updt l k (n', s')) x with
        | some z => rfl
        | none =>
          by_cases hxk : x = k
          · exact absurd (mem_updt.2 (.inr ⟨by rw [hxk], ⟨c, hk⟩⟩)) (look_none hy (n', s'))
          · exact absurd (mem_updt.2 (.inl ⟨hxk, look_some hx⟩)) (look_none hy y)
    refine ⟨fun x => ?_, fun x => by rw [d2.has, hl], by rw [updt_len]; exact d2.size⟩
    rw [d2.at_ x]
    have := hl x
    cases hx : look l x <;> cases hy : look (updt l k (n', s')) x <;> simp [hx, hy] at this ⊢
  · intro x n s hx
    rcases mem_updt.1 hx with ⟨hne, hm⟩ | ⟨he, _⟩
    · obtain ⟨c1, c2⟩ := h.cnt x n s hm
      exact ⟨(g.block _ (h.ownlt (.inr (.inr ⟨x, _, hm, rfl⟩))) (by simp; exact fun e => hne (h.inj x k _ _ hm hk e))).trans c1, c2⟩
    · simp at he
      obtain ⟨rfl, rfl, rfl⟩ := he
      exact ⟨hc, h1, h2⟩
  · have hm : ∀ x d, (x, d) ∈ updt l k (n', s') → ∃ d', (x, d') ∈ l := by
      intro x d hx
      rcases mem_updt.1 hx with ⟨_, hm⟩ | ⟨he, d', hd⟩
      · exact ⟨_, hm⟩
      · simp at he; exact ⟨d', by rw [he.1]; exact hd⟩
    intro x y d e hx hy
    obtain ⟨d', hd⟩ := hm x d hx
    obtain ⟨e', he⟩ := hm y e hy
    exact h.inj x y d' e' hd he
  · rintro j (rfl | rfl | ⟨x, d, hx, rfl⟩)
    · exact .inl (.inl rfl)
    · exact .inl (.inr (.inl rfl))
    · rcases mem_updt.1 hx with ⟨_, hm⟩ | ⟨he, d', hd⟩
      · exact .inl (.inr (.inr ⟨x, d, hm, rfl⟩))
      · simp at he; exact .inl (.inr (.inr ⟨x, d', by rw [he.1]; exact hd, rfl⟩))

def setb (blk : κ → Nat) (k : κ) (B : Nat) : κ → Nat := fun x => if x = k then B else blk x
theorem setb_same (blk : κ → Nat) (k : κ) (B : Nat) : setb blk k B k = B := if_pos rfl
theorem setb_other (blk : κ → Nat) {k x : κ} (B : Nat) (h : x ≠ k) : setb blk k B x = blk x := if_neg h
theorem hasK_look {l : St κ} {k : κ} : hasK l k ↔ (look l k).isSome := by
  constructor
  · rintro ⟨c, hc⟩
    cases h : look l k with
    | none => exact absurd hc (look_none h c)
    | some d => rfl
  · intro h
    cases hl : look l k with
    | none => rw [hl] at h; cases h
    | some d => exact ⟨d, look_some hl⟩
theorem look_ins {l : St κ} (hs : Sorted l) {k : κ} (hn : look l k = none) (c : Int × Bool) (x : κ) : look (ins l k c) x = if x = k then some c else look l x := by
  have hs' := ins_sorted hs (look_none hn) c
  by_cases h : x = k
  · rw [if_pos h, h]; exact look_of_mem hs' (mem_ins.2 (.inl rfl))
  · rw [if_neg h]
    cases hl : look l x with
    | some d => exact look_of_mem hs' (mem_ins.2 (.inr (look_some hl)))
    | none =>
      cases hy : look (ins l k c) x with
      | none => rfl
      | some d =>
        rcases mem_ins.1 (look_some hy) with e | e
        · simp at e; exact absurd e.1 h
        · exact absurd e (look_none hl d)
theorem look_del {l : St κ} (hs : Sorted l) (k x : κ) : look (del l k) x = if x = k then none else look l x := by
  by_cases h : x = k
  · rw [if_pos h]
    cases hy : look (del l k) x with
    | none => rfl
    | some d => exact absurd h (mem_del.1 (look_some hy)).2
  · rw [if_neg h]
    cases hl : look l x with
    | some d => exact look_of_mem (del_sorted hs k) (mem_del.2 ⟨look_some hl, h⟩)
    | none =>
      cases hy : look (del l k) x with
      | none => rfl
      | some d => exact absurd (mem_del.1 (look_some hy)).1 (look_none hl d)
theorem says_ins {D : DataW Unit} {l : St κ} {blk : κ → Nat} (h : Says D l blk) (hT : Maps.Tidy D) (hs : Sorted l) {k : κ} (hn : look l k = none) (c : Int × Bool) (B : Nat) : Says (D.put (Key.lit k) (pd (some B))) (ins l k c) (setb blk k B) := by
  refine ⟨fun x => ?_, fun x => ?_, ?_⟩
  · rw [look_ins hs hn]
    by_cases hx : x = k
    · rw [if_pos hx, hx, Maps.atKey_put_same hT.isMap (Key.isKey k)]
      simp [setb_same]
    · rw [if_neg hx, Maps.atKey_put_other (fun e => hx (Key.inj _ _ e)), h.at_, setb_other _ _ hx]
  · rw [look_ins hs hn]
    by_cases hx : x = k
    · rw [if_pos hx, hx, Maps.has_put_same hT.isMap (Key.isKey k)]; rfl
    · rw [if_neg hx, Maps.has_put_other (fun e => hx (Key.inj _ _ e)), h.has]
  · have hk := h.has k
    rw [hn] at hk
    rw [Maps.size_put hT, if_neg (by rw [hk]; decide), h.size, ins_len]
theorem says_del {D : DataW Unit} {l : St κ} {blk : κ → Nat} (h : Says D l blk) (hT : Maps.Tidy D) (hs : Sorted l) {k : κ} (hk : hasK l k) : Says (D.del (Key.lit k)) (del l k) blk := by
  refine ⟨fun x => ?_, fun x => ?_, ?_⟩
  · rw [look_del hs]
    by_cases hx : x = k
    · rw [if_pos hx, hx, Maps.atKey_del_same]; rfl
    · rw [if_neg hx, Maps.atKey_del_other (fun e => hx (Key.inj _ _ e)), h.at_]
  · rw [look_del hs]
    by_cases hx : x = k
    · rw [if_pos hx, hx, Maps.has_del_same]; rfl
    · rw [if_neg hx, Maps.has_del_other (fun e => hx (Key.inj _ _ e)), h.has]
  · have h1 := Maps.size_del (k := Key.lit k) hT
    have h2 := h.has k
    rw [hasK_look.1 hk] at h2
    rw [h2, h.size] at h1
    have := del_len hs hk
    simp at h1
    omega

/-- one more key: a new count in block B, the map turned -/
theorem Tbl.insK {w1 w' : World} (h : Tbl K tR w F M top l blk) {k : κ} (hn : look l k = none) (hl : l.length < 64) {B n0 : Nat} (hB : w.heap.size ≤ B) (b1 : Below w.heap.size w w1) (hc : IsCnt w1 B 1 top false) {D : DataW Unit} (hD : w.ownsMap Try.prog K ptrR M l.length D) (hS : Says D l blk) (hT : Maps.Tidy D)
    (hm : w'.ownsMap Try.prog K ptrR M n0 (D.put (Key.lit k) (pd (some B)))) (g : w1.grownBy w' (some M)) : Tbl K tR w' F M top (ins l k (1, false)) (setb blk k B) ∧ Step w w' F M l (ins l k (1, false)) blk (setb blk k B) := by
  have h1 := h.kept b1
  have hMw := hD.lt
  have hS' := says_ins hS hT h.sorted hn (1, false) B
  have hne : ∀ x d, (x, d) ∈ l → x ≠ k := fun x d hx e => look_none hn d (by rw [← e]; exact hx)
  refine ⟨⟨h.top1, h.top2, (g.block _ (h1.ownlt (.inl rfl)) (by simp; exact h.nFM)).trans h1.head, ⟨_, by rw [← hS'.size]; exact exact_n hm, hS'⟩, ins_sorted h.sorted (look_none hn) _, by rw [ins_len]; omega, ?_, ?_⟩, ⟨(Chg.of b1).trans (.grown g (O := fun j => j = M) (fun j e => by cases e; exact .inl rfl)) (fun j e => .inl (.inr (.inl e))), ?_⟩⟩
  · intro x n s hx
    rcases mem_ins.1 hx with e | hm'
    · simp at e
      obtain ⟨rfl, rfl, rfl⟩ := e
      rw [setb_same]
      exact ⟨(g.block _ (lt_of_block hc) (by simp; omega)).trans hc, by omega, h.top1⟩
    · rw [setb_other _ _ (hne x _ hm')]
      obtain ⟨c1, c2⟩ := h1.cnt x n s hm'
      exact ⟨(g.block _ (lt_of_block c1) (by simp; exact (h1.nB hm').1)).trans c1, c2⟩
  · intro x y c c' hx hy e
    rcases mem_ins.1 hx with e1 | hx <;> rcases mem_ins.1 hy with e2 | hy
    · simp at e1 e2; rw [e1.1, e2.1]
    · simp at e1
      rw [e1.1, setb_same, setb_other _ _ (hne y _ hy)] at e
      have := h.ownlt (.inr (.inr ⟨y, _, hy, rfl⟩))
      omega
    · simp at e2
      rw [e2.1, setb_same, setb_other _ _ (hne x _ hx)] at e
      have := h.ownlt (.inr (.inr ⟨x, _, hx, rfl⟩))
      omega
    · rw [setb_other _ _ (hne x _ hx), setb_other _ _ (hne y _ hy)] at e
      exact h.inj x y c c' hx hy e
  · rintro j (rfl | rfl | ⟨x, d, hx, rfl⟩)
    · exact .inl (.inl rfl)
    · exact .inl (.inr (.inl rfl))
    · rcases mem_ins.1 hx with e | hx
      · simp at e; rw [e.1, setb_same]; exact .inr hB
      · rw [setb_other _ _ (hne x _ hx)]; exact .inl (.inr (.inr ⟨x, d, hx, rfl⟩))

/-- a key gone: its count has turned, then the map -/
theorem Tbl.delK {w1 w' : World} (h : Tbl K tR w F M top l blk) {k : κ} {c : Int × Bool} (hk : (k, c) ∈ l) (g1 : w.grownBy w1 (some (blk k))) {D : DataW Unit} {n0 : Nat} (hS : Says D l blk) (hT : Maps.Tidy D)
    (hm : w'.ownsMap Try.prog K ptrR M n0 (D.del (Key.lit k))) (g : w1.grownBy w' (some M)) : Tbl K tR w' F M top (del l k) blk ∧ Step w w' F M l (del l k) blk blk := by
  have hb := h.nB hk
  have hS' := says_del hS hT h.sorted ⟨c, hk⟩
  have hF := h.ownlt (.inl rfl)
  have hsz := g1.size
  have hC : Chg w w' (fun j => j = blk k ∨ j = M) := (Chg.grown g1 (O := fun j => j = blk k ∨ j = M) (fun j e => by cases e; exact .inl (.inl rfl))).trans (.grown g (O := fun j => j = M) (fun j e => by cases e; exact .inl rfl)) (fun j e => .inl (.inr e))
  refine ⟨⟨h.top1, h.top2, (hC.block _ hF (by rintro (e | e); exact hb.2 e.symm; exact h.nFM e)).trans h.head, ⟨_, by rw [← hS'.size]; exact exact_n hm, hS'⟩, del_sorted h.sorted k, ?_, ?_, fun x y d e hx hy => h.inj x y d e (mem_del.1 hx).1 (mem_del.1 hy).1⟩, ⟨⟨hC.os, hC.tape, hC.output, hC.size, fun j hj ho => hC.block j hj (by
    rintro (rfl | rfl)
    · exact ho (.inr (.inr ⟨k, c, hk, rfl⟩))
    · exact ho (.inr (.inl rfl)))⟩, ?_⟩⟩
  · have := del_len h.sorted ⟨c, hk⟩
    have := h.len
    omega
  · intro x n s hx
    obtain ⟨hx1, hx2⟩ := mem_del.1 hx
    obtain ⟨c1, c2⟩ := h.cnt x n s hx1
    exact ⟨(hC.block _ (lt_of_block c1) (by
      rintro (e | e)
      · exact hx2 (h.inj x k _ _ hx1 hk e)
      · exact (h.nB hx1).1 e)).trans c1, c2⟩
  · rintro j (rfl | rfl | ⟨x, d, hx, rfl⟩)
    · exact .inl (.inl rfl)
    · exact .inl (.inr (.inl rfl))
    · exact .inl (.inr (.inr ⟨x, d, (mem_del.1 hx).1, rfl⟩))
end Go.Proofs.Ytkpenhichgkdkaa
