/- The document's Hold on its list of keys. -/
import Derived.Test.YtkpenhichgkdkaaKd
import Derived.Lib.SmallJoins
namespace Go.Proofs.Ytkpenhichgkdkaa
open Go.RowKit
set_option linter.unusedVariables false
set_option linter.unusedSectionVars false

theorem wpList_append_rows {P : Program} {w : World} {ops : Array Oper} {rest : List Oper} {o : Oper} {a : Act} {Q : Exit → Act → World → Prop} (hgd : o.guard = none) (s x : Operand) (t : TypeId)
    (ho : o.op = .call { callee := .builtin .append, args := #[s, x], argTypes := #[t, t] })
    (base : Nat) (e : TypeId) (i : TypeInfo) (z : Value) (size bytes : Nat) (ht : P.underlying t = some (.slice e)) (hi : P.info? e = some i) (hz : i.zero = some z)
    (hsize : i.size = size) (hby : i.bytes = bytes) (hzs : z.cells.size = size) (hsz : 0 < size)
    (v : Value) (n : Nat) (xs : List Value) (hs : a.eval s = v) (hown : w.ownsRow base e size v n xs)
    (sv : Value) (base2 m : Nat) (ys : List Value) (hx : a.eval x = sv) (hsrc : w.ownsRow base2 e size sv m ys) (h1 : ∀ u ∈ ys, u.oneCell' = true)
    (h63 : n + m ≤ maxLen) (hbytes : (n + m) * bytes ≤ 140737488355328) (hbase : base ≤ w.heap.size)
    (h : ∀ v' w', w'.ownsRow base e size v' (n + m) (xs ++ ys) → w.grownBy w' v.ownBlock → (v'.ownBlock = v.ownBlock ∨ v'.ownBlock = some w.heap.size) → wpList P ops Q rest (a.put o.dst v') w') :
    wpList P ops Q (o :: rest) a w := by
  have hl := hsrc.1
  rcases hsrc.2 with ⟨rfl, h0⟩ | ⟨g, cap, cur, rfl, hb, hg, hn, hm, hss, htk⟩
  · subst h0
    have hy : ys = [] := List.eq_nil_of_length_eq_zero (by simpa using hl)
    subst hy
    refine wpList_append_own_none hgd s x t ho base e i size ht hi v n xs hs hown hx ?_
    exact h v w (by simpa using hown) (World.grownBy.refl w _) (.inl rfl)
  · refine Go.wpList_append_own_at w hgd s x t ho base e i z size bytes ht hi hz hsize hby hzs hsz v n xs hs hown ⟨g, 0, none⟩ m cap ys hx hl ?_ h1 h63 hbytes hbase (fun v' w' a1 a2 _ a3 => h v' w' a1 a2 a3)
    intro j u hu
    rw [← htk] at hu
    have hj : j < m * size := by
      have := (List.getElem?_eq_some_iff.1 hu).1
      rw [List.length_take] at this
      omega
    rw [List.getElem?_take_of_lt hj] at hu
    have ha : (⟨g, 0, none⟩ : Addr).add j = ⟨g, j, none⟩ := by unfold Addr.add; split <;> simp_all
    rw [ha]
    simp only [World.cell?, hg]
    simpa using hu

theorem updt_other {l : SI} {k : Int} {c : Int × Bool} (h : ∀ e ∈ l, e.1 ≠ k) : updt l k c = l := by
  unfold updt
  conv => rhs; rw [← List.map_id l]
  exact List.map_congr_left fun e he => if_neg (h e he)
theorem updt_set {l : SI} {k : Int} {u c : Int × Bool} {i : Nat} (hd : Sorted l) (h : l[i]? = some (k, u)) : updt l k c = l.set i (k, c) := by
  induction l generalizing i with
  | nil => simp at h
  | cons e l ih =>
    have hp := List.pairwise_cons.1 hd
    show (if e.1 = k then (k, c) else e) :: updt l k c = _
    cases i with
    | zero =>
      simp at h
      subst h
      rw [if_pos rfl, updt_other (fun x hx e => Key.irr k (by have := hp.1 x hx; rw [e] at this; exact this))]
      rfl
    | succ i =>
      simp at h
      have hm := List.mem_of_getElem? h
      rw [if_neg (fun e' => Key.irr k (by have := hp.1 _ hm; rw [e'] at this; exact this)), ih hp.2 h]
      rfl
theorem kc_set (top : Int) {l : SI} {k : Int} {u : Int × Bool} (c : Int × Bool) {i : Nat} (h : l[i]? = some (k, u)) : kc top (l.set i (k, c)) = (((kc top l).set (i * 4 + 1) (.int .i64 c.1)).set (i * 4 + 1 + 1) (.int .i64 top)).set (i * 4 + 1 + 2) (.bool c.2) := by
  induction l generalizing i with
  | nil => simp at h
  | cons e l ih =>
    cases i with
    | zero => simp at h; subst h; simp [kc]
    | succ i =>
      simp at h
      have := ih h
      simp only [List.set_cons_succ, kc, List.flatMap_cons] at *
      rw [this, show (i + 1) * 4 + 1 = i * 4 + 1 + 4 from by omega, show i * 4 + 1 + 4 + 1 = i * 4 + 1 + 1 + 4 from by omega, show i * 4 + 1 + 4 + 2 = i * 4 + 1 + 2 + 4 from by omega]
      rfl
theorem grownBy_setAt (w : World) (b o : Nat) (v : Value) : w.grownBy (w.setCell ⟨b, o, none⟩ v) (some b) :=
  ⟨rfl, rfl, rfl, by simp [World.setCell], fun k _ hk => Below.heap_setCell _ _ _ k (fun e => hk (by rw [e]))⟩
theorem row_set {w : World} {base te n g cap j : Nat} {xs : List Value} {x : Value} (h : w.ownsRow base te 4 (.slice (some ⟨g, 0, none⟩) n cap) n xs) : (w.setCell ⟨g, j, none⟩ x).ownsRow base te 4 (.slice (some ⟨g, 0, none⟩) n cap) n (xs.set j x) := by
  have hl := h.1
  rcases h.2 with ⟨h', _⟩ | ⟨g', cap', cur, h', hb, hg, hn, hm, hs, ht⟩
  · simp at h'
  · simp only [Value.slice.injEq, Option.some.injEq, Addr.mk.injEq, and_true, true_and] at h'
    obtain ⟨rfl, rfl⟩ := h'
    refine ⟨by simpa using hl, .inr ⟨g, cap, cur.setIfInBounds j x, rfl, hb, _root_.Go.Joins.block_setCell hg x, hn, hm, by simpa using hs, ?_⟩⟩
    rw [← ht]
    simp [List.take_set]
theorem owns0 {w : World} {base te size n : Nat} {v : Value} {xs : List Value} (h : w.ownsRow base te size v n xs) : w.ownsRow 0 te size v n xs :=
  ⟨h.1, h.2.imp id fun ⟨g, cap, cur, h1, _, h2⟩ => ⟨g, cap, cur, h1, Nat.zero_le _, h2⟩⟩
theorem own_some {w : World} {base n : Nat} {v : Value} {xs : List Value} (h : w.ownsRow base 69 4 v n xs) (hn : 0 < n) : ∃ g cap, v = .slice (some ⟨g, 0, none⟩) n cap ∧ base ≤ g ∧ n ≤ cap ∧ (∀ q, w.frozen? ⟨g, q, none⟩ = false) ∧ ∀ q x, xs[q]? = some x → w.cell? ⟨g, q, none⟩ = some x := by
  rcases h.2 with ⟨_, h0⟩ | ⟨g, cap, cur, rfl, hb, hg, hn', hm, hs, ht⟩
  · omega
  · refine ⟨g, cap, rfl, hb, hn', fun q => by simp [World.frozen?, hg], fun q x hx => ?_⟩
    rw [← ht] at hx
    have hq : q < n * 4 := by
      have := (List.getElem?_eq_some_iff.1 hx).1
      rw [List.length_take] at this
      omega
    rw [List.getElem?_take_of_lt hq] at hx
    simpa [World.cell?, hg] using hx

set_option maxRecDepth 100000 in
set_option maxHeartbeats 2000000 in
theorem refHoldFull (l : SI) (top k : Int) (v : Value) (w : World) (h : KL w v top l) (hm : l.length = 64) (hk : look l k = none) :
    Calls Try.prog 28 #[v, .int .i64 k, .int .i64 top] w fun e w' => e = .returned (.tuple #[v, .int .i64 3]) ∧ w = w' := by
  rcases kidx_spec l k with ⟨h1, h2⟩ | ⟨at_, c, _, _, _, h5, _⟩
  · have HF := Lib.hid (refFind l top k v w h (by omega))
    rw [h1] at HF
    rcases h.cells with ⟨rfl, rfl⟩ | ⟨g, cap, rfl, _⟩
    · simp at hm
    rw [hm] at HF ⊢
    clear h h1 h2
    go_enter Try.func28, Try.ntmps28
    go_wp2_with (go_at_call 30; refine HF.out.mono ?_; rintro e w' ⟨rfl, rfl⟩)
    go_ret2
    exact ⟨rfl, rfl⟩
  · rw [hk] at h5; cases h5

set_option maxRecDepth 100000 in
set_option maxHeartbeats 2000000 in
theorem refHoldYes (l : SI) (top k : Int) (n : Int) (s : Bool) (v : Value) (w : World) (h : KL w v top l) (hm : l.length ≤ 64) (hs : Sorted l) (hk : look l k = some (n, s)) (n1 : 1 ≤ n) (n2 : n ≤ top) (t2 : top ≤ 65535) :
    Calls Try.prog 28 #[v, .int .i64 k, .int .i64 top] w fun e w' => ∃ v', e = .returned (.tuple #[v', .int .i64 (getE n top s)]) ∧ KL w' v' top (updt l k (getN n top s, getS n top s)) ∧ Below w.heap.size w w' := by
  obtain ⟨i0, hi, hz0, hz1, hz2⟩ := info_parts info69
  rcases kidx_spec l k with ⟨h1, h2⟩ | ⟨at_, c, h1, h2, h3, h5, _⟩
  · rw [hk] at h2; cases h2
  rw [hk] at h5
  obtain rfl := Option.some.inj h5
  have HF := Lib.hid (refFind l top k v w h hm)
  rw [h2] at HF
  have HG := Lib.hid (refGet n top s w (by omega) n2 t2)
  have HK := Lib.hid h
  rcases h.cells with ⟨rfl, rfl⟩ | ⟨g, cap, rfl, hg, hcap, _, hc⟩
  · simp at h1
  obtain ⟨p0, p1, p2, p3⟩ := hc at_ _ h3
  have H3 := Lib.hid h3
  obtain ⟨L, hL⟩ : ∃ L, L = l.length := ⟨_, rfl⟩
  have HL := Lib.hid hL
  rw [← hL] at hm hcap h1 HF HK ⊢
  have q1 : (0 : Int) ≤ (at_ : Int) := by omega
  have q2 : (at_ : Int) < (L : Int) := by omega
  have dneg : decide ((0 : Int) ≤ (at_ : Int)) = true := decide_eq_true (by omega)
  clear h hc h2 h3 h5 hL hk
  go_enter Try.func28, Try.ntmps28
  go_wp2_with (go_at_call 30; refine HF.out.mono ?_; rintro e w' ⟨rfl, rfl⟩)
  refine HG.out.mono ?_
  rintro e w1 ⟨rfl, b1⟩
  have HB1 := Lib.hid b1
  clear b1 p0 p1 p2 p3 HF HG
  obtain ⟨W2, hW2⟩ : ∃ W2, W2 = (w1.alloc (.cells #[.int .i64 (getN n top s), .int .i64 top, .bool (getS n top s)] 30)).alloc (.cells #[] 69) := ⟨_, rfl⟩
  have hE : W2.ownsRow (w1.heap.size + 1) 69 4 (.slice (some ⟨w1.heap.size + 1, 0, none⟩) 0 0) 0 [] := by
    have e := heap_alloc_new (w1.alloc (.cells #[.int .i64 (getN n top s), .int .i64 top, .bool (getS n top s)] 30)) (.cells #[] 69)
    rw [← hW2, show (w1.alloc (.cells #[.int .i64 (getN n top s), .int .i64 top, .bool (getS n top s)] 30)).heap.size = w1.heap.size + 1 from by simp] at e
    exact ⟨rfl, .inr ⟨_, 0, #[], rfl, Nat.le_refl _, e, Nat.le_refl _, Nat.zero_le _, rfl, rfl⟩⟩
  have hBW : Below w.heap.size w W2 := by rw [hW2]; exact (HB1.out.alloc HB1.out.size _).alloc (Nat.le_trans HB1.out.size (by simp)) _
  have hSrc : W2.ownsRow 0 69 4 (.slice (some ⟨g, 0, none⟩) L cap) L (kc top l) := by
    have h1 := HK.out.below hBW
    unfold KL at h1
    rw [← HL.out] at h1
    exact h1
  have hbox : W2.heap[w1.heap.size]? = some (.cells #[.int .i64 (getN n top s), .int .i64 top, .bool (getS n top s)] 30) := by
    rw [hW2, Below.heap_alloc _ _ _ (by simp), heap_alloc_new]
  have hsz2 : W2.heap.size = w1.heap.size + 2 := by rw [hW2]; simp
  have HBW := Lib.hid hBW
  have HBOX := Lib.hid hbox
  have HSZ := Lib.hid hsz2
  have HW2 := Lib.hid hW2
  rw [hW2] at hE hSrc
  have hb1 : (0 + L) ≤ maxLen := by unfold maxLen; omega
  have hb2 : (0 + L) * 32 ≤ 140737488355328 := by omega
  have hb3 : w1.heap.size + 1 ≤ ((w1.alloc (.cells #[.int .i64 (getN n top s), .int .i64 top, .bool (getS n top s)] 30)).alloc (.cells #[] 69)).heap.size := by simp
  have hLp : 0 < L := by omega
  have HBXF := Lib.hid (show ∀ w3 : World, W2.grownBy w3 (some (w1.heap.size + 1)) → w3.cell? ⟨w1.heap.size, 0, none⟩ = some (.int .i64 (getN n top s)) ∧ w3.cell? ⟨w1.heap.size, 1, none⟩ = some (.int .i64 top) ∧ w3.cell? ⟨w1.heap.size, 2, none⟩ = some (.bool (getS n top s)) from fun w3 g => by
    have e := (g.block w1.heap.size (by omega) (by simp)).trans HBOX.out
    simp [World.cell?, e])
  rw [HW2.out] at HBXF
  have HKC := Lib.hid (kc_get top H3.out)
  clear hW2 hBW hbox hsz2
  go_wp2_with (first
    | (at_builtin; refine wpList_append_rows rfl _ _ 61 rfl (w1.heap.size + 1) 69 i0 (.agg #[.int .i64 0, .int .i64 0, .int .i64 0, .bool false]) 4 32 Try.underlying61 hi hz0 hz1 hz2 rfl (by decide) _ 0 [] rfl hE _ 0 L (kc top l) rfl hSrc (kc_one top l) hb1 hb2 hb3 ?_; intro v' w3 hown' hg3 hat3; rw [Nat.zero_add] at hown'; obtain ⟨g2, cap2, rfl, hbg, hcap2, hfz, hcl⟩ := own_some hown' hLp; obtain ⟨b0, b1, b2⟩ := HBXF.out w3 hg3; have t1 := hcl _ _ HKC.out.2.1; have t2' := hcl _ _ HKC.out.2.2.1; have t3 := hcl _ _ HKC.out.2.2.2; have z1 := hfz (at_ * 4 + 1); have z2 := hfz (at_ * 4 + 1 + 1); have z3 := hfz (at_ * 4 + 1 + 2); have z4 := hfz (at_ * 4 + 2); have z5 := hfz (at_ * 4 + 3); have HOW := Lib.hid hown'; have HG3 := Lib.hid hg3; clear hcl hfz hown' hg3; go_frame)
    | go_in)
  go_ret2
  have hq := HOW.out
  have hlen : L = (updt l k (getN n top s, getS n top s)).length := by rw [updt_len]; exact HL.out
  have hk1 := kc_set top (getN n top s, getS n top s) H3.out
  refine ⟨_, rfl, ?_, ?_⟩
  · unfold KL
    rw [← hlen, updt_set hs H3.out, hk1]
    exact owns0 (row_set (row_set (row_set hq)))
  · have g0 := HG3.out
    rw [← HW2.out] at g0
    have hbg0 : w.heap.size ≤ g2 := by have := HB1.out.size; omega
    have s3 := g0.size
    have s4 := HBW.out.size
    exact (((HBW.out.grown g0 s4 (fun q hq => by cases hq; have := HB1.out.size; show w.heap.size ≤ w1.heap.size + 1; omega)).grown (grownBy_setAt _ _ _ _) (by omega) (fun q hq => by cases hq; exact hbg0)).grown (grownBy_setAt _ _ _ _) (by simp [World.setCell]; omega) (fun q hq => by cases hq; exact hbg0)).grown (grownBy_setAt _ _ _ _) (by simp [World.setCell]; omega) (fun q hq => by cases hq; exact hbg0)
end Go.Proofs.Ytkpenhichgkdkaa
