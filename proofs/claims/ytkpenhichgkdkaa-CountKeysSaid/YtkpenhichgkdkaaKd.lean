/- The document's Drop on its list of keys. -/
import Derived.Test.YtkpenhichgkdkaaKl
namespace Go.Proofs.Ytkpenhichgkdkaa
open Go.RowKit
set_option linter.unusedVariables false
set_option linter.unusedSectionVars false

theorem cells4_new (w : World) (a b c d : Value) (t : TypeId) : ∀ j u, [a, b, c, d][j]? = some u → (w.alloc (.cells #[a, b, c, d] t)).cell? ((⟨w.heap.size, 0, none⟩ : Addr).add j) = some u := by
  intro j u h
  have ha : (⟨w.heap.size, 0, none⟩ : Addr).add j = ⟨w.heap.size, j, none⟩ := by unfold Addr.add; split <;> simp_all
  rw [ha]
  have := heap_alloc_new w (.cells #[a, b, c, d] t)
  simp only [World.cell?, this]
  simpa using h
/-- what stands for an entry behind a drop -/
def dg (k : Int) (last : Bool) (c : Int × Bool) (e : Int × Int × Bool) : SI := if e.1 = k then (if last then [] else [(k, c)]) else [e]
theorem dg_del (l : SI) (k : Int) (c : Int × Bool) : l.flatMap (dg k true c) = del l k := by
  unfold del
  induction l with
  | nil => rfl
  | cons e l ih =>
    rw [List.flatMap_cons, ih]
    by_cases h : e.1 = k
    · simp [dg, h]
    · simp [dg, h]
theorem dg_upd (l : SI) (k : Int) (c : Int × Bool) : l.flatMap (dg k false c) = updt l k c := by
  unfold updt
  induction l with
  | nil => rfl
  | cons e l ih =>
    rw [List.flatMap_cons, ih]
    by_cases h : e.1 = k
    · simp [dg, h]
    · simp [dg, h]
theorem dg_len (l : SI) (k : Int) (last : Bool) (c : Int × Bool) : (l.flatMap (dg k last c)).length ≤ l.length := by
  induction l with
  | nil => simp
  | cons e l ih =>
    rw [List.flatMap_cons, List.length_append, List.length_cons]
    have : (dg k last c e).length ≤ 1 := by unfold dg; split <;> (try split) <;> simp
    omega
theorem dg_take (l : SI) (k : Int) (last : Bool) (c : Int × Bool) {j : Nat} {e : Int × Int × Bool} (h : l[j]? = some e) : (l.take (j + 1)).flatMap (dg k last c) = (l.take j).flatMap (dg k last c) ++ dg k last c e := by
  rw [List.take_add_one, h]
  simp

set_option maxRecDepth 100000 in
set_option maxHeartbeats 1000000 in
theorem refDrop (l : SI) (top k : Int) (v : Value) (w : World) (h : KL w v top l) (hm : l.length ≤ 64) (hs : Sorted l) (ht : top ≤ 65535) (hcn : ∀ k n s, (k, n, s) ∈ l → 1 ≤ n ∧ n ≤ top) :
    Calls Try.prog 29 #[v, .int .i64 k] w fun e w' => ∃ v', e = .returned (.tuple #[v', .bool (dropL l k).2.1, .int .i64 (dropL l k).2.2]) ∧ KL w' v' top (dropL l k).1 ∧ Below w.heap.size w w' := by
  have HK := Lib.hid h
  obtain ⟨i0, hi, hz0, hz1, hz2⟩ := info_parts info69
  rcases kidx_spec l k with ⟨h1, h2⟩ | ⟨at_, ⟨n, s⟩, h1, h2, h3, h5, h4⟩
  · rw [show dropL l k = (l, false, 4) from by unfold dropL; rw [h2]]
    dsimp only
    have HF := Lib.hid (refFind l top k v w h hm)
    rw [h1] at HF
    clear h h1 h2
    go_enter Try.func29, Try.ntmps29
    go_wp2_with (go_at_call 30; refine HF.out.mono ?_; rintro e w' ⟨rfl, rfl⟩)
    go_ret3
    exact ⟨_, rfl, HK.out, Below.refl _ _⟩
  · have hn := hcn k n s (List.mem_of_getElem? h3)
    have HF := Lib.hid (refFind l top k v w h hm)
    rw [h2] at HF
    have HP := Lib.hid (refPut n top s w (by omega) (by omega))
    rcases h.cells with ⟨rfl, rfl⟩ | ⟨g, cap, rfl, hg, hcap, _, hc⟩
    · simp at h1
    have hput0 := hc at_ _ h3
    obtain ⟨p0, p1, p2, p3⟩ := hput0
    have HC := Lib.hid hc
    have HD := Lib.hid (show dropL l k = (if putB n s then del l k else updt l k (putN n s, s), putB n s, putE n) from by unfold dropL; rw [h5])
    have H3 := Lib.hid h3
    have HIx := Lib.hid (show ∀ j e, l[j]? = some e → (e.1 = k ↔ j = at_) from fun j e he => by
      constructor
      · intro e1
        have h6 : look l k = some e.2 := look_of_mem hs (by rw [← e1]; exact List.mem_of_getElem? he)
        rcases Nat.lt_trichotomy j at_ with a | a | a
        · exact absurd e1 (h4 j a e he)
        · exact a
        · have hp := List.pairwise_iff_getElem.1 hs at_ j h1 (List.getElem?_eq_some_iff.1 he).1 a
          rw [(List.getElem?_eq_some_iff.1 h3).2, (List.getElem?_eq_some_iff.1 he).2] at hp
          exact absurd hp (by rw [e1]; exact Key.irr k)
      · rintro rfl
        rw [h3] at he; cases he; rfl)
    obtain ⟨L, hL⟩ : ∃ L, L = l.length := ⟨_, rfl⟩
    have HL := Lib.hid hL
    rw [← hL] at hm hcap h1 HF ⊢
    have q1 : (0 : Int) ≤ (at_ : Int) := by omega
    have q2 : (at_ : Int) < (L : Int) := by omega
    have dneg : decide ((at_ : Int) < 0) = false := decide_eq_false (by omega)
    clear h hc h2 h3 h4 h5 hL
    have hg2 := hg
    go_enter Try.func29, Try.ntmps29
    go_wp2_with (go_at_call 30; refine HF.out.mono ?_; rintro e w' ⟨rfl, rfl⟩)
    refine HP.out.mono ?_
    rintro e w1 ⟨rfl, b1⟩
    have HB1 := Lib.hid b1
    generalize hpb : putB n s = pb at *
    have HPB := Lib.hid hpb
    clear hpb b1 p0 p1 p2 p3 HP HF
    go_wp2_with fail
    obtain ⟨wA, hwA⟩ : ∃ wA, wA = w1.alloc (.cells #[.int .i64 (putN n s), .int .i64 top, .bool s] 30) := ⟨_, rfl⟩
    have hAsz : wA.heap.size = w1.heap.size + 1 := by rw [hwA]; simp
    have hbox := heap_alloc_new w1 (.cells #[.int .i64 (putN n s), .int .i64 top, .bool s] 30)
    rw [← hwA] at hbox ⊢
    have HBX := Lib.hid hbox
    have HAS := Lib.hid hAsz
    have HBA := Lib.hid (show Below w.heap.size w wA from by rw [hwA]; exact HB1.out.alloc HB1.out.size _)
    clear hwA hbox hAsz
    generalize hpn : putN n s = pn at *
    have HPN := Lib.hid hpn
    clear hpn
    go_loopw [11, 12] (fun o i wr => ∃ (j : Nat) (acc : SI), j ≤ L ∧ i = .int .i64 j ∧ acc.length ≤ L ∧ Hid (acc = (l.take j).flatMap (dg k pb (pn, s))) ∧ wr.ownsRow (w1.heap.size + 1) 69 4 o acc.length (kc top acc) ∧ Hid (Below (w1.heap.size + 1) wA wr)) (fun _ i _ => L - (intOf i).toNat)
    case atStart => exact ⟨0, [], by omega, rfl, by simp, Lib.hid rfl, World.ownsRow_nil _ _ _ _, Lib.hid (Below.refl _ _)⟩
    case round =>
      obtain ⟨j, acc, hj, rfl, hal, HAcc, hrow, HW⟩ := hrel
      obtain ⟨wz, rfl⟩ : ∃ wz : World, wz = wr := ⟨_, rfl⟩
      by_cases hlt : j < L
      · obtain ⟨e, he⟩ : ∃ e, l[j]? = some e := ⟨_, List.getElem?_eq_getElem (by have := HL.out; omega)⟩
        have hx := HIx.out j e he
        have hcs := HC.out j e he
        have hgw : g < w1.heap.size + 1 := by have := HB1.out.size; omega
        have hk1 : ∀ q, wz.cell? ⟨g, q, none⟩ = w.cell? ⟨g, q, none⟩ := fun q => (HW.out.cell (p := ⟨g, q, none⟩) hgw).trans (HBA.out.cell (p := ⟨g, q, none⟩) hg2)
        have c0 := (hk1 _).trans hcs.1
        have c1 := (hk1 _).trans hcs.2.1
        have c2 := (hk1 _).trans hcs.2.2.1
        have c3 := (hk1 _).trans hcs.2.2.2
        have hbz : wz.heap[w1.heap.size]? = some (.cells #[.int .i64 pn, .int .i64 top, .bool s] 30) := (HW.out.block _ (by omega)).trans HBX.out
        have b0 : wz.cell? ⟨w1.heap.size, 0, none⟩ = some (.int .i64 pn) := by simp [World.cell?, hbz]
        have b1 : wz.cell? ⟨w1.heap.size, 1, none⟩ = some (.int .i64 top) := by simp [World.cell?, hbz]
        have b2 : wz.cell? ⟨w1.heap.size, 2, none⟩ = some (.bool s) := by simp [World.cell?, hbz]
        have f1 : (0 : Int) ≤ (j : Int) := by omega
        have f2 : (j : Int) < (L : Int) := by omega
        have HT := Lib.hid (show (l.take (j + 1)).flatMap (dg k pb (pn, s)) = acc ++ dg k pb (pn, s) e from by rw [HAcc.out]; exact dg_take l k pb (pn, s) he)
        have hlen2 := dg_len (l.take (j + 1)) k pb (pn, s)
        have HL2 := Lib.hid (show ((l.take (j + 1)).flatMap (dg k pb (pn, s))).length ≤ L from by rw [List.length_take] at hlen2; have := HL.out; omega)
        have hsz := HW.out.size
        have hA2 := HAS.out
        clear hcs hk1 hbz hlen2
        by_cases hat : j = at_
        · have dne : ((j : Int) != (at_ : Int)) = false := by rw [hat]; simp
          have hek : e.1 = k := hx.2 hat
          have HDg := Lib.hid (show dg k pb (pn, s) e = if pb then [] else [(k, (pn, s))] from by unfold dg; rw [if_pos hek])
          clear hx hat hek he
          cases pb with
          | true =>
            go_wp2_with fail
            go_roundw
            case rel => exact ⟨j + 1, acc, by omega, by go_num, hal, Lib.hid (by rw [HT.out, HDg.out]; simp), hrow, HW⟩
            case measure => simp only [intOf]; omega
          | false =>
            go_wp2_with (first
              | (at_builtin; refine wpList_append_own _ rfl _ _ 61 rfl (w1.heap.size + 1) 69 i0 (.agg #[.int .i64 0, .int .i64 0, .int .i64 0, .bool false]) 4 32 Try.underlying61 hi hz0 hz1 hz2 rfl (by decide) _ _ _ rfl (hrow.alloc _) ⟨wz.heap.size, 0, none⟩ 1 1 [.int .i64 k, .int .i64 pn, .int .i64 top, .bool s] rfl rfl (cells4_new _ _ _ _ _ _) (by intro u hu; simp at hu; rcases hu with rfl | rfl | rfl | rfl <;> rfl) (by unfold maxLen; omega) (by omega) (by have := HW.out.size; simp at this ⊢; omega) ?_; intro v' w3 hown' hg3 hnil3; go_frame)
              | go_in)
            go_roundw
            case rel => exact ⟨j + 1, acc ++ [(k, (pn, s))], by omega, by go_num, by have := HL2.out; rw [HT.out, HDg.out] at this; simpa using this, Lib.hid (by rw [HT.out, HDg.out]; simp), by rw [kc_app]; simpa [kc] using hown', Lib.hid ((HW.out.alloc (by omega) _).grown hg3 (by simp; omega) (fun q hq => (hrow.lt q hq).1))⟩
            case measure => simp only [intOf]; omega
        · have dne : ((j : Int) != (at_ : Int)) = true := by simp; omega
          have hek : ¬ e.1 = k := fun h => hat (hx.1 h)
          have HDg := Lib.hid (show dg k pb (pn, s) e = [e] from by unfold dg; rw [if_neg hek])
          clear hx hat hek he
          obtain ⟨e1, e2, e3⟩ := e
          dsimp only at c0 c1 c2 c3
          go_wp2_with (first
            | (at_builtin; refine wpList_append_own _ rfl _ _ 61 rfl (w1.heap.size + 1) 69 i0 (.agg #[.int .i64 0, .int .i64 0, .int .i64 0, .bool false]) 4 32 Try.underlying61 hi hz0 hz1 hz2 rfl (by decide) _ _ _ rfl (hrow.alloc _) ⟨wz.heap.size, 0, none⟩ 1 1 [.int .i64 e1, .int .i64 e2, .int .i64 top, .bool e3] rfl rfl (cells4_new _ _ _ _ _ _) (by intro u hu; simp at hu; rcases hu with rfl | rfl | rfl | rfl <;> rfl) (by unfold maxLen; omega) (by omega) (by have := HW.out.size; simp at this ⊢; omega) ?_; intro v' w3 hown' hg3 hnil3; go_frame)
            | go_in)
          go_roundw
          case rel => exact ⟨j + 1, acc ++ [(e1, e2, e3)], by omega, by go_num, by have := HL2.out; rw [HT.out, HDg.out] at this; simpa using this, Lib.hid (by rw [HT.out, HDg.out]), by rw [kc_app]; simpa [kc] using hown', Lib.hid ((HW.out.alloc (by omega) _).grown hg3 (by simp; omega) (fun q hq => (hrow.lt q hq).1))⟩
          case measure => simp only [intOf]; omega
      · obtain rfl : j = L := by omega
        have HR := Lib.hid hrow
        clear hrow
        go_wp2_with fail
        go_ret3
        have hfin : acc = (dropL l k).1 := by
          rw [HAcc.out, HL.out, List.take_length, HD.out]
          cases pb
          · exact dg_upd _ _ _
          · exact dg_del _ _ _
        refine ⟨_, by rw [HD.out]; rfl, ?_, HBA.out.trans (HW.out.mono (by have := HB1.out.size; omega))⟩
        rw [← hfin]
        exact ⟨HR.out.1, by
          rcases HR.out.2 with h | ⟨g', cap', cur, h1, _, h2⟩
          · exact .inl h
          · exact .inr ⟨g', cap', cur, h1, Nat.zero_le _, h2⟩⟩
end Go.Proofs.Ytkpenhichgkdkaa
