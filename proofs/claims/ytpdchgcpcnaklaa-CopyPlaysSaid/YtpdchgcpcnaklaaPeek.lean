/- A user's memory: Peek, Poke, Touch, each by a contract. -/
import Derived.Test.YtpdchgcpcnaklaaPages
import Derived.WalkSpells
import Derived.Laws.CopyOwn
namespace Go.Proofs.Ytpdchgcpcnaklaa
open Go.RowKit
set_option linter.unusedVariables false

/-- what is handed back is a list of the call's own, of these bytes -/
def OwnBytes (w : World) (v : Value) (w' : World) (xs : List Int) : Prop := w'.ownsRow w.heap.size 5 1 v xs.length (bcells xs) ∧ Below w.heap.size w w'
def ClonePost (w : World) (xs : List Int) (e : Ending) (w' : World) : Prop := ∃ v, e = .returned v ∧ OwnBytes w v w' xs

theorem bytesClone (ad : Addr) (c : Nat) (xs : List Int) (w : World) (m : Nat) (hm : m = xs.length) (hx : ∀ j u, (bcells xs)[j]? = some u → w.cell? (ad.add j) = some u) (hL : m ≤ 256) :
    Calls Try.prog 37 #[.slice (some ad) m c] w (ClonePost w xs) := by
  obtain ⟨i0, hi, hz0, hz1, hz2⟩ := info_parts info5
  have HN := Lib.hid (fun (j : Nat) (u : Value) (h : (bcells xs)[j]? = some u) => (World.grownBy_alloc w (.cells #[] 5) none).cell (hx j u h) (by simp))
  have HO := Lib.hid (World.ownsRow_made (e := 5) (size := 1) (base := w.heap.size) w #[] 0 (Nat.le_refl _) (by unfold maxLen; omega) (by simp))
  have HM := Lib.hid (show (bcells xs).length = m * 1 from by simp [bcells]; omega)
  have HMM := Lib.hid hm
  have H1 := Lib.hid (show ∀ u ∈ bcells xs, u.oneCell' = true from by intro u hu; unfold bcells at hu; obtain ⟨x, _, rfl⟩ := List.mem_map.1 hu; rfl)
  clear hx hm
  have hnil := fun w => Lib.run_eql_slice_nil (P := Try.prog) w 22 5 (some ad) m c 0 0 Try.underlying22
  go_enter Try.func37, Try.ntmps37
  go_wp2_with (at_builtin; refine wpList_append_own _ rfl (.tmp 5) (.tmp 6) 22 rfl w.heap.size 5 i0 (.int .u8 0) 1 1 Try.underlying22 hi hz0 hz1 hz2 rfl (by decide) _ _ _ rfl HO.out ad m c (bcells xs) rfl HM.out HN.out H1.out (by unfold maxLen; omega) (by omega) (by simp) ?_; intro v' w1 hown hgrow _)
  rw [Nat.zero_add, List.nil_append, HMM.out] at hown
  go_ret
  exact ⟨v', rfl, hown, ((Below.refl w.heap.size w).alloc (Nat.le_refl _) _).grown hgrow (by simp) (fun k hk => by have h := Option.some.inj (show some w.heap.size = some k from hk); omega)⟩

/-- the bytes of a piece -/
def sub (bs : List Int) (k m : Nat) : List Int := (bs.drop k).take m
theorem sub_len {bs : List Int} {k m : Nat} (h : k + m ≤ bs.length) : (sub bs k m).length = m := by unfold sub; simp; omega
theorem add_is (b o j : Nat) : (⟨b, o, none⟩ : Addr).add j = ⟨b, o + j, none⟩ := by unfold Addr.add; split <;> simp_all
theorem IsMem.cells {w : World} {M D : Nat} {bs ps : List Int} (h : IsMem w M D bs ps) {k m : Nat} (hk : k + m ≤ bs.length) : ∀ j u, (bcells (sub bs k m))[j]? = some u → w.cell? ((⟨D, k, none⟩ : Addr).add j) = some u := by
  intro j u hu
  have hj : j < m := by have := (List.getElem?_eq_some_iff.1 hu).1; simp [bcells, sub_len hk] at this; exact this
  rw [add_is, h.cd (k + j) (by omega), ← hu]
  simp [bcells, sub, List.getD, List.getElem?_drop, hj, List.getElem?_eq_getElem (show k + j < bs.length by omega)]

theorem memPeekBad (M D : Nat) (bs ps : List Int) (addr n : Int) (w : World) (h : IsMem w M D bs ps) (hL : bs.length ≤ 256) (ho : outB addr n bs.length = true) :
    Calls Try.prog 14 #[.pointer (some ⟨M, 0, none⟩), .int .i64 addr, .int .i64 n] w fun e w' => e = .returned (.tuple #[.slice none 0 0, .int .i64 2]) ∧ w = w' := by
  have HW := Lib.hid (memWithin M D bs ps addr n w h hL)
  rw [show outE addr n bs.length = 2 from by unfold outE; rw [ho]; rfl] at HW
  clear ho
  go_enter Try.func14, Try.ntmps14
  go_wp2_with (go_at_call 36; refine HW.out.mono ?_; rintro e w' ⟨rfl, rfl⟩)
  go_ret2
  exact ⟨rfl, rfl⟩

def PeekPost (w : World) (xs : List Int) (e : Ending) (w' : World) : Prop := ∃ v, e = .returned (.tuple #[v, .int .i64 0]) ∧ OwnBytes w v w' xs

theorem memPeek (M D : Nat) (bs ps : List Int) (k m : Nat) (w : World) (h : IsMem w M D bs ps) (hL : bs.length ≤ 256) (hk : k + m ≤ bs.length) :
    Calls Try.prog 14 #[.pointer (some ⟨M, 0, none⟩), .int .i64 k, .int .i64 m] w (PeekPost w (sub bs k m)) := by
  have HW := Lib.hid (memWithin M D bs ps k m w h hL)
  rw [show outE k m bs.length = 0 from by unfold outE outB; rw [decide_eq_false (by omega)]; simp] at HW
  have c0 := h.c0
  have e1 : ((k + m : Nat) : Int) = (k : Int) + m := by omega
  by_cases hc : k = bs.length
  · obtain rfl : m = 0 := by omega
    subst hc
    have HC := Lib.hid (bytesClone ⟨D, 0, none⟩ 0 [] w 0 rfl (by intro j u hu; simp [bcells] at hu) (by omega))
    have HS := Lib.hid (show sub bs bs.length 0 = [] by simp [sub])
    clear h
    go_enter Try.func14, Try.ntmps14
    go_wp2_with (go_at_call 36; refine HW.out.mono ?_; rintro e w' ⟨rfl, rfl⟩)
    refine HC.out.mono ?_; rintro e w' ⟨v, rfl, hv⟩
    have HV := Lib.hid hv
    clear hv
    go_wp2_with fail
    go_ret2
    exact ⟨v, rfl, by rw [HS.out]; exact HV.out⟩
  · have HC := Lib.hid (bytesClone ⟨D, k, none⟩ (bs.length - k) (sub bs k m) w m (sub_len hk).symm (h.cells hk) (by omega))
    have hlt : k < bs.length := by omega
    clear h
    go_enter Try.func14, Try.ntmps14
    go_wp2_with (go_at_call 36; refine HW.out.mono ?_; rintro e w' ⟨rfl, rfl⟩)
    refine HC.out.mono ?_; rintro e w' ⟨v, rfl, hv⟩
    have HV := Lib.hid hv
    clear hv
    go_wp2_with fail
    go_ret2
    exact ⟨v, rfl, HV.out⟩

/-- the bytes behind a poke -/
def pok (bs : List Int) (k : Nat) (xs : List Int) : List Int := bs.take k ++ (xs ++ bs.drop (k + xs.length))
theorem pok_len {bs xs : List Int} {k : Nat} (h : k + xs.length ≤ bs.length) : (pok bs k xs).length = bs.length := by unfold pok; simp; omega
theorem pok_cells (bs xs : List Int) (k : Nat) : splice (bcells bs) k (bcells xs) = bcells (pok bs k xs) := by
  unfold splice pok bcells; simp [List.map_take, List.map_drop]
theorem Fine.pok {bs ps xs : List Int} {k : Nat} (h : Fine bs ps) (hk : k + xs.length ≤ bs.length) (hx : ∀ x ∈ xs, 0 ≤ x ∧ x ≤ 255) : Fine (pok bs k xs) ps := by
  refine ⟨by rw [pok_len hk]; exact h.len, fun x hm => ?_, h.states⟩
  unfold Ytpdchgcpcnaklaa.pok at hm
  rw [List.mem_append, List.mem_append] at hm
  rcases hm with hm | hm | hm
  · exact h.bytes x (List.mem_of_mem_take hm)
  · exact hx x hm
  · exact h.bytes x (List.mem_of_mem_drop hm)

theorem memPokeBad (M D : Nat) (bs ps : List Int) (addr : Int) (a : Option Addr) (len cap : Nat) (w : World) (h : IsMem w M D bs ps) (hL : bs.length ≤ 256) (ho : outB addr len bs.length = true) :
    Calls Try.prog 13 #[.pointer (some ⟨M, 0, none⟩), .int .i64 addr, .slice a len cap] w fun e w' => e = .returned (.int .i64 2) ∧ w = w' := by
  have HW := Lib.hid (memWithin M D bs ps addr len w h hL)
  rw [show outE addr len bs.length = 2 from by unfold outE; rw [ho]; rfl] at HW
  clear ho
  go_enter Try.func13, Try.ntmps13
  go_wp2_with (go_at_call 36; refine HW.out.mono ?_; rintro e w' ⟨rfl, rfl⟩)
  go_ret
  exact ⟨rfl, rfl⟩

theorem pok_nil (bs : List Int) (k : Nat) : pok bs k [] = bs := by unfold pok; simp
theorem grownBy_setRow (w : World) (g : Nat) (cs : Array Value) : w.grownBy (w.setRow g cs) (some g) :=
  ⟨rfl, rfl, rfl, by simp [World.setRow], fun k _ hr => setRow_other w g k cs (fun e => hr (by rw [e]))⟩

set_option maxHeartbeats 800000 in
theorem memPoke (M D : Nat) (bs ps : List Int) (k : Nat) (a : Option Addr) (cap : Nat) (xs : List Int) (w : World) (m : Nat) (hm : m = xs.length) (h : IsMem w M D bs ps) (hL : bs.length ≤ 256) (hk : k + m ≤ bs.length)
    (hx : 0 < m → ∃ ad, a = some ad ∧ ∀ j u, (bcells xs)[j]? = some u → w.cell? (ad.add j) = some u) :
    Calls Try.prog 13 #[.pointer (some ⟨M, 0, none⟩), .int .i64 k, .slice a m cap] w fun e w' => e = .returned (.int .i64 0) ∧ w.grownBy w' (some D) ∧ IsMem w' M D (pok bs k xs) ps := by
  have HW := Lib.hid (memWithin M D bs ps k m w h hL)
  rw [show outE k m bs.length = 0 from by unfold outE outB; rw [decide_eq_false (by omega)]; simp] at HW
  have c0 := h.c0
  have HE := Lib.hid h
  have HD := Lib.hid h.dat
  have HZ := Lib.hid (show (Try.prog.info? 5).map (·.size) = some 1 from by kernel_rfl)
  by_cases h0 : m = 0
  · subst h0
    obtain rfl : xs = [] := List.eq_nil_of_length_eq_zero hm.symm
    rw [pok_nil]
    clear h hx hm
    by_cases hc : k = bs.length
    · subst hc
      go_enter Try.func13, Try.ntmps13
      go_wp2_with (first
        | (go_at_call 36; refine HW.out.mono ?_; rintro e w' ⟨rfl, rfl⟩)
        | (with_reducible refine wpList_copy_nothing rfl (.tmp 20) (.tmp 21) 22 22 rfl 5 Try.underlying22 HZ.out _ _ _ _ _ _ rfl rfl (by simp) ?_))
      go_ret
      exact ⟨rfl, grownBy_refl _ _, HE.out⟩
    · have hlt : k < bs.length := by omega
      go_enter Try.func13, Try.ntmps13
      go_wp2_with (first
        | (go_at_call 36; refine HW.out.mono ?_; rintro e w' ⟨rfl, rfl⟩)
        | (with_reducible refine wpList_copy_nothing rfl (.tmp 20) (.tmp 21) 22 22 rfl 5 Try.underlying22 HZ.out _ _ _ _ _ _ rfl rfl (by simp) ?_))
      go_ret
      exact ⟨rfl, grownBy_refl _ _, HE.out⟩
  · obtain ⟨ad, rfl, hc⟩ := hx (by omega)
    have hlt : k < bs.length := by omega
    have HC := Lib.hid hc
    have HN := Lib.hid (show (bcells xs).length = Nat.min m (bs.length - k) from by rw [show (bcells xs).length = m from by simp [bcells]; omega]; exact (Nat.min_eq_left (by omega)).symm)
    have HF := Lib.hid (show k + (bcells xs).length ≤ (bcells bs).toArray.size from by simp [bcells]; omega)
    have H1 := Lib.hid (show ∀ u ∈ bcells xs, u.oneCell' = true from by intro u hu; unfold bcells at hu; obtain ⟨x, _, rfl⟩ := List.mem_map.1 hu; rfl)
    have HP := Lib.hid (pok_cells bs xs k)
    have HLP := Lib.hid (pok_len (bs := bs) (xs := xs) (k := k) (by omega))
    clear h hx hm hc
    go_enter Try.func13, Try.ntmps13
    go_wp2_with (first
      | (go_at_call 36; refine HW.out.mono ?_; rintro e w' ⟨rfl, rfl⟩)
      | (with_reducible refine wpList_copy_own rfl (.tmp 20) (.tmp 21) 22 22 rfl 5 Try.underlying22 HZ.out D k (bs.length - k) (bs.length - k) ad m cap rfl rfl (bcells bs).toArray 5 HD.out (bcells xs) HN.out HC.out HF.out H1.out ?_))
    go_ret
    refine ⟨rfl, grownBy_setRow _ _ _, ?_⟩
    refine ⟨?_, ?_, HE.out.plen, HE.out.ne⟩
    · rw [setRow_other w D M _ HE.out.ne, HE.out.mem, HLP.out]
    · rw [setRow_heap w D _ _ _ _ HE.out.dat, ← HP.out]
      rfl
end Go.Proofs.Ytpdchgcpcnaklaa
