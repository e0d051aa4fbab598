/- Buckets: the chapter's example. -/
import Derived.Test.YtkkaogdcodmpcaaRefD
import Derived.Test.YtkkaogdcodmpcaaDeI
import Derived.Test.YtkkaogdcodmpcaaGtI
namespace Go.Proofs.Ytkkaogdcodmpcaa
open Go.RowKit
set_option linter.unusedVariables false

theorem Step.below {w w' : World} {T G nb B : Nat} {ch ch' : Nat → Value} (s : Step w w' T G nb ch ch') (hM : ∀ k, Mine T G nb ch k → B ≤ k) (hB : B ≤ w.heap.size) : Below B w w' ∧ ∀ k, Mine T G nb ch' k → B ≤ k :=
  ⟨s.chg.below hM hB, fun k hk => (s.mine k hk).elim (hM k) (Nat.le_trans hB)⟩
theorem bkt_one (k : Int) : bkt k 1 = 0 := by have := bkt_lt k 1 (Nat.le_refl _); omega
theorem words_two (w : World) (a b : Int) : (w.alloc (.cells #[.int .u64 a, .int .u64 b] 29)).ownsRow w.heap.size 29 1 (.slice (some ⟨w.heap.size, 0, none⟩) 2 2) [a, b].length ([a, b].map (Value.int .u64)) :=
  ⟨rfl, .inr ⟨w.heap.size, 2, _, rfl, Nat.le_refl _, heap_alloc_new w _, Nat.le_refl _, by unfold maxLen; omega, rfl, rfl⟩⟩

set_option maxRecDepth 100000 in
set_option maxHeartbeats 4000000 in
theorem known (w : World) : Calls Try.prog 11 #[] w fun e w' => e = .returned (.bool true) ∧ Below w.heap.size w w' := by
  have hn1 : ¬ has ([] : MI) 5 := fun ⟨v, h⟩ => by simp at h
  have hn2 : ¬ has ([(5, 50)] : MI) 6 := fun ⟨v, h⟩ => by simp at h
  have hn3 : ¬ has (upd1 ([(6, 60), (5, 50)] : MI) 5 51) 7 := fun ⟨v, h⟩ => by simp [upd1] at h
  have hall : allKeys ([(6, 60), (5, 50)] : MI) 1 1 = [6, 5] := by simp [allKeys, chn, bkt_one]
  have hdel : [6, 6].foldl del (upd1 ([(6, 60), (5, 50)] : MI) 5 51) = [(5, 51)] := by decide
  have hlen : (upd1 ([(6, 60), (5, 50)] : MI) 5 51).length = 2 := by decide
  have HN := Lib.hid (Inew 1 2 w (by decide) (by decide) (by decide) (by decide))
  have H1 := Lib.hid hn1
  have H2 := Lib.hid hn2
  have H3 := Lib.hid hn3
  have HA := Lib.hid hall
  have HD := Lib.hid hdel
  have HL := Lib.hid hlen
  clear hn1 hn2 hn3 hall hdel hlen
  go_enter Try.func11, Try.ntmps11
  go_wp2_with fail
  refine HN.out.mono ?_
  rintro e w1 ⟨T, G, ch, rfl, b1, t1, m1⟩
  have B1 := Lib.hid b1
  have T1 := Lib.hid t1
  have M1 := Lib.hid m1
  clear b1 t1 m1
  go_wp2_with fail
  refine (IputNew T G 1 2 5 50 [] ch w1 T1.out H1.out (by decide)).mono ?_
  rintro e w2 ⟨ch2, rfl, t2, s2⟩
  have q2 := s2.below M1.out B1.out.size
  have B2 := Lib.hid (B1.out.trans q2.1)
  have M2 := Lib.hid q2.2
  have T2 := Lib.hid t2
  clear t2 s2 q2
  go_wp2_with fail
  refine (IputNew T G 1 2 6 60 [(5, 50)] ch2 w2 T2.out H2.out (by decide)).mono ?_
  rintro e w3 ⟨ch3, rfl, t3, s3⟩
  have q3 := s3.below M2.out B2.out.size
  have B3 := Lib.hid (B2.out.trans q3.1)
  have M3 := Lib.hid q3.2
  have T3 := Lib.hid t3
  clear t3 s3 q3
  go_wp2_with fail
  refine (Ikeys T G 1 2 [(6, 60), (5, 50)] ch3 w3 T3.out).mono ?_
  rintro e w4 ⟨v4, rfl, hv4, b4⟩
  rw [HA.out] at hv4
  have V4 := Lib.hid hv4
  have B4 := Lib.hid b4
  clear hv4 b4
  go_wp2_with fail
  refine (refSame [6, 5] _ _ _ _ _ (V4.out.alloc _) (words_two w4 6 5) (by decide)).mono ?_
  rintro e w5 ⟨rfl, b5⟩
  have b45 := (B4.out.alloc B4.out.size (.cells #[.int .u64 6, .int .u64 5] 29)).trans (b5.mono (Nat.le_trans B4.out.size (by simp)))
  have B5 := Lib.hid (B3.out.trans (b45.mono B3.out.size))
  have T5 := Lib.hid (T3.out.kept b45)
  clear b5 b45
  go_wp2_with fail
  refine (IputOld T G 1 2 5 50 51 [(6, 60), (5, 50)] ch3 w5 T5.out (by decide)).mono ?_
  rintro e w6 ⟨ch6, rfl, t6, s6⟩
  have q6 := s6.below M3.out B5.out.size
  have B6 := Lib.hid (B5.out.trans q6.1)
  have M6 := Lib.hid q6.2
  have T6 := Lib.hid t6
  clear t6 s6 q6
  go_wp2_with fail
  refine (IputFull T G 1 2 7 70 _ ch6 w6 T6.out H3.out HL.out).mono ?_
  rintro e w7 ⟨ch7, rfl, t7, s7⟩
  have q7 := s7.below M6.out B6.out.size
  have B7 := Lib.hid (B6.out.trans q7.1)
  have M7 := Lib.hid q7.2
  have T7 := Lib.hid t7
  clear t7 s7 q7
  go_wp2_with fail
  refine (Idel T G 1 2 [6, 6] w7.heap.size 0 2 _ ch7 _ (T7.out.kept ((Below.refl _ _).alloc (Nat.le_refl _) _)) ?_ (by decide) (by simp) (fun hk => ?_)).mono ?_
  · intro j x hx
    have h := World.news_of_block (w := w7.alloc (.cells #[.int .u64 6, .int .u64 6] 29)) (heap_alloc_new w7 _) j (.int .u64 x) (by
      match j, hx with
      | 0, hx => simp at hx; subst hx; rfl
      | 1, hx => simp at hx; subst hx; rfl)
    rw [Addr.add_lit] at h
    exact h
  · have := T7.out.ownlt hk
    omega
  rintro e w8 ⟨ch8, rfl, t8, s8⟩
  rw [HD.out, HL.out]
  have q8 := s8.below M7.out (Nat.le_trans B7.out.size (by simp))
  have B8 := Lib.hid ((B7.out.alloc B7.out.size _).trans q8.1)
  clear t8 s8 q8
  go_wp2_with fail
  go_ret
  exact ⟨rfl, B8.out⟩
end Go.Proofs.Ytkkaogdcodmpcaa
