/- The law CopyPlays, walked: joined. -/
import Derived.Test.YtpdchgcpcnaklaaLawL
import Derived.Test.YtpdchgcpcnaklaaLawM
import Derived.Test.YtpdchgcpcnaklaaLawN
namespace Go.Proofs.Ytpdchgcpcnaklaa
open Go.RowKit Go.ChangeShapes Go.WideShapes
set_option linter.unusedVariables false

theorem walk_CopyPlays (p0 addr n : Int) (v1 : Value) (out : Bool) (v5 v6 : Value) (w : World) (q1 : Acts w v1) (q5 : Bytes w v5) (q6 : Tries w v6) :
    Calls Try.prog 11 #[.int .i64 p0, v1, .bool out, .int .i64 addr, .int .i64 n, v5, v6] w fun e w' => e = .returned (.bool true) ∧ Below w.heap.size w w' := by
  obtain ⟨a1, len1, cap1, x1, rfl, _, k1, hx1⟩ := q1
  obtain ⟨a5, l5, c5, xs5, rfl, k5, k5', hl5, hb5, hx5⟩ := q5
  obtain ⟨a6, len6, cap6, x6, rfl, _, k6, hx6⟩ := q6
  have ha := dm_u64 p0
  obtain ⟨p, hp⟩ : ∃ p : Nat, (p : Int) = 1 + IntKind.u64.wrap p0 % 16 := ⟨(1 + IntKind.u64.wrap p0 % 16).toNat, by omega⟩
  have h1 : 1 ≤ p := by omega
  have h2 : p ≤ 16 := by omega
  cases out with
  | true =>
    by_cases hn : 64 < l5
    · exact plays14OutBad p0 addr n a1 len1 cap1 x1 a5 l5 c5 xs5 a6 len6 cap6 x6 w k1 hx1 k5 k5' hl5 hb5 hx5 k6 hx6 p h1 h2 hp hn
    · exact plays14Out p0 addr n a1 len1 cap1 x1 a5 l5 c5 xs5 a6 len6 cap6 x6 w k1 hx1 k5 k5' hl5 hb5 hx5 k6 hx6 p h1 h2 hp (by omega)
  | false =>
    by_cases hn : n < 0 ∨ 64 < n
    · exact plays14InBad p0 addr n a1 len1 cap1 x1 a5 l5 c5 xs5 a6 len6 cap6 x6 w k1 hx1 k5 k5' hl5 hb5 hx5 k6 hx6 p h1 h2 hp hn
    · obtain ⟨m, rfl⟩ := Int.eq_ofNat_of_zero_le (show 0 ≤ n by omega)
      by_cases g5 : l5 ≤ 80
      · exact plays14In1 p0 addr a1 len1 cap1 x1 a5 l5 c5 xs5 a6 len6 cap6 x6 w k1 hx1 k5 k5' hl5 hb5 hx5 k6 hx6 p h1 h2 hp m (by omega) g5
      · exact plays14In2 p0 addr a1 len1 cap1 x1 a5 l5 c5 xs5 a6 len6 cap6 x6 w k1 hx1 k5 k5' hl5 hb5 hx5 k6 hx6 p h1 h2 hp m (by omega) g5
end Go.Proofs.Ytpdchgcpcnaklaa
