/- cmp.Compare over ints, and the order of two events that script.Of hands to the sort. -/
import Derived.Test.YtbabdabdohljcaaStrike
import Derived.Test.YtbabdabdohljcaaStab
namespace Go.Proofs.Ytbabdabdohljcaa
open Go.RowKit
def cmpI (a b : Int) : Int := if a < b then -1 else if b < a then 1 else 0
theorem isnan_any (x : Int) (w : World) : Calls Try.prog 27 #[.int .i64 x] w fun e w' => e = .returned (.bool false) ∧ w = w' := by
  go_enter Try.func27, Try.ntmps27
  go_wp2
  go_ret
  exact ⟨ret_bool (by simp), rfl⟩
theorem compare_any (x y : Int) (w : World) : Calls Try.prog 20 #[.int .i64 x, .int .i64 y] w fun e w' => e = .returned (.int .i64 (cmpI x y)) ∧ w = w' := by
  unfold cmpI
  go_enter Try.func20, Try.ntmps20
  go_wp2_with (go_at_call 27; refine (isnan_any _ _).mono ?_; rintro e w' ⟨rfl, rfl⟩)
  all_goals go_ret
  all_goals exact ⟨by simp_all, rfl⟩
theorem of1_any (a b c d e f a' b' c' d' e' f' : Int) (w : World) :
    Calls Try.prog 19 #[.agg #[.int .i64 a, .int .i64 b, .int .i64 c, .int .i64 d, .int .i64 e, .int .u64 f], .agg #[.int .i64 a', .int .i64 b', .int .i64 c', .int .i64 d', .int .i64 e', .int .u64 f']] w
      fun r w' => r = .returned (.int .i64 (cmpI d d')) ∧ Below w.heap.size w w' := by
  go_enter Try.func19, Try.ntmps19
  go_wp2_with (go_at_call 20; refine (compare_any _ _ _).mono ?_; rintro e w' ⟨rfl, rfl⟩)
  go_ret
  exact ⟨rfl, ((Below.refl _ _).alloc (Nat.le_refl _) _).alloc (by simp) _⟩
end Go.Proofs.Ytbabdabdohljcaa
