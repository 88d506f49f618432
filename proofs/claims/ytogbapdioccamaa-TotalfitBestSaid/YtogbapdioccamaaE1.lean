/- Items: checkItem, forced, within. -/
import Derived.Test.YtogbapdioccamaaK
import Derived.Test.YtogbapdioccamaaQ1
namespace Go.Proofs.Ytogbapdioccamaa
open Go.RowKit

def itC (x : It) : List Value := [.int .i64 x.kind, .int .i64 x.width, .int .i64 x.stretch, .int .i64 x.shrink, .int .i64 x.cost, .bool x.flag]
def itV (x : It) : Value := .agg #[.int .i64 x.kind, .int .i64 x.width, .int .i64 x.stretch, .int .i64 x.shrink, .int .i64 x.cost, .bool x.flag]
theorem itC_len (x : It) : (itC x).length = 6 := rfl
theorem itC_one (x : It) : ∀ u ∈ itC x, u.oneCell' = true := by intro u hu; simp [itC] at hu; rcases hu with rfl | rfl | rfl | rfl | rfl | rfl <;> rfl
def err (x : It) : Int := errI 31680 3 15 2 x

theorem within_any (n lo hi : Int) (w : World) :
    Calls Try.prog 40 #[.int .i64 n, .int .i64 lo, .int .i64 hi] w fun e w' => e = .returned (.bool (decide (lo ≤ n ∧ n ≤ hi))) ∧ w = w' := by
  by_cases h1 : lo ≤ n
  · by_cases h2 : n ≤ hi
    · go_enter Try.func40, Try.ntmps40
      go_wp2
      go_ret
      exact ⟨ret_bool (by simp; omega), rfl⟩
    · go_enter Try.func40, Try.ntmps40
      go_wp2
      go_ret
      exact ⟨ret_bool (by simp; omega), rfl⟩
  · go_enter Try.func40, Try.ntmps40
    go_wp2
    go_ret
    exact ⟨ret_bool (by simp; omega), rfl⟩

set_option maxHeartbeats 4000000 in
theorem checkItem_any (x : It) (w : World) :
    Calls Try.prog 37 #[itV x] w fun e w' => e = .returned (.int .i64 (err x)) ∧ Below w.heap.size w w' := by
  obtain ⟨k, wi, y, z, c, fl⟩ := x
  unfold itV
  cases fl
  all_goals
    go_enter Try.func37, Try.ntmps37
    go_wp2
  all_goals go_ret
  all_goals refine ⟨ret_int ?_, by repeat (first | exact Below.refl _ _ | (refine Below.alloc ?_ (by simp) _))⟩
  all_goals (go_light; try simp only [beq_iff_eq, beq_eq_false_iff_ne, bne_iff_ne, bne_eq_false_iff_eq, ne_eq] at *)
  all_goals (unfold err errI; try simp only [Bool.false_eq_true, or_false, or_true, and_true])
  all_goals ((repeat' split) <;> first | omega | (simp_all; done) | (simp_all; omega))

set_option maxHeartbeats 4000000 in
theorem mcheckItem_any (x : It) (w : World) :
    Calls Try.prog 39 #[itV x] w fun e w' => e = .returned (.int .i64 (err x)) ∧ Below w.heap.size w w' := by
  obtain ⟨k, wi, y, z, c, fl⟩ := x
  unfold itV
  cases fl
  all_goals
    go_enter Try.func39, Try.ntmps39
    go_wp2
  all_goals go_ret
  all_goals refine ⟨ret_int ?_, by repeat (first | exact Below.refl _ _ | (refine Below.alloc ?_ (by simp) _))⟩
  all_goals (go_light; try simp only [bne_iff_ne, ne_eq] at *)
  all_goals (unfold err errI; try simp only [Bool.false_eq_true, or_false, or_true, and_true])
  all_goals ((repeat' split) <;> first | omega | (simp_all; done) | (simp_all; omega))
end Go.Proofs.Ytogbapdioccamaa
