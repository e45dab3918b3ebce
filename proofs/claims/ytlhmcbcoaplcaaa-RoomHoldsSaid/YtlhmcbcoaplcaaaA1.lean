/- Frame, the program's and the document's: both are frameV. -/
import Derived.Test.YtlhmcbcoaplcaaaRows
import Derived.Test.YtlhmcbcoaplcaaaLib
namespace Go.Proofs.Ytlhmcbcoaplcaaa
open Go.ChangeShapes Go.WideShapes Go.ChangeAt Go.RowKit

def frameV (kind n m : Int) : Int :=
  if n < 0 ∨ m < 0 ∨ 65535 < n ∨ 65535 < m then 0 else
  if kind = 1 then 34 else if kind = 2 then 38 + 2 * n else if kind = 3 then 46 + n
  else if kind = 4 ∨ kind = 5 ∨ kind = 6 then 33 else if kind = 7 then 35 + 26 * n + 9 * m else 0

set_option maxHeartbeats 1000000 in
theorem frame_ref (kind n m : Int) (w : World) :
    Calls Try.prog 18 #[.int .i64 kind, .int .i64 n, .int .i64 m] w fun e w' => e = .returned (.int .i64 (frameV kind n m)) ∧ w = w' := by
  go_enter Try.func18, Try.ntmps18
  go_wp2
  all_goals (go_ret; go_tidy; refine ⟨ret_int ?_, rfl⟩; unfold frameV)
  all_goals try simp only [beq_iff_eq, beq_eq_false_iff_ne, ne_eq] at *
  all_goals ((repeat' split) <;> omega)

set_option maxHeartbeats 1000000 in
theorem frame_prog (kind n m : Int) (w : World) :
    Calls Try.prog 17 #[.int .i64 kind, .int .i64 n, .int .i64 m] w fun e w' => e = .returned (.int .i64 (frameV kind n m)) ∧ w = w' := by
  go_enter Try.func17, Try.ntmps17
  go_wp2
  all_goals (go_ret; go_tidy; refine ⟨ret_int ?_, rfl⟩; unfold frameV)
  all_goals try simp only [beq_iff_eq, beq_eq_false_iff_ne, ne_eq] at *
  all_goals ((repeat' split) <;> omega)
end Go.Proofs.Ytlhmcbcoaplcaaa
