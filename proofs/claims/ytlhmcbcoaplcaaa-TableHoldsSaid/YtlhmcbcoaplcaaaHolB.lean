/- Two rows compared. -/
import Derived.Test.YtlhmcbcoaplcaaaHolA
set_option linter.unusedVariables false
set_option linter.unusedSimpArgs false
namespace Go.Proofs.Ytlhmcbcoaplcaaa
open Go.ChangeShapes Go.WideShapes Go.ChangeAt Go.RowKit
set_option maxRecDepth 100000 in
set_option maxHeartbeats 4000000 in
theorem run_eql_row (w : World) (b i s l n b' i' s' l' n' : Int) :
    (binOp .eql 70 (.agg #[.int .i64 b, .int .i64 i, .int .i64 s, .int .i64 l, .int .i64 n]) (.agg #[.int .i64 b', .int .i64 i', .int .i64 s', .int .i64 l', .int .i64 n'])).run Try.prog w = .ok (.bool (b == b' && (i == i' && (s == s' && (l == l' && n == n'))))) w := by
  cases h1 : (b == b') <;> cases h2 : (i == i') <;> cases h3 : (s == s') <;> cases h4 : (l == l') <;> cases h5 : (n == n') <;> simp [go_sem, h1, h2, h3, h4, h5, binOp, Op.equal, Op.maxDepth]
theorem run_neq_row {b i s l n b' i' s' l' n' : Int} (h : ¬ ((⟨b, i, s, l, n⟩ : Rw) = ⟨b', i', s', l', n'⟩)) (w : World) :
    (binOp .eql 70 (.agg #[.int .i64 b, .int .i64 i, .int .i64 s, .int .i64 l, .int .i64 n]) (.agg #[.int .i64 b', .int .i64 i', .int .i64 s', .int .i64 l', .int .i64 n'])).run Try.prog w = .ok (.bool false) w := by
  rw [run_eql_row]
  have : (b == b' && (i == i' && (s == s' && (l == l' && n == n')))) = false := by
    rw [Bool.eq_false_iff]
    intro q
    simp only [Bool.and_eq_true, beq_iff_eq] at q
    obtain ⟨rfl, rfl, rfl, rfl, rfl⟩ := q
    exact h rfl
  rw [this]
end Go.Proofs.Ytlhmcbcoaplcaaa
