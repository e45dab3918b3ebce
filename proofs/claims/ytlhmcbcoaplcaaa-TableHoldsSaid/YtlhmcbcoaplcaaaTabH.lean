/- table.ordered: get of ids; what a right row is. -/
import Derived.Test.YtlhmcbcoaplcaaaTabG
set_option linter.unusedVariables false
set_option linter.unusedSimpArgs false
namespace Go.Proofs.Ytlhmcbcoaplcaaa
open Go.ChangeShapes Go.WideShapes Go.ChangeAt Go.RowKit

set_option maxRecDepth 100000 in
set_option maxHeartbeats 2000000 in
theorem get59 (tb o : Nat) (ks l : List Int) (kv vv : Value) (x : Int) (w : World) (hc : w.cell? ⟨tb, o, none⟩ = some kv) (hc2 : w.cell? ⟨tb, o + 1, none⟩ = some vv) (h : Own w 3 1 kv ks.length (zin ks)) (hv : Own w 3 1 vv l.length (zin l)) (hl : ks.length = l.length)
    (hbig : ks.length < 1000000) (hs : ks.Pairwise (· ≤ ·)) :
    Calls Try.prog 59 #[.pointer (some ⟨tb, o, none⟩), .int .i64 x] w fun e w' => e = .returned (.tuple #[.int .i64 ((look ks l x).getD 0), .bool (look ks l x).isSome]) ∧ w = w' := by
  have HF := Lib.hid (find68 tb o ks kv x w hc h (by omega) hs)
  obtain ⟨ao, cap, rfl, hr⟩ := own_zin hv
  cases hk : ks.contains x with
  | false =>
    have e : look ks l x = none := by unfold look; rw [hk]; rfl
    rw [e]
    rw [hk] at HF
    generalize ks.countP (· < x) = c at *
    clear hr hv h hs hbig hl hk e
    go_enter Try.func59, Try.ntmps59
    go_wp2_with (go_at_call 68; refine HF.out.mono ?_; rintro e w' ⟨rfl, rfl⟩)
    go_ret2
    exact ⟨rfl, rfl⟩
  | true =>
    have hcl := count_lt hk
    obtain ⟨r, hr1⟩ : ∃ r, l[ks.countP (· < x)]? = some r := ⟨l[ks.countP (· < x)]'(by omega), List.getElem?_eq_getElem _⟩
    have e : look ks l x = some r := by unfold look; rw [hk, if_pos rfl]; exact hr1
    rw [e]
    rw [hk] at HF
    obtain ⟨g, off, hao, k0⟩ := hr _ r hr1
    obtain rfl := hao
    have hcl2 : ks.countP (· < x) < l.length := by omega
    generalize ks.countP (· < x) = c at *
    generalize l.length = N at *
    have hN : N < 1000000 := by omega
    clear hr hv h hs hbig hl hk e hr1 hcl
    go_enter Try.func59, Try.ntmps59
    go_wp2_with (go_at_call 68; refine HF.out.mono ?_; rintro e w' ⟨rfl, rfl⟩)
    go_ret2
    exact ⟨rfl, rfl⟩

/-- A right row. -/
def rightR (r : Rw) : Bool := decide (1 ≤ r.birth ∧ r.birth ≤ 1152921504606846976 ∧ 1 ≤ r.id ∧ r.id ≤ 64 ∧ (r.state = 1 ∨ r.state = 2) ∧ r.birth ≤ r.last ∧ r.last ≤ 1152921504606846976 ∧ (r.next = 0 ∨ (r.birth < r.next ∧ r.next ≤ r.last)))
theorem rightR_mk (b i s l n : Int) (v : Bool) (h : v = true ↔ (1 ≤ b ∧ b ≤ 1152921504606846976 ∧ 1 ≤ i ∧ i ≤ 64 ∧ (s = 1 ∨ s = 2) ∧ b ≤ l ∧ l ≤ 1152921504606846976 ∧ (n = 0 ∨ (b < n ∧ n ≤ l)))) : v = rightR ⟨b, i, s, l, n⟩ := by
  rw [Bool.eq_iff_iff, h]; simp [rightR]

set_option maxRecDepth 100000 in
set_option maxHeartbeats 4000000 in
theorem right60 (b i s l n : Int) (w : World) : Calls Try.prog 60 #[.agg #[.int .i64 b, .int .i64 i, .int .i64 s, .int .i64 l, .int .i64 n]] w fun e w' => e = .returned (.bool (rightR ⟨b, i, s, l, n⟩)) ∧ Off [] w w' := by
  go_enter Try.func60, Try.ntmps60
  go_wp2
  all_goals
    go_ret
    refine ⟨ret_bool (rightR_mk _ _ _ _ _ _ ?_), (Off.refl _ _).alloc _⟩
    try simp only [beq_iff_eq, beq_eq_false_iff_ne, ne_eq] at *
    first | (simp; omega) | omega
set_option maxRecDepth 100000 in
set_option maxHeartbeats 4000000 in
theorem right65 (b i s l n : Int) (w : World) : Calls Try.prog 65 #[.agg #[.int .i64 b, .int .i64 i, .int .i64 s, .int .i64 l, .int .i64 n]] w fun e w' => e = .returned (.bool (rightR ⟨b, i, s, l, n⟩)) ∧ Off [] w w' := by
  go_enter Try.func65, Try.ntmps65
  go_wp2
  all_goals
    go_ret
    refine ⟨ret_bool (rightR_mk _ _ _ _ _ _ ?_), (Off.refl _ _).alloc _⟩
    try simp only [beq_iff_eq, beq_eq_false_iff_ne, bne_iff_ne, bne_eq_false_iff_eq, ne_eq] at *
    first | (simp; omega) | omega | (trace_state; simp_all; omega)
end Go.Proofs.Ytlhmcbcoaplcaaa
