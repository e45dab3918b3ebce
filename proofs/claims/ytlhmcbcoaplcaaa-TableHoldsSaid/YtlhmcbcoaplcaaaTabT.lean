/- Table: Rows, New. -/
import Derived.Test.YtlhmcbcoaplcaaaTabS
import Derived.Lib.SliceRun
set_option linter.unusedVariables false
set_option linter.unusedSimpArgs false
namespace Go.Proofs.Ytlhmcbcoaplcaaa
open Go.ChangeShapes Go.WideShapes Go.ChangeAt Go.RowKit

/-- A slice of rows that nobody else knows. -/
def Fresh (w : World) (n : Nat) (xs : List Value) (e : Ending) (w' : World) : Prop :=
  ∃ ao cap, e = .returned (.slice ao n cap) ∧ Own w' 70 5 (.slice ao n cap) n xs ∧ Off [] w w' ∧ ∀ x ∈ blk (.slice ao n cap), w.heap.size ≤ x

set_option maxRecDepth 100000 in
set_option maxHeartbeats 2000000 in
theorem clone57 (v : Value) (n : Nat) (xs : List Value) (w : World) (h : Own w 70 5 v n xs) (h1 : ∀ u ∈ xs, u.oneCell' = true) (hn : n < 1000000) : Calls Try.prog 57 #[v] w (Fresh w n xs) := by
  obtain ⟨hl, ⟨rfl, rfl⟩ | ⟨g, off, cap, cur, rfl, hr⟩⟩ := h
  · have hx : xs = [] := List.eq_nil_of_length_eq_zero (by simpa using hl)
    subst hx
    have H : Hid (Fresh w 0 [] (.returned (.slice none 0 0)) w) := ⟨none, 0, rfl, Own.nil w 70 5, Off.refl _ _, by simp [blk]⟩
    clear h1 hn hl
    have R : ∀ W, (binOp .eql 23 (.slice none 0 0) (.slice none 0 0)).run Try.prog W = .ok (.bool true) W := fun W => Lib.run_eql_slice_nil (P := Try.prog) W 23 70 none 0 0 0 0 Try.underlying23
    go_enter Try.func57, Try.ntmps57
    go_wp2
    go_ret
    exact H.out
  · have h : Own w 70 5 (.slice (some ⟨g, off, none⟩) n cap) n xs := ⟨hl, .inr ⟨g, off, cap, cur, rfl, hr⟩⟩
    have HS := Lib.hid ((h.alloc (.cells #[] 70)).src (t := 23) Try.underlying23 h1)
    have HO := Lib.hid (Own.new w 70 5 #[] 0 (by decide) rfl)
    have HB : Hid ((0 + n) * 40 ≤ 140737488355328) := by show (0 + n) * 40 ≤ 140737488355328; omega
    have HP : Hid (∀ ao cap' w', Own w' 70 5 (.slice ao n cap') n xs → Off (blk (.slice (some ⟨w.heap.size, 0, none⟩) 0 0)) (w.alloc (.cells #[] 70)) w' → (blk (.slice ao n cap') = blk (.slice (some ⟨w.heap.size, 0, none⟩) 0 0) ∨ blk (.slice ao n cap') = [w.heap.size + 1]) →
        Fresh w n xs (.returned (.slice ao n cap')) w') := by
      intro ao cap' w' k1 k2 k3
      refine ⟨ao, cap', rfl, k1, ((Off.refl [] w).alloc _).trans k2 (fun x hx => .inr (by simp [blk] at hx; omega)), fun x hx => ?_⟩
      rcases k3 with q | q <;> rw [q] at hx <;> simp [blk] at hx <;> omega
    clear h h1 hr hl hn
    have R : ∀ W, (binOp .eql 23 (.slice (some ⟨g, off, none⟩) n cap) (.slice none 0 0)).run Try.prog W = .ok (.bool false) W := fun W => Lib.run_eql_slice_nil (P := Try.prog) W 23 70 (some ⟨g, off, none⟩) n cap 0 0 Try.underlying23
    go_enter Try.func57, Try.ntmps57
    go_wp2_with (at_builtin; refine wp_app rfl _ _ 23 23 rfl rfl HO.out Try.underlying23 iinfo70 rfl (by decide) rfl HS.out HB.out ?_)
    intro ao cap' w' k1 k2 k3
    have H := Lib.hid (HP.out ao cap' w' k1 k2 k3)
    clear k1 k2 k3 HP HO HS HB
    go_wp2_with fail
    go_ret
    exact H.out

set_option maxRecDepth 100000 in
set_option maxHeartbeats 2000000 in
theorem rows35 {w : World} {tb : Nat} {fp : List Nat} {most : Nat} {L : List Rw} (h : TabP w tb fp most L) :
    Calls Try.prog 35 #[.pointer (some ⟨tb, 0, none⟩)] w (Fresh w L.length (rows L)) := by
  obtain ⟨k1, v1, k2, v2, I, h1, h2, rfl⟩ := h
  obtain ⟨hc, hc2⟩ := h1.o1.cells
  have hl := h2.len; have hm := h2.small
  have HC := Lib.hid (clone57 v1 L.length (rows L) w h1.o1.vals (rows_one L) (by omega))
  generalize L.length = N at *
  clear h1 h2 hl hm
  go_enter Try.func35, Try.ntmps35
  go_wp2_with (go_at_call 57; refine HC.out.mono ?_; rintro e w1 ⟨ao, cap, rfl, q1, q2, q3⟩; have H : Hid (Fresh w N (rows L) (.returned (.slice ao N cap)) w1) := ⟨ao, cap, rfl, q1, q2, q3⟩; clear q1 q2 q3)
  go_ret
  exact H.out

set_option maxHeartbeats 1000000 in
theorem new30_bad (m : Int) (w : World) (h : m < 1 ∨ 8 < m) : Calls Try.prog 30 #[.int .i64 m] w fun e w' => e = .returned (.tuple #[.pointer none, .int .i64 161]) ∧ w = w' := by
  rcases h with h | h
  · go_enter Try.func30, Try.ntmps30
    go_wp2
    go_ret2
    exact ⟨rfl, rfl⟩
  · go_enter Try.func30, Try.ntmps30
    go_wp2
    all_goals (go_ret2; exact ⟨rfl, rfl⟩)
set_option maxHeartbeats 1000000 in
theorem new30_ok (m : Nat) (w : World) (h1 : 1 ≤ m) (h2 : m ≤ 8) : Calls Try.prog 30 #[.int .i64 m] w fun e w' => e = .returned (.tuple #[.pointer (some ⟨w.heap.size, 0, none⟩), .int .i64 0]) ∧ TabP w' w.heap.size [w.heap.size] m [] ∧ Off [] w w' := by
  have HP : Hid (TabP (w.alloc (.cells #[.int .i64 m, .slice none 0 0, .slice none 0 0, .slice none 0 0, .slice none 0 0] 102)) w.heap.size [w.heap.size] m [] ∧ Off [] w (w.alloc (.cells #[.int .i64 m, .slice none 0 0, .slice none 0 0, .slice none 0 0, .slice none 0 0] 102))) := by
    refine ⟨⟨.slice none 0 0, .slice none 0 0, .slice none 0 0, .slice none 0 0, [], ⟨⟨IsC.new _ _ _, rfl, rfl, Own.nil _ _ _, Own.nil _ _ _, by simp [blk], by simp [blk], by simp [blk]⟩, ⟨IsC.new _ _ _, rfl, rfl, Own.nil _ _ _, Own.nil _ _ _, by simp [blk], by simp [blk], by simp [blk]⟩, by simp [blk]⟩, ⟨h2, by simp, by simp, by simp, by simp, by simp⟩, by simp [blk]⟩, (Off.refl _ _).alloc _⟩
  have hi1 : (1 : Int) ≤ (m : Int) := by omega
  have hi2 : (m : Int) ≤ 8 := by omega
  generalize (m : Int) = mi at *
  clear h1 h2
  go_enter Try.func30, Try.ntmps30
  go_wp2
  all_goals first | (go_ret2; exact ⟨rfl, HP.out⟩) | omega
end Go.Proofs.Ytlhmcbcoaplcaaa
