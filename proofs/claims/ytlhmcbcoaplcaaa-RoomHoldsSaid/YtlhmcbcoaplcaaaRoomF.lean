/- Fits of the program's Room. -/
import Derived.Test.YtlhmcbcoaplcaaaRoomP
import Derived.Handy
namespace Go.Proofs.Ytlhmcbcoaplcaaa
open Go.ChangeShapes Go.WideShapes Go.ChangeAt Go.RowKit

set_option maxHeartbeats 1000000 in
theorem fits_any (rb : Nat) (fp : List Nat) (area used more keep : Int) (L : Txns) (w : World) (h : RoomP w rb fp area L) (ha : area ≤ imax) :
    Calls Try.prog 20 #[.pointer (some ⟨rb, 0, none⟩), .int .i64 used, .int .i64 more, .int .i64 keep] w fun e w' => e = .returned (.bool (rFits area (tot L) used more keep)) ∧ w = w' := by
  obtain ⟨m, es, clk, ks, rfl, ⟨a1, a2, a3, a4, a5, a6, a7, a8⟩⟩ := h
  have hk := tot_nonneg L a8
  have c := a2.reads
  generalize tot L = k at *
  clear a3 a5 a6 a7 a8 a4 a1
  have i0 : ∀ w : World, (Instr.index 89 (.agg #[.int .i64 k, .int .i64 used, .int .i64 more, .int .i64 keep]) (.int .i64 0)).run Try.prog w = .ok (.int .i64 k) w := fun _ => by kernel_rfl
  have i1 : ∀ w : World, (Instr.index 89 (.agg #[.int .i64 k, .int .i64 used, .int .i64 more, .int .i64 keep]) (.int .i64 1)).run Try.prog w = .ok (.int .i64 used) w := fun _ => by kernel_rfl
  have i2 : ∀ w : World, (Instr.index 89 (.agg #[.int .i64 k, .int .i64 used, .int .i64 more, .int .i64 keep]) (.int .i64 2)).run Try.prog w = .ok (.int .i64 more) w := fun _ => by kernel_rfl
  have i3 : ∀ w : World, (Instr.index 89 (.agg #[.int .i64 k, .int .i64 used, .int .i64 more, .int .i64 keep]) (.int .i64 3)).run Try.prog w = .ok (.int .i64 keep) w := fun _ => by kernel_rfl
  go_enter Try.func20, Try.ntmps20
  go_wp2
  all_goals (try (go_rounds 5))
  all_goals (go_ret; go_tidy; refine ⟨ret_bool ?_, rfl⟩; unfold rFits)
  · simp; omega
  · simp; omega
  · rw [wsub (by omega) hk ha] at *; simp; omega
  · rw [wsub (a := area) (by omega) hk ha] at *; rw [wsub (a := area - k) (by omega) (by omega) (by unfold imax at *; omega)] at *; simp; omega
  · rw [wsub (a := area) (by omega) hk ha] at *; rw [wsub (a := area - k) (by omega) (by omega) (by unfold imax at *; omega)] at *; rw [wsub (a := area - k - used) (by omega) (by omega) (by unfold imax at *; omega)] at *; simp; omega
  · rw [wsub (a := area) (by omega) hk ha] at *; rw [wsub (a := area - k) (by omega) (by omega) (by unfold imax at *; omega)] at *; rw [wsub (a := area - k - used) (by omega) (by omega) (by unfold imax at *; omega)] at *; simp; omega
  · simp; omega
  · simp; omega
end Go.Proofs.Ytlhmcbcoaplcaaa
