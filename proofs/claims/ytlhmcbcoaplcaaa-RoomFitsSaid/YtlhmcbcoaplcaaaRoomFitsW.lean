/- RoomFits: for any four numbers the law returns true: Fits takes one after the other off what is left, without a wrap; nothing that came in changes. -/
import Derived.Test.YtlhmcbcoaplcaaaRoomH
import Derived.Test.YtlhmcbcoaplcaaaOpen
import Derived.Deep.DeepCutAuto
import Derived.Deep.QuietTactic
import Derived.BigQuiet
set_option linter.unusedVariables false
namespace Go.Proofs.Ytlhmcbcoaplcaaa.roomFits
open Go.ChangeShapes Go.WideShapes Go.ChangeAt Go.RowKit

theorem fits_iff (area k used more keep : Int) : rFits area k used more keep = true ↔ 0 ≤ used ∧ 0 ≤ more ∧ 0 ≤ keep ∧ k ≤ area ∧ used ≤ area - k ∧ more ≤ area - k - used ∧ keep ≤ area - k - used - more := by
  unfold rFits; simp; omega
theorem ret_fits {b : Bool} {area k used more keep : Int} (h : b = true ↔ (0 ≤ used ∧ 0 ≤ more ∧ 0 ≤ keep ∧ k ≤ area ∧ used ≤ area - k ∧ more ≤ area - k - used ∧ keep ≤ area - k - used - more)) : Value.bool b = .bool (rFits area k used more keep) := by
  congr 1; rw [Bool.eq_iff_iff, h, fits_iff]
theorem wsub2 {a b : Int} (ha : a ≤ 9223372036854775807) (h0 : 0 ≤ a) (hb : 0 ≤ b) (hb2 : b ≤ 9223372036854775807) : wrap64 (a - b) = a - b := by unfold wrap64; omega

set_option maxRecDepth 100000 in
set_option maxHeartbeats 4000000 in
theorem walk (area used more keep : Int) (wf : InI64 area ∧ InI64 used ∧ InI64 more ∧ InI64 keep) (w : World) : Calls Try.prog 5 #[.agg #[.int .i64 area, .int .i64 used, .int .i64 more, .int .i64 keep]] w fun e w' => e = .returned (.bool true) ∧ Below w.heap.size w w' := by
  have HW := Lib.hid wf
  clear wf
  go_enter Try.func5, Try.ntmps5
  go_wp2_with fail
  go_quiet (fail)
  go_wp2_with fail
  refine (head_any _).mono ?_
  rintro e w1 ⟨rfl, h1⟩
  go_wp2_with fail
  refine (new_s _ _).mono ?_
  rintro e w2 ⟨rb, rfl, s2⟩
  go_upto_region 7 with fail
  go_cut [8] (fun s8 wx => s8 = .bool (rFits area 0 used more keep) ∧ w2 = wx)
  case first =>
    go_wp2_with fail
    all_goals (go_meet; go_tidy; refine ⟨ret_fits ?_, rfl⟩)
    all_goals (have H := HW.out; unfold InI64 at H; (try simp only [decide_eq_true_eq, Bool.false_eq_true, false_iff, wrap64] at *); omega)
  case rest =>
    obtain ⟨rfl, rfl⟩ := hcut
    go_wp2_with fail
    refine (fits_s _ _ _ s2 HW.out.1.2).mono ?_
    rintro e w3 ⟨rfl, rfl⟩
    go_wp2_with fail
    refine (begin_s _ s2 (big_pos _ (by decide))).mono ?_
    rintro e w3 ⟨rfl, s3⟩
    have e1 : rBegin [] used = (0, [(used, [])]) := rfl
    have e2 : tot [(used, [])] = 99 := by simp [tot, ksum]
    replace s3 : RoomS w1 w3 rb area [(used, [])] := s3
    rw [e1]
    clear e1
    go_upto_region 10 with fail
    go_cut [11] (fun s11 wx => s11 = .bool (rFits area 99 used more keep) ∧ w3 = wx)
    case first =>
      go_wp2_with fail
      all_goals (go_meet; go_tidy; refine ⟨ret_fits ?_, rfl⟩)
      all_goals (have H := HW.out; unfold InI64 at H; (try simp only [decide_eq_true_eq, Bool.false_eq_true, false_iff, wrap64] at *); omega)
    case rest =>
      obtain ⟨rfl, rfl⟩ := hcut
      go_wp2_with fail
      refine (fits_s _ _ _ s3 HW.out.1.2).mono ?_
      rintro e w4 ⟨rfl, rfl⟩
      rw [e2]
      clear e2
      go_wp2_with fail
      go_ret
      obtain ⟨fp, g1, g2, g3⟩ := s3
      exact ⟨by simp, ((((Off.refl _ _).alloc _).drewN _).trans h1 (by simp) |>.trans g2 (by simp)).below⟩
end Go.Proofs.Ytlhmcbcoaplcaaa.roomFits
