/- Table: Set. -/
import Derived.Test.YtlhmcbcoaplcaaaTabU
set_option linter.unusedVariables false
set_option linter.unusedSimpArgs false
namespace Go.Proofs.Ytlhmcbcoaplcaaa
open Go.ChangeShapes Go.WideShapes Go.ChangeAt Go.RowKit

def SetEnd (tb : Nat) (fp : List Nat) (most : Nat) (L : List Rw) (r : Rw) (w : World) (e : Ending) (w' : World) : Prop :=
  e = .returned (.int .i64 (setCode L r)) ∧ TabStep tb fp most (setL L r) w w'

set_option maxRecDepth 100000 in
set_option maxHeartbeats 4000000 in
theorem set51 {w : World} {tb : Nat} {fp : List Nat} {most : Nat} {L : List Rw} (h : TabP w tb fp most L) (r : Rw) :
    Calls Try.prog 51 #[.pointer (some ⟨tb, 0, none⟩), ragg r] w (SetEnd tb fp most L r w) := by
  have HG : Hid (∀ W, Off [] w W → Calls Try.prog 58 #[.pointer (some ⟨tb, 1, none⟩), .int .i64 r.birth] W fun e w' => e = .returned (.tuple #[ragg ((getL L r.birth).getD Rw.zero), .bool (getL L r.birth).isSome]) ∧ Off [] W w') := fun W ho => (h.off ho (by simp)).get58 _
  have HPUT : Hid (setCode L r = 0 → ∀ W, Off [] w W → Calls Try.prog 61 #[.pointer (some ⟨tb, 1, none⟩), .int .i64 r.birth, ragg r] W fun e w2 => e = .returned (.tuple #[]) ∧ TabStep tb fp most (setB Rw.birth L r) W w2) := fun hc W ho => (h.off ho (by simp)).put61_set r hc
  have HC : Hid (setCode L r = if rightR r = false then 30 else if (getL L r.birth).isSome = false then 160 else if ((getL L r.birth).getD Rw.zero).id ≠ r.id then 160 else 0) := rfl
  have HNO : Hid (setCode L r ≠ 0 → ∀ w', Off [] w w' → SetEnd tb fp most L r w (.returned (.int .i64 (setCode L r))) w') := fun hc w' ho => ⟨rfl, by unfold setL; rw [if_neg hc]; exact h.same ho⟩
  have HYES : Hid (setCode L r = 0 → ∀ w', TabStep tb fp most (setB Rw.birth L r) w w' → SetEnd tb fp most L r w (.returned (.int .i64 0)) w') := fun hc w' hs => ⟨by rw [hc], by unfold setL; rw [if_pos hc]; exact hs⟩
  clear h
  obtain ⟨b, i, s, l, n⟩ := r
  have HR := Lib.hid (right60 b i s l n)
  generalize setCode L ⟨b, i, s, l, n⟩ = code at *
  generalize rightR ⟨b, i, s, l, n⟩ = rb at *
  obtain ⟨old, hold⟩ : ∃ r, r = (getL L b).getD Rw.zero := ⟨_, rfl⟩
  simp only at HG HC HPUT
  rw [← hold] at HG HC
  clear hold
  generalize (getL L b).isSome = born at *
  obtain ⟨b', i', s', l', n'⟩ := old
  unfold ragg at HG HPUT ⊢
  simp only at HG HPUT HC ⊢
  go_enter Try.func51, Try.ntmps51
  go_upto_region 1 with fail
  go_cut [5, 6] (fun p e wx => GotRow w wx ⟨b, i, s, l, n⟩ ⟨b', i', s', l', n'⟩ born p e)
  case first =>
    have HA := Lib.hid (fun (w1 : World) ho => got_a (w := w) (w1 := w1) ⟨b, i, s, l, n⟩ ⟨b', i', s', l', n'⟩ born ho)
    have HB := Lib.hid (fun (w1 : World) ho => got_b (w := w) (w1 := w1) ⟨b, i, s, l, n⟩ ⟨b', i', s', l', n'⟩ born ho)
    go_region_law (first | (go_simp; go_at_call 58; refine (HG.out _ (((Off.refl [] w).alloc _).drew)).mono ?_; rintro e w1 ⟨rfl, ho⟩; have H := Lib.hid (HB.out w1 ho); clear ho) | (go_simp; go_at_call 58; refine (HG.out _ ((((Off.refl [] w).alloc _).alloc _).drew)).mono ?_; rintro e w1 ⟨rfl, ho⟩; obtain ⟨⟨k0, k1, k2, k3, k4, k5⟩, hh⟩ := HA.out w1 ho; have H := Lib.hid hh; clear ho hh))
    all_goals
      go_wp2_with fail
      go_meet
      exact H.out
  case rest =>
    obtain ⟨g, rfl, rfl, ho, hr, hg⟩ := hcut
    obtain ⟨k0, k1, k2, k3, k4, k5⟩ := IsC.r5 hr
    have HO := Lib.hid ho
    have HR0 := Lib.hid hr
    have HG0 := Lib.hid hg
    clear hr ho HG hg
    go_wp2_with fail
    refine (HR.out _).mono ?_
    rintro e w2 ⟨rfl, ho2⟩
    have HO2 := Lib.hid (HO.out.trans ho2 (by simp))
    have HR2 := Lib.hid (IsC.off (S := []) HR0.out ho2 (by simp))
    have HG2 := Lib.hid (IsC.off (S := []) HG0.out ho2 (by simp))
    clear ho2 k0 k1 k2 k3 k4 k5 HR0 HO HR HG0
    cases rb with
    | false =>
      obtain rfl : code = 30 := by rw [HC.out]; rfl
      clear HC HYES HPUT
      go_wp2_with fail
      go_ret
      exact HNO.out (by decide) _ HO2.out
    | true =>
      cases born with
      | false =>
        obtain rfl : code = 160 := by rw [HC.out]; rfl
        clear HC HYES HPUT
        go_wp2_with fail
        go_ret
        exact HNO.out (by decide) _ HO2.out
      | true =>
        obtain ⟨k0, k1, k2, k3, k4, k5⟩ := IsC.r5 HR2.out
        obtain ⟨g0, g1, g2, g3, g4, g5⟩ := IsC.r5 HG2.out
        by_cases hi : i' = i
        · subst hi
          obtain rfl : code = 0 := by rw [HC.out, if_neg (by simp), if_neg (by simp), if_neg (by simp)]
          have HPUT2 := Lib.hid (HPUT.out rfl)
          have HE : Hid (∀ W w4, Off [] w W → TabStep tb fp most (setB Rw.birth L ⟨b, i', s, l, n⟩) W w4 → SetEnd tb fp most L ⟨b, i', s, l, n⟩ w (.returned (.int .i64 0)) w4) := fun W w4 ho hs => HYES.out rfl _ (TabStep.ends ho hs (Off.refl _ _))
          clear HC HYES HNO HPUT
          go_upto_region 6 with fail
          go_region_law (first | (go_simp; go_at_call 61; refine (HPUT2.out _ (HO2.out.drew)).mono ?_; rintro e w3 ⟨rfl, h3⟩; have H := Lib.hid (HE.out _ _ HO2.out.drew h3); clear h3))
          all_goals
            go_wp2_with fail
            go_ret
            exact H.out
        · have hi' : (i' != i) = true := by simpa using hi
          obtain rfl : code = 160 := by rw [HC.out, if_neg (by simp), if_neg (by simp), if_pos hi]
          clear HC HYES HPUT
          go_wp2_with fail
          go_ret
          exact HNO.out (by decide) _ HO2.out
end Go.Proofs.Ytlhmcbcoaplcaaa
