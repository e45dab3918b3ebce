/- known. -/
import Derived.Test.YtlhmcbcoaplcaaaTLawA
set_option linter.unusedVariables false
set_option linter.unusedSimpArgs false
namespace Go.Proofs.Ytlhmcbcoaplcaaa
open Go.ChangeShapes Go.WideShapes Go.ChangeAt Go.RowKit

def r5 : Rw := ⟨5, 3, 1, 5, 0⟩
def r6 : Rw := ⟨6, 3, 1, 6, 0⟩

set_option maxRecDepth 100000 in
set_option maxHeartbeats 4000000 in
theorem known32 (w : World) : Calls Try.prog 32 #[] w fun e w' => e = .returned (.bool true) ∧ Off [] w w' := by
  have HN := Lib.hid (new30_ok 2 w (by omega) (by omega))
  go_enter Try.func32, Try.ntmps32
  go_wp2_with (go_at_call 30; refine HN.out.mono ?_; rintro e w1 ⟨rfl, ht1, ho1⟩)
  have hsz1 : w.heap.size < w1.heap.size := ht1.lt _ (by simp)
  have hW1 := ht1.off ((Off.refl [] w1).alloc (.cells #[.int .i64 5, .int .i64 3, .int .i64 1, .int .i64 5, .int .i64 0] 70)) (by simp)
  have HP1 := Lib.hid (put40 hW1 r5)
  have HX1 := Lib.hid (IsC.new w1 #[.int .i64 5, .int .i64 3, .int .i64 1, .int .i64 5, .int .i64 0] 70)
  have HO1 := Lib.hid (And.intro ho1 hsz1)
  clear ht1 ho1 hW1 hsz1 HN
  refine HP1.out.mono ?_
  rintro e w2 ⟨rfl, fp2, ht2, ho2, hn2⟩
  have hx2 := HX1.out.off ho2 (fun hx => by have := HO1.out.2; simp at hx; omega)
  have hg2 : w1.heap.size ∉ fp2 := fun hx => by
    have := HO1.out.2
    rcases hn2 _ hx with q | q
    · simp at q; omega
    · rw [World.size_alloc] at q; omega
  have e2 : putL 2 [] r5 = [r5] := by decide
  have c2 : putCode 2 [] r5 = 0 := by decide
  rw [e2] at ht2
  rw [c2]
  have HO2 : Hid (Off [] w w2 ∧ ∀ x ∈ fp2, w.heap.size ≤ x) := by
    have := HO1.out.1.size
    exact ⟨((HO1.out.1.alloc _).trans ho2 (fun x hx => .inr (by simp at hx; omega))), fun x hx => by rcases hn2 x hx with q | q; simp at q; omega; simp at q; omega⟩
  have HP2 := Lib.hid (put40 ht2 r6)
  have HX2 := Lib.hid (And.intro hx2 hg2)
  clear ht2 ho2 hn2 hx2 hg2 e2 c2 HP1 HX1 HO1
  go_wp2_with fail
  refine HP2.out.mono ?_
  rintro e w3 ⟨rfl, fp3, ht3, ho3, hn3⟩
  have e3 : putL 2 [r5] r6 = [r5] := by decide
  have c3 : putCode 2 [r5] r6 = 160 := by decide
  rw [e3] at ht3
  rw [c3]
  have hx3 := HX2.out.1.off ho3 HX2.out.2
  have HO3 : Hid (Off [] w w3) := HO2.out.1.trans ho3 (fun x hx => .inr (HO2.out.2 x hx))
  have hg3 := get38 ht3 5
  rw [show getL [r5] 5 = some r5 by decide] at hg3
  simp only [Option.getD_some, Option.isSome_some, ragg, r5] at hg3
  have HG3 := Lib.hid hg3
  have HX3 := Lib.hid hx3
  have HT3 := Lib.hid ht3
  clear ht3 ho3 hn3 hx3 e3 c3 HP2 HX2 HO2 hg3
  go_wp2_with fail
  refine HG3.out.mono ?_
  rintro e w4 ⟨rfl, ho4⟩
  have HA : Hid (TabP (w4.alloc (.cells #[.int .i64 5, .int .i64 3, .int .i64 1, .int .i64 5, .int .i64 0] 70)) w.heap.size fp3 2 [r5] ∧ Off [] w (w4.alloc (.cells #[.int .i64 5, .int .i64 3, .int .i64 1, .int .i64 5, .int .i64 0] 70)) ∧
      IsC (w4.alloc (.cells #[.int .i64 5, .int .i64 3, .int .i64 1, .int .i64 5, .int .i64 0] 70)) w1.heap.size #[.int .i64 5, .int .i64 3, .int .i64 1, .int .i64 5, .int .i64 0] 70 ∧
      IsC (w4.alloc (.cells #[.int .i64 5, .int .i64 3, .int .i64 1, .int .i64 5, .int .i64 0] 70)) w4.heap.size #[.int .i64 5, .int .i64 3, .int .i64 1, .int .i64 5, .int .i64 0] 70) :=
    ⟨HT3.out.off (ho4.alloc _) (by simp), (HO3.out.trans ho4 (by simp)).alloc _, IsC.off (S := []) HX3.out (ho4.alloc _) (by simp), IsC.new _ _ _⟩
  have hi4 := byId39 HA.out.1 3
  rw [show idL [r5] 3 = some r5 by decide] at hi4
  simp only [Option.getD_some, Option.isSome_some, ragg, r5] at hi4
  have HI4 := Lib.hid hi4
  clear hi4 ho4 HT3 HO3 HX3 HG3
  go_wp2_with fail
  refine HI4.out.mono ?_
  rintro e w5 ⟨rfl, ho5⟩
  have HB : Hid (TabP (w5.alloc (.cells #[.int .i64 5, .int .i64 3, .int .i64 1, .int .i64 5, .int .i64 0] 70)) w.heap.size fp3 2 [r5] ∧ Off [] w (w5.alloc (.cells #[.int .i64 5, .int .i64 3, .int .i64 1, .int .i64 5, .int .i64 0] 70)) ∧
      IsC (w5.alloc (.cells #[.int .i64 5, .int .i64 3, .int .i64 1, .int .i64 5, .int .i64 0] 70)) w1.heap.size #[.int .i64 5, .int .i64 3, .int .i64 1, .int .i64 5, .int .i64 0] 70 ∧
      IsC (w5.alloc (.cells #[.int .i64 5, .int .i64 3, .int .i64 1, .int .i64 5, .int .i64 0] 70)) w4.heap.size #[.int .i64 5, .int .i64 3, .int .i64 1, .int .i64 5, .int .i64 0] 70 ∧
      IsC (w5.alloc (.cells #[.int .i64 5, .int .i64 3, .int .i64 1, .int .i64 5, .int .i64 0] 70)) w5.heap.size #[.int .i64 5, .int .i64 3, .int .i64 1, .int .i64 5, .int .i64 0] 70) := by
    obtain ⟨q1, q2, q3, q4⟩ := HA.out
    exact ⟨q1.off (ho5.alloc _) (by simp), (q2.trans ho5 (by simp)).alloc _, IsC.off (S := []) q3 (ho5.alloc _) (by simp), IsC.off (S := []) q4 (ho5.alloc _) (by simp), IsC.new _ _ _⟩
  clear ho5 HA HI4
  go_upto_region 9 with fail
  generalize hg8 : w5.heap.size = g8 at *
  generalize hW6 : World.alloc w5 _ = W6 at *
  have HK : Hid (∀ W, Off [] W6 W → W.cell? ⟨w1.heap.size, 0, none⟩ = some (.int .i64 5) ∧ W.cell? ⟨w1.heap.size, 1, none⟩ = some (.int .i64 3) ∧ W.cell? ⟨w1.heap.size, 2, none⟩ = some (.int .i64 1) ∧ W.cell? ⟨w1.heap.size, 3, none⟩ = some (.int .i64 5) ∧ W.cell? ⟨w1.heap.size, 4, none⟩ = some (.int .i64 0) ∧ W.cell? ⟨w4.heap.size, 0, none⟩ = some (.int .i64 5) ∧ W.cell? ⟨w4.heap.size, 1, none⟩ = some (.int .i64 3) ∧ W.cell? ⟨w4.heap.size, 2, none⟩ = some (.int .i64 1) ∧ W.cell? ⟨w4.heap.size, 3, none⟩ = some (.int .i64 5) ∧ W.cell? ⟨w4.heap.size, 4, none⟩ = some (.int .i64 0) ∧ W.cell? ⟨g8, 0, none⟩ = some (.int .i64 5) ∧ W.cell? ⟨g8, 1, none⟩ = some (.int .i64 3) ∧ W.cell? ⟨g8, 2, none⟩ = some (.int .i64 1) ∧ W.cell? ⟨g8, 3, none⟩ = some (.int .i64 5) ∧ W.cell? ⟨g8, 4, none⟩ = some (.int .i64 0)) := fun W ho => by
    obtain ⟨a0, a1, a2, a3, a4, _⟩ := (IsC.off (S := []) HB.out.2.2.1 ho (by simp)).r5
    obtain ⟨b0, b1, b2, b3, b4, _⟩ := (IsC.off (S := []) HB.out.2.2.2.1 ho (by simp)).r5
    obtain ⟨c0, c1, c2, c3, c4, _⟩ := (IsC.off (S := []) HB.out.2.2.2.2 ho (by simp)).r5
    exact ⟨a0, a1, a2, a3, a4, b0, b1, b2, b3, b4, c0, c1, c2, c3, c4⟩
  have HCT := Lib.hid (fun W (ho : Off [] W6 W) => count36 (HB.out.1.off ho (by simp)))
  have H35 := Lib.hid (fun W (ho : Off [] W6 W) => rows35 (HB.out.1.off ho (by simp)))
  have HS : Hid (∀ w7 ao cap, Own w7 70 5 (.slice ao [r5].length cap) [r5].length (rows [r5]) → Off [] W6.drew w7 →
      Calls Try.prog 41 #[.slice ao [r5].length cap, .slice (some ⟨w7.heap.size, 0, none⟩) 1 1] (w7.alloc (.cells #[.int .i64 5, .int .i64 3, .int .i64 1, .int .i64 5, .int .i64 0] 70)) fun e w' => e = .returned (.bool true) ∧ Off [] w w' ∧ Off [] W6 w') := by
    intro w7 ao cap q1 q2
    refine (same41 _ _ [r5] _ (q1.alloc _) (Own.new w7 70 5 _ 1 (by decide) rfl) (by decide)).mono ?_
    rintro e w' ⟨rfl, ho⟩
    exact ⟨rfl, (((HB.out.2.1.drew.trans q2 (by simp)).alloc _).trans ho (by simp)), ((((Off.refl _ _).drew.trans q2 (by simp)).alloc _).trans ho (by simp))⟩
  have HS2 : Hid (∀ w7 ao cap, Own w7 70 5 (.slice ao [r5].length cap) [r5].length (rows [r5]) → Off [] (W6.alloc (.cells #[.int .i64 5, .int .i64 3, .int .i64 1, .int .i64 5, .int .i64 0] 70)).drew w7 →
      Calls Try.prog 41 #[.slice ao [r5].length cap, .slice (some ⟨W6.heap.size, 0, none⟩) 1 1] w7 fun e w' => e = .returned (.bool true) ∧ Off [] w w' ∧ Off [] W6 w') := by
    intro w7 ao cap q1 q2
    refine (same41 _ _ [r5] _ q1 ((Own.new W6 70 5 _ 1 (by decide) rfl).drew.off q2 (by simp)) (by decide)).mono ?_
    rintro e w' ⟨rfl, ho⟩
    exact ⟨rfl, (((HB.out.2.1.alloc _).drew.trans q2 (by simp)).trans ho (by simp)), ((((Off.refl _ _).alloc _).drew.trans q2 (by simp)).trans ho (by simp))⟩
  clear HB hW6 hg8
  simp only [List.length_cons, List.length_nil, Nat.zero_add] at HCT H35 HS HS2
  have HCT1 := Lib.hid (HCT.out _ (Off.refl _ _).drew)
  go_region_held3 (fun w' => w'.cell? ⟨w1.heap.size, 0, none⟩ = some (.int .i64 5) ∧ w'.cell? ⟨w1.heap.size, 1, none⟩ = some (.int .i64 3) ∧ w'.cell? ⟨w1.heap.size, 2, none⟩ = some (.int .i64 1) ∧ w'.cell? ⟨w1.heap.size, 3, none⟩ = some (.int .i64 5) ∧ w'.cell? ⟨w1.heap.size, 4, none⟩ = some (.int .i64 0) ∧ w'.cell? ⟨w4.heap.size, 0, none⟩ = some (.int .i64 5) ∧ w'.cell? ⟨w4.heap.size, 1, none⟩ = some (.int .i64 3) ∧ w'.cell? ⟨w4.heap.size, 2, none⟩ = some (.int .i64 1) ∧ w'.cell? ⟨w4.heap.size, 3, none⟩ = some (.int .i64 5) ∧ w'.cell? ⟨w4.heap.size, 4, none⟩ = some (.int .i64 0) ∧ w'.cell? ⟨g8, 0, none⟩ = some (.int .i64 5) ∧ w'.cell? ⟨g8, 1, none⟩ = some (.int .i64 3) ∧ w'.cell? ⟨g8, 2, none⟩ = some (.int .i64 1) ∧ w'.cell? ⟨g8, 3, none⟩ = some (.int .i64 5) ∧ w'.cell? ⟨g8, 4, none⟩ = some (.int .i64 0))
    (first | exact HK.out _ (Off.refl _ _).drew | exact HK.out _ HO7.out | exact HK.out _ (HO7.out.alloc _).drew | exact HK.out _ (HO7.out.alloc _) | exact HK.out _ ((Off.refl _ _).alloc _).drew | exact HK.out _ HO8.out | fail)
    (first
    | (go_at_call 36; refine HCT1.out.mono ?_; rintro e w' ⟨rfl, rfl⟩)
    | (go_at_call 35; refine (H35.out _ (Off.refl _ _).drew).mono ?_; rintro e w7 ⟨ao, cap, rfl, q1, q2, q3⟩; have HS3 := Lib.hid (HS.out w7 ao cap q1 q2); have HO7 : Hid (Off [] W6 w7) := (Off.refl _ _).drew.trans q2 (by simp); clear q1 q2 q3)
    | (go_at_call 35; refine (H35.out _ ((Off.refl _ _).alloc _).drew).mono ?_; rintro e w7 ⟨ao, cap, rfl, q1, q2, q3⟩; have HS3 := Lib.hid (HS2.out w7 ao cap q1 q2); have HO7 : Hid (Off [] W6 w7) := ((Off.refl _ _).alloc _).drew.trans q2 (by simp); clear q1 q2 q3)
    | (go_at_call 41; refine HS3.out.mono ?_; rintro e w8 ⟨rfl, ho8, ho9⟩; have HO8 := Lib.hid ho9; have HO9 := Lib.hid ho8; clear ho8 ho9))
  all_goals
    go_wp2_with fail
    go_ret
    exact ⟨rfl, HO9.out⟩
end Go.Proofs.Ytlhmcbcoaplcaaa
