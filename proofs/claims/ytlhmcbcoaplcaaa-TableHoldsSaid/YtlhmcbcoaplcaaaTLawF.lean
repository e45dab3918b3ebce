/- Pair.step: Rows, and any other kind. -/
import Derived.Test.YtlhmcbcoaplcaaaTLawE
set_option linter.unusedVariables false
set_option linter.unusedSimpArgs false
namespace Go.Proofs.Ytlhmcbcoaplcaaa
open Go.ChangeShapes Go.WideShapes Go.ChangeAt Go.RowKit

/-- Both lists are asked for and compared. -/
def Rows3 (W0 : World) (n : Nat) (N2 : Nat) (args2 : Array Value) (args3 : Value → Value → Array Value) (e : Ending) (w1 : World) : Prop :=
  ∃ ao cap, e = .returned (.slice ao n cap) ∧ Off [] W0 w1 ∧ Calls Try.prog N2 args2 w1 fun e w2 => ∃ ao' cap', e = .returned (.slice ao' n cap') ∧ Off [] W0 w2 ∧
    Calls Try.prog 41 (args3 (.slice ao n cap) (.slice ao' n cap')) w2 fun e w3 => e = .returned (.bool true) ∧ Off [] W0 w3

theorem TabP.births {w : World} {tb : Nat} {fp : List Nat} {most : Nat} {L : List Rw} (h : TabP w tb fp most L) : L.Pairwise (fun a b => a.birth < b.birth) ∧ (∀ r ∈ L, 1 ≤ r.birth) ∧ L.length ≤ 8 ∧ L.length ≤ most := by
  obtain ⟨I, hi⟩ := h.inv
  have := hi.small; have := hi.len
  refine ⟨hi.srt, fun r hr => ?_, by omega, by omega⟩
  have := hi.right r hr
  simp only [rightR, decide_eq_true_eq] at this
  exact this.1

theorem rows3_ab {W0 : World} {pb qb : Nat} {fp fq : List Nat} {most : Nat} {L M : List Rw} (hp : TabP W0 pb fp most L) (hq : DocP W0 qb fq most M) (hperm : L.Perm M) :
    Calls Try.prog 35 #[.pointer (some ⟨pb, 0, none⟩)] W0.drew (Rows3 W0 L.length 56 #[.pointer (some ⟨qb, 0, none⟩)] fun a b => #[a, b]) := by
  obtain ⟨h1, h2, h3, h4⟩ := hp.births
  have he := hperm.length_eq
  refine (rows35 (hp.off (Off.refl [] _).drew (by simp))).mono ?_
  rintro e w1 ⟨ao, cap, rfl, q1, q2, q3⟩
  have o1 : Off [] W0 w1 := (Off.refl _ _).drew.trans q2 (by simp)
  refine ⟨ao, cap, rfl, o1, (rowsD56 (hq.off o1 (by simp)) (by omega) hperm h1 h2).mono ?_⟩
  rintro e w2 ⟨ao', cap', rfl, r1, r2, r3⟩
  refine ⟨ao', cap', rfl, o1.trans r2 (by simp), (same41 _ _ L w2 (q1.off r2 (by simp)) r1 (by omega)).mono ?_⟩
  rintro e w3 ⟨rfl, o3⟩
  exact ⟨rfl, (o1.trans r2 (by simp)).trans o3 (by simp)⟩
theorem rows3_ba {W0 : World} {pb qb : Nat} {fp fq : List Nat} {most : Nat} {L M : List Rw} (hp : TabP W0 pb fp most L) (hq : DocP W0 qb fq most M) (hperm : L.Perm M) :
    Calls Try.prog 56 #[.pointer (some ⟨qb, 0, none⟩)] W0.drew (Rows3 W0 L.length 35 #[.pointer (some ⟨pb, 0, none⟩)] fun a b => #[b, a]) := by
  obtain ⟨h1, h2, h3, h4⟩ := hp.births
  have he := hperm.length_eq
  refine (rowsD56 (hq.off (Off.refl [] _).drew (by simp)) (by omega) hperm h1 h2).mono ?_
  rintro e w1 ⟨ao, cap, rfl, q1, q2, q3⟩
  have o1 : Off [] W0 w1 := (Off.refl _ _).drew.trans q2 (by simp)
  refine ⟨ao, cap, rfl, o1, (rows35 (hp.off o1 (by simp))).mono ?_⟩
  rintro e w2 ⟨ao', cap', rfl, r1, r2, r3⟩
  refine ⟨ao', cap', rfl, o1.trans r2 (by simp), (same41 _ _ L w2 r1 (q1.off r2 (by simp)) (by omega)).mono ?_⟩
  rintro e w3 ⟨rfl, o3⟩
  exact ⟨rfl, (o1.trans r2 (by simp)).trans o3 (by simp)⟩

set_option maxRecDepth 100000 in
set_option maxHeartbeats 8000000 in
theorem step33_rows {w : World} {pb qb : Nat} {f : List Nat} {most : Nat} (h : TwoP w pb qb f most) (se : Bool) (r : Rw) (m : Int) :
    Calls Try.prog 33 #[.agg #[.pointer (some ⟨pb, 0, none⟩), .pointer (some ⟨qb, 0, none⟩)], .agg #[.bool se, .int .i64 5, .int .i64 r.birth, .int .i64 r.id, .int .i64 r.state, .int .i64 r.last, .int .i64 r.next, .int .i64 m]] w fun e w' => e = .returned (.bool true) ∧ TwoStep pb qb f most w w' := by
  have HE := Lib.hid (fun w' (ho : Off [] w w') => h.same ho)
  obtain ⟨fp, fq, L, M, hp, hq, hperm, hd, rfl⟩ := h
  obtain ⟨b, i, s, l, n⟩ := r
  simp only
  have HT : Hid (∀ W, Off [] w W → TabP W pb fp most L ∧ DocP W qb fq most M) := fun W ho => ⟨hp.off ho (by simp), hq.off ho (by simp)⟩
  have HPM := Lib.hid hperm
  obtain ⟨v, hv, hfq⟩ := id hq
  obtain ⟨ao, cap, rfl, _⟩ := hv.own.val
  have hlen := hperm.length_eq
  have HK : Hid (∀ W, Off [] ((w.alloc (.cells #[.pointer (some ⟨pb, 0, none⟩), .pointer (some ⟨qb, 0, none⟩)] 68)).alloc (.cells #[.bool se, .int .i64 5, .int .i64 b, .int .i64 i, .int .i64 s, .int .i64 l, .int .i64 n, .int .i64 m] 72)) W →
      W.cell? ⟨w.heap.size, 0, none⟩ = some (.pointer (some ⟨pb, 0, none⟩)) ∧ W.cell? ⟨w.heap.size, 1, none⟩ = some (.pointer (some ⟨qb, 0, none⟩)) ∧ W.cell? ⟨qb, 1, none⟩ = some (.slice ao L.length cap)) := fun W ho => by
    have q1 := ((IsC.new w #[.pointer (some ⟨pb, 0, none⟩), .pointer (some ⟨qb, 0, none⟩)] 68).alloc (.cells #[.bool se, .int .i64 5, .int .i64 b, .int .i64 i, .int .i64 s, .int .i64 l, .int .i64 n, .int .i64 m] 72)).off ho (by simp)
    have q2 := (hv.off ((((Off.refl [] w).alloc _).alloc _).trans ho (by simp)) (by simp)).cells
    exact ⟨by rw [q1.cell]; rfl, by rw [q1.cell]; rfl, by rw [hlen]; exact q2.2⟩
  have HO : Hid (Off [] w ((w.alloc (.cells #[.pointer (some ⟨pb, 0, none⟩), .pointer (some ⟨qb, 0, none⟩)] 68)).alloc (.cells #[.bool se, .int .i64 5, .int .i64 b, .int .i64 i, .int .i64 s, .int .i64 l, .int .i64 n, .int .i64 m] 72))) := ((Off.refl [] w).alloc _).alloc _
  clear hp hq hperm hd hv hfq hlen
  go_enter Try.func33, Try.ntmps33
  go_upto_region 19 with fail
  generalize hW0 : World.alloc (World.alloc w _) _ = W0 at HK HO ⊢
  clear hW0
  have HJ3 := Lib.hid (rows3_ab (HT.out _ HO.out).1 (HT.out _ HO.out).2 HPM.out)
  have HJ4 := Lib.hid (rows3_ba (HT.out _ HO.out).1 (HT.out _ HO.out).2 HPM.out)
  have HCT : Hid (∀ W, Off [] W0 W → Calls Try.prog 36 #[.pointer (some ⟨pb, 0, none⟩)] W fun e w' => e = .returned (.int .i64 L.length) ∧ W = w') := fun W ho => count36 (HT.out _ (HO.out.trans ho (by simp))).1
  have HK0 := Lib.hid (HK.out _ (Off.refl _ _).drew)
  generalize L.length = N at *
  clear HT HPM
  go_region_held3 (fun w' => w'.cell? ⟨w.heap.size, 0, none⟩ = some (.pointer (some ⟨pb, 0, none⟩)) ∧ w'.cell? ⟨w.heap.size, 1, none⟩ = some (.pointer (some ⟨qb, 0, none⟩)) ∧ w'.cell? ⟨qb, 1, none⟩ = some (.slice ao N cap))
    (first | exact HK0.out | exact HK.out _ HOA.out | exact HK.out _ HOB.out | exact HK.out _ HOC.out | fail)
    (first
      | (go_at_call 35; refine HJ3.out.mono ?_; rintro e w1 ⟨ao1, cap1, rfl, o1, h1⟩; have HOA := Lib.hid o1; have HNX := Lib.hid h1; clear o1 h1)
      | (go_at_call 56; refine HNX.out.mono ?_; rintro e w2 ⟨ao2, cap2, rfl, o2, h2⟩; have HOB := Lib.hid o2; have HNY := Lib.hid h2; clear o2 h2)
      | (go_at_call 56; refine HJ4.out.mono ?_; rintro e w1 ⟨ao1, cap1, rfl, o1, h1⟩; have HOA := Lib.hid o1; have HNX := Lib.hid h1; clear o1 h1)
      | (go_at_call 35; refine HNX.out.mono ?_; rintro e w2 ⟨ao2, cap2, rfl, o2, h2⟩; have HOB := Lib.hid o2; have HNY := Lib.hid h2; clear o2 h2)
      | (go_at_call 41; refine HNY.out.mono ?_; rintro e w3 ⟨rfl, o3⟩; have HOC := Lib.hid o3; clear o3)
      | (go_at_call 36; refine (HCT.out _ HOC.out).mono ?_; rintro e w4 ⟨rfl, rfl⟩))
  all_goals
    go_wp2_with fail
    go_ret
    exact ⟨rfl, HE.out _ (HO.out.trans HOC.out (by simp))⟩

set_option maxRecDepth 100000 in
set_option maxHeartbeats 8000000 in
theorem step33_else {w : World} {pb qb : Nat} {f : List Nat} {most : Nat} (h : TwoP w pb qb f most) (se : Bool) (kind : Int) (r : Rw) (m : Int) (k0 : kind ≠ 0) (k1 : kind ≠ 1) (k2 : kind ≠ 2) (k3 : kind ≠ 3) (k4 : kind ≠ 4) (k5 : kind ≠ 5) :
    Calls Try.prog 33 #[.agg #[.pointer (some ⟨pb, 0, none⟩), .pointer (some ⟨qb, 0, none⟩)], .agg #[.bool se, .int .i64 kind, .int .i64 r.birth, .int .i64 r.id, .int .i64 r.state, .int .i64 r.last, .int .i64 r.next, .int .i64 m]] w fun e w' => e = .returned (.bool true) ∧ TwoStep pb qb f most w w' := by
  have HE := Lib.hid (fun w' (ho : Off [] w w') => h.same ho)
  have d0 : (kind == 0) = false := by simpa using k0
  have d1 : (kind == 1) = false := by simpa using k1
  have d2 : (kind == 2) = false := by simpa using k2
  have d3 : (kind == 3) = false := by simpa using k3
  have d4 : (kind == 4) = false := by simpa using k4
  have d5 : (kind == 5) = false := by simpa using k5
  clear k0 k1 k2 k3 k4 k5 h
  go_enter Try.func33, Try.ntmps33
  go_wp2_with fail
  go_ret
  exact ⟨rfl, HE.out _ (((Off.refl _ _).alloc _).alloc _)⟩

theorem step33 {w : World} {pb qb : Nat} {f : List Nat} {most : Nat} (h : TwoP w pb qb f most) (se : Bool) (kind : Int) (r : Rw) (m : Int) :
    Calls Try.prog 33 #[.agg #[.pointer (some ⟨pb, 0, none⟩), .pointer (some ⟨qb, 0, none⟩)], .agg #[.bool se, .int .i64 kind, .int .i64 r.birth, .int .i64 r.id, .int .i64 r.state, .int .i64 r.last, .int .i64 r.next, .int .i64 m]] w fun e w' => e = .returned (.bool true) ∧ TwoStep pb qb f most w w' := by
  by_cases k0 : kind = 0
  · subst k0; exact step33_put h se r m
  by_cases k1 : kind = 1
  · subst k1; exact step33_set h se r m
  by_cases k2 : kind = 2
  · subst k2; exact step33_get h se r m
  by_cases k3 : kind = 3
  · subst k3; exact step33_byId h se r m
  by_cases k4 : kind = 4
  · subst k4; exact step33_drop h se r m
  by_cases k5 : kind = 5
  · subst k5; exact step33_rows h se r m
  exact step33_else h se kind r m k0 k1 k2 k3 k4 k5
end Go.Proofs.Ytlhmcbcoaplcaaa
