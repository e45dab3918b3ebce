/- The document's Table: Set. -/
import Derived.Test.YtlhmcbcoaplcaaaDocC
set_option linter.unusedVariables false
set_option linter.unusedSimpArgs false
namespace Go.Proofs.Ytlhmcbcoaplcaaa
open Go.ChangeShapes Go.WideShapes Go.ChangeAt Go.RowKit

def SetM (M : List Rw) (r : Rw) (M' : List Rw) : Prop :=
  (setCode M r ≠ 0 ∧ M' = M) ∨ (setCode M r = 0 ∧ ∃ (i : Nat) (a : Rw), M[i]? = some a ∧ a.birth = r.birth ∧ M' = M.set i r)
def SetDEnd (tb : Nat) (fp : List Nat) (most : Nat) (M : List Rw) (r : Rw) (w : World) (e : Ending) (w' : World) : Prop :=
  e = .returned (.int .i64 (setCode M r)) ∧ ∃ M', SetM M r M' ∧ DocStep tb fp most M' w w'

theorem rows_setAt (M : List Rw) (i : Nat) (r : Rw) (hi : i < M.length) : rows (M.set i r) = (rows M).take (i * 5) ++ (rcells r ++ (rows M).drop ((i + 1) * 5)) := by
  rw [List.set_eq_take_append_cons_drop, if_pos hi, rows_append, rows_cons, rows_take, rows_drop]

set_option maxRecDepth 100000 in
set_option maxHeartbeats 4000000 in
theorem setD52 {w : World} {tb : Nat} {fp : List Nat} {most : Nat} {M : List Rw} (h : DocP w tb fp most M) (hl : M.length ≤ 8) (r : Rw) :
    Calls Try.prog 52 #[.pointer (some ⟨tb, 0, none⟩), ragg r] w (SetDEnd tb fp most M r w) := by
  have hat := atI_of M r.birth
  obtain ⟨v, hw, rfl⟩ := h
  have HA : Hid (∀ W, Off [] w W → ∀ k, AtI M r.birth k → Calls Try.prog 66 #[.pointer (some ⟨tb, 0, none⟩), .int .i64 r.birth] W fun e w' => e = .returned (.int .i64 k) ∧ W = w') := fun W ho k hk => (hw.off ho (by simp)).at66 (by omega) _ hk
  have HC : Hid (setCode M r = if rightR r = false then 30 else if (getL M r.birth).isSome = false then 160 else if ((getL M r.birth).getD Rw.zero).id ≠ r.id then 160 else 0) := rfl
  have HNO : Hid (setCode M r ≠ 0 → ∀ w', Off [] w w' → SetDEnd tb (tb :: blk v) most M r w (.returned (.int .i64 (setCode M r))) w') := fun hc w' ho => ⟨rfl, M, .inl ⟨hc, rfl⟩, DocP.same ⟨v, hw, rfl⟩ ho⟩
  have HYES : Hid (setCode M r = 0 → ∀ (i : Nat) (a : Rw), M[i]? = some a → a.birth = r.birth → ∀ w', DocStep tb (tb :: blk v) most (M.set i r) w w' → SetDEnd tb (tb :: blk v) most M r w (.returned (.int .i64 0)) w') := fun hc i a h1 h2 w' hs => ⟨by rw [hc], _, .inr ⟨hc, i, a, h1, h2, rfl⟩, hs⟩
  have HW : Hid (∀ W, Off [] w W → DocW W tb most v M) := fun W ho => hw.off ho (by simp)
  have HBF : Hid (∀ x ∈ blk v, x < w.heap.size) := hw.own.lt
  obtain ⟨ao, cap, rfl, _⟩ := hw.own.val
  clear hw
  obtain ⟨b, i, s, l, n⟩ := r
  have HR := Lib.hid (right65 b i s l n)
  generalize setCode M ⟨b, i, s, l, n⟩ = code at *
  generalize rightR ⟨b, i, s, l, n⟩ = rb at *
  simp only at hat HC HA HYES
  rcases hat with ⟨hk, hg⟩ | ⟨ix, a, hk, hix, hab, hg, hlt⟩
  · rw [hg] at HC
    have HA2 := Lib.hid (fun W ho => HA.out W ho _ hk)
    clear hg hk HA HYES
    unfold ragg
    simp only
    go_enter Try.func52, Try.ntmps52
    go_wp2_with fail
    refine (HR.out _).mono ?_
    rintro e w1 ⟨rfl, ho⟩
    have HO1 := Lib.hid (((Off.refl [] w).alloc _).trans ho (by simp))
    have HX1 := Lib.hid ((IsC.new w #[.int .i64 b, .int .i64 i, .int .i64 s, .int .i64 l, .int .i64 n] 70).off ho (by simp))
    clear ho HR
    cases rb with
    | false =>
      obtain rfl : code = 30 := by rw [HC.out]; rfl
      clear HC
      go_wp2_with fail
      go_ret
      exact HNO.out (by decide) _ HO1.out
    | true =>
      obtain rfl : code = 160 := by rw [HC.out]; rfl
      clear HC
      obtain ⟨k0, k1, k2, k3, k4, k5⟩ := IsC.r5 HX1.out
      go_wp2_with (go_at_call 66; refine (HA2.out _ HO1.out).mono ?_; rintro e w' ⟨rfl, rfl⟩)
      go_quiet (fail)
      go_wp2_with fail
      go_ret
      exact HNO.out (by decide) _ (HO1.out.drewN _)
  · rw [hg] at HC
    have HA2 := Lib.hid (fun W ho => HA.out W ho _ hk)
    clear hg hk HA
    obtain ⟨ab, ai, a3, a4, a5⟩ := a
    simp only [Option.isSome_some, Option.getD_some] at HC
    unfold ragg
    simp only
    go_enter Try.func52, Try.ntmps52
    go_wp2_with fail
    refine (HR.out _).mono ?_
    rintro e w1 ⟨rfl, ho⟩
    have HO1 := Lib.hid (((Off.refl [] w).alloc _).trans ho (by simp))
    have HX1 := Lib.hid ((IsC.new w #[.int .i64 b, .int .i64 i, .int .i64 s, .int .i64 l, .int .i64 n] 70).off ho (by simp))
    clear ho HR
    cases rb with
    | false =>
      obtain rfl : code = 30 := by rw [HC.out]; rfl
      clear HC HYES
      go_wp2_with fail
      go_ret
      exact HNO.out (by decide) _ HO1.out
    | true =>
      obtain ⟨k0, k1, k2, k3, k4, k5⟩ := IsC.r5 HX1.out
      have hc1 := ((HW.out _ HO1.out).cells).2
      obtain ⟨ao', cap', e, hr⟩ := own_rows ((HW.out _ HO1.out).own)
      simp only [Value.slice.injEq, true_and] at e
      obtain ⟨rfl, rfl⟩ := e
      obtain ⟨g, off, rfl, g0, g1, g2, g3, g4⟩ := hr ix _ hix
      simp only at g0 g1 g2 g3 g4
      have hneg : ¬ ((ix : Int) < 0) := by omega
      by_cases hi : ai = i
      · subst hi
        obtain rfl : code = 0 := by rw [HC.out, if_neg (by simp), if_neg (by simp), if_neg (by simp)]
        have hfz := ((HW.out _ HO1.out).own).unfrozen
        have HQ : Hid (∀ W, Off [] w W → SetDEnd tb (tb :: blk (.slice (some ⟨g, off, none⟩) M.length cap)) most M ⟨b, ai, s, l, n⟩ w (.returned (.int .i64 0))
            (((((W.setCell ⟨g, off + ix * 5, none⟩ (.int .i64 b)).setCell ⟨g, off + ix * 5 + 1, none⟩ (.int .i64 ai)).setCell ⟨g, off + ix * 5 + 2, none⟩ (.int .i64 s)).setCell ⟨g, off + ix * 5 + 3, none⟩ (.int .i64 l)).setCell ⟨g, off + ix * 5 + 4, none⟩ (.int .i64 n))) := by
          intro W ho
          have hw := HW.out W ho
          have q := own_put5 hw.own ix hlt (.int .i64 b) (.int .i64 ai) (.int .i64 s) (.int .i64 l) (.int .i64 n)
          have hoff : Off (blk (.slice (some ⟨g, off, none⟩) M.length cap)) W _ := (((((Off.refl _ W).setCell (p := ⟨g, off + ix * 5, none⟩) (.inl (by simp [blk])) (.int .i64 b)).setCell (p := ⟨g, off + ix * 5 + 1, none⟩) (.inl (by simp [blk])) (.int .i64 ai)).setCell (p := ⟨g, off + ix * 5 + 2, none⟩) (.inl (by simp [blk])) (.int .i64 s)).setCell (p := ⟨g, off + ix * 5 + 3, none⟩) (.inl (by simp [blk])) (.int .i64 l)).setCell (p := ⟨g, off + ix * 5 + 4, none⟩) (.inl (by simp [blk])) (.int .i64 n)
          have e : [Value.int .i64 b, .int .i64 ai, .int .i64 s, .int .i64 l, .int .i64 n] = rcells ⟨b, ai, s, l, n⟩ := rfl
          rw [e, ← rows_setAt M ix _ hlt] at q
          exact HYES.out rfl ix _ hix hab _ ⟨_, ⟨_, ⟨hw.head.off hoff hw.tv, by rw [List.length_set]; exact q, hw.tv⟩, rfl⟩, (ho.mono (by simp)).trans hoff (fun x hx => .inl (by simp [hx])), fun x hx => .inl hx⟩
        clear HC HYES HNO hr
        generalize hN : M.length = N at *
        have HN := Lib.hid hN
        clear hN
        go_wp2_with (go_at_call 66; refine (HA2.out _ HO1.out).mono ?_; rintro e w' ⟨rfl, rfl⟩)
        go_quiet (fail)
        go_upto_region 6 with fail
        go_region
        generalize hW5 : World.setCell _ _ _ = W5
        have HQ5 : Hid (SetDEnd tb (tb :: blk (.slice (some ⟨g, off, none⟩) N cap)) most M ⟨b, ai, s, l, n⟩ w (.returned (.int .i64 0)) W5) := hW5 ▸ HQ.out _ (HO1.out.drewN _)
        clear hW5 k0 k1 k2 k3 k4 k5 g0 g1 g2 g3 g4 HQ hc1 hfz
        go_wp2_with fail
        go_ret
        exact HQ5.out
      · have hi' : (ai != i) = true := by simpa using hi
        obtain rfl : code = 160 := by rw [HC.out, if_neg (by simp), if_neg (by simp), if_pos hi]
        clear HC HYES hr
        generalize hN : M.length = N at *
        go_wp2_with (go_at_call 66; refine (HA2.out _ HO1.out).mono ?_; rintro e w' ⟨rfl, rfl⟩)
        go_quiet (fail)
        go_wp2_with fail
        go_ret
        exact HNO.out (by decide) _ (HO1.out.drewN _)
end Go.Proofs.Ytlhmcbcoaplcaaa
