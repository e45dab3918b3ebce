/- Table: Drop, Rows, New. -/
import Derived.Test.YtlhmcbcoaplcaaaTabR
set_option linter.unusedVariables false
set_option linter.unusedSimpArgs false
namespace Go.Proofs.Ytlhmcbcoaplcaaa
open Go.ChangeShapes Go.WideShapes Go.ChangeAt Go.RowKit

theorem TabStep.offs {tb : Nat} {fp : List Nat} {most : Nat} {L : List Rw} {w w' : World} (h : TabStep tb fp most L w w') : Off fp w w' := by
  obtain ⟨_, _, h, _⟩ := h; exact h
theorem TabStep.ends {tb : Nat} {fp : List Nat} {most : Nat} {L : List Rw} {w w1 w2 w3 : World} (o1 : Off [] w w1) (h : TabStep tb fp most L w1 w2) (o3 : Off [] w2 w3) : TabStep tb fp most L w w3 := by
  obtain ⟨fp', h1, h2, h3⟩ := h
  have := o1.size
  refine ⟨fp', h1.off o3 (by simp), ((o1.mono (by simp)).trans h2 (fun x hx => .inl hx)).trans o3 (by simp), fun x hx => ?_⟩
  rcases h3 x hx with q | q
  · exact .inl q
  · exact .inr (by omega)
/-- Stores into a block that no table knows. -/
theorem TabStep.row5 {tb : Nat} {fp : List Nat} {most : Nat} {L : List Rw} {w w1 w2 : World} {g : Nat} (o1 : Off [] w w1) (h : TabStep tb fp most L w1 w2) (hg : w.heap.size ≤ g) (hg1 : g < w1.heap.size) (hn : g ∉ fp) (b i s l n : Value) :
    TabStep tb fp most L w (((((w2.setCell ⟨g, 0, none⟩ b).setCell ⟨g, 1, none⟩ i).setCell ⟨g, 2, none⟩ s).setCell ⟨g, 3, none⟩ l).setCell ⟨g, 4, none⟩ n) := by
  obtain ⟨fp', h1, h2, h3⟩ := h
  have hs := o1.size
  have hoff : Off [g] w2 (((((w2.setCell ⟨g, 0, none⟩ b).setCell ⟨g, 1, none⟩ i).setCell ⟨g, 2, none⟩ s).setCell ⟨g, 3, none⟩ l).setCell ⟨g, 4, none⟩ n) :=
    (((((Off.refl _ _).setCell (.inl (by simp)) _).setCell (.inl (by simp)) _).setCell (.inl (by simp)) _).setCell (.inl (by simp)) _).setCell (.inl (by simp)) _
  refine ⟨fp', h1.off hoff (fun x hx hx' => ?_), ((o1.mono (by simp)).trans h2 (fun x hx => .inl hx)).trans hoff (fun x hx => .inr (by simp at hx; omega)), fun x hx => ?_⟩
  · simp at hx'
    subst hx'
    rcases h3 x hx with q | q
    · exact hn q
    · omega
  · rcases h3 x hx with q | q
    · exact .inl q
    · exact .inr (by omega)

theorem row_new2 (w : World) (b i s l n : Int) (w1 : World) (ho : Off [] (w.alloc (.cells #[.int .i64 b, .int .i64 i, .int .i64 s, .int .i64 l, .int .i64 n] 70)) w1) (ob : Obj) : R5 (w1.alloc ob) w.heap.size b i s l n := (((IsC.new w _ 70).off ho (by simp)).alloc ob).r5

set_option maxRecDepth 100000 in
set_option maxHeartbeats 2000000 in
theorem drop42 {w : World} {tb : Nat} {fp : List Nat} {most : Nat} {L : List Rw} (h : TabP w tb fp most L) (x : Int) :
    Calls Try.prog 42 #[.pointer (some ⟨tb, 0, none⟩), .int .i64 x] w fun e w' => e = .returned (.tuple #[ragg ((getL L x).getD Rw.zero), .bool (getL L x).isSome]) ∧ TabStep tb fp most (dropL L x) w w' := by
  have h0 := h.off ((Off.refl [] w).alloc zero70) (by simp)
  have HG := Lib.hid (get38 h0 x)
  have HN := Lib.hid (row_new w 0 0 0 0 0)
  have HN2 := Lib.hid (row_new2 w 0 0 0 0 0)
  unfold zero70 at HG
  cases e : getL L x with
  | none =>
    have hs : (L.map Rw.birth).contains x = false := by rw [← getL_isSome, e]; rfl
    have ed : dropL L x = L := by unfold dropL; rw [hs]; simp
    rw [ed]
    have HP : Hid (∀ w', Off [] w w' → TabStep tb fp most L w w') := fun w' ho => h.same ho
    rw [e] at HG
    simp only [Option.isSome_none, Option.getD_none] at HG ⊢
    clear h h0 e ed hs
    unfold ragg Rw.zero at HG
    simp only at HG
    go_enter Try.func42, Try.ntmps42
    go_wp2_with (go_at_call 38; refine HG.out.mono ?_; rintro e w1 ⟨rfl, ho⟩; have q0 := fun ob => (HN2.out w1 ho ob).1; have q1 := fun ob => (HN2.out w1 ho ob).2.1; have q2 := fun ob => (HN2.out w1 ho ob).2.2.1; have q3 := fun ob => (HN2.out w1 ho ob).2.2.2.1; have q4 := fun ob => (HN2.out w1 ho ob).2.2.2.2.1; have qf := fun ob => (HN2.out w1 ho ob).2.2.2.2.2; have HO := Lib.hid (Off.trans ((Off.refl [] w).alloc _) ho (by simp)); clear ho)
    refine bodyPost_ret (v := .tuple #[ragg Rw.zero, .bool false]) (by rw [results_cell_tmp rfl]; go_simp; try rfl) rfl ?_
    exact ⟨rfl, HP.out _ (off_row5 (HO.out.alloc _) (Nat.le_refl _) _ _ _ _ _)⟩
  | some r =>
    have hs : (L.map Rw.birth).contains x = true := by rw [← getL_isSome, e]; rfl
    have ed : dropL L x = delB Rw.birth L x := by unfold dropL; rw [if_pos hs]
    rw [ed]
    have HD : Hid (∀ W, Off [] w W → Calls Try.prog 63 #[.pointer (some ⟨tb, 1, none⟩), .int .i64 x] W fun e w2 => e = .returned (.tuple #[]) ∧ Mid 64 #[.pointer (some ⟨tb, 3, none⟩), .int .i64 r.id] tb fp most (delB Rw.birth L x) W w2) := fun W ho => (h.off ho (by simp)).drop63 x r e
    have HFP := Lib.hid h.lt
    rw [e] at HG
    simp only [Option.isSome_some, Option.getD_some] at HG ⊢
    clear h h0 e ed hs
    obtain ⟨b, i, s, l, n⟩ := r
    have HQ : Hid (∀ w1 : World, Off [] (w.alloc (.cells #[.int .i64 0, .int .i64 0, .int .i64 0, .int .i64 0, .int .i64 0] 70)) w1 → ∀ w2, Off fp (w1.alloc (.cells #[.int .i64 b, .int .i64 i, .int .i64 s, .int .i64 l, .int .i64 n] 70)) w2 → R5 w2 w1.heap.size b i s l n ∧ R5 w2 w.heap.size 0 0 0 0 0) := by
      intro w1 ho w2 o2
      have hs := ho.size
      simp only [World.size_alloc] at hs
      exact ⟨((IsC.new w1 _ 70).off o2 (fun hx => by have := HFP.out _ hx; omega)).r5, ((((IsC.new w _ 70).off ho (by simp)).alloc _).off o2 (fun hx => by have := HFP.out _ hx; omega)).r5⟩
    have HE : Hid (∀ w1 : World, Off [] (w.alloc (.cells #[.int .i64 0, .int .i64 0, .int .i64 0, .int .i64 0, .int .i64 0] 70)) w1 → ∀ w3, TabStep tb fp most (delB Rw.birth L x) (w1.alloc (.cells #[.int .i64 b, .int .i64 i, .int .i64 s, .int .i64 l, .int .i64 n] 70)) w3 →
        TabStep tb fp most (delB Rw.birth L x) w (((((w3.setCell ⟨w.heap.size, 0, none⟩ (.int .i64 b)).setCell ⟨w.heap.size, 1, none⟩ (.int .i64 i)).setCell ⟨w.heap.size, 2, none⟩ (.int .i64 s)).setCell ⟨w.heap.size, 3, none⟩ (.int .i64 l)).setCell ⟨w.heap.size, 4, none⟩ (.int .i64 n))) := by
      intro w1 ho w3 h3
      have hs := ho.size
      simp only [World.size_alloc] at hs
      exact TabStep.row5 ((Off.trans ((Off.refl [] w).alloc _) ho (by simp)).alloc _) h3 (Nat.le_refl _) (by simp only [World.size_alloc]; omega) (fun hx => by have := HFP.out _ hx; omega) _ _ _ _ _
    unfold ragg at HG
    simp only at HG HD
    go_enter Try.func42, Try.ntmps42
    go_wp2_with (go_at_call 38; refine HG.out.mono ?_; rintro e w1 ⟨rfl, ho⟩)
    refine (HD.out _ ((Off.trans ((Off.refl [] w).alloc _) ho (by simp)).alloc _)).mono ?_
    rintro e w2 ⟨rfl, o2, hmid⟩
    obtain ⟨a0, a1, a2, a3, a4, a5⟩ := (HQ.out w1 ho w2 o2).1
    have HM := Lib.hid (hmid _ ((Off.refl [] w2).drew))
    have HE2 := Lib.hid (HE.out w1 ho)
    have HQ2 := Lib.hid (HQ.out w1 ho)
    clear ho o2 hmid HE HQ HD HG HN HN2 HFP
    go_upto_region 4 with fail
    go_region_law (first | (go_simp; go_at_call 64; refine HM.out.mono ?_; rintro e w3 ⟨rfl, h3⟩))
    all_goals
      obtain ⟨⟨c0, c1, c2, c3, c4, c5⟩, d0, d1, d2, d3, d4, d5⟩ := HQ2.out w3 h3.offs
      have HH := Lib.hid (HE2.out w3 h3)
      clear h3 HM HE2 HQ2 a0 a1 a2 a3 a4 a5
      go_wp2_with fail
      refine bodyPost_ret (v := .tuple #[ragg ⟨b, i, s, l, n⟩, .bool true]) (by rw [results_cell_tmp rfl]; go_simp; try rfl) rfl ?_
      exact ⟨rfl, HH.out⟩
end Go.Proofs.Ytlhmcbcoaplcaaa
