/- The document's Table: Drop. -/
import Derived.Test.YtlhmcbcoaplcaaaDocD
set_option linter.unusedVariables false
set_option linter.unusedSimpArgs false
namespace Go.Proofs.Ytlhmcbcoaplcaaa
open Go.ChangeShapes Go.WideShapes Go.ChangeAt Go.RowKit

def DropM (M : List Rw) (x : Int) (M' : List Rw) : Prop :=
  (getL M x = none ∧ M' = M) ∨ ∃ (i : Nat) (a : Rw), M[i]? = some a ∧ a.birth = x ∧ getL M x = some a ∧ M' = M.take i ++ M.drop (i + 1)
def DropDEnd (tb : Nat) (fp : List Nat) (most : Nat) (M : List Rw) (x : Int) (w : World) (e : Ending) (w' : World) : Prop :=
  e = .returned (.tuple #[ragg ((getL M x).getD Rw.zero), .bool (getL M x).isSome]) ∧ ∃ M', DropM M x M' ∧ DocStep tb fp most M' w w'

set_option maxRecDepth 100000 in
set_option maxHeartbeats 4000000 in
theorem dropD55 {w : World} {tb : Nat} {fp : List Nat} {most : Nat} {M : List Rw} (h : DocP w tb fp most M) (hl : M.length ≤ 8) (x : Int) :
    Calls Try.prog 55 #[.pointer (some ⟨tb, 0, none⟩), .int .i64 x] w (DropDEnd tb fp most M x w) := by
  have hlt := h.lt
  have hsame := fun w' ho => DocP.same (w' := w') h ho
  obtain ⟨v, hw0, rfl⟩ := h
  have hw := hw0.off ((Off.refl [] w).alloc zero70) (by simp)
  have hq := fun k hk => hw.at66 (k := k) (by omega) x hk
  rcases atI_of M x with ⟨hk, e⟩ | ⟨i, a, hk, hi, hax, e, hil⟩
  · have HF := Lib.hid (hq _ hk)
    have HP : Hid (DropDEnd tb (tb :: blk v) most M x w (.returned (.tuple #[ragg Rw.zero, .bool false])) (w.alloc zero70)) := ⟨by rw [e]; rfl, M, .inl ⟨e, rfl⟩, hsame _ ((Off.refl _ _).alloc _)⟩
    unfold zero70 at HF HP
    clear hw hq hk e hw0 hsame hlt
    go_enter Try.func55, Try.ntmps55
    go_wp2_with (go_at_call 66; refine HF.out.mono ?_; rintro e w1 ⟨rfl, rfl⟩)
    refine bodyPost_ret (v := .tuple #[ragg Rw.zero, .bool false]) (by rw [results_cell_tmp rfl]; go_simp; try rfl) rfl ?_
    exact HP.out
  · have HF := Lib.hid (hq _ hk)
    obtain ⟨_, c1⟩ := hw.cells
    obtain ⟨ao, cap, rfl, hr⟩ := own_rows hw.own
    obtain ⟨g, off, rfl, k0, k1, k2, k3, k4⟩ := hr i a hi
    obtain ⟨b, i1, s, l, n⟩ := a
    simp only at k0 k1 k2 k3 k4 hax
    have hW1 := hw.off ((Off.refl [] (w.alloc zero70)).alloc (.cells #[.int .i64 b, .int .i64 i1, .int .i64 s, .int .i64 l, .int .i64 n] 70)) (by simp)
    obtain ⟨_, c2⟩ := hW1.cells
    obtain ⟨ao1, cap1, ho1, hb1, f1, z1, f1'⟩ := hW1.own.cut (t := 23) Try.underlying23 isize70 0 i (by omega) (by omega)
    have g1 := f1' rfl
    rw [Nat.sub_zero, Nat.zero_mul, List.drop_zero] at ho1
    rw [Nat.sub_zero] at g1 hb1
    have HSRC := Lib.hid (ho1.src (t := 23) Try.underlying23 (fun u hu => rows_one _ u (List.mem_of_mem_take hu)))
    have HB1 := Lib.hid (show (0 + i) * 40 ≤ 140737488355328 by omega)
    have HB2 := Lib.hid (show (i + (M.length - (i + 1))) * 40 ≤ 140737488355328 by omega)
    have hlen : (M.take i ++ M.drop (i + 1)).length = i + (M.length - (i + 1)) := by rw [List.length_append, List.length_take, List.length_drop]; omega
    have HW : Hid (∀ w2, Off [] ((w.alloc zero70).alloc (.cells #[.int .i64 b, .int .i64 i1, .int .i64 s, .int .i64 l, .int .i64 n] 70)) w2 → w2.cell? ⟨tb, 1, none⟩ = some (.slice (some ⟨g, off, none⟩) M.length cap) ∧ Own w2 70 5 (.slice (some ⟨g, off, none⟩) M.length cap) M.length (rows M)) := fun w2 ho => ⟨((hW1.off ho (by simp)).cells).2, (hW1.off ho (by simp)).own⟩
    have HP : Hid (∀ w2 v3, Off [] ((w.alloc zero70).alloc (.cells #[.int .i64 b, .int .i64 i1, .int .i64 s, .int .i64 l, .int .i64 n] 70)) w2 → (∀ z ∈ blk v3, w.heap.size + 2 ≤ z ∧ z < w2.heap.size) →
        ∀ w3 v4, Own w3 70 5 v4 (i + (M.length - (i + 1))) ((rows M).take (i * 5) ++ (rows M).drop ((i + 1) * 5)) → Off (blk v3) w2 w3 → (∀ z ∈ blk v4, z ∈ blk v3 ∨ z = w2.heap.size) →
        (w3.cell? ⟨tb, 1, none⟩ = some (.slice (some ⟨g, off, none⟩) M.length cap) ∧ w3.frozen? ⟨tb, 1, none⟩ = false) ∧ R5 (w3.setCell ⟨tb, 1, none⟩ v4) (w.heap.size + 1) b i1 s l n ∧ R5 (w3.setCell ⟨tb, 1, none⟩ v4) w.heap.size 0 0 0 0 0 ∧
        DropDEnd tb (tb :: blk (.slice (some ⟨g, off, none⟩) M.length cap)) most M x w (.returned (.tuple #[ragg ⟨b, i1, s, l, n⟩, .bool true]))
          ((((((w3.setCell ⟨tb, 1, none⟩ v4).setCell ⟨w.heap.size, 0, none⟩ (.int .i64 b)).setCell ⟨w.heap.size, 1, none⟩ (.int .i64 i1)).setCell ⟨w.heap.size, 2, none⟩ (.int .i64 s)).setCell ⟨w.heap.size, 3, none⟩ (.int .i64 l)).setCell ⟨w.heap.size, 4, none⟩ (.int .i64 n))) := by
      intro w2 v3 o2 hv3 w3 v4 hown o3 hv4
      have hs2 := o2.size
      simp only [World.size_alloc] at hs2
      have htb := hw0.head.lt
      have n0 : tb ∉ blk v3 := fun hx => by have := hv3 _ hx; omega
      have n1 : w.heap.size ∉ blk v3 := fun hx => by have := hv3 _ hx; omega
      have n2 : w.heap.size + 1 ∉ blk v3 := fun hx => by have := hv3 _ hx; omega
      have hd := ((hW1.off o2 (by simp)).head.off o3 n0)
      have hz : IsC w3 w.heap.size #[.int .i64 0, .int .i64 0, .int .i64 0, .int .i64 0, .int .i64 0] 70 := (((IsC.new w _ 70).alloc _).off o2 (by simp)).off o3 n1
      have hy : IsC w3 (w.heap.size + 1) #[.int .i64 b, .int .i64 i1, .int .i64 s, .int .i64 l, .int .i64 n] 70 := ((IsC.newAt _ (by simp)).off o2 (by simp)).off o3 n2
      have hz4 : ∀ z ∈ blk v4, w.heap.size + 2 ≤ z := fun z hz => by
        rcases hv4 z hz with q | q
        · exact (hv3 z q).1
        · omega
      have ht4 : tb ∉ blk v4 := fun hx => by have := hz4 _ hx; omega
      refine ⟨⟨by rw [hd.cell]; rfl, hd.unfrozen _⟩, (hy.setCell _ _ (by omega)).r5, (hz.setCell _ _ (by omega)).r5, by rw [e]; rfl, M.take i ++ M.drop (i + 1), .inr ⟨i, _, hi, hax, e, rfl⟩, tb :: blk v4, ⟨v4, ?_, rfl⟩, ?_, ?_⟩
      · have q : DocW (w3.setCell ⟨tb, 1, none⟩ v4) tb most v4 (M.take i ++ M.drop (i + 1)) := by
          refine ⟨hd.set 1 v4, ?_, ht4⟩
          rw [hlen, rows_append, rows_take, rows_drop]
          exact hown.setCell _ _ ht4
        have ho : Off [w.heap.size] (w3.setCell ⟨tb, 1, none⟩ v4) _ := (((((Off.refl _ _).setCell (p := ⟨w.heap.size, 0, none⟩) (.inl (by simp)) (.int .i64 b)).setCell (p := ⟨w.heap.size, 1, none⟩) (.inl (by simp)) (.int .i64 i1)).setCell (p := ⟨w.heap.size, 2, none⟩) (.inl (by simp)) (.int .i64 s)).setCell (p := ⟨w.heap.size, 3, none⟩) (.inl (by simp)) (.int .i64 l)).setCell (p := ⟨w.heap.size, 4, none⟩) (.inl (by simp)) (.int .i64 n)
        refine q.off ho (fun z hz hz' => ?_)
        simp at hz'
        subst hz'
        rcases List.mem_cons.1 hz with q | q
        · omega
        · have := hz4 _ q; omega
      · refine off_row5 (Off.setCell ?_ (.inl (by simp)) _) (Nat.le_refl _) _ _ _ _ _
        refine Off.trans (T := blk v3) ?_ o3 (fun z hz => .inr (by have := hv3 z hz; omega))
        exact ((((Off.refl [] w).alloc _).alloc _).trans o2 (by simp)).mono (by simp)
      · intro z hz
        rcases List.mem_cons.1 hz with rfl | hz
        · exact .inl (by simp)
        · have := hz4 z hz; exact .inr (by omega)
    have hadd : IntKind.i64.wrap ((i : Int) + 1) = (i : Int) + 1 := IntWalk.i64_in _ (by omega)
    have hneg : ¬ ((i : Int) < 0) := by omega
    unfold zero70 at HF c1 k0 k1 k2 k3 k4 HSRC c2 HW HP
    clear hax hw hw0 hq hk e hr hi hW1 hsame hlt ho1 f1 z1 f1' hb1 hlen
    generalize hNN : M.length = N at *
    have HNN := Lib.hid hNN
    clear hNN
    go_enter Try.func55, Try.ntmps55
    go_wp2_with (first | (go_at_call 66; refine HF.out.mono ?_; rintro e w1 ⟨rfl, rfl⟩) | (at_builtin; refine wp_app rfl _ _ 23 23 rfl rfl (Own.nil _ 70 5) Try.underlying23 iinfo70 rfl (by decide) rfl HSRC.out HB1.out ?_))
    intro ao3 cap3 w2 p1 p2 p3
    have hv3 : ∀ z ∈ blk (.slice ao3 i cap3), w.heap.size + 2 ≤ z ∧ z < w2.heap.size := fun z hz => by
      refine ⟨?_, p1.lt z hz⟩
      rcases p3 with q | q <;> rw [q] at hz
      · simp [blk] at hz
      · simp at hz; omega
    obtain ⟨c3, hown2⟩ := HW.out w2 p2
    obtain ⟨ao2, cap2, ho2, hb2, z2, f2, z3⟩ := hown2.cut (t := 23) Try.underlying23 isize70 (i + 1) N (by omega) (by omega)
    have g2 := f2 rfl
    have ex : (List.drop ((i + 1) * 5) (rows M)).take ((N - (i + 1)) * 5) = List.drop ((i + 1) * 5) (rows M) := by
      apply List.take_of_length_le
      rw [List.length_drop, rows_len, HNN.out]; omega
    rw [ex] at ho2
    have HSRC2 := Lib.hid (ho2.src (t := 23) Try.underlying23 (fun u hu => rows_one _ u (List.mem_of_mem_drop hu)))
    have HO3 := Lib.hid p1
    have HP2 := Lib.hid (HP.out w2 _ p2 hv3)
    clear p1 p2 p3 hv3 hown2 ho2 hb2 z2 f2 z3 ex HP HW HSRC HF k0 k1 k2 k3 k4 c1 c2 g1
    go_wp2_with (at_builtin; refine wp_app rfl _ _ 23 23 rfl rfl HO3.out Try.underlying23 iinfo70 rfl (by decide) rfl HSRC2.out HB2.out ?_)
    intro ao4 cap4 w3 p1 p2 p3
    obtain ⟨⟨n1, n2⟩, ⟨a0, a1, a2, a3, a4, a5⟩, ⟨d0, d1, d2, d3, d4, d5⟩, hh⟩ := HP2.out w3 _ p1 p2 (fun z hz => by rcases p3 with q | q <;> rw [q] at hz; exact .inl hz; simp at hz; exact .inr hz)
    have H := Lib.hid hh
    clear p1 p2 p3 hh HP2 HSRC2 HO3 g2
    go_wp2_with fail
    refine bodyPost_ret (v := .tuple #[ragg ⟨b, i1, s, l, n⟩, .bool true]) (by rw [results_cell_tmp rfl]; go_simp; try rfl) rfl ?_
    exact H.out
end Go.Proofs.Ytlhmcbcoaplcaaa
