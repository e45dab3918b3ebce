/- The document's Table: Put. -/
import Derived.Test.YtlhmcbcoaplcaaaDocB
set_option linter.unusedVariables false
set_option linter.unusedSimpArgs false
namespace Go.Proofs.Ytlhmcbcoaplcaaa
open Go.ChangeShapes Go.WideShapes Go.ChangeAt Go.RowKit

def putM (most : Nat) (M : List Rw) (r : Rw) : List Rw := if putCode most M r = 0 then M ++ [r] else M
def PutDEnd (tb : Nat) (fp : List Nat) (most : Nat) (M : List Rw) (r : Rw) (w : World) (e : Ending) (w' : World) : Prop :=
  e = .returned (.int .i64 (putCode most M r)) ∧ DocStep tb fp most (putM most M r) w w'

/-- The slice has grown and is stored. -/
theorem DocW.grow {w w1 : World} {tb : Nat} {m : Nat} {v v' : Value} {M M' : List Rw} (h : DocW w tb m v M) (ho : Own w1 70 5 v' M'.length (rows M')) (o1 : Off (blk v) w w1) (hb : ∀ x ∈ blk v', x ∈ blk v ∨ w.heap.size ≤ x) :
    DocStep tb (tb :: blk v) m M' w (w1.setCell ⟨tb, 1, none⟩ v') := by
  have hlt := h.head.lt
  have htv : tb ∉ blk v' := fun hx => by rcases hb tb hx with q | q; exact h.tv q; omega
  refine ⟨tb :: blk v', ⟨v', ⟨(h.head.off o1 h.tv).set 1 v', ho.setCell _ _ htv, htv⟩, rfl⟩, (o1.mono (fun x hx => .inl (by simp [hx]))).setCell (.inl (by simp)) _, fun x hx => ?_⟩
  rcases List.mem_cons.1 hx with rfl | hx
  · exact .inl (by simp)
  · rcases hb x hx with q | q
    · exact .inl (by simp [q])
    · exact .inr q

set_option maxRecDepth 100000 in
set_option maxHeartbeats 4000000 in
theorem putD50 {w : World} {tb : Nat} {fp : List Nat} {most : Nat} {M : List Rw} (h : DocP w tb fp most M) (hl : M.length ≤ most) (hm : most ≤ 8) (r : Rw) :
    Calls Try.prog 50 #[.pointer (some ⟨tb, 0, none⟩), ragg r] w (PutDEnd tb fp most M r w) := by
  have HI : Hid (∀ W, Off [] w W → Calls Try.prog 54 #[.pointer (some ⟨tb, 0, none⟩), .int .i64 r.id] W fun e w' => e = .returned (.tuple #[ragg ((idL M r.id).getD Rw.zero), .bool (idL M r.id).isSome]) ∧ Off [] W w') := fun W ho => byIdD54 (h.off ho (by simp)) (by omega) _
  obtain ⟨k, hk, hkb⟩ : ∃ k : Int, AtI M r.birth k ∧ ((getL M r.birth).isSome = decide (0 ≤ k)) := by
    rcases atI_of M r.birth with ⟨h1, h2⟩ | ⟨i, a, h1, _, _, h2, _⟩
    · exact ⟨_, h1, by rw [h2]; rfl⟩
    · exact ⟨_, h1, by rw [h2]; simp⟩
  obtain ⟨v, hw, rfl⟩ := h
  have HA : Hid (∀ W, Off [] w W → Calls Try.prog 66 #[.pointer (some ⟨tb, 0, none⟩), .int .i64 r.birth] W fun e w' => e = .returned (.int .i64 k) ∧ W = w') := fun W ho => (hw.off ho (by simp)).at66 (by omega) _ hk
  have HC : Hid (putCode most M r = if rightR r = false then 30 else if ((getL M r.birth).isSome || (idL M r.id).isSome) = true then 160 else if most ≤ M.length then 161 else 0) := by show putCode most M r = _; rw [getL_isSome, idL_isSome]; rfl
  have HNO : Hid (putCode most M r ≠ 0 → ∀ w', Off [] w w' → PutDEnd tb (tb :: blk v) most M r w (.returned (.int .i64 (putCode most M r))) w') := fun hc w' ho => ⟨rfl, by unfold putM; rw [if_neg hc]; exact DocP.same ⟨v, hw, rfl⟩ ho⟩
  have HYES : Hid (putCode most M r = 0 → ∀ w', DocStep tb (tb :: blk v) most (M ++ [r]) w w' → PutDEnd tb (tb :: blk v) most M r w (.returned (.int .i64 0)) w') := fun hc w' hs => ⟨by rw [hc], by unfold putM; rw [if_pos hc]; exact hs⟩
  have HW : Hid (∀ W, Off [] w W → DocW W tb most v M) := fun W ho => hw.off ho (by simp)
  obtain ⟨ao, cap, rfl, _⟩ := hw.own.val
  have HLM := Lib.hid (And.intro hl hm)
  clear hw hk hl hm
  obtain ⟨b, i, s, l, n⟩ := r
  have HR := Lib.hid (right65 b i s l n)
  have HNW := Lib.hid (row_new w b i s l n)
  generalize putCode most M ⟨b, i, s, l, n⟩ = code at *
  generalize rightR ⟨b, i, s, l, n⟩ = rb at *
  obtain ⟨old, hold⟩ : ∃ r, r = (idL M i).getD Rw.zero := ⟨_, rfl⟩
  simp only at HI HC HA hkb
  rw [← hold] at HI
  clear hold
  rw [hkb] at HC
  clear hkb
  generalize (idL M i).isSome = named at *
  obtain ⟨b', i', s', l', n'⟩ := old
  unfold ragg at HI ⊢
  simp only at HI HC HA ⊢
  go_enter Try.func50, Try.ntmps50
  go_wp2_with fail
  refine (HR.out _).mono ?_
  rintro e w1 ⟨rfl, ho⟩
  have HO1 := Lib.hid (((Off.refl [] w).alloc _).trans ho (by simp))
  have HX1 := Lib.hid ((IsC.new w #[.int .i64 b, .int .i64 i, .int .i64 s, .int .i64 l, .int .i64 n] 70).off ho (by simp))
  clear ho HNW HR
  cases rb with
  | false =>
    obtain rfl : code = 30 := by rw [HC.out]; rfl
    clear HC HYES HI HA
    go_wp2_with fail
    go_ret
    exact HNO.out (by decide) _ HO1.out
  | true =>
    obtain ⟨k0, k1, k2, k3, k4, k5⟩ := IsC.r5 HX1.out
    go_wp2_with fail
    refine (HI.out _ HO1.out).mono ?_
    rintro e w2 ⟨rfl, ho⟩
    have HO2 := Lib.hid (HO1.out.trans ho (by simp))
    have HX2 := Lib.hid (IsC.off (S := []) HX1.out ho (by simp))
    clear ho HI HO1 HX1 k0 k1 k2 k3 k4 k5
    have hx := fun ob => (IsC.r5 (HX2.out.alloc ob)).1
    have hq0 := fun ob => ((HW.out _ (HO2.out.alloc ob)).cells).1
    have hq1 := fun ob => ((HW.out _ (HO2.out.alloc ob)).cells).2
    cases named with
    | true =>
      obtain rfl : code = 160 := by rw [HC.out]; simp
      clear HC HYES HA
      go_wp2_with fail
      go_ret
      exact HNO.out (by decide) _ (HO2.out.alloc _)
    | false =>
      by_cases hk : 0 ≤ k
      · obtain rfl : code = 160 := by rw [HC.out, decide_eq_true hk]; rfl
        clear HC HYES
        go_wp2_with (go_at_call 66; refine (HA.out _ (HO2.out.alloc _)).mono ?_; rintro e w' ⟨rfl, rfl⟩)
        go_ret
        exact HNO.out (by decide) _ (HO2.out.alloc _)
      · by_cases hN : most ≤ M.length
        · obtain rfl : code = 161 := by rw [HC.out, decide_eq_false hk, if_neg (by simp), if_neg (by simp), if_pos hN]
          obtain rfl : M.length = most := by have := HLM.out; omega
          clear HC HYES
          generalize M.length = N at *
          go_wp2_with (go_at_call 66; refine (HA.out _ (HO2.out.alloc _)).mono ?_; rintro e w' ⟨rfl, rfl⟩)
          go_quiet (fail)
          go_wp2_with fail
          go_ret
          exact HNO.out (by decide) _ ((HO2.out.alloc _).drewN _)
        · obtain rfl : code = 0 := by rw [HC.out, decide_eq_false hk, if_neg (by simp), if_neg (by simp), if_neg hN]
          have HY := Lib.hid (HYES.out rfl)
          have hne : ((M.length : Int) == (most : Int)) = false := by have := HLM.out; simp; omega
          have HS : Hid (∀ W, Off [] w W → Own W 70 5 (.slice ao M.length cap) M.length (rows M)) := fun W ho => (HW.out W ho).own
          have HB : Hid ((M.length + 1) * 40 ≤ 140737488355328) := by show (M.length + 1) * 40 ≤ 140737488355328; have := HLM.out; omega
          have HG : Hid (∀ W, Off [] w W → ∀ ao' cap' w', Own w' 70 5 (.slice ao' (M.length + 1) cap') (M.length + 1) (rows M ++ rcells ⟨b, i, s, l, n⟩) → Off (blk (.slice ao M.length cap)) W w' → (blk (.slice ao' (M.length + 1) cap') = blk (.slice ao M.length cap) ∨ blk (.slice ao' (M.length + 1) cap') = [W.heap.size]) → (w'.cell? ⟨tb, 1, none⟩ = some (.slice ao M.length cap) ∧ w'.frozen? ⟨tb, 1, none⟩ = false) ∧
              PutDEnd tb (tb :: blk (.slice ao M.length cap)) most M ⟨b, i, s, l, n⟩ w (.returned (.int .i64 0)) (w'.setCell ⟨tb, 1, none⟩ (.slice ao' (M.length + 1) cap'))) := by
            intro W ho ao' cap' w' k1 k2 k3
            have hw := HW.out W ho
            have hh := hw.head.off k2 hw.tv
            refine ⟨⟨by rw [hh.cell]; rfl, hh.unfrozen _⟩, HY.out _ (DocStep.ends ho (hw.grow (M' := M ++ [⟨b, i, s, l, n⟩]) ?_ k2 (fun x hx => ?_)) (Off.refl _ _))⟩
            · rw [List.length_append, rows_append]; simpa [rows] using k1
            · rcases k3 with q | q <;> rw [q] at hx
              · exact .inl hx
              · simp at hx; exact .inr (by omega)
          clear HC HNO HYES HY
          have HN1 := Lib.hid (src_new (P := Try.prog) · (t := 23) (e := 70) (e' := 70) (sz := 5) #[.int .i64 b, .int .i64 i, .int .i64 s, .int .i64 l, .int .i64 n] 1 Try.underlying23 (by decide) rfl (by simp [Value.oneCell']))
          generalize M.length = N at *
          go_wp2_with (go_at_call 66; refine (HA.out _ (HO2.out.alloc _)).mono ?_; rintro e w' ⟨rfl, rfl⟩)
          go_quiet (fail)
          go_upto_region 8 with fail
          generalize hW4 : World.drewN _ _ = W4
          have HO4 : Hid (Off [] w W4) := hW4 ▸ ((HO2.out.alloc _).drewN _)
          have HX4 : Hid (IsC W4 w.heap.size #[.int .i64 b, .int .i64 i, .int .i64 s, .int .i64 l, .int .i64 n] 70) := hW4 ▸ (IsC.off (S := []) (HX2.out.alloc _) ((Off.refl _ _).drewN _) (by simp))
          clear hW4 hx hq0 hq1
          obtain ⟨k0, k1, k2, k3, k4, k5⟩ := IsC.r5 HX4.out
          have hc := ((HW.out _ HO4.out).cells).2
          have hca := fun ob => ((HW.out _ (HO4.out.alloc ob)).cells).2
          have HSRC : Hid (Src Try.prog 5 23 (.slice (some ⟨W4.heap.size, 0, none⟩) 1 1) 1 (rcells ⟨b, i, s, l, n⟩) (W4.alloc (.cells #[.int .i64 b, .int .i64 i, .int .i64 s, .int .i64 l, .int .i64 n] 70)).drew) :=
            (Own.new W4 70 5 #[.int .i64 b, .int .i64 i, .int .i64 s, .int .i64 l, .int .i64 n] 1 (by decide) rfl).drew.src Try.underlying23 (by simp [Value.oneCell'])
          have HSO := Lib.hid (HS.out _ ((HO4.out.alloc (.cells #[.int .i64 b, .int .i64 i, .int .i64 s, .int .i64 l, .int .i64 n] 70)).drew))
          have HG2 := Lib.hid (HG.out _ ((HO4.out.alloc (.cells #[.int .i64 b, .int .i64 i, .int .i64 s, .int .i64 l, .int .i64 n] 70)).drew))
          clear HN1 HG HS HW HA hne
          go_region_law (first | (refine step_app rfl _ _ 23 23 rfl rfl HSO.out Try.underlying23 iinfo70 rfl (by decide) rfl HSRC.out HB.out ?_; intro ao' cap' w' p1 p2 p3; obtain ⟨⟨n1, n2⟩, hh⟩ := HG2.out ao' cap' w' p1 p2 p3; have H := Lib.hid hh; clear p1 p2 p3 hh))
          all_goals
            go_wp2_with fail
            go_ret
            exact H.out
end Go.Proofs.Ytlhmcbcoaplcaaa
