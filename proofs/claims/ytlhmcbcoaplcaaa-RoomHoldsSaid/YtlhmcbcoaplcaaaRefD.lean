/- Drop of the document's Room. -/
import Derived.Test.YtlhmcbcoaplcaaaRefV
set_option linter.unusedVariables false
set_option linter.unusedSimpArgs false
namespace Go.Proofs.Ytlhmcbcoaplcaaa
open Go.ChangeShapes Go.WideShapes Go.ChangeAt Go.RowKit

theorem rtCells_take (ts : List Rt) (i : Nat) : (rtCells ts).take (i * 2) = rtCells (ts.take i) := by
  induction ts generalizing i with
  | nil => simp [rtCells]
  | cons a ts ih =>
    cases i with
    | zero => simp [rtCells]
    | succ i =>
      have e : ∀ (x : Rt) (l : List Rt), rtCells (x :: l) = .int .i64 x.birth :: x.uv :: rtCells l := fun x l => by simp [rtCells]
      rw [e, List.take_succ_cons, e, ← ih i, show (i + 1) * 2 = i * 2 + 1 + 1 by omega]; rfl
theorem rtCells_drop (ts : List Rt) (i : Nat) : (rtCells ts).drop (i * 2) = rtCells (ts.drop i) := by
  induction ts generalizing i with
  | nil => simp [rtCells]
  | cons a ts ih =>
    cases i with
    | zero => simp
    | succ i =>
      have e : ∀ (x : Rt) (l : List Rt), rtCells (x :: l) = .int .i64 x.birth :: x.uv :: rtCells l := fun x l => by simp [rtCells]
      rw [e, List.drop_succ_cons, ← ih i, show (i + 1) * 2 = i * 2 + 1 + 1 by omega]; rfl
theorem uv_one {w : World} {ts : List Rt} (h : ∀ t ∈ ts, Own w 3 1 t.uv t.ups.length (ints t.ups)) : ∀ u ∈ rtCells ts, u.oneCell' = true := by
  intro u hu
  simp only [rtCells, List.mem_flatMap, List.mem_cons, List.not_mem_nil, or_false] at hu
  obtain ⟨t, ht, rfl | rfl⟩ := hu
  · rfl
  · obtain ⟨ao, cap, e, _⟩ := (h t ht).val
    rw [e]; rfl
theorem mdel_take {L : Txns} {i : Nat} {b : Int} {u : List Int} (h : L[i]? = some (b, u)) (hj : ∀ j, j < i → ∀ p : Int × List Int, L[j]? = some p → p.1 ≠ b) : mdel L b = L.take i ++ L.drop (i + 1) := by
  induction L generalizing i with
  | nil => simp at h
  | cons q L ih =>
    cases i with
    | zero => simp at h; subst h; simp [mdel]
    | succ i =>
      have h0 : q.1 ≠ b := hj 0 (by omega) q (by simp)
      rw [mdel, if_neg h0, ih (by simpa using h) (fun j hj' p hp => hj (j + 1) (by omega) p (by simpa using hp))]; simp

theorem sub_flat {l l' : List Rt} (h : l.Sublist l') : (rtFoot l).Sublist (rtFoot l') := by
  induction h with
  | slnil => exact List.Sublist.refl _
  | cons a h ih => simp only [rtFoot, List.flatMap_cons] at ih ⊢; exact ih.trans (List.sublist_append_right _ _)
  | cons_cons a h ih => simp only [rtFoot, List.flatMap_cons] at ih ⊢; exact (List.Sublist.refl _).append ih

theorem dropR_post {w w2 : World} {qb : Nat} {area b : Int} {L : Txns} {Lv Lv' : Value} {ts : List Rt} {i : Nat} {u : List Int} (h : RefAt w qb area L Lv ts) (hi : L[i]? = some (b, u))
    (hj : ∀ j, j < i → ∀ p : Int × List Int, L[j]? = some p → p.1 ≠ b) (ho : Own w2 96 2 Lv' (i + (ts.length - (i + 1))) (rtCells (ts.take i) ++ rtCells (ts.drop (i + 1)))) (hoff : Off [] w w2) (hb : ∀ x ∈ blk Lv', w.heap.size ≤ x) :
    RefStep qb (qb :: (blk Lv ++ rtFoot ts)) area (0, mdel L b) w (.returned (.int .i64 0)) (w2.setCell ⟨qb, 1, none⟩ Lv') := by
  have hlt := RefP.lt ⟨Lv, ts, rfl, h⟩
  obtain ⟨a1, a2, a3, a4, a5⟩ := h
  have hil : i < ts.length := by have := (List.getElem?_eq_some_iff.1 hi).1; rw [← a5] at this; simpa using this
  have hsub : List.Sublist (ts.take i ++ ts.drop (i + 1)) ts := by
    have h1 : List.Sublist (ts.drop (i + 1)) (ts.drop i) := List.drop_sublist_drop_left ts (by omega)
    have := (List.Sublist.refl (ts.take i)).append h1
    rwa [List.take_append_drop] at this
  have hfoot : List.Sublist (rtFoot (ts.take i ++ ts.drop (i + 1))) (rtFoot ts) := sub_flat hsub
  simp only [List.nodup_cons, List.mem_append, not_or, List.nodup_append] at a1
  obtain ⟨⟨n1, n2⟩, n3, n4, n5⟩ := a1
  have hq : qb ∉ blk Lv' := fun hx => by have := hb qb hx; have := a2.lt; omega
  refine ⟨rfl, _, ⟨Lv', ts.take i ++ ts.drop (i + 1), rfl, ⟨?_, ?_, ?_, ?_, ?_⟩⟩, ?_, ?_⟩
  · simp only [List.nodup_cons, List.mem_append, not_or, List.nodup_append]
    refine ⟨⟨hq, fun hx => n2 (hfoot.subset hx)⟩, blk_nodup _, hfoot.nodup n4, ?_⟩
    intro x hx y hy e
    subst e
    have := hb x hx
    have := hlt x (by simp [hfoot.subset hy])
    omega
  · simpa using (a2.off hoff (by simp)).set 1 Lv'
  · have e1 : (ts.take i ++ ts.drop (i + 1)).length = i + (ts.length - (i + 1)) := by rw [List.length_append, List.length_take, List.length_drop, Nat.min_eq_left (by omega)]
    have e2 : rtCells (ts.take i ++ ts.drop (i + 1)) = rtCells (ts.take i) ++ rtCells (ts.drop (i + 1)) := by simp [rtCells]
    rw [e1, e2]
    exact ho.setCell _ _ hq
  · intro t ht
    exact ((a4 t (hsub.subset ht)).off hoff (by simp)).setCell _ _ (fun hx => n2 (mem_rtFoot.2 ⟨t, hsub.subset ht, hx⟩))
  · rw [mdel_take hi hj, ← a5]; simp
  · exact (hoff.mono (by simp)).setCell (.inl (by simp)) _
  · intro x hx
    simp only [List.mem_cons, List.mem_append] at hx ⊢
    rcases hx with hx | hx | hx
    · exact .inl (.inl hx)
    · exact .inr (hb x hx)
    · exact .inl (.inr (.inr (hfoot.subset hx)))

set_option maxRecDepth 100000 in
set_option maxHeartbeats 2000000 in
theorem dropR_any (qb : Nat) (fp : List Nat) (area b : Int) (L : Txns) (n : Nat) (w : World) (h : RefP w qb fp area L) (hw : Wf L n) :
    Calls Try.prog 47 #[.pointer (some ⟨qb, 0, none⟩), .int .i64 b] w (RefStep qb fp area (rDrop L b) w) := by
  have HA := Lib.hid (at_any qb fp area b L w h hw.len)
  have HS := Lib.hid (fun n => RefStep.same (n := n) h)
  obtain ⟨Lv, ts, rfl, hat⟩ := h
  have a2 := hat.head
  have c := a2.reads
  rcases pos_spec L b with ⟨h1, h2, _⟩ | ⟨i, u, h1, h2, h3, h4⟩
  · have e1 : posI L b = -1 := by simp [posI, h1]
    have e2 : rDrop L b = (160, L) := by simp [rDrop, h2]
    rw [e1] at HA
    rw [e2]
    clear h1 h2 hat hw e1 e2
    go_enter Try.func47, Try.ntmps47
    go_wp2_with fail
    refine HA.out.mono ?_
    rintro e w1 ⟨rfl, rfl⟩
    go_wp2_with fail
    go_ret
    exact HS.out 160
  · have e1 : posI L b = i := by simp [posI, h1]
    have e2 : rDrop L b = (0, mdel L b) := by simp only [rDrop, h3]
    rw [e1] at HA
    rw [e2]
    have hlen : ts.length = L.length := by rw [← hat.list]; simp
    have hil : i < ts.length := by rw [hlen]; exact (List.getElem?_eq_some_iff.1 h2).1
    have hln := hw.len
    have hiN : ts.length < 4398046511104 := by omega
    have hone := uv_one hat.ups
    obtain ⟨ao1, cap1, ho1, hb1, f1, z1, f1'⟩ := hat.rows.cut (t := 42) Try.underlying42 size96 0 i (by omega) (by omega)
    obtain ⟨ao2, cap2, ho2, hb2, z2, f2, z3⟩ := hat.rows.cut (t := 42) Try.underlying42 size96 (i + 1) ts.length (by omega) (by omega)
    have g1 := f1' rfl
    have g2 := f2 rfl
    rw [Nat.sub_zero, Nat.zero_mul, List.drop_zero, rtCells_take] at ho1
    rw [Nat.sub_zero] at g1 hb1
    rw [rtCells_drop, List.take_of_length_le (by rw [rtCells_len, List.length_drop]; omega)] at ho2
    have hone1 : ∀ u ∈ rtCells (ts.take i), u.oneCell' = true := fun u hu => hone u (by rw [← rtCells_take] at hu; exact List.mem_of_mem_take hu)
    have hone2 : ∀ u ∈ rtCells (ts.drop (i + 1)), u.oneCell' = true := fun u hu => hone u (by rw [← rtCells_drop] at hu; exact List.mem_of_mem_drop hu)
    have hsrc1 := Lib.hid (ho1.src (t := 42) Try.underlying42 hone1)
    have HO2 := Lib.hid (And.intro ho2 hone2)
    have HB1 := Lib.hid (show (0 + i) * 32 ≤ 140737488355328 by omega)
    have HB2 := Lib.hid (show (i + (ts.length - (i + 1))) * 32 ≤ 140737488355328 by omega)
    have HL := Lib.hid (RefP.lt ⟨Lv, ts, rfl, hat⟩)
    have HBL := Lib.hid hb2
    have HP := Lib.hid (fun (w2 : World) (Lv' : Value) ho hoff hb => dropR_post (w2 := w2) (Lv' := Lv') hat h2 h4 ho hoff hb)
    obtain ⟨ao, cap, rfl, _⟩ := hat.rows.val
    clear h1 h2 h3 h4 hat hw e1 e2 hlen hln hone ho1 ho2 hone1 hone2 f1 z1 f1' z2 f2 z3 hb1 hb2 HS
    generalize hNN : ts.length = N at *
    clear hNN
    go_enter Try.func47, Try.ntmps47
    go_wp2_with fail
    refine HA.out.mono ?_
    rintro e w1 ⟨rfl, rfl⟩
    clear HA
    go_wp2_with (at_builtin; refine wp_app rfl _ _ 42 42 rfl rfl (Own.nil w 96 2) Try.underlying42 info96 rfl (by decide) rfl hsrc1.out HB1.out ?_)
    intro ao3 cap3 w1 ho3 hoff3 hb3
    have hoff3' : Off [] w w1 := hoff3
    have q1 := a2.off hoff3' (by simp)
    have rq := q1.reads
    have hfresh : ∀ y ∈ blk (.slice ao3 i cap3), w.heap.size ≤ y := by
      intro z hz
      rcases hb3 with e | e <;> rw [e] at hz
      · simp [blk] at hz
      · simp at hz; omega
    have hsrc2 := Lib.hid ((HO2.out.1.off hoff3' (by simp)).src (t := 42) Try.underlying42 HO2.out.2)
    have HO3 := Lib.hid ho3
    have HF := Lib.hid hfresh
    have HOF := Lib.hid hoff3'
    clear ho3 hoff3 hb3 hoff3' hfresh c a2
    go_wp2_with (at_builtin; refine wp_app rfl _ _ 42 42 rfl rfl HO3.out Try.underlying42 info96 rfl (by decide) rfl hsrc2.out HB2.out ?_)
    intro ao4 cap4 w2 ho4 hoff4 hb4
    have hoff5 : Off [] w w2 := HOF.out.trans hoff4 (fun z hz => .inr (HF.out z hz))
    have q2 := q1.off hoff4 (fun hx => by have := HF.out _ hx; have := HL.out qb (by simp); omega)
    have rq2 := q2.reads
    have rf2 := q2.free
    have H := Lib.hid (HP.out _ _ ho4 hoff5 (by
      intro z hz
      rcases hb4 with e | e <;> rw [e] at hz
      · exact HF.out z hz
      · have := HOF.out.size
        have hz' : z = w1.heap.size := by simpa using hz
        omega))
    clear ho4 hoff4 hb4 hoff5 rq q1 HP HF HOF
    go_wp2_with fail
    go_ret
    exact H.out
end Go.Proofs.Ytlhmcbcoaplcaaa
