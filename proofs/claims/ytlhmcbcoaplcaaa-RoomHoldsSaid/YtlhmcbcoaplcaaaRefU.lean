/- Update of the document's Room. -/
import Derived.Test.YtlhmcbcoaplcaaaRefB
import Derived.Deep.RegionHeld3
import Derived.Deep.RegionLaw
set_option linter.unusedVariables false
set_option linter.unusedSimpArgs false
namespace Go.Proofs.Ytlhmcbcoaplcaaa
open Go.ChangeShapes Go.WideShapes Go.ChangeAt Go.RowKit

theorem rtCells_set (ts : List Rt) (i : Nat) (t t' : Rt) (h : ts[i]? = some t) (hb : t'.birth = t.birth) : (rtCells ts).set (i * 2 + 1) t'.uv = rtCells (ts.set i t') := by
  induction ts generalizing i with
  | nil => simp at h
  | cons a ts ih =>
    have e : ∀ (x : Rt) (l : List Rt), rtCells (x :: l) = .int .i64 x.birth :: x.uv :: rtCells l := fun x l => by simp [rtCells]
    cases i with
    | zero => simp at h; subst h; simp [e, hb]
    | succ i =>
      have := ih i (by simpa using h)
      rw [List.set_cons_succ, e, e, show (i + 1) * 2 + 1 = i * 2 + 1 + 1 + 1 by omega, List.set_cons_succ, List.set_cons_succ, this]

theorem mput_set {L : Txns} {i : Nat} {b : Int} {u u' : List Int} (h : L[i]? = some (b, u)) (hj : ∀ j, j < i → ∀ p : Int × List Int, L[j]? = some p → p.1 ≠ b) : mput L b u' = L.set i (b, u') := by
  induction L generalizing i with
  | nil => simp at h
  | cons q L ih =>
    cases i with
    | zero => simp at h; subst h; simp [mput]
    | succ i =>
      have h0 : q.1 ≠ b := hj 0 (by omega) q (by simp)
      rw [mput, if_neg h0, List.set_cons_succ, ih (by simpa using h) (fun j hj' p hp => hj (j + 1) (by omega) p (by simpa using hp))]

theorem rtFoot_set {ts : List Rt} {i : Nat} {t t' : Rt} (h : ts[i]? = some t) : ∃ A B, rtFoot ts = A ++ (blk t.uv ++ B) ∧ rtFoot (ts.set i t') = A ++ (blk t'.uv ++ B) ∧
    ∀ (j : Nat) (x : Rt), i ≠ j → ts[j]? = some x → ∀ y ∈ blk x.uv, y ∈ A ∨ y ∈ B := by
  induction ts generalizing i with
  | nil => simp at h
  | cons a ts ih =>
    cases i with
    | zero =>
      simp at h; subst h
      refine ⟨[], rtFoot ts, by simp [rtFoot], by simp [rtFoot], ?_⟩
      intro j x hj hx y hy
      cases j with
      | zero => omega
      | succ j => exact .inr (mem_rtFoot.2 ⟨x, List.mem_of_getElem? (i := j) (by simpa using hx), hy⟩)
    | succ i =>
      obtain ⟨A, B, e1, e2, e3⟩ := ih (i := i) (by simpa using h)
      refine ⟨blk a.uv ++ A, B, ?_, ?_, ?_⟩
      · have : rtFoot (a :: ts) = blk a.uv ++ rtFoot ts := by simp [rtFoot]
        rw [this, e1]; simp
      · have : rtFoot ((a :: ts).set (i + 1) t') = blk a.uv ++ rtFoot (ts.set i t') := by simp [rtFoot]
        rw [this, e2]; simp
      · intro j x hj hx y hy
        cases j with
        | zero => simp at hx; subst hx; exact .inl (by simp [hy])
        | succ j =>
          rcases e3 j x (by omega) (by simpa using hx) y hy with h | h
          · exact .inl (by simp [h])
          · exact .inr h

theorem blk_nodup (v : Value) : (blk v).Nodup := by
  unfold blk; split <;> simp

/-- One transaction's slice of updates changes, and is stored back. -/
theorem changeR_post {w w2 : World} {qb g off cap : Nat} {area b : Int} {L : Txns} {ts : List Rt} {i : Nat} {u u' : List Int} {t : Rt} {uv' : Value}
    (h : RefAt w qb area L (.slice (some ⟨g, off, none⟩) ts.length cap) ts) (hi : L[i]? = some (b, u)) (hj : ∀ j, j < i → ∀ p : Int × List Int, L[j]? = some p → p.1 ≠ b) (ht : ts[i]? = some t)
    (ho : Own w2 3 1 uv' u'.length (ints u')) (hoff : Off (blk t.uv) w w2) (hb : ∀ x ∈ blk uv', x ∈ blk t.uv ∨ w.heap.size ≤ x) :
    RefStep qb (qb :: (blk (.slice (some ⟨g, off, none⟩) ts.length cap) ++ rtFoot ts)) area (0, mput L b u') w (.returned (.int .i64 0)) (w2.setCell ⟨g, off + i * 2 + 1, none⟩ uv') := by
  have hlt := RefP.lt ⟨_, ts, rfl, h⟩
  obtain ⟨a1, a2, a3, a4, a5⟩ := h
  obtain ⟨A, B, e1, e2, e3⟩ := rtFoot_set (t' := { t with uv := uv', ups := u' }) ht
  have hbirth : t.birth = b ∧ t.ups = u := by
    rw [← a5, List.getElem?_map, ht] at hi
    simpa [rtTx] using hi
  simp only [blk, List.nodup_cons, List.mem_append, List.mem_singleton, not_or, List.cons_append, List.nil_append, List.mem_cons] at a1
  rw [e1] at a1
  simp only [List.nodup_append, List.mem_append, not_or] at a1
  obtain ⟨⟨n1, n2, n3, n4⟩, ⟨n5, n6, n7⟩, n8, ⟨n9, n10, n11⟩, n12⟩ := a1
  have hqlt := a2.lt
  have hglt : g < w.heap.size := hlt g (by simp [blk])
  have hAlt : ∀ x ∈ A, x < w.heap.size := fun x hx => hlt x (by rw [e1]; simp [hx])
  have hBlt : ∀ x ∈ B, x < w.heap.size := fun x hx => hlt x (by rw [e1]; simp [hx])
  have hgv : g ∉ blk uv' := fun hx => by rcases hb g hx with h | h; exact n6 h; omega
  have hqv : qb ∉ blk uv' := fun hx => by rcases hb qb hx with h | h; exact n3 h; omega
  have hset := (a3.off hoff (by intro x hx; simp [blk] at hx; subst hx; exact n6)).set (i * 2 + 1) uv'
  rw [← Nat.add_assoc, rtCells_set ts i t { t with uv := uv', ups := u' } ht rfl] at hset
  refine ⟨rfl, _, ⟨.slice (some ⟨g, off, none⟩) ts.length cap, ts.set i { t with uv := uv', ups := u' }, rfl, ⟨?_, ?_, ?_, ?_, ?_⟩⟩, ?_, ?_⟩
  rotate_left 5
  · exact ((hoff.mono (fun x hx => .inl (by rw [e1]; simp [hx]))).setCell (.inl (by simp [blk])) uv')
  · intro x hx
    rw [e2] at hx
    rw [e1]
    simp only [List.mem_cons, List.mem_append, List.length_set] at hx ⊢
    rcases hx with hx | hx | hx | hx | hx
    · exact .inl (.inl hx)
    · exact .inl (.inr (.inl hx))
    · exact .inl (.inr (.inr (.inl hx)))
    · rcases hb x hx with h | h
      · exact .inl (.inr (.inr (.inr (.inl h))))
      · exact .inr h
    · exact .inl (.inr (.inr (.inr (.inr hx))))
  · rw [e2]
    simp only [blk, List.nodup_cons, List.mem_append, List.mem_singleton, not_or, List.cons_append, List.nil_append, List.mem_cons, List.nodup_append]
    refine ⟨⟨n1, n2, hqv, n4⟩, ⟨n5, hgv, n7⟩, n8, ⟨blk_nodup _, n10, ?_⟩, ?_⟩
    · intro x hx y hy e
      subst e
      rcases hb x hx with h | h
      · exact n11 x h x hy rfl
      · have := hBlt x hy; omega
    · intro x hx y hy e
      subst e
      rcases hy with hy | hy
      · rcases hb x hy with h | h
        · exact n12 x hx x (.inl h) rfl
        · have := hAlt x hx; omega
      · exact n12 x hx x (.inr hy) rfl
  · exact (a2.off hoff n3).setCell _ _ n1
  · rw [List.length_set]; exact hset
  · intro x hx
    obtain ⟨j, hjx⟩ := List.getElem?_of_mem hx
    rw [List.getElem?_set] at hjx
    by_cases hij : i = j
    · subst hij
      rw [if_pos rfl] at hjx
      split at hjx
      · obtain rfl := Option.some.inj hjx
        exact ho.setCell _ _ hgv
      · cases hjx
    · rw [if_neg hij] at hjx
      have hxm := List.mem_of_getElem? hjx
      have hfr : ∀ y ∈ blk x.uv, y ∈ A ∨ y ∈ B := by
        exact fun y hy => e3 j x hij hjx y hy
      refine ((a4 x hxm).off hoff ?_).setCell _ _ ?_
      · intro y hy hy'
        rcases hfr y hy with h | h
        · exact n12 y h y (.inl hy') rfl
        · exact n11 y hy' y h rfl
      · intro hy
        rcases hfr _ hy with h | h
        · exact n5 h
        · exact n7 h
  · rw [List.map_set, a5, mput_set hi hj]
    simp [rtTx, hbirth.1]

set_option maxRecDepth 100000 in
set_option maxHeartbeats 2000000 in
theorem updateR_any (qb : Nat) (fp : List Nat) (area b x : Int) (L : Txns) (n : Nat) (w : World) (h : RefP w qb fp area L) (hw : Wf L n) :
    Calls Try.prog 45 #[.pointer (some ⟨qb, 0, none⟩), .int .i64 b, .int .i64 x] w (RefStep qb fp area (rUpdate L b x) w) := by
  have HA := Lib.hid (at_any qb fp area b L w h hw.len)
  have HS := Lib.hid (fun n => RefStep.same (n := n) h)
  obtain ⟨Lv, ts, rfl, hat⟩ := h
  have a2 := hat.head
  have c := a2.reads
  rcases pos_spec L b with ⟨h1, h2, _⟩ | ⟨i, u, h1, h2, h3, h4⟩
  · have e1 : posI L b = -1 := by simp [posI, h1]
    have e2 : rUpdate L b x = (160, L) := by simp [rUpdate, h2]
    rw [e1] at HA
    rw [e2]
    clear h1 h2 hat hw e1 e2
    go_enter Try.func45, Try.ntmps45
    go_wp2_with fail
    refine HA.out.mono ?_
    rintro e w1 ⟨rfl, rfl⟩
    go_wp2_with fail
    go_ret
    exact HS.out 160
  · have e1 : posI L b = i := by simp [posI, h1]
    rw [e1] at HA
    by_cases hx : x < 1 ∨ 65535 < x
    · have e2 : rUpdate L b x = (30, L) := by simp only [rUpdate, h3, if_pos hx]
      rw [e2]
      clear h1 h2 h3 h4 hat hw e1 e2
      rcases hx with hx | hx
      all_goals
        go_enter Try.func45, Try.ntmps45
        go_wp2_with fail
        refine HA.out.mono ?_
        rintro e w1 ⟨rfl, rfl⟩
        go_wp2_with fail
        go_ret
        exact HS.out 30
    · have e2 : rUpdate L b x = (0, mput L b (u ++ [x])) := by simp only [rUpdate, h3, if_neg hx]
      rw [e2]
      obtain ⟨g, off, cap, t, rfl, ht, hil, hlen, hb, hu, hc1, hc2, hown⟩ := hat.view h2
      have hmc := mem_cnt (List.mem_of_getElem? h2)
      have hcn := hw.cnt
      have hsm := hw.small
      have hln := hw.len
      have hiN : ts.length < 4398046511104 := by omega
      have hx1 : ¬ x < 1 := by omega
      have hx2 : ¬ 65535 < x := by omega
      have HOWN := Lib.hid hown
      have HB := Lib.hid (show (u.length + 1) * 8 ≤ 140737488355328 by simp only at hmc; omega)
      obtain ⟨uao, ucap, huv, hune⟩ := hown.val
      rw [huv] at hc2 HOWN
      have hgq : g ≠ qb ∧ g ∉ blk t.uv ∧ qb ∉ blk t.uv := by
        have hn := hat.nodup
        simp only [blk, List.nodup_cons, List.mem_append, List.mem_singleton, not_or, List.cons_append, List.nil_append, List.mem_cons] at hn
        have hm : ∀ y ∈ blk t.uv, y ∈ rtFoot ts := fun y hy => mem_rtFoot.2 ⟨t, List.mem_of_getElem? ht, hy⟩
        exact ⟨fun e => hn.1.1 e.symm, fun hy => hn.2.1 (hm _ hy), fun hy => hn.1.2 (hm _ hy)⟩
      have hgf : w.frozen? ⟨g, off + i * 2 + 1, none⟩ = false := hat.rows.unfrozen _
      have hqc : w.cell? ⟨qb, 1, none⟩ = some (.slice (some ⟨g, off, none⟩) ts.length cap) := by rw [a2.cell]; rfl
      have K0 : Hid (w.cell? ⟨qb, 1, none⟩ = some (.slice (some ⟨g, off, none⟩) ts.length cap) ∧ w.cell? ⟨g, off + i * 2 + 1, none⟩ = some (.slice uao u.length ucap) ∧ w.frozen? ⟨g, off + i * 2 + 1, none⟩ = false) := ⟨hqc, hc2, hgf⟩
      have hgl : g < w.heap.size := World.block_lt_of_cell? w ⟨g, off + i * 2 + 1, none⟩ hc2
      have hql := a2.lt
      have K1 : Hid (∀ w2, Off (blk t.uv) (w.alloc (.cells #[.int .i64 x] 3)).drew w2 → w2.cell? ⟨qb, 1, none⟩ = some (.slice (some ⟨g, off, none⟩) ts.length cap) ∧ w2.cell? ⟨g, off + i * 2 + 1, none⟩ = some (.slice uao u.length ucap) ∧ w2.frozen? ⟨g, off + i * 2 + 1, none⟩ = false) := by
        intro w2 ho
        have e1 : w2.heap[qb]? = w.heap[qb]? := (ho.old qb (by simp; omega) hgq.2.2).trans (Below.heap_alloc w _ qb hql)
        have e2 : w2.heap[g]? = w.heap[g]? := (ho.old g (by simp; omega) hgq.2.1).trans (Below.heap_alloc w _ g hgl)
        exact ⟨(World.cell?_of_block (a := ⟨qb, 1, none⟩) e1).trans hqc, (World.cell?_of_block (a := ⟨g, _, none⟩) e2).trans hc2, (World.frozen?_of_block (a := ⟨g, _, none⟩) e2).trans hgf⟩
      have K2 : Hid (∀ o, (w.alloc o).drew.cell? ⟨qb, 1, none⟩ = some (.slice (some ⟨g, off, none⟩) ts.length cap) ∧ (w.alloc o).drew.cell? ⟨g, off + i * 2 + 1, none⟩ = some (.slice uao u.length ucap) ∧ (w.alloc o).drew.frozen? ⟨g, off + i * 2 + 1, none⟩ = false) := by
        intro o
        exact ⟨(World.cell?_alloc_lt w o ⟨qb, 1, none⟩ hql).trans hqc, (World.cell?_alloc_lt w o ⟨g, off + i * 2 + 1, none⟩ hgl).trans hc2, (World.frozen?_alloc_old w o ⟨g, off + i * 2 + 1, none⟩ (Nat.ne_of_lt hgl)).trans hgf⟩
      have HP : Hid (∀ ao2 cap2 w2, Own w2 3 1 (.slice ao2 (u.length + 1) cap2) (u.length + 1) (ints u ++ [.int .i64 x]) → Off (blk t.uv) (w.alloc (.cells #[.int .i64 x] 3)).drew w2 →
          (blk (.slice ao2 (u.length + 1) cap2) = blk t.uv ∨ blk (.slice ao2 (u.length + 1) cap2) = [w.heap.size + 1]) →
          RefStep qb (qb :: (blk (.slice (some ⟨g, off, none⟩) ts.length cap) ++ rtFoot ts)) area (0, mput L b (u ++ [x])) w (.returned (.int .i64 0)) (w2.setCell ⟨g, off + i * 2 + 1, none⟩ (.slice ao2 (u.length + 1) cap2))) := by
        intro ao2 cap2 w2 ho hoff hb2
        refine changeR_post (u' := u ++ [x]) hat h2 h4 ht (by simpa [ints] using ho) (((Off.refl [] w).alloc _).drew.mono (T := blk t.uv) (by simp) |>.trans hoff (fun y hy => .inl hy)) ?_
        intro y hy
        rcases hb2 with e | e <;> rw [e] at hy
        · exact .inl hy
        · simp at hy; exact .inr (by omega)
      have KS : Hid (∀ (W : World) (v : Value), (W.setCell ⟨g, off + i * 2 + 1, none⟩ v).cell? ⟨qb, 1, none⟩ = W.cell? ⟨qb, 1, none⟩) := fun W v => World.cell?_setCell_other W _ _ v (fun e => hgq.1 (by simpa using congrArg Addr.block e))
      rw [huv] at K1 HP
      clear hgq
      clear h1 h2 h3 h4 hat hw e1 e2 hx hb hu hc1 hmc hcn hsm hln huv hune ht hlen hown HS a2
      generalize hNN : ts.length = N at *
      clear hNN
      generalize hMM : u.length = M at *
      clear hMM
      go_enter Try.func45, Try.ntmps45
      go_wp2_with fail
      refine HA.out.mono ?_
      rintro e w1 ⟨rfl, rfl⟩
      clear HA
      go_wp2_with fail
      go_region_law (first | (refine step_app (v := .slice uao M ucap) rfl _ _ 51 51 rfl rfl (HOWN.out.alloc _).drew Try.underlying51 info3 rfl (by decide) rfl (src_new w.drew #[.int .i64 x] 1 Try.underlying51 (by decide) rfl (by simp [Value.oneCell'])) HB.out ?_; intro ao2 cap2 w2 ho hoff hb; obtain ⟨k1, k2, k3⟩ := K1.out _ hoff))
      all_goals
        have H := Lib.hid (HP.out _ _ _ ho hoff (by simpa using hb))
        clear ho hoff hb K0 K1 K2 HP
        go_wp2_with fail
        go_ret
        exact H.out
end Go.Proofs.Ytlhmcbcoaplcaaa
