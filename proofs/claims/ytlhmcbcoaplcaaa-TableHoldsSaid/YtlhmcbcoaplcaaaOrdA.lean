/- Plain laws: rows put the other way about, a row dropped and put again. -/
import Derived.Test.YtlhmcbcoaplcaaaPlayC
set_option linter.unusedVariables false
set_option linter.unusedSimpArgs false
namespace Go.Proofs.Ytlhmcbcoaplcaaa
open Go.ChangeShapes Go.WideShapes Go.ChangeAt Go.RowKit

abbrev Srt (L : List Rw) : Prop := L.Pairwise (fun a b => a.birth < b.birth)
theorem srt_nodup {L : List Rw} (h : Srt L) : L.Nodup := h.imp (fun {a b} q e => by rw [e] at q; omega)
theorem srt_perm_eq : ∀ {L M : List Rw}, L.Perm M → Srt L → Srt M → L = M
  | [], M, h, _, _ => (List.nil_perm.1 h).symm
  | a :: L, [], h, _, _ => by simp at h
  | a :: L, b :: M, h, h1, h2 => by
    obtain ⟨p1, p2⟩ := List.pairwise_cons.1 h1
    obtain ⟨q1, q2⟩ := List.pairwise_cons.1 h2
    have e : a = b := by
      rcases List.mem_cons.1 (h.mem_iff.1 (List.mem_cons_self (a := a) (l := L))) with e | m
      · exact e
      · rcases List.mem_cons.1 (h.mem_iff.2 (List.mem_cons_self (a := b) (l := M))) with e | n
        · exact e.symm
        · have := q1 a m; have := p1 b n; omega
    subst e
    rw [srt_perm_eq (List.Perm.cons_inv h) p2 q2]
theorem put_next {most : Nat} {L M Lu : List Rw} {I : List (Int × Int)} {j : Nat} {x : Rw} (hi : TInv most L I) (hp : L.Perm M) (hl : M.length ≤ 8) (hx : M[j]? = some x) (hu : Lu.Perm (M.drop (j + 1))) :
    putCode 8 Lu x = 0 ∧ (putL 8 Lu x).Perm (M.drop j) := by
  obtain ⟨hlt, rfl⟩ := List.getElem?_eq_some_iff.1 hx
  have hm : M[j] ∈ M := List.getElem_mem hlt
  have hn : M.Nodup := hp.nodup_iff.1 (srt_nodup hi.srt)
  have hnx : M[j] ∉ M.drop (j + 1) := fun h => by
    have q := hn
    rw [← List.take_append_drop j M] at q
    have q2 := (List.nodup_append.1 q).2.1
    rw [← List.getElem_cons_drop hlt] at q2
    exact (List.nodup_cons.1 q2).1 h
  have hin : ∀ y ∈ Lu, y ∈ L ∧ y ∈ M.drop (j + 1) := fun y hy => ⟨hp.mem_iff.2 (List.mem_of_mem_drop (hu.mem_iff.1 hy)), hu.mem_iff.1 hy⟩
  have hmL : M[j] ∈ L := hp.mem_iff.2 hm
  have h0 : putCode 8 Lu M[j] = 0 := by
    unfold putCode
    rw [if_neg (by rw [hi.right _ hmL]; simp), if_neg, if_neg]
    · have := hu.length_eq; rw [List.length_drop] at this; omega
    · simp only [Bool.or_eq_true, List.contains_iff_mem, List.mem_map, not_or, not_exists, not_and]
      refine ⟨fun y hy e => ?_, fun y hy e => ?_⟩
      · have := hi.births (hin y hy).1 hmL e; rw [this] at hy; exact hnx (hin _ hy).2
      · have := hi.ids (hin y hy).1 hmL e; rw [this] at hy; exact hnx (hin _ hy).2
  refine ⟨h0, ?_⟩
  unfold putL
  rw [if_pos h0, ← List.getElem_cons_drop hlt]
  exact (insB_perm _ _ _).trans (List.Perm.cons _ hu)
theorem drop_none {L : List Rw} {b : Int} (h : getL L b = none) : dropL L b = L := by
  unfold dropL; rw [if_neg]; rw [← getL_isSome, h]; simp
theorem drop_some {most : Nat} {L : List Rw} {I : List (Int × Int)} {b : Int} {r : Rw} (hi : TInv most L I) (h : getL L b = some r) :
    L.Perm (r :: dropL L b) ∧ getL (dropL L b) b = none ∧ idL (dropL L b) r.id = none ∧ (dropL L b).length + 1 = L.length ∧ (L.length ≤ 8 → putCode 8 (dropL L b) r = 0) ∧ (Srt (putL 8 (dropL L b) r) → L.length ≤ 8 → putL 8 (dropL L b) r = L) := by
  obtain ⟨h1, h2⟩ := getL_pos hi.srt _ h
  obtain ⟨p1, p2⟩ := pos_parts L b hi.srt h1 h2
  have hs : (L.map Rw.birth).contains b = true := by rw [← getL_isSome, h]; rfl
  have hd : dropL L b = L.take (pos Rw.birth L b) ++ L.drop (pos Rw.birth L b + 1) := by unfold dropL; rw [if_pos hs]; rfl
  have hsp := split_at Rw.birth L b h1
  have hp : L.Perm (r :: dropL L b) := by
    rw [hd]; conv => lhs; rw [hsp]
    exact List.perm_middle
  have hr : r ∈ L := hp.mem_iff.2 List.mem_cons_self
  have hin : ∀ y ∈ dropL L b, y ∈ L ∧ y.birth ≠ b := fun y hy => by
    refine ⟨hp.mem_iff.2 (List.mem_cons_of_mem _ hy), fun e => ?_⟩
    rw [hd] at hy
    rcases List.mem_append.1 hy with q | q
    · have := p1 y q; omega
    · have := p2 y q; omega
  have hl : (dropL L b).length + 1 = L.length := by have := hp.length_eq; rw [List.length_cons] at this; exact this.symm
  have n1 : getL (dropL L b) b = none := by
    unfold getL; rw [List.find?_eq_none]; intro y hy q; exact (hin y hy).2 (by simpa using q)
  have n2 : idL (dropL L b) r.id = none := by
    unfold idL; rw [List.find?_eq_none]; intro y hy q
    have := hi.ids (hin y hy).1 hr (by simpa using q)
    exact (hin y hy).2 (by rw [this]; exact h2)
  have n3 : L.length ≤ 8 → putCode 8 (dropL L b) r = 0 := fun h8 => by
    unfold putCode
    rw [if_neg (by rw [hi.right _ hr]; simp), if_neg, if_neg (by omega)]
    rw [h2, ← getL_isSome, ← idL_isSome, n1, n2]; simp
  refine ⟨hp, n1, n2, hl, n3, fun hss h8 => srt_perm_eq ?_ hss hi.srt⟩
  unfold putL
  rw [if_pos (n3 h8)]
  exact (insB_perm _ _ _).trans hp.symm
end Go.Proofs.Ytlhmcbcoaplcaaa
