/- TableHolds: plain laws. -/
import Derived.Test.YtlhmcbcoaplcaaaFreA
set_option linter.unusedVariables false
set_option linter.unusedSimpArgs false
namespace Go.Proofs.Ytlhmcbcoaplcaaa
open Go.ChangeShapes Go.WideShapes Go.ChangeAt Go.RowKit

/-- No row of these has the birth or the id of r. -/
def freshB (r : Rw) (L : List Rw) : Bool := L.all (fun x => x.birth != r.birth && x.id != r.id)
/-- Is x among the first k? -/
def thereB (M : List Rw) (x : Rw) (k : Nat) : Bool := decide (x ∈ M.take k)
theorem freshB_succ (r : Rw) (L : List Rw) (k : Nat) (x : Rw) (h : L[k]? = some x) : freshB r (L.take (k + 1)) = (freshB r (L.take k) && (x.birth != r.birth && x.id != r.id)) := by
  unfold freshB; rw [List.take_add_one, h, List.all_append]; simp
theorem thereB_succ (M : List Rw) (x : Rw) (k : Nat) (y : Rw) (h : M[k]? = some y) : thereB M x (k + 1) = (thereB M x k || decide (y = x)) := by
  unfold thereB; rw [List.take_add_one, h, Bool.eq_iff_iff]
  simp only [decide_eq_true_eq, Bool.or_eq_true, List.mem_append, Option.toList, List.mem_singleton]
  exact or_congr_right ⟨Eq.symm, Eq.symm⟩
theorem thereB_all (M L : List Rw) (h : L.Perm M) (x : Rw) (hx : x ∈ L) : thereB M x M.length = true := by
  unfold thereB; rw [List.take_length]; simpa using h.mem_iff.1 hx
theorem birth_lt {L : List Rw} (h : Srt L) {k : Nat} {x y : Rw} (hx : L[k + 1]? = some x) (hy : L[k]? = some y) : y.birth < x.birth := by
  obtain ⟨h1, rfl⟩ := List.getElem?_eq_some_iff.1 hx
  obtain ⟨h2, rfl⟩ := List.getElem?_eq_some_iff.1 hy
  exact List.pairwise_iff_getElem.1 h k (k + 1) h2 h1 (by omega)
theorem id_ne {most : Nat} {L : List Rw} {I : List (Int × Int)} (h : TInv most L I) {k j : Nat} {x y : Rw} (hx : L[k]? = some x) (hy : L[j]? = some y) (hn : j ≠ k) : y.id ≠ x.id := by
  intro e
  have hmx := List.mem_of_getElem? hx
  have hmy := List.mem_of_getElem? hy
  have := h.ids hmy hmx e
  subst this
  obtain ⟨h1, e1⟩ := List.getElem?_eq_some_iff.1 hx
  obtain ⟨h2, e2⟩ := List.getElem?_eq_some_iff.1 hy
  rcases Nat.lt_trichotomy j k with q | q | q
  · have := List.pairwise_iff_getElem.1 h.srt j k h2 h1 q; rw [e1, e2] at this; omega
  · exact hn q
  · have := List.pairwise_iff_getElem.1 h.srt k j h1 h2 q; rw [e1, e2] at this; omega
theorem getL_mem {most : Nat} {L : List Rw} {I : List (Int × Int)} (h : TInv most L I) {x : Rw} (hx : x ∈ L) : getL L x.birth = some x :=
  find_unique hx (by simp) (fun b hb hb' => h.births hb hx (by simpa using hb'))
theorem idL_mem {most : Nat} {L : List Rw} {I : List (Int × Int)} (h : TInv most L I) {x : Rw} (hx : x ∈ L) : idL L x.id = some x :=
  find_unique hx (by simp) (fun b hb hb' => h.ids hb hx (by simpa using hb'))
theorem fresh_has (r : Rw) (L : List Rw) : freshB r L = !((L.map Rw.birth).contains r.birth || (L.map Rw.id).contains r.id) := by
  rw [Bool.eq_iff_iff]
  simp only [freshB, List.all_eq_true, Bool.and_eq_true, bne_iff_ne, ne_eq, Bool.not_eq_true', Bool.or_eq_false_iff, List.contains_eq_mem, decide_eq_false_iff_not, List.mem_map, not_exists, not_and]
  exact ⟨fun h => ⟨fun x hx => (h x hx).1, fun x hx => (h x hx).2⟩, fun h x hx => ⟨h.1 x hx, h.2 x hx⟩⟩
/-- What a further Put answers. -/
theorem put_says (most : Nat) (L : List Rw) (r : Rw) (hl : L.length ≤ most) :
    putCode most L r = if rightR r = false then 30 else if freshB r L = false then 160 else if L.length = most then 161 else 0 := by
  unfold putCode
  rw [fresh_has]
  by_cases h1 : rightR r = false
  · rw [if_pos h1, if_pos h1]
  · rw [if_neg h1, if_neg h1]
    by_cases h2 : ((L.map Rw.birth).contains r.birth || (L.map Rw.id).contains r.id) = true
    · rw [if_pos h2, if_pos (by rw [h2]; rfl)]
    · have h2' : ¬ ((!((L.map Rw.birth).contains r.birth || (L.map Rw.id).contains r.id)) = false) := by simpa using h2
      rw [if_neg h2, if_neg h2']
      by_cases h3 : L.length = most
      · rw [if_pos (by omega), if_pos h3]
      · rw [if_neg (by omega), if_neg h3]
theorem put_get {most : Nat} {L : List Rw} {r : Rw} {I : List (Int × Int)} (h : putCode most L r = 0) (hi : TInv most (putL most L r) I) : getL (putL most L r) r.birth = some r ∧ (putL most L r).length = L.length + 1 := by
  have e : putL most L r = insB Rw.birth L r := by unfold putL; rw [if_pos h]
  refine ⟨getL_mem hi ?_, by rw [e, insB_len]⟩
  rw [e]; exact (insB_perm _ _ _).mem_iff.2 List.mem_cons_self
end Go.Proofs.Ytlhmcbcoaplcaaa
