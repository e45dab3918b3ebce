/- TableFresh: what holds in its loops. -/
import Derived.Test.YtlhmcbcoaplcaaaAppB
set_option linter.unusedVariables false
set_option linter.unusedSimpArgs false
namespace Go.Proofs.Ytlhmcbcoaplcaaa
open Go.ChangeShapes Go.WideShapes Go.ChangeAt Go.RowKit

def marked (m : Rw) (L : List Rw) (k : Nat) : List Rw := List.replicate k m ++ L.drop k
theorem marked_len (m : Rw) (L : List Rw) (k : Nat) (h : k ≤ L.length) : (marked m L k).length = L.length := by
  unfold marked; rw [List.length_append, List.length_replicate, List.length_drop]; omega
theorem marked_succ (m : Rw) (L : List Rw) (k : Nat) (h : k < L.length) : (marked m L k).set k m = marked m L (k + 1) := by
  unfold marked
  rw [List.set_append_right _ _ (by simp), List.length_replicate, Nat.sub_self, ← List.getElem_cons_drop h, List.replicate_succ', List.append_assoc]
  rfl
theorem marked_all (m : Rw) (L : List Rw) : marked m L L.length = List.replicate L.length m := by unfold marked; simp
/-- A slice of rows that is being written over. -/
def MarkIn (W5 : World) (ao : Option Addr) (N ca : Nat) (m : Rw) (L : List Rw) (i : Value) (wr : World) : Prop :=
  ∃ k, k ≤ N ∧ i = .int .i64 (k : Nat) ∧ Own wr 70 5 (.slice ao N ca) N (rows (marked m L k)) ∧ Off (blk (.slice ao N ca)) W5 wr
theorem MarkIn.store {W5 wr : World} {g off N ca k : Nat} {m : Rw} {L : List Rw} (hN : L.length = N) (hk : k < N) (h1 : Own wr 70 5 (.slice (some ⟨g, off, none⟩) N ca) N (rows (marked m L k))) (h2 : Off (blk (.slice (some ⟨g, off, none⟩) N ca)) W5 wr) :
    MarkIn W5 (some ⟨g, off, none⟩) N ca m L (.int .i64 ((k : Int) + 1)) (((((wr.setCell ⟨g, off + k * 5, none⟩ (.int .i64 m.birth)).setCell ⟨g, off + k * 5 + 1, none⟩ (.int .i64 m.id)).setCell ⟨g, off + k * 5 + 2, none⟩ (.int .i64 m.state)).setCell ⟨g, off + k * 5 + 3, none⟩ (.int .i64 m.last)).setCell ⟨g, off + k * 5 + 4, none⟩ (.int .i64 m.next)) := by
  have q := own_put5 h1 k hk (.int .i64 m.birth) (.int .i64 m.id) (.int .i64 m.state) (.int .i64 m.last) (.int .i64 m.next)
  have e : [Value.int .i64 m.birth, .int .i64 m.id, .int .i64 m.state, .int .i64 m.last, .int .i64 m.next] = rcells m := rfl
  rw [e, ← rows_setAt _ k _ (by rw [marked_len _ _ _ (by omega)]; omega), marked_succ _ _ _ (by omega)] at q
  refine ⟨k + 1, by omega, by push_cast; rfl, q, (((((h2.setCell (p := ⟨g, off + k * 5, none⟩) (.inl (by simp [blk])) _).setCell (p := ⟨g, off + k * 5 + 1, none⟩) (.inl (by simp [blk])) _).setCell (p := ⟨g, off + k * 5 + 2, none⟩) (.inl (by simp [blk])) _).setCell (p := ⟨g, off + k * 5 + 3, none⟩) (.inl (by simp [blk])) _).setCell (p := ⟨g, off + k * 5 + 4, none⟩) (.inl (by simp [blk])) _)⟩
theorem own_cells {w : World} {ao : Option Addr} {N cap k : Nat} {l : List Rw} (h : Own w 70 5 (.slice ao N cap) N (rows l)) (hl : l.length = N) (hk : k < N) :
    ∃ g off x, ao = some ⟨g, off, none⟩ ∧ l[k]? = some x ∧ w.cell? ⟨g, off + k * 5, none⟩ = some (.int .i64 x.birth) ∧ w.cell? ⟨g, off + k * 5 + 1, none⟩ = some (.int .i64 x.id) ∧
      w.cell? ⟨g, off + k * 5 + 2, none⟩ = some (.int .i64 x.state) ∧ w.cell? ⟨g, off + k * 5 + 3, none⟩ = some (.int .i64 x.last) ∧ w.cell? ⟨g, off + k * 5 + 4, none⟩ = some (.int .i64 x.next) := by
  subst hl
  obtain ⟨ao', cap', hv, hc⟩ := own_rows h
  injection hv with e _
  obtain ⟨g, off, e2, q⟩ := hc k _ (List.getElem?_eq_getElem hk)
  exact ⟨g, off, _, e.trans e2, List.getElem?_eq_getElem hk, q⟩

/-- Both lists as they are lengthened. -/
def Both (W7 wr : World) (ao : Option Addr) (ca : Nat) (bo : Option Addr) (cb N : Nat) (m1 m2 : Rw) (k j : Nat) (co : Option Addr) (cc : Nat) (eo : Option Addr) (ec : Nat) : Prop :=
  Ext W7 wr ao N ca m1 k co cc ∧ Ext W7 wr bo N cb m2 j eo ec ∧ (∀ z ∈ blk (.slice co (N + k) cc), z ∉ blk (.slice eo (N + j) ec)) ∧ (∀ z ∈ blk (.slice ao N ca), z ∉ blk (.slice bo N cb)) ∧ Off (blk (.slice ao N ca) ++ blk (.slice bo N cb)) W7 wr
theorem Both.swap {W7 wr : World} {ao bo co eo : Option Addr} {ca cb N k j cc ec : Nat} {m1 m2 : Rw} (h : Both W7 wr ao ca bo cb N m1 m2 k j co cc eo ec) : Both W7 wr bo cb ao ca N m2 m1 j k eo ec co cc := by
  obtain ⟨h1, h2, h3, h4, h5⟩ := h
  exact ⟨h2, h1, fun z hz hz' => h3 z hz' hz, fun z hz hz' => h4 z hz' hz, h5.mono (fun z hz => .inl (by simp at hz ⊢; exact hz.symm))⟩
theorem Both.off {W7 wr w' : World} {ao bo co eo : Option Addr} {ca cb N k j cc ec : Nat} {m1 m2 : Rw} (h : Both W7 wr ao ca bo cb N m1 m2 k j co cc eo ec) (ho : Off [] wr w') : Both W7 w' ao ca bo cb N m1 m2 k j co cc eo ec := by
  obtain ⟨h1, h2, h3, h4, h5⟩ := h
  exact ⟨h1.off ho (by simp) (by simp), h2.off ho (by simp) (by simp), h3, h4, h5.trans ho (by simp)⟩
theorem Both.start {W7 : World} {ao bo : Option Addr} {ca cb N : Nat} {m1 m2 : Rw} (h1 : Own W7 70 5 (.slice ao N ca) N (rows (List.replicate N m1))) (h2 : Own W7 70 5 (.slice bo N cb) N (rows (List.replicate N m2))) (hd : ∀ z ∈ blk (.slice ao N ca), z ∉ blk (.slice bo N cb)) :
    Both W7 W7 ao ca bo cb N m1 m2 0 0 ao ca bo cb := ⟨Ext.start h1, Ext.start h2, hd, hd, Off.refl _ _⟩
theorem Both.first {W7 wr w' : World} {ao bo co eo co' : Option Addr} {ca cb N k j cc ec cc' : Nat} {m1 m2 : Rw} (h : Both W7 wr ao ca bo cb N m1 m2 k j co cc eo ec)
    (h1 : Own w' 70 5 (.slice co' (N + k + 1) cc') (N + k + 1) (rows (List.replicate (N + k) m1) ++ rcells m1)) (h2 : Gone wr w' co (N + k) cc co' (N + k + 1) cc') :
    Both W7 w' ao ca bo cb N m1 m2 (k + 1) j co' cc' eo ec := by
  obtain ⟨q1, q2, q3, q4, q5⟩ := h
  have hs := q5.size
  obtain ⟨r1, r2, r3⟩ := q1.app hs h1 h2
  have hin : ∀ z ∈ blk (.slice co (N + k) cc), z ∈ blk (.slice ao N ca) ∨ W7.heap.size ≤ z := fun z hz => by
    rcases q1.2.2.2 with ⟨rfl, rfl⟩ | q
    · exact .inl (by rw [blk_ext (m := N) (d := cc)] at hz; exact hz)
    · exact .inr (q z hz)
  have hlt := q2.2.1.lt
  refine ⟨r1, q2.off r2 (fun z hz hz' => ?_) (fun z hz hz' => q3 z hz' hz), fun z hz hz' => ?_, q4, q5.trans r2 (fun z hz => ?_)⟩
  · rcases hin z hz' with q | q
    · exact q4 z q hz
    · have := q2.2.2.1 z hz; omega
  · rcases r3 z hz with q | q
    · exact q3 z q hz'
    · have := hlt z hz'; omega
  · rcases hin z hz with q | q
    · exact .inl (by simp [q])
    · exact .inr q
theorem Both.second {W7 wr w' : World} {ao bo co eo eo' : Option Addr} {ca cb N k j cc ec ec' : Nat} {m1 m2 : Rw} (h : Both W7 wr ao ca bo cb N m1 m2 k j co cc eo ec)
    (h1 : Own w' 70 5 (.slice eo' (N + j + 1) ec') (N + j + 1) (rows (List.replicate (N + j) m2) ++ rcells m2)) (h2 : Gone wr w' eo (N + j) ec eo' (N + j + 1) ec') :
    Both W7 w' ao ca bo cb N m1 m2 k (j + 1) co cc eo' ec' := (h.swap.first h1 h2).swap
def Rw.mark (x : Int) : Rw := ⟨0, x, 0, 0, 0⟩
end Go.Proofs.Ytlhmcbcoaplcaaa
