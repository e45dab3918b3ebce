/- played: the walk. -/
import Derived.Test.YtlhmcbcoaplcaaaPlayA
set_option linter.unusedVariables false
set_option linter.unusedSimpArgs false
namespace Go.Proofs.Ytlhmcbcoaplcaaa
open Go.ChangeShapes Go.WideShapes Go.ChangeAt Go.RowKit

def updN (M : List Rw) (r : Rw) (code : Int) (k : Nat) : List Rw := if code = 0 then (M.take k).map (upd r) ++ M.drop k else M
theorem updN_len (M : List Rw) (r : Rw) (code : Int) (k : Nat) : (updN M r code k).length = M.length := by
  unfold updN; split
  · rw [List.length_append, List.length_map, List.length_take, List.length_drop]; omega
  · rfl
theorem updN_get (M : List Rw) (r : Rw) (code : Int) (k : Nat) : (updN M r code k)[k]? = M[k]? := by
  unfold updN; split
  · by_cases h : k < M.length
    · rw [List.getElem?_append_right (by simp; omega)]
      simp [List.length_take, Nat.min_eq_left (Nat.le_of_lt h)]
    · rw [List.getElem?_eq_none (by simp; omega), List.getElem?_eq_none (by omega)]
  · rfl
theorem updN_succ (M : List Rw) (r : Rw) (k : Nat) (x : Rw) (hx : M[k]? = some x) : updN M r 0 (k + 1) = (updN M r 0 k).set k (upd r x) := by
  have hk := (List.getElem?_eq_some_iff.1 hx).1
  have e : M[k] = x := (List.getElem?_eq_some_iff.1 hx).2
  unfold updN
  rw [if_pos rfl, if_pos rfl, List.take_add_one, hx, List.map_append]
  have hl : ((M.take k).map (upd r)).length = k := by simp; omega
  rw [List.set_append_right _ _ (by omega), hl, Nat.sub_self, ← List.getElem_cons_drop hk, e]
  simp
theorem updN_same (M : List Rw) (r : Rw) (k : Nat) (x : Rw) (hx : M[k]? = some x) (h : x.birth ≠ r.birth) : updN M r 0 (k + 1) = updN M r 0 k := by
  rw [updN_succ M r k x hx]
  have : upd r x = x := by unfold upd; rw [if_neg h]
  rw [this]
  have q := updN_get M r 0 k
  rw [hx] at q
  obtain ⟨hl, e⟩ := List.getElem?_eq_some_iff.1 q
  conv => rhs; rw [← List.set_getElem_self hl]
  rw [e]
theorem updN_zero (M : List Rw) (r : Rw) (code : Int) : updN M r code 0 = M := by unfold updN; split <;> simp
theorem updN_all (M : List Rw) (r : Rw) (code : Int) : updN M r code M.length = if code = 0 then M.map (upd r) else M := by unfold updN; split <;> simp

def stObj (t : St) : Array Value := #[.bool t.second, .int .i64 t.kind, .int .i64 t.r.birth, .int .i64 t.r.id, .int .i64 t.r.state, .int .i64 t.r.last, .int .i64 t.r.next, .int .i64 t.n]
def PlayIn (w : World) (tb most len : Nat) (lv i : Value) (wr : World) : Prop := ∃ k M, k ≤ len ∧ i = .int .i64 (k : Nat) ∧ PlayRel w tb most lv M wr
def SetIn (w : World) (tb most : Nat) (lv : Value) (M L' : List Rw) (t : St) (code : Int) (sb : Nat) (j : Value) (wr : World) : Prop :=
  ∃ k, k ≤ M.length ∧ j = .int .i64 (k : Nat) ∧ MidPlay w tb most lv (updN M t.r code k) L' wr ∧ IsC wr sb (stObj t) 72
def DropIn (w3 : World) (M : List Rw) (there : Bool) (n : Int) (rest j : Value) (wr : World) : Prop :=
  ∃ k ao cap, k ≤ M.length ∧ j = .int .i64 (k : Nat) ∧ rest = .slice ao ((M.take k).filter (keepB there n)).length cap ∧ Own wr 70 5 rest ((M.take k).filter (keepB there n)).length (rows ((M.take k).filter (keepB there n))) ∧ Off [] w3 wr ∧ ∀ z ∈ blk rest, w3.heap.size ≤ z

theorem SetIn.off {w wr w' : World} {tb most : Nat} {lv : Value} {M L' : List Rw} {t : St} {code : Int} {sb : Nat} {j : Value} (h : SetIn w tb most lv M L' t code sb j wr) (ho : Off [] wr w') : SetIn w tb most lv M L' t code sb j w' := by
  obtain ⟨k, h1, h2, h3, h4⟩ := h
  exact ⟨k, h1, h2, h3.off ho, h4.off ho (by simp)⟩
/-- Behind a Put that was taken. -/
theorem put_append {w w3 : World} {tb most : Nat} {M L' : List Rw} {ao : Option Addr} {cap : Nat} (b i s l n : Int) (hm : MidPlay w tb most (.slice ao M.length cap) M L' w3) (hp : L'.Perm (M ++ [⟨b, i, s, l, n⟩])) :
    ∀ ao4 cap4 w4, Own w4 70 5 (.slice ao4 (M.length + 1) cap4) (M.length + 1) (rows M ++ rcells ⟨b, i, s, l, n⟩) → Off (blk (.slice ao M.length cap)) (w3.alloc (.cells #[.int .i64 b, .int .i64 i, .int .i64 s, .int .i64 l, .int .i64 n] 70)) w4 →
      (blk (.slice ao4 (M.length + 1) cap4) = blk (.slice ao M.length cap) ∨ blk (.slice ao4 (M.length + 1) cap4) = [w3.heap.size + 1]) → PlayRel w tb most (.slice ao4 (M.length + 1) cap4) (M ++ [⟨b, i, s, l, n⟩]) w4 := by
  intro ao4 cap4 w4 q1 q2 q3
  refine (MidPlay.turn (M' := M ++ [⟨b, i, s, l, n⟩]) (hm.off ((Off.refl [] _).alloc _)) q2 (fun z hz => .inl hz) ?_ (fun z hz => ?_)).done hp
  · rw [List.length_append, rows_append]; simpa [rows] using q1
  · rcases q3 with q | q <;> rw [q] at hz
    · exact .inl hz
    · simp at hz; exact .inr (by simp; omega)

theorem SetIn.start {w w3 : World} {tb most : Nat} {lv : Value} {M L' : List Rw} {t : St} {code : Int} {sb : Nat} (hm : MidPlay w tb most lv M L' w3) (hc : IsC w3 sb (stObj t) 72) : SetIn w tb most lv M L' t code sb (.int .i64 0) w3 :=
  ⟨0, Nat.zero_le _, rfl, by rw [updN_zero]; exact hm, hc⟩
theorem SetIn.store {w wr : World} {tb most : Nat} {g off cap : Nat} {M L' : List Rw} {t : St} {sb k : Nat} {x : Rw} (hk : k < M.length) (hx : M[k]? = some x) (he : x.birth = t.r.birth)
    (hm : MidPlay w tb most (.slice (some ⟨g, off, none⟩) M.length cap) (updN M t.r 0 k) L' wr) (hc : IsC wr sb (stObj t) 72) (hsb : sb ≠ g) (W : World) (ho : Off [] wr W) :
    SetIn w tb most (.slice (some ⟨g, off, none⟩) M.length cap) M L' t 0 sb (.int .i64 ((k : Int) + 1))
      (((((W.setCell ⟨g, off + k * 5, none⟩ (.int .i64 t.r.birth)).setCell ⟨g, off + k * 5 + 1, none⟩ (.int .i64 t.r.id)).setCell ⟨g, off + k * 5 + 2, none⟩ (.int .i64 t.r.state)).setCell ⟨g, off + k * 5 + 3, none⟩ (.int .i64 t.r.last)).setCell ⟨g, off + k * 5 + 4, none⟩ (.int .i64 t.r.next)) := by
  have hmW := hm.off ho
  have hown := hmW.own
  rw [updN_len] at hown
  have q := own_put5 hown k hk (.int .i64 t.r.birth) (.int .i64 t.r.id) (.int .i64 t.r.state) (.int .i64 t.r.last) (.int .i64 t.r.next)
  have e : [Value.int .i64 t.r.birth, .int .i64 t.r.id, .int .i64 t.r.state, .int .i64 t.r.last, .int .i64 t.r.next] = rcells t.r := rfl
  rw [e, ← rows_setAt _ k _ (by rw [updN_len]; exact hk)] at q
  have hu : upd t.r x = t.r := by unfold upd; rw [if_pos he]
  have hs := updN_succ M t.r k x hx
  rw [hu] at hs
  rw [← hs] at q
  have hoff : Off (blk (.slice (some ⟨g, off, none⟩) M.length cap)) W _ := (((((Off.refl _ W).setCell (p := ⟨g, off + k * 5, none⟩) (.inl (by simp [blk])) (.int .i64 t.r.birth)).setCell (p := ⟨g, off + k * 5 + 1, none⟩) (.inl (by simp [blk])) (.int .i64 t.r.id)).setCell (p := ⟨g, off + k * 5 + 2, none⟩) (.inl (by simp [blk])) (.int .i64 t.r.state)).setCell (p := ⟨g, off + k * 5 + 3, none⟩) (.inl (by simp [blk])) (.int .i64 t.r.last)).setCell (p := ⟨g, off + k * 5 + 4, none⟩) (.inl (by simp [blk])) (.int .i64 t.r.next)
  exact ⟨k + 1, by omega, by push_cast; rfl, hmW.turn hoff (fun z hz => .inl hz) (by rw [updN_len]; exact q) (fun z hz => .inl hz), (IsC.off (S := []) hc ho (by simp)).off hoff (by simp [blk]; exact hsb)⟩
theorem SetIn.done {w wr : World} {tb most : Nat} {lv : Value} {M L' : List Rw} {t : St} {code : Int} (hm : MidPlay w tb most lv (updN M t.r code M.length) L' wr) (h1 : code ≠ 0 → L'.Perm M) (h2 : code = 0 → L'.Perm (M.map (upd t.r))) :
    ∃ M', PlayRel w tb most lv M' wr := by
  refine ⟨_, hm.done ?_⟩
  rw [updN_all]
  split
  · rename_i h; exact h2 h
  · rename_i h; exact h1 h
theorem DropIn.done {w w3 wr : World} {tb most : Nat} {lv rest : Value} {M L' : List Rw} {there : Bool} {n : Int} {ao : Option Addr} {cap : Nat} (hm : MidPlay w tb most lv M L' w3) (hp : L'.Perm (M.filter (keepB there n)))
    (hr : Own wr 70 5 rest ((M.take M.length).filter (keepB there n)).length (rows ((M.take M.length).filter (keepB there n)))) (ho : Off [] w3 wr) (hf : ∀ z ∈ blk rest, w3.heap.size ≤ z) : PlayRel w tb most rest (M.filter (keepB there n)) wr := by
  rw [List.take_length] at hr
  exact (hm.turn ho (by simp) hr (fun z hz => .inr (hf z hz))).done hp
end Go.Proofs.Ytlhmcbcoaplcaaa
