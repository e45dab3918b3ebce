/- copy between slices of elements of any size; append of zeros; over blocks that the call owns. -/
import Derived.Test.YtlhmcbcoaplcaaaVec
import Derived.Lib.AppendZeros
import Derived.Lib.Overlaps
import Derived.Laws.IdiomCopy
set_option linter.unusedVariables false
set_option linter.unusedSimpArgs false
namespace Go.Proofs.Ytlhmcbcoaplcaaa
open Go.RowKit

theorem run_copy_sz {P : Program} (w : World) (dT sT ty elem : TypeId) (sz b o dLen dCap : Nat) (a : Addr) (sLen sCap : Nat) (cs : List Value)
    (hu : P.underlying dT = some (.slice elem)) (hs : (P.info? elem).map (·.size) = some sz) (hn : cs.length = Nat.min sLen dLen * sz)
    (hsrc : ∀ j v, cs[j]? = some v → w.cell? (a.add j) = some v) (hc : ∀ j, j < cs.length → (w.cell? ⟨b, o + j, none⟩).isSome = true) (hf : ∀ j, j < cs.length → w.frozen? ⟨b, o + j, none⟩ = false) (h1 : ∀ v ∈ cs, v.oneCell' = true) :
    (Builtin.copy_ #[dT, sT] ty #[.slice (some ⟨b, o, none⟩) dLen dCap, .slice (some a) sLen sCap]).run P w = .ok (goInt (Nat.min sLen dLen)) (w.setCells b o cs) := by
  have hl := run_loadCells_list (P := P) w a cs hsrc
  have hst := run_storeCells_cells (P := P) b o cs 0 w (by simpa using hc) (by simpa using hf) h1
  cases hq : P.info? elem with
  | none => simp [hq] at hs
  | some i =>
    have hi : i.size = sz := by simpa [hq] using hs
    simp [Builtin.copy_, run_underlying hu, Builtin.lenOf, Builtin.firstCells, sizeOf, typeInfo, hq, hi, ← hn, hl, hst]

section
variable {P : Program} {w : World} {ops : Array Oper} {o : Oper} {a : Act} {K : Act → World → Prop} {Q : Exit → Act → World → Prop} {E : Prop} {rest : List Oper}
/-- The operation, where its run is known. -/
theorem op_copy (d s : Operand) (t t' : TypeId) (ho : o.op = .call { callee := .builtin .copy, args := #[d, s], argTypes := #[t, t'] }) (v u : Value) (hd : a.eval d = v) (hs : a.eval s = u) {v' : Value} {w' : World}
    (hr : ∀ ty, (Builtin.copy_ #[t, t'] ty #[v, u]).run P w = .ok v' w') (h : K (a.put o.dst v') w') : o.wp P a w K Q := by
  unfold Oper.wp execOp
  simp only [ho, resolve, invoke, builtin, Sem.run_bind, Sem.run_pure, Result.andThen_ok, List.map_toArray, List.map_cons, List.map_nil, hd, hs, hr]
  exact h
theorem wp_copy (hgd : o.guard = none) (d s : Operand) (t t' : TypeId) (ho : o.op = .call { callee := .builtin .copy, args := #[d, s], argTypes := #[t, t'] }) (v u : Value) (hd : a.eval d = v) (hs : a.eval s = u) {v' : Value} {w' : World}
    (hr : ∀ ty, (Builtin.copy_ #[t, t'] ty #[v, u]).run P w = .ok v' w') (h : wpList P ops Q rest (a.put o.dst v') w') : wpList P ops Q (o :: rest) a w :=
  wpList_plain hgd fun _ hK => op_copy d s t t' ho v u hd hs hr (hK _ _ h)
theorem step_copy (hgd : o.guard = none) (d s : Operand) (t t' : TypeId) (ho : o.op = .call { callee := .builtin .copy, args := #[d, s], argTypes := #[t, t'] }) (v u : Value) (hd : a.eval d = v) (hs : a.eval s = u) {v' : Value} {w' : World}
    (hr : ∀ ty, (Builtin.copy_ #[t, t'] ty #[v, u]).run P w = .ok v' w') (h : K (a.put o.dst v') w') : if Region.wanted o (yielded ops a.tmps) = true then Oper.wp P o a w K Q else E := by
  have hw : Region.wanted o (yielded ops a.tmps) = true := by simp [Region.wanted, hgd]
  rw [if_pos hw]
  exact op_copy d s t t' ho v u hd hs hr h
end

/-- copy into a block that the call owns: the block's new content. -/
theorem run_copy_blk {P : Program} {w : World} {g : Nat} {cur : Array Value} {e : TypeId} (h : IsC w g cur e) (dT sT : TypeId) (sz o dLen dCap : Nat) (a : Addr) (sLen sCap : Nat) (cs : List Value)
    (hu : P.underlying dT = some (.slice e)) (hs : (P.info? e).map (·.size) = some sz) (hn : cs.length = Nat.min sLen dLen * sz)
    (hsrc : ∀ j v, cs[j]? = some v → w.cell? (a.add j) = some v) (hfit : o + cs.length ≤ cur.size) (h1 : ∀ v ∈ cs, v.oneCell' = true) :
    (∀ ty, (Builtin.copy_ #[dT, sT] ty #[.slice (some ⟨g, o, none⟩) dLen dCap, .slice (some a) sLen sCap]).run P w = .ok (goInt (Nat.min sLen dLen)) (w.setCells g o cs)) ∧ IsC (w.setCells g o cs) g (splice cur.toList o cs).toArray e :=
  ⟨fun ty => run_copy_sz w dT sT ty e sz g o dLen dCap a sLen sCap cs hu hs hn hsrc (fun j hj => by rw [h.cell, Array.getElem?_eq_getElem (by omega)]; rfl) (fun j hj => h.unfrozen _) h1, isC_setCells cs o w cur h hfit⟩

/-- Inserting into a row of cells: what 'copy' upwards and then 'copy' of the news leave. -/
theorem splice_insert {α : Type} (L : List α) (off i n : Nat) (news : List α) (hi : i ≤ n) (hL : off + n + news.length ≤ L.length) :
    ((splice (splice L (off + i + news.length) (((L.drop off).take n).drop i)) (off + i) news).drop off).take (n + news.length) = ((L.drop off).take n).take i ++ (news ++ ((L.drop off).take n).drop i) := by
  have hxs : ((L.drop off).take n).length = n := by rw [List.length_take, List.length_drop]; omega
  have htl : (((L.drop off).take n).drop i).length = n - i := by rw [List.length_drop, hxs]
  generalize hX : ((L.drop off).take n).drop i = X at *
  have ll1 : (L.take (off + i + news.length)).length = off + i + news.length := by rw [List.length_take]; omega
  have ll3 : (((L.drop off).take n).take i).length = i := by rw [List.length_take, hxs]; omega
  have e1 : splice L (off + i + news.length) X = L.take (off + i + news.length) ++ (X ++ L.drop (off + i + news.length + X.length)) := rfl
  generalize hI : splice L (off + i + news.length) X = I at *
  have hIl : I.length = L.length := by rw [← hI]; exact length_splice _ _ _ (by omega)
  have ll2 : (I.take (off + i)).length = off + i := by rw [List.length_take]; omega
  apply List.ext_getElem?
  intro j
  rw [List.getElem?_take]
  by_cases hj : j < n + news.length
  · rw [if_pos hj, List.getElem?_drop]
    unfold splice
    by_cases h1 : j < i
    · rw [List.getElem?_append_left (by omega), List.getElem?_append_left (by omega), List.getElem?_take, if_pos (by omega), e1, List.getElem?_append_left (by omega), List.getElem?_take, if_pos (by omega), List.getElem?_take, if_pos (by omega), List.getElem?_take, if_pos (by omega), List.getElem?_drop]
    · conv => rhs; rw [List.getElem?_append_right (by omega), ll3]
      rw [List.getElem?_append_right (by omega), ll2]
      have e : off + j - (off + i) = j - i := by omega
      rw [e]
      by_cases h2 : j - i < news.length
      · rw [List.getElem?_append_left h2, List.getElem?_append_left h2]
      · rw [List.getElem?_append_right (by omega), List.getElem?_append_right (by omega), List.getElem?_drop, e1, List.getElem?_append_right (by omega), ll1]
        have e2 : off + i + news.length + (j - i - news.length) - (off + i + news.length) = j - i - news.length := by omega
        rw [e2, List.getElem?_append_left (by omega)]
  · rw [if_neg hj, List.getElem?_eq_none]
    simp only [List.length_append]
    omega
end Go.Proofs.Ytlhmcbcoaplcaaa
