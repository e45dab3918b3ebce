/- slices.Delete: the steps as laws of no program. -/
import Derived.Test.YtlhmcbcoaplcaaaInsL
set_option linter.unusedVariables false
set_option linter.unusedSimpArgs false
namespace Go.Proofs.Ytlhmcbcoaplcaaa
open Go.RowKit

theorem run_clear_one {P : Program} (w : World) (t e : TypeId) (z : Value) (ht : P.underlying t = some (.slice e)) (hv : ∀ w, (zeroValue e).run P w = .ok z w) (h1 : ∀ u ∈ z.cells.toList, u.oneCell' = true) (b o c : Nat)
    (hc : ∀ j, j < z.cells.toList.length → (w.cell? ⟨b, o + j, none⟩).isSome = true) (hf : ∀ j, j < z.cells.toList.length → w.frozen? ⟨b, o + j, none⟩ = false) :
    ∀ ty, (Builtin.clear_ #[t] ty #[.slice (some ⟨b, o, none⟩) 1 c]).run P w = .ok (.tuple #[]) (w.setCells b o z.cells.toList) := by
  intro ty
  have hzc : (Builtin.zeroCells z.cells 1).toList = z.cells.toList := by
    simp only [Builtin.zeroCells]
    apply List.ext_getElem
    · simp
    · intro i h1 h2
      have : i < z.cells.size := by simpa using h2
      simp [Nat.mod_eq_of_lt this, getElem!_pos, this]
  have hst := run_storeCells_cells (P := P) b o z.cells.toList 0 w (by simpa using hc) (by simpa using hf) h1
  simp only [Nat.add_zero] at hst
  simp [Builtin.clear_, run_underlying ht, hv, hzc, hst]

theorem splice_take {α : Type} (M Z : List α) (p : Nat) (hp : p ≤ M.length) : (splice M p Z).take p = M.take p := by
  unfold splice
  rw [List.take_append_of_le_length (by rw [List.length_take]; omega), List.take_take, Nat.min_self]
theorem splice_del {α : Type} (L Z : List α) (off i n k : Nat) (hik : i + k ≤ n) (hL : off + n ≤ L.length) :
    ((splice (splice L (off + i) (((L.drop off).take n).drop (i + k))) (off + (n - k)) Z).drop off).take (n - k) = ((L.drop off).take n).take i ++ ((L.drop off).take n).drop (i + k) := by
  have hxs : ((L.drop off).take n).length = n := by rw [List.length_take, List.length_drop]; omega
  have hd : (((L.drop off).take n).drop (i + k)).length = n - (i + k) := by rw [List.length_drop, hxs]
  have hti : ((L.drop off).take n).take i = (L.drop off).take i := by rw [List.take_take, Nat.min_eq_left (by omega)]
  generalize hD : ((L.drop off).take n).drop (i + k) = D at *
  have hM : (splice L (off + i) D).length = L.length := length_splice _ _ _ (by omega)
  rw [List.take_drop, splice_take _ _ _ (by omega)]
  have e : off + (n - k) = off + i + D.length := by omega
  rw [e]
  unfold splice
  rw [← List.append_assoc, List.take_append_of_le_length (by rw [List.length_append, List.length_take]; omega), List.take_of_length_le (by rw [List.length_append, List.length_take]; omega), List.drop_append_of_le_length (by rw [List.length_take]; omega), hti, List.drop_take]
  congr 2; omega

section
variable {P : Program} {t e : TypeId} {sz : Nat}
theorem slice_one (ht : P.underlying t = some (.slice e)) (hi : (P.info? e).map (·.size) = some sz) (g off cap m : Nat) (hm : m + 1 ≤ cap) :
    ∀ (W : World) (a b : Int), a = (m : Int) → b = ((m + 1 : Nat) : Int) → (Instr.slice t (.slice (some ⟨g, off, none⟩) m cap) (some (.int .i64 a)) (some (.int .i64 b)) none).run P W = .ok (.slice (some ⟨g, off + m * sz, none⟩) 1 (cap - m)) W := by
  intro W a b ha hb
  subst ha; subst hb
  have ht' : P.underlying t = some (.slice (P.elem t)) := by rw [show P.elem t = e by simp [Program.elem, ht]]; exact ht
  rw [run_slice_lh (w := W) t _ m cap ht' .i64 .i64 m ((m + 1 : Nat) : Int) (by omega) (by omega) (by omega), sz_elem ht hi]
  have : ¬ cap = m := by omega
  simp [sliced, this, Addr.add_lit]
theorem slice_lhm (ht : P.underlying t = some (.slice e)) (hi : (P.info? e).map (·.size) = some sz) (g off n cap l h : Nat) (h1 : l ≤ h) (h2 : h ≤ n) (h3 : n ≤ cap) :
    ∃ r, ∀ (W : World) (a b c : Int), a = (l : Int) → b = (h : Int) → c = (n : Int) → (Instr.slice t (.slice (some ⟨g, off, none⟩) n cap) (some (.int .i64 a)) (some (.int .i64 b)) (some (.int .i64 c))).run P W = .ok r W := by
  have ht' : P.underlying t = some (.slice (P.elem t)) := by rw [show P.elem t = e by simp [Program.elem, ht]]; exact ht
  refine ⟨sliced (some ⟨g, off, none⟩) l h n sz, fun W a b c ha hb hc => ?_⟩
  subst ha; subst hb; subst hc
  rw [run_slice_lhm (w := W) t _ n cap ht' .i64 .i64 .i64 l h n (by omega) (by omega) (by omega) (by omega), sz_elem ht hi]
  simp
end
theorem step_append_run {P : Program} {w : World} {ops : Array Oper} {o : Oper} {a : Act} {K : Act → World → Prop} {Q : Exit → Act → World → Prop} {E : Prop} (hgd : o.guard = none) (d s : Operand) (t t' : TypeId) (ho : o.op = .call { callee := .builtin .append, args := #[d, s], argTypes := #[t, t'] }) (v u : Value) (hd : a.eval d = v) (hs : a.eval s = u) {v' : Value} {w' : World}
    (hr : ∀ ty, (Builtin.append_ #[t, t'] ty #[v, u]).run P w = .ok v' w') (h : K (a.put o.dst v') w') : if Region.wanted o (yielded ops a.tmps) = true then Oper.wp P o a w K Q else E := by
  have hw : Region.wanted o (yielded ops a.tmps) = true := by simp [Region.wanted, hgd]
  rw [if_pos hw]
  exact Lib.wp_append_run w d s t t' ho v u hd hs v' w' (hr _) h
end Go.Proofs.Ytlhmcbcoaplcaaa
