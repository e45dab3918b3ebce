/- slices.Insert and slices.Delete: the steps as laws of no program. -/
import Derived.Test.YtlhmcbcoaplcaaaCopy
import Derived.Lib.AppendZerosOnto
set_option linter.unusedVariables false
set_option linter.unusedSimpArgs false
namespace Go.Proofs.Ytlhmcbcoaplcaaa
open Go.RowKit

theorem IsC.shape {w : World} {b : Nat} {cs : Array Value} {T : TypeId} (h : IsC w b cs T) : w.shape? b = some (T, cs.size) := by unfold IsC at h; simp [World.shape?, h]

section
variable {P : Program} {t e : TypeId} {sz : Nat}
theorem sz_elem (ht : P.underlying t = some (.slice e)) (hi : (P.info? e).map (·.size) = some sz) : ∀ W, (sizeOf (P.elem t)).run P W = .ok sz W := by
  intro W
  rw [show P.elem t = e by simp [Program.elem, ht]]
  cases hq : P.info? e with
  | none => simp [hq] at hi
  | some i => simp [hq] at hi; simp [sizeOf, typeInfo, hq, hi]
theorem slice_lo (ht : P.underlying t = some (.slice e)) (hi : (P.info? e).map (·.size) = some sz) (g off n cap l : Nat) (hl : l ≤ n) (hn : n ≤ cap) (hlt : l < cap) :
    ∀ (W : World) (j : Int), j = (l : Int) → (Instr.slice t (.slice (some ⟨g, off, none⟩) n cap) (some (.int .i64 j)) none none).run P W = .ok (.slice (some ⟨g, off + l * sz, none⟩) (n - l) (cap - l)) W := by
  intro W j hj
  subst hj
  have ht' : P.underlying t = some (.slice (P.elem t)) := by rw [show P.elem t = e by simp [Program.elem, ht]]; exact ht
  rw [run_slice_l (w := W) t _ n cap ht' .i64 l (by omega) (by omega), sz_elem ht hi]
  have : ¬ cap = l := by omega
  simp [sliced, this, Addr.add_lit]
theorem slice_hi (ht : P.underlying t = some (.slice e)) (hi : (P.info? e).map (·.size) = some sz) (g off n cap m : Nat) (hm : m ≤ cap) (hlt : 0 < cap) :
    ∀ (W : World) (j : Int), j = (m : Int) → (Instr.slice t (.slice (some ⟨g, off, none⟩) n cap) none (some (.int .i64 j)) none).run P W = .ok (.slice (some ⟨g, off, none⟩) m cap) W := by
  intro W j hj
  subst hj
  have ht' : P.underlying t = some (.slice (P.elem t)) := by rw [show P.elem t = e by simp [Program.elem, ht]]; exact ht
  rw [run_slice_h (w := W) t _ n cap ht' .i64 m (by omega) (by omega), sz_elem ht hi]
  have : ¬ cap = 0 := by omega
  simp [sliced, this, Addr.add_lit]

/-- append(s[:i], make(S, k)...) where there is no room: a new row that begins with the first i elements. -/
theorem app_zeros {tn : TypeId} (ht : P.underlying t = some (.slice e)) (htn : P.underlying tn = some (.int .i64)) {z : Value} {bytes : Nat} (hinfo : (P.info? e).map (fun i => (i.zero, i.size, i.bytes)) = some (some z, sz, bytes)) (hzs : z.cells.size = sz) (hs0 : 0 < sz)
    {w : World} {g off n cap : Nat} {xs : List Value} (h : Own w e sz (.slice (some ⟨g, off, none⟩) n cap) n xs) (i k : Nat) (hi : i ≤ n) (hk : 0 < k) (hg : cap < i + k) (hb : (i + k) * bytes ≤ 140737488355328) (h63 : i + k ≤ maxLen) :
    ∃ (ROW : Array Value) (G : Nat), (∀ ty, (Builtin.append_ #[t, tn] ty #[.slice (some ⟨g, off, none⟩) i cap, .int .i64 k]).run P w = .ok (.slice (some ⟨w.heap.size, 0, none⟩) (i + k) G) (w.drew.alloc (.cells ROW e))) ∧
      ROW.toList.take (i * sz) = xs.take (i * sz) ∧ ROW.size = G * sz ∧ i + k ≤ G ∧ G ≤ maxLen := by
  obtain ⟨i0, hi0, hz0, hzsz, hzb⟩ := info_parts hinfo
  have hxl : (xs.take (i * sz)).length = i * sz := by rw [List.length_take, h.1, Nat.min_eq_left (Nat.mul_le_mul_right _ hi)]
  have hold : (Builtin.firstCells i0.size i (.slice (some ⟨g, off, none⟩) i cap)).run P w.drew = .ok (xs.take (i * sz)).toArray w.drew := by
    rw [hzsz]
    refine run_firstCells_some w.drew sz i ⟨g, off, none⟩ i cap _ hxl (fun j v hj => ?_)
    rw [Addr.add_lit]
    rw [List.getElem?_take] at hj
    split at hj
    · rename_i hjl
      have hjx : j < n * sz := Nat.lt_of_lt_of_le hjl (Nat.mul_le_mul_right _ hi)
      exact (h.cellAt j hjx).trans hj
    · cases hj
  have hsm : ((i + k : Nat) : Int) ≤ 9223372036854775807 := by simp only [maxLen] at h63; omega
  have hkb : k * bytes ≤ 281474976710656 := by
    have : k * bytes ≤ (i + k) * bytes := Nat.mul_le_mul_right _ (by omega)
    omega
  refine ⟨_, grownCap w (i + k) cap e, fun ty => Lib.run_append_grow_zeros w t tn ty e i0 z .i64 .i64 ht htn hi0 hz0 (some ⟨g, off, none⟩) i cap (xs.take (i * sz)) hold k hk (by omega) hg hsm (by rw [hzb]; exact hkb) (by rw [hzb]; exact growslice_fits hg hb), ?_, ?_, grownCap_ge w _ _ _, grownCap_le_maxLen w _ _ _ h63⟩
  · simp only [Array.toList_append, List.append_assoc]
    rw [List.take_append_of_le_length (by simp [hxl]), List.take_of_length_le (by simp [hxl])]
  · have hge := grownCap_ge w (i + k) cap e
    simp only [Array.size_append, List.size_toArray, size_zeroCells, hzs, hxl, ← Nat.add_mul]
    congr 1; omega
end

/-- The new row behind both copies. -/
theorem splice_new {α : Type} (R xs news : List α) (i n : Nat) (hR : R.take i = xs.take i) (hx : xs.length = n) (hi : i ≤ n) (hl : n + news.length ≤ R.length) :
    ((splice (splice R i news) (i + news.length) (xs.drop i)).drop 0).take (n + news.length) = xs.take i ++ (news ++ xs.drop i) := by
  have hd : (xs.drop i).length = n - i := by rw [List.length_drop, hx]
  have h1 : (splice R i news).take (i + news.length) = xs.take i ++ news := by
    unfold splice
    rw [← List.append_assoc, List.take_append_of_le_length (by rw [List.length_append, List.length_take]; omega), List.take_of_length_le (by rw [List.length_append, List.length_take]; omega), hR]
  rw [List.drop_zero]
  show ((splice R i news).take (i + news.length) ++ (xs.drop i ++ _)).take _ = _
  rw [h1, ← List.append_assoc, List.take_append_of_le_length (by rw [List.length_append, List.length_append, List.length_take, hd]; omega), List.take_of_length_le (by rw [List.length_append, List.length_append, List.length_take, hd]; omega), List.append_assoc]
end Go.Proofs.Ytlhmcbcoaplcaaa
