/- Arguments opened: a slice of Steps (a bool, an int, a Row, an int); a Row by value. -/
import Derived.Test.YtlhmcbcoaplcaaaOpen
import Derived.Test.YtlhmcbcoaplcaaaTabG
set_option linter.unusedVariables false
set_option linter.unusedSimpArgs false
namespace Go.Proofs.Ytlhmcbcoaplcaaa
open Go.ChangeShapes Go.WideShapes Go.ChangeAt Go.RowKit Go.Deep

/-- A slice argument opened, element by element. -/
theorem open_slice_elems {H : Type} {enc : TypeId × Value → H} {P : Program} {w : World} {base : Nat} {spare : Nat → Bool} {held : Bool} {t e : TypeId} {sz bytes : Nat} {v : Value} {d : DataW H} {p : List MemPlace} {r : Reach} {b0 : Nat}
    (ht : P.underlying t = some (.slice e)) (hC : P.cellsOf e = sz) (hB : P.bytesOf e = bytes) (hpos : 0 < sz)
    (hv : Value.okWide P w r b0 t v) (h : DataW.Trod enc P w base spare held t v d p) {ts : List TypeId} {ds : List (DataW H)} (hsz : (DataW.weightsEach P ts ds).all (· ≤ reachBytes) = true) {j : Nat} (htj : ts[j]? = some t) (hdj : ds[j]? = some d) :
    ∃ ao len cap, v = .slice ao len cap ∧ len * bytes ≤ 140737488351232 ∧ ∀ i, i < len → ∃ b off, ao = some ⟨b, off, none⟩ ∧ b < w.heap.size ∧
      ∃ (cs : List Value) (n : Nat) (x : DataW H × List MemPlace), cs.length = sz ∧ (∀ j, j < sz → w.cell? ⟨b, off + (i * sz + j), none⟩ = cs[j]?) ∧ DataW.trod enc P w base spare held n e cs = some x := by
  obtain ⟨a0, len, cap, rfl⟩ := okWide_slice ht hv
  obtain ⟨fuel, hf⟩ := h
  rcases open_slice ht hf with ⟨hcs, _⟩ | ⟨a, len', cap', m, n, D, Pl, hcs, _, hl, hm, hmm, hx, hi⟩
  · simp [Value.cells] at hcs
    obtain ⟨rfl, rfl, rfl⟩ := hcs
    exact ⟨none, 0, 0, rfl, by omega, fun i hi => by omega⟩
  · simp [Value.cells] at hcs
    obtain ⟨rfl, rfl, rfl⟩ := hcs
    have hlm : len ≤ m := by rw [hmm]; split <;> omega
    simp only [Prod.mk.injEq] at hx
    have hs := sized_slice hsz htj (hdj.trans (congrArg some hx.1)) ht
    rw [hB] at hs
    simp only [List.length_map, List.length_range] at hs
    have hlen : len * bytes ≤ 140737488351232 := Nat.le_trans (Nat.mul_le_mul_right _ (Nat.le_add_right len (m - len))) (Nat.le_trans hs (Nat.le_refl _))
    rw [hC] at hi
    refine ⟨some a, len, cap, rfl, hlen, fun i hil => ?_⟩
    obtain ⟨b, off, spot⟩ := a
    have hspot : spot = none := by
      obtain ⟨cs', hc, ht'⟩ := hi 0 (by omega)
      obtain ⟨_, hcl, hat⟩ := World.cells?_some hc
      have h00 := (hat 0 hpos).trans (List.getElem?_eq_getElem (by omega) : cs'[0]? = some (cs'[0]'(by omega)))
      have := World.cell?_spot h00
      simpa [Addr.add] using this
    subst hspot
    obtain ⟨cs', hc, ht'⟩ := hi i (by omega)
    obtain ⟨_, hcl, hat⟩ := World.cells?_some hc
    have hcell0 := hat 0 hpos
    have hv0 : cs'[0]? = some (cs'[0]'(by omega)) := List.getElem?_eq_getElem (by omega)
    refine ⟨b, off, rfl, ?_, cs', n, _, hcl, fun j hj => ?_, ht'⟩
    · have := block_lt (hcell0.trans hv0)
      rw [Go.Deep.add_add, Addr.add_lit] at this
      exact this
    · have := hat j hj
      rwa [Go.Deep.add_add, Addr.add_lit] at this

/-- A Step. -/
structure St where
  second : Bool
  kind : Int
  r : Rw
  n : Int
deriving Inhabited
def stCells (t : St) : List Value := .bool t.second :: .int .i64 t.kind :: (rcells t.r ++ [.int .i64 t.n])
/-- A slice of Steps. -/
def StepRows (w : World) (s : Value) (l : List St) : Prop :=
  ∃ ao cap, s = .slice ao l.length cap ∧ l.length * 64 ≤ 140737488351232 ∧ ∀ (i : Nat) (t : St), l[i]? = some t → ∃ b off, ao = some ⟨b, off, none⟩ ∧ b < w.heap.size ∧ ∀ j, j < 8 → w.cell? ⟨b, off + (i * 8 + j), none⟩ = (stCells t)[j]?

section
variable {H : Type} {enc : TypeId × Value → H} {P : Program} {w : World} {base : Nat} {spare : Nat → Bool} {held : Bool}
theorem trod_row {tr : TypeId} {fs : Array Field} {f0 f1 f2 f3 f4 : Field} {n : Nat} {cs : List Value} {x : DataW H × List MemPlace} (hr : P.underlying tr = some (.struct fs)) (hfs : fs = #[f0, f1, f2, f3, f4])
    (ho : [f0, f1, f2, f3, f4].map (fun f => (f.offset, P.cellsOf f.type)) = [(0, 1), (1, 1), (2, 1), (3, 1), (4, 1)]) (hi : ∀ f ∈ [f0, f1, f2, f3, f4], P.underlying f.type = some (.int .i64)) (hl : cs.length = 5)
    (h : DataW.trod enc P w base spare held n tr cs = some x) : ∃ r : Rw, cs = rcells r := by
  subst hfs
  obtain ⟨ys, m, _, _, _, hyl, hf⟩ := DataW.trod_struct hr h
  simp only [List.map_cons, List.map_nil, List.cons.injEq, Prod.mk.injEq, and_true] at ho
  obtain ⟨⟨o0, c0⟩, ⟨o1, c1⟩, ⟨o2, c2⟩, ⟨o3, c3⟩, o4, c4⟩ := ho
  match cs, hl with
  | [u0, u1, u2, u3, u4], _ =>
    match ys, hyl with
    | [y0, y1, y2, y3, y4], _ =>
      have q0 := hf 0 f0 rfl
      have q1 := hf 1 f1 rfl
      have q2 := hf 2 f2 rfl
      have q3 := hf 3 f3 rfl
      have q4 := hf 4 f4 rfl
      rw [o0, c0] at q0; rw [o1, c1] at q1; rw [o2, c2] at q2; rw [o3, c3] at q3; rw [o4, c4] at q4
      obtain ⟨b, e0, _, _⟩ := DataW.trod_int (hi f0 (by simp)) q0
      obtain ⟨i, e1, _, _⟩ := DataW.trod_int (hi f1 (by simp)) q1
      obtain ⟨s, e2, _, _⟩ := DataW.trod_int (hi f2 (by simp)) q2
      obtain ⟨l, e3, _, _⟩ := DataW.trod_int (hi f3 (by simp)) q3
      obtain ⟨n, e4, _, _⟩ := DataW.trod_int (hi f4 (by simp)) q4
      simp at e0 e1 e2 e3 e4
      subst e0; subst e1; subst e2; subst e3; subst e4
      exact ⟨⟨b, i, s, l, n⟩, rfl⟩
theorem trod_step {ts tr : TypeId} {fs gs : Array Field} {f0 f1 f2 f3 f4 g0 g1 g2 g3 : Field} {n : Nat} {cs : List Value} {x : DataW H × List MemPlace} (hst : P.underlying ts = some (.struct gs)) (hgs : gs = #[g0, g1, g2, g3])
    (hr : P.underlying tr = some (.struct fs)) (hfs : fs = #[f0, f1, f2, f3, f4])
    (ho : [f0, f1, f2, f3, f4].map (fun f => (f.offset, P.cellsOf f.type)) = [(0, 1), (1, 1), (2, 1), (3, 1), (4, 1)]) (hi : ∀ f ∈ [f0, f1, f2, f3, f4], P.underlying f.type = some (.int .i64))
    (go : [g0, g1, g2, g3].map (fun f => (f.offset, P.cellsOf f.type)) = [(0, 1), (1, 1), (2, 5), (7, 1)]) (gi : (P.underlying g0.type, P.underlying g1.type, g2.type, P.underlying g3.type) = (some .bool, some (.int .i64), tr, some (.int .i64))) (hl : cs.length = 8)
    (h : DataW.trod enc P w base spare held n ts cs = some x) : ∃ t : St, cs = stCells t := by
  subst hgs
  obtain ⟨ys, m, _, _, _, hyl, hf⟩ := DataW.trod_struct hst h
  simp only [List.map_cons, List.map_nil, List.cons.injEq, Prod.mk.injEq, and_true] at go gi
  obtain ⟨⟨o0, c0⟩, ⟨o1, c1⟩, ⟨o2, c2⟩, o3, c3⟩ := go
  obtain ⟨t0, t1, t2, t3⟩ := gi
  match cs, hl with
  | [u0, u1, u2, u3, u4, u5, u6, u7], _ =>
    match ys, hyl with
    | [y0, y1, y2, y3], _ =>
      have q0 := hf 0 g0 rfl
      have q1 := hf 1 g1 rfl
      have q2 := hf 2 g2 rfl
      have q3 := hf 3 g3 rfl
      rw [o0, c0] at q0; rw [o1, c1] at q1; rw [o2, c2, t2] at q2; rw [o3, c3] at q3
      obtain ⟨b, e0, _⟩ := DataW.trod_bool t0 q0
      obtain ⟨k, e1, _, _⟩ := DataW.trod_int t1 q1
      obtain ⟨r, e2⟩ := trod_row hr hfs ho hi (by simp) q2
      obtain ⟨n, e3, _, _⟩ := DataW.trod_int t3 q3
      simp at e0 e1 e3
      simp [rcells] at e2
      obtain ⟨rfl, rfl, rfl, rfl, rfl⟩ := e2
      subst e0; subst e1; subst e3
      exact ⟨⟨b, k, r, n⟩, rfl⟩
theorem open_steps {t ts tr : TypeId} {fs gs : Array Field} {f0 f1 f2 f3 f4 g0 g1 g2 g3 : Field} {v : Value} {d : DataW H} {p : List MemPlace} {r : Reach} {b0 : Nat} (ht : P.underlying t = some (.slice ts)) (hC : P.cellsOf ts = 8) (hB : P.bytesOf ts = 64)
    (hst : P.underlying ts = some (.struct gs)) (hgs : gs = #[g0, g1, g2, g3]) (hr : P.underlying tr = some (.struct fs)) (hfs : fs = #[f0, f1, f2, f3, f4])
    (ho : [f0, f1, f2, f3, f4].map (fun f => (f.offset, P.cellsOf f.type)) = [(0, 1), (1, 1), (2, 1), (3, 1), (4, 1)]) (hi : ∀ f ∈ [f0, f1, f2, f3, f4], P.underlying f.type = some (.int .i64))
    (go : [g0, g1, g2, g3].map (fun f => (f.offset, P.cellsOf f.type)) = [(0, 1), (1, 1), (2, 5), (7, 1)]) (gi : (P.underlying g0.type, P.underlying g1.type, g2.type, P.underlying g3.type) = (some .bool, some (.int .i64), tr, some (.int .i64)))
    (hv : Value.okWide P w r b0 t v) (h : DataW.Trod enc P w base spare held t v d p) {tss : List TypeId} {ds : List (DataW H)} (hsz : (DataW.weightsEach P tss ds).all (· ≤ reachBytes) = true) {j : Nat} (htj : tss[j]? = some t) (hdj : ds[j]? = some d) :
    ∃ l, StepRows w v l := by
  obtain ⟨ao, len, cap, rfl, hlen, hel⟩ := open_slice_elems ht hC hB (by decide) hv h hsz htj hdj
  have hx : ∀ i, ∃ t : St, i < len → ∃ b off, ao = some ⟨b, off, none⟩ ∧ b < w.heap.size ∧ ∀ j, j < 8 → w.cell? ⟨b, off + (i * 8 + j), none⟩ = (stCells t)[j]? := by
    intro i
    by_cases hil : i < len
    · obtain ⟨b, off, e, hb, cs, n, x, hcl, hc, htr⟩ := hel i hil
      obtain ⟨t, rfl⟩ := trod_step hst hgs hr hfs ho hi go gi hcl htr
      exact ⟨t, fun _ => ⟨b, off, e, hb, hc⟩⟩
    · exact ⟨default, fun h => absurd h hil⟩
  obtain ⟨f, hf⟩ := Classical.skolem.1 hx
  refine ⟨(List.range len).map f, ao, cap, by simp, by simpa using hlen, fun i t hit => ?_⟩
  have hil : i < len := by have := (List.getElem?_eq_some_iff.1 hit).1; simpa using this
  have e : t = f i := by
    rw [List.getElem?_map, List.getElem?_range hil] at hit
    simpa using hit.symm
  rw [e]
  exact hf i hil

/-- A Row by value. -/
theorem open_row {tr : TypeId} {fs : Array Field} {f0 f1 f2 f3 f4 : Field} {v : Value} {d : DataW H} {p : List MemPlace} {r : Reach} {b0 : Nat} (hr : P.underlying tr = some (.struct fs)) (hfs : fs = #[f0, f1, f2, f3, f4]) (hC : P.cellsOf tr = 5)
    (ho : [f0, f1, f2, f3, f4].map (fun f => (f.offset, P.cellsOf f.type)) = [(0, 1), (1, 1), (2, 1), (3, 1), (4, 1)]) (hi : ∀ f ∈ [f0, f1, f2, f3, f4], P.underlying f.type = some (.int .i64))
    (hv : Value.okWide P w r b0 tr v) (h : DataW.Trod enc P w base spare held tr v d p) : ∃ x : Rw, v = ragg x := by
  obtain ⟨cs, rfl, hs⟩ := okWide_struct hr hv
  obtain ⟨fuel, hf⟩ := h
  rw [hC] at hs
  obtain ⟨q, e⟩ := trod_row hr hfs ho hi (by simpa [Value.cells] using hs) hf
  refine ⟨q, ?_⟩
  have e2 : cs.toList = rcells q := by simpa [Value.cells] using e
  have e3 : cs = (rcells q).toArray := by rw [← e2]
  rw [e3]; rfl
end
end Go.Proofs.Ytlhmcbcoaplcaaa
