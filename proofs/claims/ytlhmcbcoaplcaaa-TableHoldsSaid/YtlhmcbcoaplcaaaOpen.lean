/- Arguments opened: slices of structs whose fields are all ints; what a law's row asks behind the call. -/
import Derived.Test.YtlhmcbcoaplcaaaLib
import Derived.OpenShut
import Derived.SizedLaws
import Derived.Deep.Slices
import Derived.Deep.Fields
import Derived.ChangeSame
import Derived.Lib.SmallJoins
set_option linter.unusedVariables false
set_option linter.unusedSimpArgs false
namespace Go.Proofs.Ytlhmcbcoaplcaaa
open Go.ChangeShapes Go.WideShapes Go.ChangeAt Go.RowKit Go.Deep

def InI64 (x : Int) : Prop := -9223372036854775808 ≤ x ∧ x ≤ 9223372036854775807
theorem InI64.of_wf {x : Int} (h : (Lit.int .i64 x).wf = true) : InI64 x := by
  have := bounds_i64 h
  exact ⟨by omega, by omega⟩

/-- A slice of structs of k ints that came in: element i's field j is x i j. -/
def IntRows (w : World) (k : Nat) (s : Value) (len : Nat) (x : Nat → Nat → Int) : Prop :=
  ∃ ao cap, s = .slice ao len cap ∧ len * (k * 8) ≤ 140737488351232 ∧ ∀ i, i < len → ∃ b off, ao = some ⟨b, off, none⟩ ∧ b < w.heap.size ∧
    ∀ j, j < k → w.cell? ⟨b, off + (i * k + j), none⟩ = some (.int .i64 (x i j)) ∧ InI64 (x i j)

section
variable {H : Type} {enc : TypeId × Value → H} {P : Program} {w : World} {base : Nat} {spare : Nat → Bool} {held : Bool}
theorem open_slice_fields {t e : TypeId} {fs : Array Field} {fuel : Nat} {cs : List Value} {x : DataW H × List MemPlace} (ht : P.underlying t = some (.slice e)) (he : P.underlying e = some (.struct fs))
    (hone : oneCellFields P fs = true) (hC : P.cellsOf e = fs.size) (h : DataW.trod enc P w base spare held fuel t cs = some x) :
    (cs = [.slice none 0 0] ∧ x = (.nil, [])) ∨
    ∃ (a : Addr) (len cap m : Nat) (D : Nat → DataW H) (Pl : Nat → List MemPlace), cs = [.slice (some a) len cap] ∧ base ≤ a.block ∧ len ≤ cap ∧ cap ≤ maxLen ∧ m = (if spare a.block then cap else len) ∧
      x = (.slice ((List.range len).map D) ((List.range (m - len)).map fun j => D (len + j)), MemPlace.row a (m * fs.size) ++ (List.range m).flatMap Pl) ∧
      ∀ i, i < m → ∃ (ys : List (DataW H × List MemPlace)) (n : Nat), D i = .agg (ys.map (·.1)) ∧ Pl i = ys.flatMap (·.2) ∧ ys.length = fs.size ∧
        ∀ (j : Nat) (f : Field), fs[j]? = some f → ∃ (v : Value) (y : DataW H × List MemPlace), w.cell? (a.add (i * fs.size + j)) = some v ∧ ys[j]? = some y ∧ DataW.trod enc P w base spare held n f.type [v] = some y := by
  rcases open_slice ht h with h0 | ⟨a, len, cap, m, n, D, Pl, hcs, hb, hl, hm, hmm, hx, hi⟩
  · exact .inl h0
  · refine .inr ⟨a, len, cap, m, D, Pl, hcs, hb, hl, hm, hmm, by rw [hC] at hx; exact hx, fun i him => ?_⟩
    obtain ⟨cs', hc, ht'⟩ := hi i him
    rw [hC] at hc
    obtain ⟨ys, n', hn', hy, hlen, hyl, hf⟩ := DataW.trod_struct he ht'
    obtain ⟨_, hcl, hat⟩ := World.cells?_some hc
    simp only [Prod.mk.injEq] at hy
    refine ⟨ys, n', hy.1, hy.2, hyl, fun j f hj => ?_⟩
    obtain ⟨ho, hk⟩ := hone_of hone j f hj
    have hjl : j < fs.size := (Array.getElem?_eq_some_iff.1 hj).1
    have hcell := hat j hjl
    have hv : cs'[j]? = some (cs'[j]'(by omega)) := List.getElem?_eq_getElem (by omega)
    have h1 := hf j f hj
    rw [ho, hk] at h1
    have hone' : (cs'.drop j).take 1 = [cs'[j]'(by omega)] := by
      rw [List.drop_eq_getElem_cons (by omega)]
      rfl
    rw [hone'] at h1
    have hys : ys[j]? = some (ys[j]'(by omega)) := List.getElem?_eq_getElem (by omega)
    refine ⟨_, _, ?_, hys, h1.trans hys⟩
    rw [← Go.Deep.add_add, hcell, hv]
end

theorem block_lt {w : World} {a : Addr} {v : Value} (h : w.cell? a = some v) : a.block < w.heap.size := World.block_lt_of_cell? w a h

/-- The argument, a slice of structs of ints, opened. -/
theorem open_int_structs {H : Type} {enc : TypeId × Value → H} {P : Program} {w : World} {base : Nat} {spare : Nat → Bool} {held : Bool} {t e : TypeId} {fs : Array Field} {v : Value} {d : DataW H} {p : List MemPlace} {r : Reach} {b0 : Nat}
    (ht : P.underlying t = some (.slice e)) (he : P.underlying e = some (.struct fs)) (hone : oneCellFields P fs = true) (hC : P.cellsOf e = fs.size) (hB : P.bytesOf e = fs.size * 8)
    (hpos : 0 < fs.size) (hall : ∀ (j : Nat) (f : Field), fs[j]? = some f → P.underlying f.type = some (.int .i64))
    (hv : Value.okWide P w r b0 t v) (h : DataW.Trod enc P w base spare held t v d p) {ts : List TypeId} {ds : List (DataW H)} (hsz : (DataW.weightsEach P ts ds).all (· ≤ reachBytes) = true) {j : Nat} (htj : ts[j]? = some t) (hdj : ds[j]? = some d) :
    ∃ len x, IntRows w fs.size v len x := by
  obtain ⟨a0, len, cap, rfl⟩ := okWide_slice ht hv
  obtain ⟨fuel, hf⟩ := h
  rcases open_slice_fields ht he hone hC hf with ⟨hcs, _⟩ | ⟨a, len', cap', m, D, Pl, hcs, _, hl, hm, hmm, hx, hi⟩
  · simp [Value.cells] at hcs
    obtain ⟨rfl, rfl, rfl⟩ := hcs
    exact ⟨0, fun _ _ => 0, none, 0, rfl, by omega, fun i hi => by omega⟩
  · simp [Value.cells] at hcs
    obtain ⟨rfl, rfl, rfl⟩ := hcs
    have hlm : len ≤ m := by rw [hmm]; split <;> omega
    simp only [Prod.mk.injEq] at hx
    have hs := sized_slice hsz htj (hdj.trans (congrArg some hx.1)) ht
    rw [hB] at hs
    simp only [List.length_map, List.length_range] at hs
    have hlen : len * (fs.size * 8) ≤ 140737488351232 := by
      refine Nat.le_trans (Nat.mul_le_mul_right _ (Nat.le_add_right len (m - len))) (Nat.le_trans hs (Nat.le_refl _))
    have hcell : ∀ i j, ∃ y : Int, i < len → j < fs.size → w.cell? (a.add (i * fs.size + j)) = some (.int .i64 y) ∧ InI64 y := by
      intro i j
      by_cases hij : i < len ∧ j < fs.size
      · obtain ⟨ys, n, _, _, _, hfj⟩ := hi i (by omega)
        obtain ⟨v, y, hc, _, hy⟩ := hfj j fs[j] (by simp [hij.2])
        obtain ⟨q, e1, _, hwf⟩ := DataW.trod_int (hall j fs[j] (by simp [hij.2])) hy
        simp at e1
        exact ⟨q, fun _ _ => ⟨by rw [hc, e1], InI64.of_wf hwf⟩⟩
      · exact ⟨0, fun h1 h2 => (hij ⟨h1, h2⟩).elim⟩
    obtain ⟨x, hx'⟩ := Classical.skolem.1 fun i => Classical.skolem.1 (hcell i)
    refine ⟨len, x, some a, cap, rfl, hlen, fun i hi' => ?_⟩
    have h0 := (hx' i 0 hi' hpos).1
    obtain ⟨b, off, spot⟩ := a
    have hspot : spot = none := by
      have h00 := (hx' 0 0 (by omega) hpos).1
      have := World.cell?_spot h00
      simpa [Addr.add] using this
    subst hspot
    refine ⟨b, off, rfl, ?_, fun j hj => ?_⟩
    · have := block_lt h0; rw [Addr.add_lit] at this; exact this
    · have := hx' i j hi' hj; rwa [Addr.add_lit] at this

/-- A struct of four ints by value, opened. -/
theorem open_struct4 {H : Type} {enc : TypeId × Value → H} {P : Program} {w : World} {base : Nat} {spare : Nat → Bool} {held : Bool} {t : TypeId} {f0 f1 f2 f3 : Field} {v : Value} {d : DataW H} {p : List MemPlace} {r : Reach} {b0 : Nat}
    (hs : P.underlying t = some (.struct #[f0, f1, f2, f3])) (hone : oneCellFields P #[f0, f1, f2, f3] = true) (hC : P.cellsOf t = 4)
    (hi : (P.underlying f0.type, P.underlying f1.type, P.underlying f2.type, P.underlying f3.type) = (some (.int .i64), some (.int .i64), some (.int .i64), some (.int .i64)))
    (hv : Value.okWide P w r b0 t v) (h : DataW.Trod enc P w base spare held t v d p) :
    ∃ x0 x1 x2 x3 : Int, v = .agg #[.int .i64 x0, .int .i64 x1, .int .i64 x2, .int .i64 x3] ∧ InI64 x0 ∧ InI64 x1 ∧ InI64 x2 ∧ InI64 x3 := by
  simp only [Prod.mk.injEq] at hi
  obtain ⟨c0, c1, c2, c3, y0, y1, y2, y3, m, rfl, _, _, h0, h1, h2, h3⟩ := Go.Joins.open_agg4 hs hone hC hv h
  obtain ⟨a, e0, _, wa⟩ := DataW.trod_int hi.1 h0
  obtain ⟨b, e1, _, wb⟩ := DataW.trod_int hi.2.1 h1
  obtain ⟨c, e2, _, wc⟩ := DataW.trod_int hi.2.2.1 h2
  obtain ⟨d, e3, _, wd⟩ := DataW.trod_int hi.2.2.2 h3
  simp at e0 e1 e2 e3
  subst e0; subst e1; subst e2; subst e3
  exact ⟨a, b, c, d, rfl, InI64.of_wf wa, InI64.of_wf wb, InI64.of_wf wc, InI64.of_wf wd⟩
end Go.Proofs.Ytlhmcbcoaplcaaa
