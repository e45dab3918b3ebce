/- PoolLasts: a Plan, as it comes in, opened. -/
import Derived.Test.YtfdgiblkllfpjaaGreatDoorL19
import Derived.OpenShut
import Derived.SizedLaws
import Derived.Deep.Slices
import Derived.Deep.Fields
set_option linter.unusedVariables false
set_option linter.unusedSimpArgs false
namespace Go.Proofs.YtfdgiblkllfpjaaGreatDoor
open Go.ChangeShapes Go.WideShapes Go.ChangeAt Go.RowKit Go.Deep

/-- What is read takes no more than may be. -/
def Fits {H : Type} (P : Program) (t : TypeId) (d : DataW H) : Prop := ∀ n ∈ d.weights P t, n ≤ reachBytes
section
variable {H : Type} {P : Program}
theorem Fits.of {ts : List TypeId} {ds : List (DataW H)} (h : (DataW.weightsEach P ts ds).all (· ≤ reachBytes) = true) {j : Nat} {t : TypeId} {d : DataW H} (ht : ts[j]? = some t) (hd : ds[j]? = some d) : Fits P t d := fun n hn => by
  have := List.all_eq_true.1 h _ (DataW.weights_mem_each ht hd n hn)
  simpa using this
theorem weightsAll_mem {e : TypeId} {d : DataW H} {n : Nat} (hn : n ∈ d.weights P e) : ∀ {l : List (DataW H)}, d ∈ l → n ∈ DataW.weightsAll P e l
  | x :: r, h => by
    simp only [DataW.weightsAll, List.mem_append]
    rcases List.mem_cons.1 h with q | q
    · subst q; exact .inl hn
    · exact .inr (weightsAll_mem hn q)
theorem Fits.slice {t e : TypeId} {el sp : List (DataW H)} (h : Fits P t (.slice el sp)) (hu : P.underlying t = some (.slice e)) : (el.length + sp.length) * P.bytesOf e ≤ reachBytes ∧ ∀ d ∈ el, Fits P e d := by
  refine ⟨h _ (by simp [DataW.weights, hu]), fun d hd n hn => h n ?_⟩
  simp only [DataW.weights, hu, List.mem_cons, List.mem_append]
  exact .inr (.inl (weightsAll_mem hn hd))
theorem Fits.part {t : TypeId} {parts : List (DataW H)} {fs : Array Field} (h : Fits P t (.agg parts)) (hu : P.underlying t = some (.struct fs)) {j : Nat} {f : Field} {d : DataW H} (hf : fs[j]? = some f) (hd : parts[j]? = some d) : Fits P f.type d := fun n hn => by
  refine h n ?_
  simp only [DataW.weights, hu]
  refine DataW.weights_mem_each (j := j) ?_ hd n hn
  rw [List.getElem?_map, Array.getElem?_toList, hf]; rfl
end
theorem bvU8 {z : Int} (h : (Lit.int .u8 z).wf = true) : bv (UInt8.ofNat z.toNat) = .int .u8 z := by
  have := bounds_u8 h
  rw [bv_ofNat]; congr 1; omega
section
variable {H : Type} {enc : TypeId × Value → H} {P : Program} {w : World} {base : Nat} {spare : Nat → Bool} {held : Bool}
/-- Bytes within something that came in. -/
theorem trod_bytes {t e : TypeId} {n : Nat} {cs : List Value} {x : DataW H × List MemPlace} (ht : P.underlying t = some (.slice e)) (he : P.underlying e = some (.int .u8)) (hce : P.cellsOf e = 1) (hbe : P.bytesOf e = 1) (h : DataW.trod enc P w base spare held n t cs = some x) (hz : Fits P t x.1) :
    ∃ (bo : Option Addr) (bc : Nat) (l : List UInt8), cs = [.slice bo l.length bc] ∧ ReadB w (.slice bo l.length bc) l ∧ l.length ≤ 140737488355328 := by
  rcases open_ints ht he hce h with ⟨hcs, _⟩ | ⟨a, len, cap, zs, hcs, _, hl, hm, hzl, hx, hc, hw⟩
  · exact ⟨none, 0, [], hcs, ⟨none, 0, rfl, fun k hk => by simp at hk⟩, by simp⟩
  · have hlz : len ≤ zs.length := by rw [hzl]; split <;> omega
    rw [hx] at hz
    have hs := (hz.slice ht).1
    rw [hbe, Nat.mul_one] at hs
    simp only [lits, List.length_map, List.length_take, List.length_drop] at hs
    have hlen : ((zs.take len).map (fun z => UInt8.ofNat z.toNat)).length = len := by rw [List.length_map, List.length_take]; omega
    have hr : reachBytes ≤ 140737488355328 := by unfold reachBytes; omega
    refine ⟨some a, cap, (zs.take len).map (fun z => UInt8.ofNat z.toNat), by rw [hlen]; exact hcs, ⟨some a, cap, by rw [hlen], fun k hk => ?_⟩, by rw [hlen]; omega⟩
    rw [hlen] at hk
    have c := hc k (by omega)
    obtain ⟨b, off, spot⟩ := a
    have hspot : spot = none := by have := World.cell?_spot (hc 0 (by omega)); simpa [Addr.add] using this
    subst hspot
    rw [Addr.add_lit] at c
    refine ⟨b, off, rfl, World.block_lt_of_cell? w ⟨b, off + k, none⟩ c, ?_⟩
    have hg : zs.getD k 0 = zs[k]'(by omega) := by simp [List.getD, List.getElem?_eq_getElem (show k < zs.length by omega)]
    rw [c, hg]
    congr 1
    rw [List.getElem_map, List.getElem_take, bvU8 (hw _ (List.getElem_mem _))]
/-- A turn within something that came in. -/
theorem trod_turn {tt tb eb : TypeId} {f0 f1 f2 f3 : Field} {n : Nat} {cs : List Value} {x : DataW H × List MemPlace} (ht : P.underlying tt = some (.struct #[f0, f1, f2, f3]))
    (ho : [f0, f1, f2, f3].map (fun f => (f.offset, P.cellsOf f.type)) = [(0, 1), (1, 1), (2, 1), (3, 1)]) (hi : (P.underlying f0.type, P.underlying f1.type, P.underlying f2.type, f3.type) = (some (.int .i64), some (.int .i64), some (.int .i64), tb))
    (hb : P.underlying tb = some (.slice eb)) (he : P.underlying eb = some (.int .u8)) (hce : P.cellsOf eb = 1) (hbe : P.bytesOf eb = 1) (hl : cs.length = 4)
    (h : DataW.trod enc P w base spare held n tt cs = some x) (hz : Fits P tt x.1) : ∃ q : Tn, cs = q.cells ∧ ReadB w q.sl q.bl ∧ q.bl.length ≤ 140737488355328 := by
  obtain ⟨ys, m, _, hx, _, hyl, hf⟩ := DataW.trod_struct ht h
  rw [hx] at hz
  simp only [List.map_cons, List.map_nil, List.cons.injEq, Prod.mk.injEq, and_true] at ho hi
  obtain ⟨⟨o0, c0⟩, ⟨o1, c1⟩, ⟨o2, c2⟩, o3, c3⟩ := ho
  obtain ⟨t0, t1, t2, t3⟩ := hi
  match cs, hl with
  | [u0, u1, u2, u3], _ =>
    match ys, hyl with
    | [y0, y1, y2, y3], _ =>
      have q0 := hf 0 f0 rfl
      have q1 := hf 1 f1 rfl
      have q2 := hf 2 f2 rfl
      have q3 := hf 3 f3 rfl
      have z3 : Fits P f3.type y3.1 := hz.part ht (j := 3) (f := f3) rfl rfl
      rw [o0, c0] at q0; rw [o1, c1] at q1; rw [o2, c2] at q2; rw [o3, c3, t3] at q3
      rw [t3] at z3
      obtain ⟨a, e0, _⟩ := DataW.trod_int t0 q0
      obtain ⟨b, e1, _⟩ := DataW.trod_int t1 q1
      obtain ⟨c, e2, _⟩ := DataW.trod_int t2 q2
      obtain ⟨bo, bc, l, e3, hr, hln⟩ := trod_bytes hb he hce hbe q3 z3
      simp at e0 e1 e2 e3
      subst e0; subst e1; subst e2; subst e3
      exact ⟨⟨a, b, c, bo, bc, l⟩, rfl, hr, hln⟩
/-- Turns within something that came in. -/
theorem trod_turns {ts tt tb eb : TypeId} {f0 f1 f2 f3 : Field} {n : Nat} {cs : List Value} {x : DataW H × List MemPlace} (hts : P.underlying ts = some (.slice tt)) (hC : P.cellsOf tt = 4) (hB : P.bytesOf tt = 48) (ht : P.underlying tt = some (.struct #[f0, f1, f2, f3]))
    (ho : [f0, f1, f2, f3].map (fun f => (f.offset, P.cellsOf f.type)) = [(0, 1), (1, 1), (2, 1), (3, 1)]) (hi : (P.underlying f0.type, P.underlying f1.type, P.underlying f2.type, f3.type) = (some (.int .i64), some (.int .i64), some (.int .i64), tb))
    (hb : P.underlying tb = some (.slice eb)) (he : P.underlying eb = some (.int .u8)) (hce : P.cellsOf eb = 1) (hbe : P.bytesOf eb = 1)
    (h : DataW.trod enc P w base spare held n ts cs = some x) (hz : Fits P ts x.1) : ∃ (v : Value) (l : List Tn), cs = [v] ∧ TurnsAt w v l ∧ l.length ≤ 2940000000000 := by
  rcases open_slice hts h with ⟨hcs, _⟩ | ⟨a, len, cap, m, k, D, Pl, hcs, _, hl, hm, hmm, hx, hel⟩
  · exact ⟨_, [], hcs, ⟨none, 0, rfl, fun i x hi => by simp at hi⟩, by simp⟩
  · have hlm : len ≤ m := by rw [hmm]; split <;> omega
    rw [hx] at hz
    obtain ⟨z1, z2⟩ := hz.slice hts
    rw [hB] at z1
    simp only [List.length_map, List.length_range] at z1
    rw [hC] at hel
    have hr : reachBytes = 140737488351232 := by decide
    have hlen : len * 48 ≤ 140737488351232 := by omega
    have hspot : 0 < len → ∃ b off, a = ⟨b, off, none⟩ := fun h0 => by
      obtain ⟨cs', hc, ht'⟩ := hel 0 (by omega)
      obtain ⟨_, hcl, hat⟩ := World.cells?_some hc
      have h00 := (hat 0 (by omega)).trans (List.getElem?_eq_getElem (by omega) : cs'[0]? = some (cs'[0]'(by omega)))
      obtain ⟨b, off, spot⟩ := a
      have := World.cell?_spot h00
      exact ⟨b, off, by simpa [Addr.add] using this⟩
    have hq : ∀ i, ∃ q : Tn, i < len → (∃ b off, some a = some (⟨b, off, none⟩ : Addr) ∧ b < w.heap.size ∧ ∀ j, j < 4 → w.cell? ⟨b, off + (i * 4 + j), none⟩ = q.cells[j]?) ∧ ReadB w q.sl q.bl ∧ q.bl.length ≤ 140737488355328 := by
      intro i
      by_cases hil : i < len
      · obtain ⟨b, off, rfl⟩ := hspot (by omega)
        obtain ⟨cs', hc, ht'⟩ := hel i (by omega)
        obtain ⟨_, hcl, hat⟩ := World.cells?_some hc
        obtain ⟨q, rfl, r1, r2⟩ := trod_turn ht ho hi hb he hce hbe hcl ht' (z2 (D i) (List.mem_map.2 ⟨i, List.mem_range.2 hil, rfl⟩))
        refine ⟨q, fun _ => ⟨⟨b, off, rfl, ?_, fun j hj => ?_⟩, r1, r2⟩⟩
        · have h0 := (hat 0 (by omega)).trans (show q.cells[0]? = some (.int .i64 q.kind) from rfl)
          have := World.block_lt_of_cell? w _ h0
          rw [Go.Deep.add_add, Addr.add_lit] at this
          exact this
        · have := hat j hj
          rwa [Go.Deep.add_add, Addr.add_lit] at this
      · exact ⟨⟨0, 0, 0, none, 0, []⟩, fun h => absurd h hil⟩
    obtain ⟨f, hf⟩ := Classical.skolem.1 hq
    refine ⟨_, (List.range len).map f, hcs, ⟨some a, cap, by simp, fun i x hi => ?_⟩, by rw [List.length_map, List.length_range]; omega⟩
    have hil : i < len := by have := (List.getElem?_eq_some_iff.1 hi).1; simpa using this
    have e : x = f i := by
      rw [List.getElem?_map, List.getElem?_range hil] at hi
      simpa using hi.symm
    rw [e]
    exact hf i hil
/-- A plan by value. -/
theorem open_plan {tp ts tt tb eb tc tk ek : TypeId} {f0 f1 f2 f3 g0 g1 g2 g3 g4 c0 c1 : Field} {v : Value} {d : DataW H} {p : List MemPlace} {r : Reach} {b0 : Nat}
    (hp : P.underlying tp = some (.struct #[g0, g1, g2, g3, g4])) (hpC : P.cellsOf tp = 6) (go : [g0, g1, g2, g3, g4].map (fun f => (f.offset, P.cellsOf f.type)) = [(0, 1), (1, 1), (2, 1), (3, 1), (4, 2)]) (gi : (P.underlying g0.type, P.underlying g1.type, g2.type, P.underlying g3.type, g4.type) = (some (.int .i64), some (.int .i64), ts, some (.int .i64), tc))
    (hc : P.underlying tc = some (.struct #[c0, c1])) (co : [c0, c1].map (fun f => (f.offset, P.cellsOf f.type)) = [(0, 1), (1, 1)]) (ci : (P.underlying c0.type, c1.type) = (some (.int .i64), tk)) (hk : P.underlying tk = some (.slice ek))
    (hts : P.underlying ts = some (.slice tt)) (hC : P.cellsOf tt = 4) (hB : P.bytesOf tt = 48) (ht : P.underlying tt = some (.struct #[f0, f1, f2, f3]))
    (ho : [f0, f1, f2, f3].map (fun f => (f.offset, P.cellsOf f.type)) = [(0, 1), (1, 1), (2, 1), (3, 1)]) (hi : (P.underlying f0.type, P.underlying f1.type, P.underlying f2.type, f3.type) = (some (.int .i64), some (.int .i64), some (.int .i64), tb))
    (hb : P.underlying tb = some (.slice eb)) (he : P.underlying eb = some (.int .u8)) (hce : P.cellsOf eb = 1) (hbe : P.bytesOf eb = 1)
    (hv : Value.okWide P w r b0 tp v) (h : DataW.Trod enc P w base spare held tp v d p) {tss : List TypeId} {ds : List (DataW H)} (hsz : (DataW.weightsEach P tss ds).all (· ≤ reachBytes) = true) {j : Nat} (htj : tss[j]? = some tp) (hdj : ds[j]? = some d) :
    ∃ (pgs frs : Int) (tv : Value) (st ch : Int) (ko : Option Addr) (kn kc : Nat) (l : List Tn), v = planV pgs frs tv st ch (.slice ko kn kc) ∧ TurnsAt w tv l ∧ l.length ≤ 2940000000000 := by
  obtain ⟨cs, rfl, hs⟩ := okWide_struct hp hv
  obtain ⟨fuel, hf⟩ := h
  have hz : Fits P tp d := Fits.of hsz htj hdj
  rw [hpC] at hs
  have hs' : cs.toList.length = 6 := by simpa using hs
  obtain ⟨ys, m, _, hx, _, hyl, hq⟩ := DataW.trod_struct hp hf
  simp only [Prod.mk.injEq] at hx
  rw [hx.1] at hz
  simp only [List.map_cons, List.map_nil, List.cons.injEq, Prod.mk.injEq, and_true] at go gi co ci
  obtain ⟨⟨o0, k0⟩, ⟨o1, k1⟩, ⟨o2, k2⟩, ⟨o3, k3⟩, o4, k4⟩ := go
  obtain ⟨t0, t1, t2, t3, t4⟩ := gi
  obtain ⟨⟨co0, ck0⟩, co1, ck1⟩ := co
  obtain ⟨ct0, ct1⟩ := ci
  have hcl : (Value.agg cs).cells.toList = cs.toList := rfl
  rw [hcl] at hq
  have hcs : cs = cs.toList.toArray := by simp
  rw [hcs]
  generalize cs.toList = L at *
  match L, hs' with
  | [u0, u1, u2, u3, u4, u5], _ =>
    match ys, hyl with
    | [y0, y1, y2, y3, y4], _ =>
      have q0 := hq 0 g0 rfl
      have q1 := hq 1 g1 rfl
      have q2 := hq 2 g2 rfl
      have q3 := hq 3 g3 rfl
      have q4 := hq 4 g4 rfl
      have z2 : Fits P g2.type y2.1 := hz.part hp (j := 2) (f := g2) rfl rfl
      rw [o0, k0] at q0; rw [o1, k1] at q1; rw [o2, k2, t2] at q2; rw [o3, k3] at q3; rw [o4, k4, t4] at q4
      rw [t2] at z2
      obtain ⟨a, e0, _⟩ := DataW.trod_int t0 q0
      obtain ⟨b, e1, _⟩ := DataW.trod_int t1 q1
      obtain ⟨tv, l, e2, hl1, hl2⟩ := trod_turns hts hC hB ht ho hi hb he hce hbe q2 z2
      obtain ⟨c, e3, _⟩ := DataW.trod_int t3 q3
      obtain ⟨xs, m', _, _, _, hxl, hxf⟩ := DataW.trod_struct hc q4
      match xs, hxl with
      | [x0, x1], _ =>
        have r0 := hxf 0 c0 rfl
        have r1 := hxf 1 c1 rfl
        rw [co0, ck0] at r0; rw [co1, ck1, ct1] at r1
        obtain ⟨ch, e4, _⟩ := DataW.trod_int ct0 r0
        simp at e0 e1 e2 e3 e4
        have e5 : ∃ ko kn kc, u5 = .slice ko kn kc := by
          rcases open_slice hk r1 with ⟨h5, _⟩ | ⟨a, len, cap, _, _, _, _, h5, _⟩
          · exact ⟨_, _, _, by simpa using h5⟩
          · exact ⟨_, _, _, by simpa using h5⟩
        obtain ⟨ko, kn, kc, rfl⟩ := e5
        subst e0; subst e1; subst e2; subst e3; subst e4
        exact ⟨a, b, u2, c, ch, ko, kn, kc, l, rfl, hl1, hl2⟩
end
end Go.Proofs.YtfdgiblkllfpjaaGreatDoor
