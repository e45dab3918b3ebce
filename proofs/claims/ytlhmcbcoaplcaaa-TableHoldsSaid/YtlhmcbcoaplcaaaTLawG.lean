/- TableAll: what holds of its two pairs. -/
import Derived.Test.YtlhmcbcoaplcaaaTLawF
import Derived.Test.YtlhmcbcoaplcaaaOpenS
set_option linter.unusedVariables false
set_option linter.unusedSimpArgs false
namespace Go.Proofs.Ytlhmcbcoaplcaaa
open Go.ChangeShapes Go.WideShapes Go.ChangeAt Go.RowKit

/-- Where a pair's tables lie, if there are any: the program's block, the document's, how many rows. -/
abbrev Slot := Option (Nat × Nat × Nat)
def pvOf : Slot → Value
  | none => .pointer none
  | some (pb, _, _) => .pointer (some ⟨pb, 0, none⟩)
def rvOf : Slot → Value
  | none => .pointer none
  | some (_, qb, _) => .pointer (some ⟨qb, 0, none⟩)
def SlotP (w : World) : Slot → List Nat → Prop
  | none, f => f = []
  | some (pb, qb, m), f => TwoP w pb qb f m
theorem SlotP.off {w w' : World} {x : Slot} {f S : List Nat} (h : SlotP w x f) (ho : Off S w w') (hd : ∀ z ∈ f, z ∉ S) : SlotP w' x f := by
  cases x with
  | none => exact h
  | some t => exact TwoP.off h ho hd
theorem SlotP.lt {w : World} {x : Slot} {f : List Nat} (h : SlotP w x f) : ∀ z ∈ f, z < w.heap.size := by
  cases x with
  | none => intro z hz; have h : f = [] := h; subst h; simp at hz
  | some t => exact TwoP.lt h
/-- Between the calls. -/
def TabsRel (w : World) (b15 b16 : Nat) (x y : Slot) (wr : World) : Prop :=
  ∃ f g, Off [] w wr ∧ IsC wr b15 #[pvOf x, rvOf x] 68 ∧ IsC wr b16 #[pvOf y, rvOf y] 68 ∧ SlotP wr x f ∧ SlotP wr y g ∧ (∀ z ∈ f, z ∉ g) ∧ (∀ z ∈ f ++ g, z ≠ b15 ∧ z ≠ b16 ∧ w.heap.size ≤ z)
section
variable {w wr : World} {b15 b16 : Nat} {x y : Slot} {pb qb m : Nat}
theorem TabsRel.offs (h : TabsRel w b15 b16 x y wr) : Off [] w wr := by obtain ⟨_, _, h, _⟩ := h; exact h
theorem TabsRel.boxes (h : TabsRel w b15 b16 x y wr) : (wr.cell? ⟨b15, 0, none⟩ = some (pvOf x) ∧ wr.cell? ⟨b15, 1, none⟩ = some (rvOf x)) ∧ wr.cell? ⟨b16, 0, none⟩ = some (pvOf y) ∧ wr.cell? ⟨b16, 1, none⟩ = some (rvOf y) := by
  obtain ⟨f, g, h1, h2, h3, _⟩ := h
  exact ⟨⟨by rw [h2.cell]; rfl, by rw [h2.cell]; rfl⟩, by rw [h3.cell]; rfl, by rw [h3.cell]; rfl⟩
theorem TabsRel.off {w' : World} (h : TabsRel w b15 b16 x y wr) (ho : Off [] wr w') : TabsRel w b15 b16 x y w' := by
  obtain ⟨f, g, h1, h2, h3, h4, h5, h6, h7⟩ := h
  exact ⟨f, g, h1.trans ho (by simp), h2.off ho (by simp), h3.off ho (by simp), h4.off ho (by simp), h5.off ho (by simp), h6, h7⟩
theorem TabsRel.callX (h : TabsRel w b15 b16 (some (pb, qb, m)) y wr) (t : St) (W : World) (ho : Off [] wr W) :
    Calls Try.prog 33 #[.agg #[.pointer (some ⟨pb, 0, none⟩), .pointer (some ⟨qb, 0, none⟩)], .agg #[.bool t.second, .int .i64 t.kind, .int .i64 t.r.birth, .int .i64 t.r.id, .int .i64 t.r.state, .int .i64 t.r.last, .int .i64 t.r.next, .int .i64 t.n]] W fun e w' => e = .returned (.bool true) ∧ TabsRel w b15 b16 (some (pb, qb, m)) y w' ∧ ∀ b cs T, wr.heap.size ≤ b → IsC W b cs T → IsC w' b cs T := by
  obtain ⟨f, g, h1, h2, h3, h4, h5, h6, h7⟩ := h
  have hfl := h4.lt
  replace h1 := h1.trans ho (by simp)
  replace h2 := h2.off ho (by simp)
  replace h3 := h3.off ho (by simp)
  replace h4 := h4.off ho (by simp)
  replace h5 := h5.off ho (by simp)
  have h4' : TwoP W pb qb f m := h4
  refine (step33 h4' t.second t.kind t.r t.n).mono ?_
  rintro e w' ⟨rfl, f', s1, s2, s3⟩
  have hs1 := h1.size
  have hg := h5.lt
  have hb15 := h2.lt
  have hb16 := h3.lt
  refine ⟨rfl, ⟨f', g, h1.trans s2 (fun z hz => .inr (h7 z (by simp [hz])).2.2), h2.off s2 (fun hz => (h7 _ (by simp [hz])).1 rfl), h3.off s2 (fun hz => (h7 _ (by simp [hz])).2.1 rfl), s1, h5.off s2 (fun z hz hz' => h6 z hz' hz), fun z hz hz' => ?_, fun z hz => ?_⟩, fun b cs T hb hc => hc.off s2 (fun hz => by have := hfl b hz; omega)⟩
  · rcases s3 z hz with q | q
    · exact h6 z q hz'
    · have := hg z hz'; omega
  · rcases List.mem_append.1 hz with q | q
    · rcases s3 z q with q | q
      · exact h7 z (by simp [q])
      · exact ⟨by omega, by omega, by omega⟩
    · exact h7 z (by simp [q])
theorem TabsRel.callY (h : TabsRel w b15 b16 x (some (pb, qb, m)) wr) (t : St) (W : World) (ho : Off [] wr W) :
    Calls Try.prog 33 #[.agg #[.pointer (some ⟨pb, 0, none⟩), .pointer (some ⟨qb, 0, none⟩)], .agg #[.bool t.second, .int .i64 t.kind, .int .i64 t.r.birth, .int .i64 t.r.id, .int .i64 t.r.state, .int .i64 t.r.last, .int .i64 t.r.next, .int .i64 t.n]] W fun e w' => e = .returned (.bool true) ∧ TabsRel w b15 b16 x (some (pb, qb, m)) w' ∧ ∀ b cs T, wr.heap.size ≤ b → IsC W b cs T → IsC w' b cs T := by
  obtain ⟨f, g, h1, h2, h3, h4, h5, h6, h7⟩ := h
  have hfl := h5.lt
  replace h1 := h1.trans ho (by simp)
  replace h2 := h2.off ho (by simp)
  replace h3 := h3.off ho (by simp)
  replace h4 := h4.off ho (by simp)
  replace h5 := h5.off ho (by simp)
  have h5' : TwoP W pb qb g m := h5
  refine (step33 h5' t.second t.kind t.r t.n).mono ?_
  rintro e w' ⟨rfl, g', s1, s2, s3⟩
  have hs1 := h1.size
  have hf := h4.lt
  have hb15 := h2.lt
  have hb16 := h3.lt
  refine ⟨rfl, ⟨f, g', h1.trans s2 (fun z hz => .inr (h7 z (by simp [hz])).2.2), h2.off s2 (fun hz => (h7 _ (by simp [hz])).1 rfl), h3.off s2 (fun hz => (h7 _ (by simp [hz])).2.1 rfl), h4.off s2 h6, s1, fun z hz hz' => ?_, fun z hz => ?_⟩, fun b cs T hb hc => hc.off s2 (fun hz => by have := hfl b hz; omega)⟩
  · rcases s3 z hz' with q | q
    · exact h6 z hz q
    · have := hf z hz; omega
  · rcases List.mem_append.1 hz with q | q
    · exact h7 z (by simp [q])
    · rcases s3 z q with q | q
      · exact h7 z (by simp [q])
      · exact ⟨by omega, by omega, by omega⟩
/-- At the beginning. -/
theorem TabsRel.start {w2 w4 : World} {f g : List Nat} (o2 : Off [] w w2) (o4 : Off [] w2 w4) (hx : SlotP w2 x f) (hy : SlotP w4 y g) (hf : ∀ z ∈ f, w.heap.size ≤ z) (hg : ∀ z ∈ g, w2.heap.size ≤ z) (w5 : World) (o5 : Off [] w4 w5) :
    TabsRel w w5.heap.size (w5.heap.size + 1) x y ((w5.alloc (.cells #[pvOf x, rvOf x] 68)).alloc (.cells #[pvOf y, rvOf y] 68)) := by
  have e1 := o2.size; have e2 := o4.size; have e3 := o5.size
  have hxl := hx.lt
  have hyl := hy.lt
  refine ⟨f, g, (((o2.trans o4 (by simp)).trans o5 (by simp)).alloc _).alloc _, (IsC.new _ _ _).alloc _, IsC.newAt _ (by simp), hx.off (((o4.trans o5 (by simp)).alloc _).alloc _) (by simp), hy.off ((o5.alloc _).alloc _) (by simp), fun z hz hz' => ?_, fun z hz => ?_⟩
  · have := hxl z hz; have := hg z hz'; omega
  · rcases List.mem_append.1 hz with q | q
    · have := hxl z q; have := hf z q; exact ⟨by omega, by omega, by omega⟩
    · have := hyl z q; have := hg z q; exact ⟨by omega, by omega, by omega⟩
end
theorem TwoP.new {w1 w2 : World} {pb qb m : Nat} (h1 : TabP w1 pb [pb] m []) (h2 : DocP w2 qb [qb] m []) (ho : Off [] w1 w2) (hq : w1.heap.size ≤ qb) : TwoP w2 pb qb [pb, qb] m := by
  refine ⟨[pb], [qb], [], [], h1.off ho (by simp), h2, List.Perm.refl _, fun x hx hx' => ?_, rfl⟩
  have := h1.lt x hx
  simp at hx hx'
  omega
end Go.Proofs.Ytlhmcbcoaplcaaa
