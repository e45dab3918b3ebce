/- Heap facts block by block: which blocks a call may have changed (Off), and the laws of the walk that speak of whole blocks. -/
import Derived.WalkKit
import Derived.WalkLawsBesides
import Derived.WalkSpells
import Derived.ProofKit
import Derived.Below
import Derived.Handy
import Derived.Lib.Hide
import Derived.Deep.QuietTactic
import Derived.BigQuiet
import Derived.Deep.DeepCutAuto
namespace Go.Proofs.Ytlhmcbcoaplcaaa
open Go.ChangeShapes Go.WideShapes Go.ChangeAt Go.RowKit

theorem ret_int {k : IntKind} {a b : Int} (h : a = b) : Ending.returned (.int k a) = .returned (.int k b) := by rw [h]
theorem ret_bool {a b : Bool} (h : a = b) : Ending.returned (.bool a) = .returned (.bool b) := by rw [h]

def imax : Int := 9223372036854775807
theorem wsub {a b : Int} (h : b ≤ a) (hb : 0 ≤ b) (ha : a ≤ imax) : wrap64 (a - b) = a - b := by unfold imax at ha; unfold wrap64; omega
theorem wadd {a b : Int} (h1 : 0 ≤ a + b) (h2 : a + b ≤ imax) : wrap64 (a + b) = a + b := by unfold imax at h2; unfold wrap64; omega

/-- Outside the blocks of S nothing that was there has changed; the streams are as they were. -/
structure Off (S : List Nat) (w w' : World) : Prop where
  os : w'.os = w.os
  tape : w'.tape = w.tape
  output : w'.output = w.output
  size : w.heap.size ≤ w'.heap.size
  old : ∀ k, k < w.heap.size → k ∉ S → w'.heap[k]? = w.heap[k]?

theorem lt_of_has {w : World} {k : Nat} {o : Obj} (h : w.heap[k]? = some o) : k < w.heap.size := (Array.getElem?_eq_some_iff.1 h).1

theorem Off.refl (S : List Nat) (w : World) : Off S w w := ⟨rfl, rfl, rfl, Nat.le_refl _, fun _ _ _ => rfl⟩
theorem Off.get {S : List Nat} {w w' : World} (h : Off S w w') {k : Nat} {o : Obj} (hk : w.heap[k]? = some o) (hn : k ∉ S) : w'.heap[k]? = some o :=
  (h.old k (lt_of_has hk) hn).trans hk
/-- Two steps; what the second may change was allowed to the first or is newer than its beginning. -/
theorem Off.trans {S T : List Nat} {a b c : World} (h : Off S a b) (k : Off T b c) (hT : ∀ x ∈ T, x ∈ S ∨ a.heap.size ≤ x) : Off S a c :=
  ⟨k.os.trans h.os, k.tape.trans h.tape, k.output.trans h.output, Nat.le_trans h.size k.size, fun i hi hn =>
    (k.old i (Nat.lt_of_lt_of_le hi h.size) (fun hm => by rcases hT i hm with h1 | h1; exact hn h1; omega)).trans (h.old i hi hn)⟩
theorem Off.mono {S T : List Nat} {a b : World} (h : Off S a b) (hT : ∀ x ∈ S, x ∈ T ∨ a.heap.size ≤ x) : Off T a b :=
  ⟨h.os, h.tape, h.output, h.size, fun i hi hn => h.old i hi (fun hm => by rcases hT i hm with h1 | h1; exact hn h1; omega)⟩
theorem Off.below {w w' : World} (h : Off [] w w') : Below w.heap.size w w' := ⟨h.os, h.tape, h.output, h.size, fun k hk => h.old k hk (by simp)⟩

theorem heap_setCell_ne (w : World) (a : Addr) (v : Value) (k : Nat) (h : k ≠ a.block) : (w.setCell a v).heap[k]? = w.heap[k]? := heap_setCell_other w a k v h
theorem heap_setCell_eq (w : World) (b o : Nat) (v : Value) {cs : Array Value} {T : TypeId} {fr : Nat × Nat} (h : w.heap[b]? = some (.cells cs T fr)) :
    (w.setCell ⟨b, o, none⟩ v).heap[b]? = some (.cells (cs.setIfInBounds o v) T fr) := by
  simp only [World.setCell, Array.getElem?_modify, h]
  simp

theorem Off.setCell {S : List Nat} {a w : World} (h : Off S a w) {p : Addr} (hp : p.block ∈ S ∨ a.heap.size ≤ p.block) (u : Value) : Off S a (w.setCell p u) :=
  h.trans (T := [p.block]) ⟨rfl, rfl, rfl, by simp, fun k _ hk => heap_setCell_other w p k u (by simpa using hk)⟩ (by simpa using hp)
theorem Off.alloc {S : List Nat} {a w : World} (h : Off S a w) (o : Obj) : Off S a (w.alloc o) :=
  h.trans (T := []) ⟨rfl, rfl, rfl, by simp, fun k hk _ => Below.heap_alloc w o k hk⟩ (by simp)
theorem Off.drew {S : List Nat} {a w : World} (h : Off S a w) : Off S a w.drew := ⟨h.os, h.tape, h.output, h.size, h.old⟩
theorem Off.drewN {S : List Nat} {a w : World} (h : Off S a w) (n : Nat) : Off S a (w.drewN n) := ⟨h.os, h.tape, h.output, h.size, h.old⟩
theorem Off.setBlock {S : List Nat} {a w : World} (h : Off S a w) {b : Nat} (hb : b ∈ S ∨ a.heap.size ≤ b) (o : Obj) : Off S a (ChangeMaps.setBlock w b o) :=
  h.trans (T := [b]) ⟨rfl, rfl, rfl, by simp [ChangeMaps.setBlock], fun k _ hk => by
    simp only [ChangeMaps.setBlock, Array.getElem?_setIfInBounds]; rw [if_neg (by simp at hk; omega)]⟩ (by simpa using hb)
theorem Off.grown {S : List Nat} {a w w' : World} {row : Option Nat} (h : Off S a w) (hg : w.grownBy w' row) (hr : ∀ k, row = some k → k ∈ S ∨ a.heap.size ≤ k) : Off S a w' := by
  refine h.trans (T := row.toList) ⟨hg.os, hg.tape, hg.output, hg.size, fun k hk hn => hg.block k hk (fun e => hn (by simp [← e]))⟩ ?_
  intro x hx
  exact hr x (by simpa using hx)

/-- What a store does to a block. -/
def putIn (o : Nat) (v : Value) : Obj → Obj
  | .cells cs T fr => .cells (cs.setIfInBounds o v) T fr
  | x => x
theorem heap_setCell (w : World) (b o : Nat) (v : Value) (k : Nat) : (w.setCell ⟨b, o, none⟩ v).heap[k]? = if k = b then (w.heap[k]?).map (putIn o v) else w.heap[k]? := by
  by_cases h : k = b
  · subst h
    simp only [World.setCell, Array.getElem?_modify, if_true]
    rfl
  · rw [if_neg h]; exact heap_setCell_other w _ k v h
theorem heap_alloc (w : World) (o : Obj) (k : Nat) : (w.alloc o).heap[k]? = if k = w.heap.size then some o else w.heap[k]? := by
  show (w.heap.push o)[k]? = _
  rw [Array.getElem?_push]

/-- Block b holds the cells cs, none frozen. (A word that the walk's simp does not open.) -/
def IsC (w : World) (b : Nat) (cs : Array Value) (T : TypeId) : Prop := w.heap[b]? = some (.cells cs T (0, 0))
/-- Block m is a map with these entries. -/
def IsM (w : World) (m : Nat) (es : Array MapEntry) (clk : Nat) : Prop := w.heap[m]? = some (.map es clk)

section
variable {w w' : World} {b k : Nat} {cs : Array Value} {T : TypeId} {es : Array MapEntry} {clk : Nat} {S : List Nat}
theorem IsC.lt (h : IsC w b cs T) : b < w.heap.size := lt_of_has h
theorem IsM.lt (h : IsM w b es clk) : b < w.heap.size := lt_of_has h
theorem IsC.off (h : IsC w b cs T) (ho : Off S w w') (hn : b ∉ S) : IsC w' b cs T := ho.get h hn
theorem IsM.off (h : IsM w b es clk) (ho : Off S w w') (hn : b ∉ S) : IsM w' b es clk := ho.get h hn
/-- The rules by which the walk reads the block, in whatever world still holds it. -/
theorem IsC.reads (_ : IsC w b cs T) : ∀ W, IsC W b cs T → ∀ o, W.cell? ⟨b, o, none⟩ = cs[o]? := fun W h o => by unfold IsC at h; simp [World.cell?, h]
theorem IsC.free (_ : IsC w b cs T) : ∀ W, IsC W b cs T → ∀ o, W.frozen? ⟨b, o, none⟩ = false := fun W h o => by unfold IsC at h; simp [World.frozen?, h]
theorem IsC.cell (h : IsC w b cs T) (o : Nat) : w.cell? ⟨b, o, none⟩ = cs[o]? := h.reads w h o
theorem IsC.unfrozen (h : IsC w b cs T) (o : Nat) : w.frozen? ⟨b, o, none⟩ = false := h.free w h o
theorem IsC.alloc (o : Obj) (h : IsC w b cs T) : IsC (w.alloc o) b cs T := (Below.heap_alloc w o b h.lt).trans h
theorem IsM.alloc (o : Obj) (h : IsM w b es clk) : IsM (w.alloc o) b es clk := (Below.heap_alloc w o b h.lt).trans h
@[go_sem] theorem IsC.drew_iff : IsC w.drew b cs T ↔ IsC w b cs T := Iff.rfl
@[go_sem] theorem IsM.drew_iff : IsM w.drew b es clk ↔ IsM w b es clk := Iff.rfl
theorem IsC.setCell (o : Nat) (v : Value) (h : IsC w b cs T) (hn : b ≠ k) : IsC (w.setCell ⟨k, o, none⟩ v) b cs T := (heap_setCell_other w _ b v hn).trans h
theorem IsM.setCell (a : Addr) (v : Value) (h : IsM w b es clk) : IsM (w.setCell a v) b es clk := by
  unfold IsM at *
  simp only [World.setCell, Array.getElem?_modify]
  by_cases e : a.block = b
  · rw [if_pos e, h]; rfl
  · rw [if_neg e, h]
theorem IsC.setBlock (o : Obj) (h : IsC w b cs T) (hn : b ≠ k) : IsC (ChangeMaps.setBlock w k o) b cs T := by
  unfold IsC ChangeMaps.setBlock at *
  simp only [Array.getElem?_setIfInBounds]; rw [if_neg (Ne.symm hn)]; exact h
theorem IsM.setBlock (o : Obj) (h : IsM w b es clk) (hn : b ≠ k) : IsM (ChangeMaps.setBlock w k o) b es clk := by
  unfold IsM ChangeMaps.setBlock at *
  simp only [Array.getElem?_setIfInBounds]; rw [if_neg (Ne.symm hn)]; exact h
/-! The same as equivalences: the walk's simp rewrites a condition step by step, and needs no nested search. -/
@[go_sem] theorem IsC.alloc_iff (o : Obj) : IsC (w.alloc o) b cs T ↔ (b = w.heap.size ∧ o = .cells cs T) ∨ IsC w b cs T := by
  unfold IsC
  rw [heap_alloc]
  by_cases h : b = w.heap.size
  · subst h; simp
  · simp [h]
@[go_sem] theorem IsM.alloc_iff (o : Obj) : IsM (w.alloc o) b es clk ↔ (b = w.heap.size ∧ o = .map es clk) ∨ IsM w b es clk := by
  unfold IsM
  rw [heap_alloc]
  by_cases h : b = w.heap.size
  · subst h; simp
  · simp [h]
@[go_sem] theorem IsC.setCell_iff (o : Nat) (v : Value) (hn : b ≠ k) : IsC (w.setCell ⟨k, o, none⟩ v) b cs T ↔ IsC w b cs T := by
  unfold IsC; rw [heap_setCell_other w _ b v hn]
@[go_sem] theorem IsM.setCell_iff (o : Nat) (v : Value) : IsM (w.setCell ⟨k, o, none⟩ v) b es clk ↔ IsM w b es clk := by
  unfold IsM
  rw [heap_setCell]
  by_cases h : b = k
  · rw [if_pos h]
    cases w.heap[b]? with
    | none => simp
    | some x => cases x <;> simp [putIn]
  · rw [if_neg h]
@[go_sem] theorem IsC.setBlock_iff (o : Obj) (hn : b ≠ k) : IsC (ChangeMaps.setBlock w k o) b cs T ↔ IsC w b cs T := by
  unfold IsC ChangeMaps.setBlock
  simp only [Array.getElem?_setIfInBounds]; rw [if_neg (Ne.symm hn)]
@[go_sem] theorem IsM.setBlock_iff (o : Obj) (hn : b ≠ k) : IsM (ChangeMaps.setBlock w k o) b es clk ↔ IsM w b es clk := by
  unfold IsM ChangeMaps.setBlock
  simp only [Array.getElem?_setIfInBounds]; rw [if_neg (Ne.symm hn)]
theorem IsM.setSame {es' : Array MapEntry} {clk' : Nat} (h : IsM w b es clk) : IsM (ChangeMaps.setBlock w b (.map es' clk')) b es' clk' := by
  have := h.lt
  unfold IsM ChangeMaps.setBlock
  simp only [Array.getElem?_setIfInBounds, if_true]
  rw [if_pos this]
theorem IsC.set (h : IsC w b cs T) (o : Nat) (v : Value) : IsC (w.setCell ⟨b, o, none⟩ v) b (cs.setIfInBounds o v) T := heap_setCell_eq w b o v h
theorem IsC.new (w : World) (cs : Array Value) (T : TypeId) : IsC (w.alloc (.cells cs T)) w.heap.size cs T := heap_alloc_new w _
theorem IsC.newAt (n : Nat) (hn : n = w.heap.size) : IsC (w.alloc (.cells cs T)) n cs T := by subst hn; exact heap_alloc_new w _
theorem IsM.newAt (n : Nat) (hn : n = w.heap.size) : IsM (w.alloc (.map es clk)) n es clk := by subst hn; exact heap_alloc_new w _
theorem IsM.new (w : World) (es : Array MapEntry) (clk : Nat) : IsM (w.alloc (.map es clk)) w.heap.size es clk := heap_alloc_new w _
@[go_sem] theorem cell_setBlock (o : Obj) (j : Nat) (hn : b ≠ k) : (ChangeMaps.setBlock w k o).cell? ⟨b, j, none⟩ = w.cell? ⟨b, j, none⟩ := by
  simp only [World.cell?, ChangeMaps.setBlock, Array.getElem?_setIfInBounds]; rw [if_neg (Ne.symm hn)]
@[go_sem] theorem frozen_setBlock (o : Obj) (j : Nat) (hn : b ≠ k) : (ChangeMaps.setBlock w k o).frozen? ⟨b, j, none⟩ = w.frozen? ⟨b, j, none⟩ := by
  simp only [World.frozen?, ChangeMaps.setBlock, Array.getElem?_setIfInBounds]; rw [if_neg (Ne.symm hn)]
@[simp, go_sem] theorem size_setBlock (o : Obj) : (ChangeMaps.setBlock w b o).heap.size = w.heap.size := by simp [ChangeMaps.setBlock]
end
end Go.Proofs.Ytlhmcbcoaplcaaa
