/- Heap facts block by block: which blocks a call may have changed (Off), and the laws of the walk that speak of whole blocks. -/
import Derived.WalkKit
import Derived.WalkLawsBesides
import Derived.WalkSpells
import Derived.ProofKit
import Derived.Below
import Derived.Handy
import Derived.Lib.Hide
import Derived.Deep.QuietTactic
import Derived.BigQuiet
import Derived.Deep.DeepCutAuto
import Derived.Deep.AppendSrc
import Derived.Laws.CopyOwn
import Derived.Lib.AppendZeros
import Derived.Lib.Overlaps
import Derived.Laws.IdiomCopy
import Derived.Test.YtfdgiblkllfpjaaGreatDoorChecked
namespace Go.Proofs.YtfdgiblkllfpjaaGreatDoor
open Go.ChangeShapes Go.WideShapes Go.ChangeAt Go.RowKit

theorem ret_int {k : IntKind} {a b : Int} (h : a = b) : Ending.returned (.int k a) = .returned (.int k b) := by rw [h]
theorem ret_bool {a b : Bool} (h : a = b) : Ending.returned (.bool a) = .returned (.bool b) := by rw [h]

def imax : Int := 9223372036854775807
theorem wsub {a b : Int} (h : b ≤ a) (hb : 0 ≤ b) (ha : a ≤ imax) : wrap64 (a - b) = a - b := by unfold imax at ha; unfold wrap64; omega
theorem wadd {a b : Int} (h1 : 0 ≤ a + b) (h2 : a + b ≤ imax) : wrap64 (a + b) = a + b := by unfold imax at h2; unfold wrap64; omega

/-- Outside the blocks of S nothing that was there has changed; the streams are as they were. -/
structure Off (S : List Nat) (w w' : World) : Prop where
  os : w'.os = w.os
  tape : w'.tape = w.tape
  output : w'.output = w.output
  size : w.heap.size ≤ w'.heap.size
  old : ∀ k, k < w.heap.size → k ∉ S → w'.heap[k]? = w.heap[k]?

theorem lt_of_has {w : World} {k : Nat} {o : Obj} (h : w.heap[k]? = some o) : k < w.heap.size := (Array.getElem?_eq_some_iff.1 h).1

theorem Off.refl (S : List Nat) (w : World) : Off S w w := ⟨rfl, rfl, rfl, Nat.le_refl _, fun _ _ _ => rfl⟩
theorem Off.get {S : List Nat} {w w' : World} (h : Off S w w') {k : Nat} {o : Obj} (hk : w.heap[k]? = some o) (hn : k ∉ S) : w'.heap[k]? = some o :=
  (h.old k (lt_of_has hk) hn).trans hk
/-- Two steps; what the second may change was allowed to the first or is newer than its beginning. -/
theorem Off.trans {S T : List Nat} {a b c : World} (h : Off S a b) (k : Off T b c) (hT : ∀ x ∈ T, x ∈ S ∨ a.heap.size ≤ x) : Off S a c :=
  ⟨k.os.trans h.os, k.tape.trans h.tape, k.output.trans h.output, Nat.le_trans h.size k.size, fun i hi hn =>
    (k.old i (Nat.lt_of_lt_of_le hi h.size) (fun hm => by rcases hT i hm with h1 | h1; exact hn h1; omega)).trans (h.old i hi hn)⟩
theorem Off.mono {S T : List Nat} {a b : World} (h : Off S a b) (hT : ∀ x ∈ S, x ∈ T ∨ a.heap.size ≤ x) : Off T a b :=
  ⟨h.os, h.tape, h.output, h.size, fun i hi hn => h.old i hi (fun hm => by rcases hT i hm with h1 | h1; exact hn h1; omega)⟩
theorem Off.below {w w' : World} (h : Off [] w w') : Below w.heap.size w w' := ⟨h.os, h.tape, h.output, h.size, fun k hk => h.old k hk (by simp)⟩

theorem heap_setCell_ne (w : World) (a : Addr) (v : Value) (k : Nat) (h : k ≠ a.block) : (w.setCell a v).heap[k]? = w.heap[k]? := heap_setCell_other w a k v h
theorem heap_setCell_eq (w : World) (b o : Nat) (v : Value) {cs : Array Value} {T : TypeId} {fr : Nat × Nat} (h : w.heap[b]? = some (.cells cs T fr)) :
    (w.setCell ⟨b, o, none⟩ v).heap[b]? = some (.cells (cs.setIfInBounds o v) T fr) := by
  simp only [World.setCell, Array.getElem?_modify, h]
  simp

theorem Off.setCell {S : List Nat} {a w : World} (h : Off S a w) {p : Addr} (hp : p.block ∈ S ∨ a.heap.size ≤ p.block) (u : Value) : Off S a (w.setCell p u) :=
  h.trans (T := [p.block]) ⟨rfl, rfl, rfl, by simp, fun k _ hk => heap_setCell_other w p k u (by simpa using hk)⟩ (by simpa using hp)
theorem Off.alloc {S : List Nat} {a w : World} (h : Off S a w) (o : Obj) : Off S a (w.alloc o) :=
  h.trans (T := []) ⟨rfl, rfl, rfl, by simp, fun k hk _ => Below.heap_alloc w o k hk⟩ (by simp)
theorem Off.drew {S : List Nat} {a w : World} (h : Off S a w) : Off S a w.drew := ⟨h.os, h.tape, h.output, h.size, h.old⟩
theorem Off.drewN {S : List Nat} {a w : World} (h : Off S a w) (n : Nat) : Off S a (w.drewN n) := ⟨h.os, h.tape, h.output, h.size, h.old⟩
theorem Off.setBlock {S : List Nat} {a w : World} (h : Off S a w) {b : Nat} (hb : b ∈ S ∨ a.heap.size ≤ b) (o : Obj) : Off S a (ChangeMaps.setBlock w b o) :=
  h.trans (T := [b]) ⟨rfl, rfl, rfl, by simp [ChangeMaps.setBlock], fun k _ hk => by
    simp only [ChangeMaps.setBlock, Array.getElem?_setIfInBounds]; rw [if_neg (by simp at hk; omega)]⟩ (by simpa using hb)
theorem Off.grown {S : List Nat} {a w w' : World} {row : Option Nat} (h : Off S a w) (hg : w.grownBy w' row) (hr : ∀ k, row = some k → k ∈ S ∨ a.heap.size ≤ k) : Off S a w' := by
  refine h.trans (T := row.toList) ⟨hg.os, hg.tape, hg.output, hg.size, fun k hk hn => hg.block k hk (fun e => hn (by simp [← e]))⟩ ?_
  intro x hx
  exact hr x (by simpa using hx)

/-- What a store does to a block. -/
def putIn (o : Nat) (v : Value) : Obj → Obj
  | .cells cs T fr => .cells (cs.setIfInBounds o v) T fr
  | x => x
theorem heap_setCell (w : World) (b o : Nat) (v : Value) (k : Nat) : (w.setCell ⟨b, o, none⟩ v).heap[k]? = if k = b then (w.heap[k]?).map (putIn o v) else w.heap[k]? := by
  by_cases h : k = b
  · subst h
    simp only [World.setCell, Array.getElem?_modify, if_true]
    rfl
  · rw [if_neg h]; exact heap_setCell_other w _ k v h
theorem heap_alloc (w : World) (o : Obj) (k : Nat) : (w.alloc o).heap[k]? = if k = w.heap.size then some o else w.heap[k]? := by
  show (w.heap.push o)[k]? = _
  rw [Array.getElem?_push]

/-- Block b holds the cells cs, none frozen. (A word that the walk's simp does not open.) -/
def IsC (w : World) (b : Nat) (cs : Array Value) (T : TypeId) : Prop := w.heap[b]? = some (.cells cs T (0, 0))
/-- Block m is a map with these entries. -/
def IsM (w : World) (m : Nat) (es : Array MapEntry) (clk : Nat) : Prop := w.heap[m]? = some (.map es clk)

section
variable {w w' : World} {b k : Nat} {cs : Array Value} {T : TypeId} {es : Array MapEntry} {clk : Nat} {S : List Nat}
theorem IsC.lt (h : IsC w b cs T) : b < w.heap.size := lt_of_has h
theorem IsM.lt (h : IsM w b es clk) : b < w.heap.size := lt_of_has h
theorem IsC.off (h : IsC w b cs T) (ho : Off S w w') (hn : b ∉ S) : IsC w' b cs T := ho.get h hn
theorem IsM.off (h : IsM w b es clk) (ho : Off S w w') (hn : b ∉ S) : IsM w' b es clk := ho.get h hn
/-- The rules by which the walk reads the block, in whatever world still holds it. -/
theorem IsC.reads (_ : IsC w b cs T) : ∀ W, IsC W b cs T → ∀ o, W.cell? ⟨b, o, none⟩ = cs[o]? := fun W h o => by unfold IsC at h; simp [World.cell?, h]
theorem IsC.free (_ : IsC w b cs T) : ∀ W, IsC W b cs T → ∀ o, W.frozen? ⟨b, o, none⟩ = false := fun W h o => by unfold IsC at h; simp [World.frozen?, h]
theorem IsC.cell (h : IsC w b cs T) (o : Nat) : w.cell? ⟨b, o, none⟩ = cs[o]? := h.reads w h o
theorem IsC.unfrozen (h : IsC w b cs T) (o : Nat) : w.frozen? ⟨b, o, none⟩ = false := h.free w h o
theorem IsC.alloc (o : Obj) (h : IsC w b cs T) : IsC (w.alloc o) b cs T := (Below.heap_alloc w o b h.lt).trans h
theorem IsM.alloc (o : Obj) (h : IsM w b es clk) : IsM (w.alloc o) b es clk := (Below.heap_alloc w o b h.lt).trans h
@[go_sem] theorem IsC.drew_iff : IsC w.drew b cs T ↔ IsC w b cs T := Iff.rfl
@[go_sem] theorem IsM.drew_iff : IsM w.drew b es clk ↔ IsM w b es clk := Iff.rfl
theorem IsC.setCell (o : Nat) (v : Value) (h : IsC w b cs T) (hn : b ≠ k) : IsC (w.setCell ⟨k, o, none⟩ v) b cs T := (heap_setCell_other w _ b v hn).trans h
theorem IsM.setCell (a : Addr) (v : Value) (h : IsM w b es clk) : IsM (w.setCell a v) b es clk := by
  unfold IsM at *
  simp only [World.setCell, Array.getElem?_modify]
  by_cases e : a.block = b
  · rw [if_pos e, h]; rfl
  · rw [if_neg e, h]
theorem IsC.setBlock (o : Obj) (h : IsC w b cs T) (hn : b ≠ k) : IsC (ChangeMaps.setBlock w k o) b cs T := by
  unfold IsC ChangeMaps.setBlock at *
  simp only [Array.getElem?_setIfInBounds]; rw [if_neg (Ne.symm hn)]; exact h
theorem IsM.setBlock (o : Obj) (h : IsM w b es clk) (hn : b ≠ k) : IsM (ChangeMaps.setBlock w k o) b es clk := by
  unfold IsM ChangeMaps.setBlock at *
  simp only [Array.getElem?_setIfInBounds]; rw [if_neg (Ne.symm hn)]; exact h
/-! The same as equivalences: the walk's simp rewrites a condition step by step, and needs no nested search. -/
@[go_sem] theorem IsC.alloc_iff (o : Obj) : IsC (w.alloc o) b cs T ↔ (b = w.heap.size ∧ o = .cells cs T) ∨ IsC w b cs T := by
  unfold IsC
  rw [heap_alloc]
  by_cases h : b = w.heap.size
  · subst h; simp
  · simp [h]
@[go_sem] theorem IsM.alloc_iff (o : Obj) : IsM (w.alloc o) b es clk ↔ (b = w.heap.size ∧ o = .map es clk) ∨ IsM w b es clk := by
  unfold IsM
  rw [heap_alloc]
  by_cases h : b = w.heap.size
  · subst h; simp
  · simp [h]
@[go_sem] theorem IsC.setCell_iff (o : Nat) (v : Value) (hn : b ≠ k) : IsC (w.setCell ⟨k, o, none⟩ v) b cs T ↔ IsC w b cs T := by
  unfold IsC; rw [heap_setCell_other w _ b v hn]
@[go_sem] theorem IsM.setCell_iff (o : Nat) (v : Value) : IsM (w.setCell ⟨k, o, none⟩ v) b es clk ↔ IsM w b es clk := by
  unfold IsM
  rw [heap_setCell]
  by_cases h : b = k
  · rw [if_pos h]
    cases w.heap[b]? with
    | none => simp
    | some x => cases x <;> simp [putIn]
  · rw [if_neg h]
@[go_sem] theorem IsC.setBlock_iff (o : Obj) (hn : b ≠ k) : IsC (ChangeMaps.setBlock w k o) b cs T ↔ IsC w b cs T := by
  unfold IsC ChangeMaps.setBlock
  simp only [Array.getElem?_setIfInBounds]; rw [if_neg (Ne.symm hn)]
@[go_sem] theorem IsM.setBlock_iff (o : Obj) (hn : b ≠ k) : IsM (ChangeMaps.setBlock w k o) b es clk ↔ IsM w b es clk := by
  unfold IsM ChangeMaps.setBlock
  simp only [Array.getElem?_setIfInBounds]; rw [if_neg (Ne.symm hn)]
theorem IsM.setSame {es' : Array MapEntry} {clk' : Nat} (h : IsM w b es clk) : IsM (ChangeMaps.setBlock w b (.map es' clk')) b es' clk' := by
  have := h.lt
  unfold IsM ChangeMaps.setBlock
  simp only [Array.getElem?_setIfInBounds, if_true]
  rw [if_pos this]
theorem IsC.set (h : IsC w b cs T) (o : Nat) (v : Value) : IsC (w.setCell ⟨b, o, none⟩ v) b (cs.setIfInBounds o v) T := heap_setCell_eq w b o v h
theorem IsC.new (w : World) (cs : Array Value) (T : TypeId) : IsC (w.alloc (.cells cs T)) w.heap.size cs T := heap_alloc_new w _
theorem IsC.newAt (n : Nat) (hn : n = w.heap.size) : IsC (w.alloc (.cells cs T)) n cs T := by subst hn; exact heap_alloc_new w _
theorem IsM.newAt (n : Nat) (hn : n = w.heap.size) : IsM (w.alloc (.map es clk)) n es clk := by subst hn; exact heap_alloc_new w _
theorem IsM.new (w : World) (es : Array MapEntry) (clk : Nat) : IsM (w.alloc (.map es clk)) w.heap.size es clk := heap_alloc_new w _
@[go_sem] theorem cell_setBlock (o : Obj) (j : Nat) (hn : b ≠ k) : (ChangeMaps.setBlock w k o).cell? ⟨b, j, none⟩ = w.cell? ⟨b, j, none⟩ := by
  simp only [World.cell?, ChangeMaps.setBlock, Array.getElem?_setIfInBounds]; rw [if_neg (Ne.symm hn)]
@[go_sem] theorem frozen_setBlock (o : Obj) (j : Nat) (hn : b ≠ k) : (ChangeMaps.setBlock w k o).frozen? ⟨b, j, none⟩ = w.frozen? ⟨b, j, none⟩ := by
  simp only [World.frozen?, ChangeMaps.setBlock, Array.getElem?_setIfInBounds]; rw [if_neg (Ne.symm hn)]
@[simp, go_sem] theorem size_setBlock (o : Obj) : (ChangeMaps.setBlock w b o).heap.size = w.heap.size := by simp [ChangeMaps.setBlock]
end
end Go.Proofs.YtfdgiblkllfpjaaGreatDoor

/- Slices that a call owns: what they hold, append, stores, reslicing, copy; blocks of any element. -/
set_option linter.unusedVariables false
set_option linter.unusedSimpArgs false
namespace Go.Proofs.YtfdgiblkllfpjaaGreatDoor
section
open Go.RowKit

/-- The blocks of a slice value. -/
def blk : Value → List Nat
  | .slice (some a) _ _ => [a.block]
  | _ => []

/-- The slice value v, of n elements of sz cells each, holds the cells xs; its block holds its whole capacity. -/
def Own (w : World) (e : TypeId) (sz : Nat) (v : Value) (n : Nat) (xs : List Value) : Prop :=
  xs.length = n * sz ∧ ((v = .slice none 0 0 ∧ n = 0) ∨
    ∃ g off cap cur, v = .slice (some ⟨g, off, none⟩) n cap ∧ IsC w g cur e ∧ n ≤ cap ∧ cap ≤ maxLen ∧ off + cap * sz ≤ cur.size ∧ (cur.toList.drop off).take (n * sz) = xs)

section
variable {w w' : World} {e : TypeId} {sz : Nat} {v : Value} {n : Nat} {xs : List Value} {S : List Nat}

theorem Own.nil (w : World) (e : TypeId) (sz : Nat) : Own w e sz (.slice none 0 0) 0 [] := ⟨by simp, .inl ⟨rfl, rfl⟩⟩
theorem Own.off (h : Own w e sz v n xs) (ho : Off S w w') (hn : ∀ b ∈ blk v, b ∉ S) : Own w' e sz v n xs := by
  refine ⟨h.1, ?_⟩
  rcases h.2 with h0 | ⟨g, off, cap, cur, rfl, hc, r⟩
  · exact .inl h0
  · exact .inr ⟨g, off, cap, cur, rfl, hc.off ho (hn g (by simp [blk])), r⟩
theorem Own.lt (h : Own w e sz v n xs) : ∀ b ∈ blk v, b < w.heap.size := by
  rcases h.2 with ⟨rfl, _⟩ | ⟨g, off, cap, cur, rfl, hc, _⟩
  · simp [blk]
  · intro b hb; simp [blk] at hb; subst hb; exact hc.lt
theorem Own.val (h : Own w e sz v n xs) : ∃ ao cap, v = .slice ao n cap ∧ (ao = none → n = 0) := by
  rcases h.2 with ⟨rfl, rfl⟩ | ⟨g, off, cap, cur, rfl, _⟩
  · exact ⟨none, 0, rfl, fun _ => rfl⟩
  · exact ⟨_, cap, rfl, fun h => by cases h⟩
theorem Own.new (w : World) (e : TypeId) (sz : Nat) (cs : Array Value) (n : Nat) (hm : n ≤ maxLen) (hs : cs.size = n * sz) :
    Own (w.alloc (.cells cs e)) e sz (.slice (some ⟨w.heap.size, 0, none⟩) n n) n cs.toList :=
  ⟨by simpa using hs, .inr ⟨w.heap.size, 0, n, cs, rfl, IsC.new _ _ _, Nat.le_refl _, hm, by omega, by rw [List.drop_zero, List.take_of_length_le (by simp [hs])]⟩⟩

theorem cut_get {l : List Value} {off k j : Nat} (hj : j < k) : l[off + j]? = ((l.drop off).take k)[j]? := by
  rw [List.getElem?_take, if_pos hj, List.getElem?_drop]

theorem Own.cellAt {g off cap : Nat} (h : Own w e sz (.slice (some ⟨g, off, none⟩) n cap) n xs) (j : Nat) (hj : j < n * sz) : w.cell? ⟨g, off + j, none⟩ = xs[j]? := by
  rcases h.2 with ⟨h', _⟩ | ⟨g', off', cap', cur, h', hc, _, _, _, ht⟩
  · simp at h'
  · simp only [Value.slice.injEq, Option.some.injEq, Addr.mk.injEq, and_true, true_and] at h'
    obtain ⟨⟨rfl, rfl⟩, rfl⟩ := h'
    rw [hc.cell, ← ht, ← cut_get hj]
    simp
theorem Own.isC {g off cap : Nat} (h : Own w e sz (.slice (some ⟨g, off, none⟩) n cap) n xs) : ∃ cur, IsC w g cur e ∧ off + cap * sz ≤ cur.size ∧ n ≤ cap := by
  rcases h.2 with ⟨h', _⟩ | ⟨g', off', cap', cur, h', hc, hn, _, hs, ht⟩
  · simp at h'
  · simp only [Value.slice.injEq, Option.some.injEq, Addr.mk.injEq, and_true, true_and] at h'
    obtain ⟨⟨rfl, rfl⟩, rfl⟩ := h'
    exact ⟨cur, hc, hs, hn⟩
theorem Own.unfrozen {g off cap : Nat} (h : Own w e sz (.slice (some ⟨g, off, none⟩) n cap) n xs) (o : Nat) : w.frozen? ⟨g, o, none⟩ = false := by
  obtain ⟨cur, hc, _⟩ := h.isC
  exact hc.unfrozen o

/-- A store into a cell of an element. -/
theorem Own.set {g off cap : Nat} (h : Own w e sz (.slice (some ⟨g, off, none⟩) n cap) n xs) (j : Nat) (u : Value) :
    Own (w.setCell ⟨g, off + j, none⟩ u) e sz (.slice (some ⟨g, off, none⟩) n cap) n (xs.set j u) := by
  refine ⟨by simpa using h.1, ?_⟩
  rcases h.2 with ⟨h', _⟩ | ⟨g', off', cap', cur, h', hc, hn, hm, hs, ht⟩
  · simp at h'
  · simp only [Value.slice.injEq, Option.some.injEq, Addr.mk.injEq, and_true, true_and] at h'
    obtain ⟨⟨rfl, rfl⟩, rfl⟩ := h'
    refine .inr ⟨g, off, cap, _, rfl, hc.set _ _, hn, hm, by simpa using hs, ?_⟩
    rw [Array.toList_setIfInBounds, ← ht, List.drop_set]
    rw [if_neg (by omega), show off + j - off = j by omega, List.take_set]

theorem isC_setCells {g : Nat} : ∀ (vs : List Value) (o : Nat) (w : World) (cur : Array Value), IsC w g cur e → o + vs.length ≤ cur.size → IsC (w.setCells g o vs) g (splice cur.toList o vs).toArray e
  | [], o, w, cur, h, _ => by simpa [World.setCells, splice] using h
  | v :: vs, o, w, cur, h, hl => by
    have h1 := h.set o v
    have := isC_setCells vs (o + 1) (w.setCell ⟨g, o, none⟩ v) _ h1 (by simp at hl ⊢; omega)
    rw [World.setCells]
    simp only [List.length_cons] at hl
    have e : splice (cur.setIfInBounds o v).toList (o + 1) vs = splice cur.toList o (v :: vs) := by
      have hlen : o < cur.toList.length := by simp; omega
      unfold splice
      rw [Array.toList_setIfInBounds]
      have e1 : (cur.toList.set o v).take (o + 1) = cur.toList.take o ++ [v] := by
        rw [List.take_add_one, List.take_set_of_le (Nat.le_refl o), List.getElem?_set_self hlen]
        rfl
      have e2 : (cur.toList.set o v).drop (o + 1 + vs.length) = cur.toList.drop (o + (v :: vs).length) := by
        rw [List.drop_set_of_lt (by omega), List.length_cons]
        congr 1; omega
      rw [e1, e2]; simp
    rw [e] at this
    exact this
theorem off_setCells {g : Nat} {a : World} : ∀ (vs : List Value) (o : Nat) (w : World), Off S a w → (g ∈ S ∨ a.heap.size ≤ g) → Off S a (w.setCells g o vs)
  | [], _, _, h, _ => h
  | v :: vs, o, w, h, hg => off_setCells vs (o + 1) _ (h.setCell hg v) hg
end

section
variable {P : Program} {w : World} {e : TypeId} {sz : Nat} {v : Value} {n : Nat} {xs : List Value}

/-- append, whatever the source: the elements behind one another; the block is the old one or a new one; nothing else has changed. -/
theorem run_append_vec (h : Own w e sz v n xs) {t tx ty : TypeId} {i : TypeInfo} {z : Value} {bytes : Nat} (ht : P.underlying t = some (.slice e)) (hi : P.info? e = some i) (hz : i.zero = some z)
    (hsz : i.size = sz) (hby : i.bytes = bytes) (hzs : z.cells.size = sz) {x : Value} {m : Nat} {news : List Value} (hs : Src P sz tx x m news w) (h63 : n + m ≤ maxLen) (hb : (n + m) * bytes ≤ 140737488355328) :
    ∃ v' w', (Builtin.append_ #[t, tx] ty #[v, x]).run P w = .ok v' w' ∧ Own w' e sz v' (n + m) (xs ++ news) ∧ Off (blk v) w w' ∧ (blk v' = blk v ∨ blk v' = [w.heap.size]) := by
  subst hsz; subst hby
  have hsmall : ((n + m : Nat) : Int) ≤ 9223372036854775807 := by simp only [maxLen] at h63; omega
  have hlen : (xs ++ news).length = (n + m) * i.size := by rw [List.length_append, h.1, hs.newsLen, Nat.add_mul]
  have grow : ∀ (base : Option Addr) (cap : Nat), v = .slice base n cap → cap < n + m → (Builtin.firstCells i.size n (.slice base n cap)).run P w.drew = .ok xs.toArray w.drew →
      ∃ v' w', (Builtin.append_ #[t, tx] ty #[v, x]).run P w = .ok v' w' ∧ Own w' e i.size v' (n + m) (xs ++ news) ∧ Off (blk v) w w' ∧ (blk v' = blk v ∨ blk v' = [w.heap.size]) := by
    intro base cap hv hlt hold
    have hr := run_append_grow_src (P := P) w t tx ty e i z ht hi hz base n cap xs hold x m news hs hlt hsmall (growslice_fits (by omega) hb)
    rw [← hv] at hr
    have hge := grownCap_ge w (n + m) cap e
    refine ⟨_, _, hr, ⟨hlen, .inr ⟨w.heap.size, 0, grownCap w (n + m) cap e, _, rfl, IsC.new w.drew _ _, hge, grownCap_le_maxLen w (n + m) cap e h63, ?_, ?_⟩⟩, ((Off.refl _ w).drew).alloc _, .inr rfl⟩
    · simp only [Array.size_append, List.size_toArray, size_zeroCells, hzs, hlen, ← Nat.add_mul]
      rw [Nat.zero_add]
      exact Nat.mul_le_mul_right _ (by omega)
    · rw [List.drop_zero, Array.toList_append, List.toList_toArray, ← hlen]
      exact List.take_left
  rcases h.2 with ⟨rfl, rfl⟩ | ⟨g, off, cap, cur, rfl, hc, hnc, hcm, hcs, htake⟩
  · have hx : xs = [] := List.eq_nil_of_length_eq_zero (by simpa using h.1)
    subst hx
    by_cases hm : m = 0
    · subst hm
      have hn : news = [] := List.eq_nil_of_length_eq_zero (by simpa using hs.newsLen)
      subst hn
      refine ⟨.slice none 0 0, w, ?_, Own.nil w e i.size, Off.refl _ _, .inl rfl⟩
      have hl := hs.len w
      have hcells := hs.cells
      rcases hs.kind with ⟨e', hk⟩ | hk <;> simp [Builtin.append_, run_underlying ht, run_underlying hk, sizeOf, typeInfo, hi, hs.len, hs.cells]
    · exact grow none 0 rfl (by omega) (run_firstCells_none w.drew i.size 0 0 0)
  · by_cases hroom : n + m ≤ cap
    · have hfit : n * i.size + news.length ≤ cap * i.size := by rw [hs.newsLen, ← Nat.add_mul]; exact Nat.mul_le_mul_right _ hroom
      have hr := run_append_room_src (P := P) w t tx ty e i ht hi g off n cap x m news hs hroom
        (fun j hj => by rw [hc.cell]; have : off + n * i.size + j < cur.size := by omega
                        simp [this]) (fun j _ => hc.unfrozen _)
      refine ⟨_, _, hr, ⟨hlen, .inr ⟨g, off, cap, _, rfl, isC_setCells news (off + n * i.size) w cur hc (by omega), hroom, hcm, ?_, ?_⟩⟩, off_setCells _ _ _ (Off.refl _ _) (.inl (by simp [blk])), .inl rfl⟩
      · rw [List.size_toArray, length_splice _ _ _ (by simp; omega)]; simpa using hcs
      · rw [List.toList_toArray]
        unfold splice
        have hl1 : (cur.toList.take (off + n * i.size)).drop off = xs := by
          rw [List.drop_take, show off + n * i.size - off = n * i.size by omega, htake]
        have hlt : (cur.toList.take (off + n * i.size)).length = off + n * i.size := by rw [List.length_take]; simp; omega
        rw [List.drop_append_of_le_length (by omega), hl1, ← List.append_assoc, ← hlen]
        exact List.take_left
    · refine grow (some ⟨g, off, none⟩) cap rfl (by omega) ?_
      refine run_firstCells_some w.drew i.size n ⟨g, off, none⟩ n cap xs h.1 (fun j u hj => ?_)
      rw [Addr.add_lit]
      have hjl : j < n * i.size := by rw [← h.1]; exact (List.getElem?_eq_some_iff.1 hj).1
      exact (h.cellAt j hjl).trans hj

theorem wpList_append_vec {ops : Array Oper} {rest : List Oper} {o : Oper} {a : Act} {Q : Exit → Act → World → Prop} (hgd : o.guard = none) (s x : Operand) (t tx : TypeId)
    (ho : o.op = .call { callee := .builtin .append, args := #[s, x], argTypes := #[t, tx] })
    {i : TypeInfo} {z : Value} {bytes : Nat} (hs : a.eval s = v) (h : Own w e sz v n xs) (ht : P.underlying t = some (.slice e)) (hi : P.info? e = some i) (hz : i.zero = some z)
    (hsz : i.size = sz) (hby : i.bytes = bytes) (hzs : z.cells.size = sz) {u : Value} {m : Nat} {news : List Value} (hx : a.eval x = u) (hsrc : Src P sz tx u m news w) (h63 : n + m ≤ maxLen) (hb : (n + m) * bytes ≤ 140737488355328)
    (hK : ∀ v' w', Own w' e sz v' (n + m) (xs ++ news) → Off (blk v) w w' → (blk v' = blk v ∨ blk v' = [w.heap.size]) → wpList P ops Q rest (a.put o.dst v') w') : wpList P ops Q (o :: rest) a w := by
  refine wpList_plain hgd fun K hK' => ?_
  obtain ⟨v', w', hr, h1, h2, h3⟩ := run_append_vec (P := P) h (ty := o.type) ht hi hz hsz hby hzs hsrc h63 hb
  unfold Oper.wp execOp
  simp only [ho, resolve, invoke, builtin, Sem.run_bind, Sem.run_pure, Result.andThen_ok, List.map_toArray, List.map_cons, List.map_nil, hs, hx, hr]
  exact hK' _ _ (hK v' w' h1 h2 h3)

/-- What a slice yields to append or copy. -/
theorem Own.src {t e' : TypeId} (h : Own w e sz v n xs) (hk : P.underlying t = some (.slice e')) (h1 : ∀ u ∈ xs, u.oneCell' = true) : Src P sz t v n xs w := by
  rcases h.2 with ⟨rfl, rfl⟩ | ⟨g, off, cap, cur, rfl, hc, hnc, hcm, hcs, htake⟩
  · have hx : xs = [] := List.eq_nil_of_length_eq_zero (by simpa using h.1)
    subst hx
    exact Src.ofNil w hk 0
  · refine Src.ofSlice w hk ⟨g, off, none⟩ n cap xs h.1 (fun j u hj => ?_) h1
    rw [Addr.add_lit]
    have hjl : j < n * sz := by rw [← h.1]; exact (List.getElem?_eq_some_iff.1 hj).1
    exact (h.cellAt j hjl).trans hj
end

theorem Own.alloc {w : World} {e : TypeId} {sz : Nat} {v : Value} {n : Nat} {xs : List Value} (h : Own w e sz v n xs) (o : Obj) : Own (w.alloc o) e sz v n xs := h.off ((Off.refl [] w).alloc o) (by simp)
theorem Own.drew {w : World} {e : TypeId} {sz : Nat} {v : Value} {n : Nat} {xs : List Value} (h : Own w e sz v n xs) : Own w.drew e sz v n xs := h.off ((Off.refl [] w).drew) (by simp)
theorem Own.setCell {w : World} {e : TypeId} {sz : Nat} {v : Value} {n : Nat} {xs : List Value} (h : Own w e sz v n xs) (p : Addr) (u : Value) (hn : p.block ∉ blk v) : Own (w.setCell p u) e sz v n xs :=
  h.off ((Off.refl [p.block] w).setCell (.inl (by simp)) u) (by intro b hb; simp; intro e; subst e; exact hn hb)

/-- A slice that was laid just now, handed to append. -/
theorem src_new {P : Program} (w : World) {t e e' : TypeId} {sz : Nat} (cs : Array Value) (m : Nat) (hk : P.underlying t = some (.slice e')) (hm : m ≤ maxLen) (hs : cs.size = m * sz) (h1 : ∀ u ∈ cs.toList, u.oneCell' = true) :
    Src P sz t (.slice (some ⟨w.heap.size, 0, none⟩) m m) m cs.toList (w.alloc (.cells cs e)) :=
  (Own.new w e sz cs m hm hs).src hk h1

/-- append at the operation: one closed fact on the element's type, one bound. -/
theorem wp_app {P : Program} {w : World} {e : TypeId} {sz : Nat} {v : Value} {n : Nat} {xs : List Value} {ops : Array Oper} {rest : List Oper} {o : Oper} {a : Act} {Q : Exit → Act → World → Prop} (hgd : o.guard = none) (s x : Operand) (t tx : TypeId)
    (ho : o.op = .call { callee := .builtin .append, args := #[s, x], argTypes := #[t, tx] })
    {z : Value} {bytes : Nat} (hs : a.eval s = v) (h : Own w e sz v n xs) (ht : P.underlying t = some (.slice e)) (hinfo : (P.info? e).map (fun i => (i.zero, i.size, i.bytes)) = some (some z, sz, bytes))
    (hzs : z.cells.size = sz) (hp : 0 < bytes) {u : Value} {m : Nat} {news : List Value} (hx : a.eval x = u) (hsrc : Src P sz tx u m news w) (hb : (n + m) * bytes ≤ 140737488355328)
    (hK : ∀ ao cap w', Own w' e sz (.slice ao (n + m) cap) (n + m) (xs ++ news) → Off (blk v) w w' → (blk (.slice ao (n + m) cap) = blk v ∨ blk (.slice ao (n + m) cap) = [w.heap.size]) → wpList P ops Q rest (a.put o.dst (.slice ao (n + m) cap)) w') : wpList P ops Q (o :: rest) a w := by
  obtain ⟨i, hi, hz, hsz, hby⟩ := info_parts hinfo
  have h63 : n + m ≤ maxLen := by
    have h1 : (n + m) * 1 ≤ (n + m) * bytes := Nat.mul_le_mul_left _ hp
    simp only [maxLen]; omega
  refine wpList_append_vec hgd s x t tx ho hs h ht hi hz hsz hby hzs hx hsrc h63 hb (fun v' w' h1 h2 h3 => ?_)
  obtain ⟨ao, cap, rfl, _⟩ := h1.val
  exact hK ao cap w' h1 h2 h3

/-- append as one step of a region that draws its order. -/
theorem step_app {P : Program} {w : World} {e : TypeId} {sz : Nat} {v : Value} {n : Nat} {xs : List Value} {ops : Array Oper} {o : Oper} {a : Act} {K : Act → World → Prop} {Q : Exit → Act → World → Prop} {E : Prop} (hgd : o.guard = none) (s x : Operand) (t tx : TypeId)
    (ho : o.op = .call { callee := .builtin .append, args := #[s, x], argTypes := #[t, tx] })
    {z : Value} {bytes : Nat} (hs : a.eval s = v) (h : Own w e sz v n xs) (ht : P.underlying t = some (.slice e)) (hinfo : (P.info? e).map (fun i => (i.zero, i.size, i.bytes)) = some (some z, sz, bytes))
    (hzs : z.cells.size = sz) (hp : 0 < bytes) {u : Value} {m : Nat} {news : List Value} (hx : a.eval x = u) (hsrc : Src P sz tx u m news w) (hb : (n + m) * bytes ≤ 140737488355328)
    (hK : ∀ ao cap w', Own w' e sz (.slice ao (n + m) cap) (n + m) (xs ++ news) → Off (blk v) w w' → (blk (.slice ao (n + m) cap) = blk v ∨ blk (.slice ao (n + m) cap) = [w.heap.size]) → K (a.put o.dst (.slice ao (n + m) cap)) w') :
    if Region.wanted o (yielded ops a.tmps) = true then Oper.wp P o a w K Q else E := by
  have hw : Region.wanted o (yielded ops a.tmps) = true := by simp [Region.wanted, hgd]
  rw [if_pos hw]
  obtain ⟨i, hi, hz, hsz, hby⟩ := info_parts hinfo
  have h63 : n + m ≤ maxLen := by
    have h1 : (n + m) * 1 ≤ (n + m) * bytes := Nat.mul_le_mul_left _ hp
    simp only [maxLen]; omega
  obtain ⟨v', w', hr, h1, h2, h3⟩ := run_append_vec (P := P) h (ty := o.type) ht hi hz hsz hby hzs hsrc h63 hb
  unfold Oper.wp execOp
  simp only [ho, resolve, invoke, builtin, Sem.run_bind, Sem.run_pure, Result.andThen_ok, List.map_toArray, List.map_cons, List.map_nil, hs, hx, hr]
  obtain ⟨ao, cap, rfl, _⟩ := h1.val
  exact hK ao cap w' h1 h2 h3

/-- Reslicing: v[l:m]: what the operation yields, and what it holds. -/
theorem Own.cut {P : Program} {w : World} {e : TypeId} {sz : Nat} {v : Value} {n : Nat} {xs : List Value} (h : Own w e sz v n xs) {t : TypeId} (ht : P.underlying t = some (.slice e)) (hi : (P.info? e).map (·.size) = some sz) (l m : Nat) (hlm : l ≤ m) (hm : m ≤ n) :
    ∃ ao cap, Own w e sz (.slice ao (m - l) cap) (m - l) ((xs.drop (l * sz)).take ((m - l) * sz)) ∧ (blk (.slice ao (m - l) cap) = blk v) ∧
      (∀ (W : World) (i j : Int), i = l → j = m → (Instr.slice t v (some (.int .i64 i)) (some (.int .i64 j)) none).run P W = .ok (.slice ao (m - l) cap) W) ∧
      (m = n → ∀ (W : World) (i : Int), i = l → (Instr.slice t v (some (.int .i64 i)) none none).run P W = .ok (.slice ao (m - l) cap) W) ∧
      (l = 0 → ∀ (W : World) (j : Int), j = m → (Instr.slice t v none (some (.int .i64 j)) none).run P W = .ok (.slice ao (m - l) cap) W) := by
  have hel : P.elem t = e := by simp [Program.elem, ht]
  have ht' : P.underlying t = some (.slice (P.elem t)) := by rw [hel]; exact ht
  have hsz : ∀ W, (sizeOf (P.elem t)).run P W = .ok sz W := by
    intro W
    rw [hel]
    cases hq : P.info? e with
    | none => simp [hq] at hi
    | some i => simp [hq] at hi; simp [sizeOf, typeInfo, hq, hi]
  have fin : ∀ (a : Option Addr) (cap : Nat), v = .slice a n cap → n ≤ cap → ∀ ao, ao = (if cap = l then a else a.map (·.add (l * sz))) →
      (∀ (W : World) (i j : Int), i = l → j = m → (Instr.slice t v (some (.int .i64 i)) (some (.int .i64 j)) none).run P W = .ok (.slice ao (m - l) (cap - l)) W) ∧
      (m = n → ∀ (W : World) (i : Int), i = l → (Instr.slice t v (some (.int .i64 i)) none none).run P W = .ok (.slice ao (m - l) (cap - l)) W) ∧
      (l = 0 → ∀ (W : World) (j : Int), j = m → (Instr.slice t v none (some (.int .i64 j)) none).run P W = .ok (.slice ao (m - l) (cap - l)) W) := by
    intro a cap hv hc ao hao
    subst hv; subst hao
    refine ⟨?_, ?_, ?_⟩
    · intro W i j hi hj
      subst hi; subst hj
      rw [run_slice_lh (w := W) t a n cap ht' .i64 .i64 l m (by omega) (by omega) (by omega), hsz]
      simp [sliced]
    · intro hmn W i hi
      subst hi
      rw [run_slice_l (w := W) t a n cap ht' .i64 l (by omega) (by omega), hsz]
      simp [sliced, hmn]
    · intro hl W j hj
      subst hj; subst hl
      rw [run_slice_h (w := W) t a n cap ht' .i64 m (by omega) (by omega), hsz]
      simp [sliced]
  rcases h.2 with ⟨rfl, rfl⟩ | ⟨g, off, cap, cur, rfl, hc, hnc, hcm, hcs, htake⟩
  · obtain ⟨f1, f2, f3⟩ := fin none 0 rfl (by omega) _ rfl
    have hx : xs = [] := List.eq_nil_of_length_eq_zero (by simpa using h.1)
    subst hx
    have hl0 : l = 0 := by omega
    subst hl0
    have hm0 : m = 0 := by omega
    subst hm0
    exact ⟨none, 0, by simpa using Own.nil w e sz, rfl, f1, f2, f3⟩
  · by_cases hcl : cap = l
    · obtain ⟨f1, f2, f3⟩ := fin (some ⟨g, off, none⟩) cap rfl hnc _ rfl
      rw [if_pos hcl] at f1 f2 f3
      have hml : m - l = 0 := by omega
      refine ⟨some ⟨g, off, none⟩, cap - l, ⟨by rw [hml]; simp, .inr ⟨g, off, cap - l, cur, rfl, hc, by omega, by omega, by rw [hcl, Nat.sub_self]; omega, by rw [hml]; simp⟩⟩, rfl, f1, f2, f3⟩
    · obtain ⟨f1, f2, f3⟩ := fin (some ⟨g, off, none⟩) cap rfl hnc _ rfl
      rw [if_neg hcl, Option.map_some, Addr.add_lit] at f1 f2 f3
      have e1 : l * sz + (m - l) * sz = m * sz := by rw [← Nat.add_mul]; congr 1; omega
      have e2 : l * sz + (cap - l) * sz = cap * sz := by rw [← Nat.add_mul]; congr 1; omega
      have e3 : m * sz ≤ n * sz := Nat.mul_le_mul_right _ hm
      refine ⟨some ⟨g, off + l * sz, none⟩, cap - l, ⟨?_, .inr ⟨g, off + l * sz, cap - l, cur, rfl, hc, by omega, by omega, by omega, ?_⟩⟩, rfl, f1, f2, f3⟩
      · rw [List.length_take, List.length_drop, h.1]; omega
      · rw [← htake, ← List.drop_drop, List.drop_take, List.take_take, Nat.min_eq_left (by omega)]
end
section
open Go.RowKit

theorem run_copy_sz {P : Program} (w : World) (dT sT ty elem : TypeId) (sz b o dLen dCap : Nat) (a : Addr) (sLen sCap : Nat) (cs : List Value)
    (hu : P.underlying dT = some (.slice elem)) (hs : (P.info? elem).map (·.size) = some sz) (hn : cs.length = Nat.min sLen dLen * sz)
    (hsrc : ∀ j v, cs[j]? = some v → w.cell? (a.add j) = some v) (hc : ∀ j, j < cs.length → (w.cell? ⟨b, o + j, none⟩).isSome = true) (hf : ∀ j, j < cs.length → w.frozen? ⟨b, o + j, none⟩ = false) (h1 : ∀ v ∈ cs, v.oneCell' = true) :
    (Builtin.copy_ #[dT, sT] ty #[.slice (some ⟨b, o, none⟩) dLen dCap, .slice (some a) sLen sCap]).run P w = .ok (goInt (Nat.min sLen dLen)) (w.setCells b o cs) := by
  have hl := run_loadCells_list (P := P) w a cs hsrc
  have hst := run_storeCells_cells (P := P) b o cs 0 w (by simpa using hc) (by simpa using hf) h1
  cases hq : P.info? elem with
  | none => simp [hq] at hs
  | some i =>
    have hi : i.size = sz := by simpa [hq] using hs
    simp [Builtin.copy_, run_underlying hu, Builtin.lenOf, Builtin.firstCells, sizeOf, typeInfo, hq, hi, ← hn, hl, hst]

section
variable {P : Program} {w : World} {ops : Array Oper} {o : Oper} {a : Act} {K : Act → World → Prop} {Q : Exit → Act → World → Prop} {E : Prop} {rest : List Oper}
/-- The operation, where its run is known. -/
theorem op_copy (d s : Operand) (t t' : TypeId) (ho : o.op = .call { callee := .builtin .copy, args := #[d, s], argTypes := #[t, t'] }) (v u : Value) (hd : a.eval d = v) (hs : a.eval s = u) {v' : Value} {w' : World}
    (hr : ∀ ty, (Builtin.copy_ #[t, t'] ty #[v, u]).run P w = .ok v' w') (h : K (a.put o.dst v') w') : o.wp P a w K Q := by
  unfold Oper.wp execOp
  simp only [ho, resolve, invoke, builtin, Sem.run_bind, Sem.run_pure, Result.andThen_ok, List.map_toArray, List.map_cons, List.map_nil, hd, hs, hr]
  exact h
theorem wp_copy (hgd : o.guard = none) (d s : Operand) (t t' : TypeId) (ho : o.op = .call { callee := .builtin .copy, args := #[d, s], argTypes := #[t, t'] }) (v u : Value) (hd : a.eval d = v) (hs : a.eval s = u) {v' : Value} {w' : World}
    (hr : ∀ ty, (Builtin.copy_ #[t, t'] ty #[v, u]).run P w = .ok v' w') (h : wpList P ops Q rest (a.put o.dst v') w') : wpList P ops Q (o :: rest) a w :=
  wpList_plain hgd fun _ hK => op_copy d s t t' ho v u hd hs hr (hK _ _ h)
theorem step_copy (hgd : o.guard = none) (d s : Operand) (t t' : TypeId) (ho : o.op = .call { callee := .builtin .copy, args := #[d, s], argTypes := #[t, t'] }) (v u : Value) (hd : a.eval d = v) (hs : a.eval s = u) {v' : Value} {w' : World}
    (hr : ∀ ty, (Builtin.copy_ #[t, t'] ty #[v, u]).run P w = .ok v' w') (h : K (a.put o.dst v') w') : if Region.wanted o (yielded ops a.tmps) = true then Oper.wp P o a w K Q else E := by
  have hw : Region.wanted o (yielded ops a.tmps) = true := by simp [Region.wanted, hgd]
  rw [if_pos hw]
  exact op_copy d s t t' ho v u hd hs hr h
end

/-- copy into a block that the call owns: the block's new content. -/
theorem run_copy_blk {P : Program} {w : World} {g : Nat} {cur : Array Value} {e : TypeId} (h : IsC w g cur e) (dT sT : TypeId) (sz o dLen dCap : Nat) (a : Addr) (sLen sCap : Nat) (cs : List Value)
    (hu : P.underlying dT = some (.slice e)) (hs : (P.info? e).map (·.size) = some sz) (hn : cs.length = Nat.min sLen dLen * sz)
    (hsrc : ∀ j v, cs[j]? = some v → w.cell? (a.add j) = some v) (hfit : o + cs.length ≤ cur.size) (h1 : ∀ v ∈ cs, v.oneCell' = true) :
    (∀ ty, (Builtin.copy_ #[dT, sT] ty #[.slice (some ⟨g, o, none⟩) dLen dCap, .slice (some a) sLen sCap]).run P w = .ok (goInt (Nat.min sLen dLen)) (w.setCells g o cs)) ∧ IsC (w.setCells g o cs) g (splice cur.toList o cs).toArray e :=
  ⟨fun ty => run_copy_sz w dT sT ty e sz g o dLen dCap a sLen sCap cs hu hs hn hsrc (fun j hj => by rw [h.cell, Array.getElem?_eq_getElem (by omega)]; rfl) (fun j hj => h.unfrozen _) h1, isC_setCells cs o w cur h hfit⟩

/-- Inserting into a row of cells: what 'copy' upwards and then 'copy' of the news leave. -/
theorem splice_insert {α : Type} (L : List α) (off i n : Nat) (news : List α) (hi : i ≤ n) (hL : off + n + news.length ≤ L.length) :
    ((splice (splice L (off + i + news.length) (((L.drop off).take n).drop i)) (off + i) news).drop off).take (n + news.length) = ((L.drop off).take n).take i ++ (news ++ ((L.drop off).take n).drop i) := by
  have hxs : ((L.drop off).take n).length = n := by rw [List.length_take, List.length_drop]; omega
  have htl : (((L.drop off).take n).drop i).length = n - i := by rw [List.length_drop, hxs]
  generalize hX : ((L.drop off).take n).drop i = X at *
  have ll1 : (L.take (off + i + news.length)).length = off + i + news.length := by rw [List.length_take]; omega
  have ll3 : (((L.drop off).take n).take i).length = i := by rw [List.length_take, hxs]; omega
  have e1 : splice L (off + i + news.length) X = L.take (off + i + news.length) ++ (X ++ L.drop (off + i + news.length + X.length)) := rfl
  generalize hI : splice L (off + i + news.length) X = I at *
  have hIl : I.length = L.length := by rw [← hI]; exact length_splice _ _ _ (by omega)
  have ll2 : (I.take (off + i)).length = off + i := by rw [List.length_take]; omega
  apply List.ext_getElem?
  intro j
  rw [List.getElem?_take]
  by_cases hj : j < n + news.length
  · rw [if_pos hj, List.getElem?_drop]
    unfold splice
    by_cases h1 : j < i
    · rw [List.getElem?_append_left (by omega), List.getElem?_append_left (by omega), List.getElem?_take, if_pos (by omega), e1, List.getElem?_append_left (by omega), List.getElem?_take, if_pos (by omega), List.getElem?_take, if_pos (by omega), List.getElem?_take, if_pos (by omega), List.getElem?_drop]
    · conv => rhs; rw [List.getElem?_append_right (by omega), ll3]
      rw [List.getElem?_append_right (by omega), ll2]
      have e : off + j - (off + i) = j - i := by omega
      rw [e]
      by_cases h2 : j - i < news.length
      · rw [List.getElem?_append_left h2, List.getElem?_append_left h2]
      · rw [List.getElem?_append_right (by omega), List.getElem?_append_right (by omega), List.getElem?_drop, e1, List.getElem?_append_right (by omega), ll1]
        have e2 : off + i + news.length + (j - i - news.length) - (off + i + news.length) = j - i - news.length := by omega
        rw [e2, List.getElem?_append_left (by omega)]
  · rw [if_neg hj, List.getElem?_eq_none]
    simp only [List.length_append]
    omega
end
section
open Go.ChangeShapes Go.WideShapes Go.ChangeAt Go.RowKit

/-- Where an append has gone. -/
def Gone (w w' : World) (co : Option Addr) (n cc : Nat) (ao : Option Addr) (m cap : Nat) : Prop :=
  (ao = co ∧ cap = cc ∧ Off (blk (.slice co n cc)) w w') ∨ (Off [] w w' ∧ blk (.slice ao m cap) = [w.heap.size])
section
variable {P : Program} {w : World} {e : TypeId} {sz : Nat} {n : Nat} {xs : List Value}

theorem run_append_gone {co : Option Addr} {cc : Nat} (h : Own w e sz (.slice co n cc) n xs) {t tx ty : TypeId} {i : TypeInfo} {z : Value} {bytes : Nat} (ht : P.underlying t = some (.slice e)) (hi : P.info? e = some i) (hz : i.zero = some z)
    (hsz : i.size = sz) (hby : i.bytes = bytes) (hzs : z.cells.size = sz) {x : Value} {m : Nat} {news : List Value} (hs : Src P sz tx x m news w) (h63 : n + m ≤ maxLen) (hb : (n + m) * bytes ≤ 140737488355328) :
    ∃ ao cap w', (Builtin.append_ #[t, tx] ty #[.slice co n cc, x]).run P w = .ok (.slice ao (n + m) cap) w' ∧ Own w' e sz (.slice ao (n + m) cap) (n + m) (xs ++ news) ∧ Gone w w' co n cc ao (n + m) cap := by
  subst hsz; subst hby
  have hsmall : ((n + m : Nat) : Int) ≤ 9223372036854775807 := by simp only [maxLen] at h63; omega
  have hlen : (xs ++ news).length = (n + m) * i.size := by rw [List.length_append, h.1, hs.newsLen, Nat.add_mul]
  have grow : cc < n + m → (Builtin.firstCells i.size n (.slice co n cc)).run P w.drew = .ok xs.toArray w.drew →
      ∃ ao cap w', (Builtin.append_ #[t, tx] ty #[.slice co n cc, x]).run P w = .ok (.slice ao (n + m) cap) w' ∧ Own w' e i.size (.slice ao (n + m) cap) (n + m) (xs ++ news) ∧ Gone w w' co n cc ao (n + m) cap := by
    intro hlt hold
    have hr := run_append_grow_src (P := P) w t tx ty e i z ht hi hz co n cc xs hold x m news hs hlt hsmall (growslice_fits (by omega) hb)
    have hge := grownCap_ge w (n + m) cc e
    refine ⟨_, _, _, hr, ⟨hlen, .inr ⟨w.heap.size, 0, grownCap w (n + m) cc e, _, rfl, IsC.new w.drew _ _, hge, grownCap_le_maxLen w (n + m) cc e h63, ?_, ?_⟩⟩, .inr ⟨((Off.refl _ w).drew).alloc _, rfl⟩⟩
    · simp only [Array.size_append, List.size_toArray, size_zeroCells, hzs, hlen, ← Nat.add_mul]
      rw [Nat.zero_add]
      exact Nat.mul_le_mul_right _ (by omega)
    · rw [List.drop_zero, Array.toList_append, List.toList_toArray, ← hlen]
      exact List.take_left
  rcases h.2 with ⟨hv, rfl⟩ | ⟨g, off, cap, cur, hv, hc, hnc, hcm, hcs, htake⟩
  · have hx : xs = [] := List.eq_nil_of_length_eq_zero (by simpa using h.1)
    subst hx
    injection hv with e1 e2 e3
    subst e1; subst e3
    by_cases hm : m = 0
    · subst hm
      have hn : news = [] := List.eq_nil_of_length_eq_zero (by simpa using hs.newsLen)
      subst hn
      refine ⟨none, 0, w, ?_, Own.nil w e i.size, .inl ⟨rfl, rfl, Off.refl _ _⟩⟩
      have hl := hs.len w
      have hcells := hs.cells
      rcases hs.kind with ⟨e', hk⟩ | hk <;> simp [Builtin.append_, run_underlying ht, run_underlying hk, sizeOf, typeInfo, hi, hs.len, hs.cells]
    · exact grow (by omega) (run_firstCells_none w.drew i.size 0 0 0)
  · injection hv with e1 e2 e3
    subst e1; subst e3
    by_cases hroom : n + m ≤ cc
    · have hfit : n * i.size + news.length ≤ cc * i.size := by rw [hs.newsLen, ← Nat.add_mul]; exact Nat.mul_le_mul_right _ hroom
      have hr := run_append_room_src (P := P) w t tx ty e i ht hi g off n cc x m news hs hroom
        (fun j hj => by rw [hc.cell]; have : off + n * i.size + j < cur.size := by omega
                        simp [this]) (fun j _ => hc.unfrozen _)
      refine ⟨_, _, _, hr, ⟨hlen, .inr ⟨g, off, cc, _, rfl, isC_setCells news (off + n * i.size) w cur hc (by omega), hroom, hcm, ?_, ?_⟩⟩, .inl ⟨rfl, rfl, off_setCells _ _ _ (Off.refl _ _) (.inl (by simp [blk]))⟩⟩
      · rw [List.size_toArray, length_splice _ _ _ (by simp; omega)]; simpa using hcs
      · rw [List.toList_toArray]
        unfold splice
        have hl1 : (cur.toList.take (off + n * i.size)).drop off = xs := by
          rw [List.drop_take, show off + n * i.size - off = n * i.size by omega, htake]
        have hlt : (cur.toList.take (off + n * i.size)).length = off + n * i.size := by rw [List.length_take]; simp; omega
        rw [List.drop_append_of_le_length (by omega), hl1, ← List.append_assoc, ← hlen]
        exact List.take_left
    · refine grow (by omega) ?_
      refine run_firstCells_some w.drew i.size n ⟨g, off, none⟩ n cc xs h.1 (fun j u hj => ?_)
      rw [Addr.add_lit]
      have hjl : j < n * i.size := by rw [← h.1]; exact (List.getElem?_eq_some_iff.1 hj).1
      exact (h.cellAt j hjl).trans hj

theorem wp_app2 {co : Option Addr} {cc : Nat} {ops : Array Oper} {rest : List Oper} {o : Oper} {a : Act} {Q : Exit → Act → World → Prop} (hgd : o.guard = none) (s x : Operand) (t tx : TypeId)
    (ho : o.op = .call { callee := .builtin .append, args := #[s, x], argTypes := #[t, tx] })
    {z : Value} {bytes : Nat} (hs : a.eval s = .slice co n cc) (h : Own w e sz (.slice co n cc) n xs) (ht : P.underlying t = some (.slice e)) (hinfo : (P.info? e).map (fun i => (i.zero, i.size, i.bytes)) = some (some z, sz, bytes))
    (hzs : z.cells.size = sz) (hp : 0 < bytes) {u : Value} {m : Nat} {news : List Value} (hx : a.eval x = u) (hsrc : Src P sz tx u m news w) (hb : (n + m) * bytes ≤ 140737488355328)
    (hK : ∀ ao cap w', Own w' e sz (.slice ao (n + m) cap) (n + m) (xs ++ news) → Gone w w' co n cc ao (n + m) cap → wpList P ops Q rest (a.put o.dst (.slice ao (n + m) cap)) w') : wpList P ops Q (o :: rest) a w := by
  obtain ⟨i, hi, hz, hsz, hby⟩ := info_parts hinfo
  have h63 : n + m ≤ maxLen := by
    have h1 : (n + m) * 1 ≤ (n + m) * bytes := Nat.mul_le_mul_left _ hp
    simp only [maxLen]; omega
  refine wpList_plain hgd fun K hK' => ?_
  obtain ⟨ao, cap, w', hr, h1, h2⟩ := run_append_gone (P := P) h (ty := o.type) ht hi hz hsz hby hzs hsrc h63 hb
  unfold Oper.wp execOp
  simp only [ho, resolve, invoke, builtin, Sem.run_bind, Sem.run_pure, Result.andThen_ok, List.map_toArray, List.map_cons, List.map_nil, hs, hx, hr]
  exact hK' _ _ (hK ao cap w' h1 h2)
end

theorem Own.shorten {w : World} {e : TypeId} {sz n m cap : Nat} {b : Option Addr} {xs ys : List Value} (h : Own w e sz (.slice b (n + m) cap) (n + m) (xs ++ ys)) (hl : xs.length = n * sz) : Own w e sz (.slice b n cap) n xs := by
  rcases h.2 with ⟨hv, h0⟩ | ⟨g, off, cp, cur, hv, hc, hnc, hcm, hcs, ht⟩
  · injection hv with e1 e2 e3
    subst e1; subst e3
    have : n = 0 := by omega
    subst this
    exact ⟨hl, .inl ⟨rfl, rfl⟩⟩
  · injection hv with e1 e2 e3
    subst e1; subst e3
    refine ⟨hl, .inr ⟨g, off, cap, cur, rfl, hc, by omega, hcm, hcs, ?_⟩⟩
    have q := congrArg (List.take (n * sz)) ht
    rw [List.take_take, Nat.min_eq_left (Nat.mul_le_mul_right _ (by omega)), List.take_append_of_le_length (show n * sz ≤ xs.length by omega), List.take_of_length_le (show xs.length ≤ n * sz by omega)] at q
    exact q

end
end Go.Proofs.YtfdgiblkllfpjaaGreatDoor

/- octet: the widths. -/
set_option linter.unusedVariables false
set_option linter.unusedSimpArgs false
namespace Go.Proofs.YtfdgiblkllfpjaaGreatDoor
open Go.ChangeShapes Go.WideShapes Go.ChangeAt Go.RowKit

set_option maxRecDepth 100000 in
set_option maxHeartbeats 4000000 in
theorem width178 (w : World) : Calls Tryz.prog 178 #[] w fun e w' => e = .returned (.int .i64 8) ∧ w = w' := by
  go_enter Tryz.func178, Tryz.ntmps178
  go_wp2_with fail
  go_loopw [1, 2] (fun s t wr => ∃ k : Nat, k ≤ 8 ∧ s = .int .i64 (k : Nat) ∧ t = .int .u64 ((2 : Int) ^ (8 * (8 - k)) - 1) ∧ w = wr) (fun s _ _ => 8 - (intOf s).toNat)
  case atStart => exact ⟨0, by omega, by go_num, by first | rfl | go_num, rfl⟩
  case round =>
    obtain ⟨k, hk, rfl, rfl, rfl⟩ := hrel
    have hkk : k = 0 ∨ k = 1 ∨ k = 2 ∨ k = 3 ∨ k = 4 ∨ k = 5 ∨ k = 6 ∨ k = 7 ∨ k = 8 := by omega
    rcases hkk with rfl | rfl | rfl | rfl | rfl | rfl | rfl | rfl | rfl
    all_goals
      simp only [Nat.reduceSub, Nat.reduceMul, Int.reducePow, Int.reduceSub, Int.natCast_zero]
      go_wp2_with fail
    · exact ⟨⟨1, by omega, rfl, rfl, trivial⟩, by decide⟩
    · exact ⟨⟨2, by omega, rfl, rfl, trivial⟩, by decide⟩
    · exact ⟨⟨3, by omega, rfl, rfl, trivial⟩, by decide⟩
    · exact ⟨⟨4, by omega, rfl, rfl, trivial⟩, by decide⟩
    · exact ⟨⟨5, by omega, rfl, rfl, trivial⟩, by decide⟩
    · exact ⟨⟨6, by omega, rfl, rfl, trivial⟩, by decide⟩
    · exact ⟨⟨7, by omega, rfl, rfl, trivial⟩, by decide⟩
    · exact ⟨⟨8, by omega, rfl, rfl, trivial⟩, by decide⟩
    · go_ret
      exact ⟨rfl, rfl⟩

set_option maxRecDepth 100000 in
set_option maxHeartbeats 4000000 in
theorem width179 (w : World) : Calls Tryz.prog 179 #[] w fun e w' => e = .returned (.int .i64 1) ∧ w = w' := by
  go_enter Tryz.func179, Tryz.ntmps179
  go_wp2_with fail
  go_loopw [1, 2] (fun s t wr => ∃ k : Nat, k ≤ 1 ∧ s = .int .i64 (k : Nat) ∧ t = .int .u64 ((2 : Int) ^ (8 * (1 - k)) - 1) ∧ w = wr) (fun s _ _ => 1 - (intOf s).toNat)
  case atStart => exact ⟨0, by omega, by go_num, by first | rfl | go_num, rfl⟩
  case round =>
    obtain ⟨k, hk, rfl, rfl, rfl⟩ := hrel
    have hkk : k = 0 ∨ k = 1 := by omega
    rcases hkk with rfl | rfl
    all_goals
      simp only [Nat.reduceSub, Nat.reduceMul, Int.reducePow, Int.reduceSub, Int.natCast_zero]
      go_wp2_with fail
    · exact ⟨⟨1, by omega, rfl, rfl, trivial⟩, by decide⟩
    · go_ret
      exact ⟨rfl, rfl⟩

set_option maxRecDepth 100000 in
set_option maxHeartbeats 4000000 in
theorem width180 (w : World) : Calls Tryz.prog 180 #[] w fun e w' => e = .returned (.int .i64 2) ∧ w = w' := by
  go_enter Tryz.func180, Tryz.ntmps180
  go_wp2_with fail
  go_loopw [1, 2] (fun s t wr => ∃ k : Nat, k ≤ 2 ∧ s = .int .i64 (k : Nat) ∧ t = .int .u64 ((2 : Int) ^ (8 * (2 - k)) - 1) ∧ w = wr) (fun s _ _ => 2 - (intOf s).toNat)
  case atStart => exact ⟨0, by omega, by go_num, by first | rfl | go_num, rfl⟩
  case round =>
    obtain ⟨k, hk, rfl, rfl, rfl⟩ := hrel
    have hkk : k = 0 ∨ k = 1 ∨ k = 2 := by omega
    rcases hkk with rfl | rfl | rfl
    all_goals
      simp only [Nat.reduceSub, Nat.reduceMul, Int.reducePow, Int.reduceSub, Int.natCast_zero]
      go_wp2_with fail
    · exact ⟨⟨1, by omega, rfl, rfl, trivial⟩, by decide⟩
    · exact ⟨⟨2, by omega, rfl, rfl, trivial⟩, by decide⟩
    · go_ret
      exact ⟨rfl, rfl⟩

set_option maxRecDepth 100000 in
set_option maxHeartbeats 4000000 in
theorem width190 (w : World) : Calls Tryz.prog 190 #[] w fun e w' => e = .returned (.int .i64 4) ∧ w = w' := by
  go_enter Tryz.func190, Tryz.ntmps190
  go_wp2_with fail
  go_loopw [1, 2] (fun s t wr => ∃ k : Nat, k ≤ 4 ∧ s = .int .i64 (k : Nat) ∧ t = .int .u64 ((2 : Int) ^ (8 * (4 - k)) - 1) ∧ w = wr) (fun s _ _ => 4 - (intOf s).toNat)
  case atStart => exact ⟨0, by omega, by go_num, by first | rfl | go_num, rfl⟩
  case round =>
    obtain ⟨k, hk, rfl, rfl, rfl⟩ := hrel
    have hkk : k = 0 ∨ k = 1 ∨ k = 2 ∨ k = 3 ∨ k = 4 := by omega
    rcases hkk with rfl | rfl | rfl | rfl | rfl
    all_goals
      simp only [Nat.reduceSub, Nat.reduceMul, Int.reducePow, Int.reduceSub, Int.natCast_zero]
      go_wp2_with fail
    · exact ⟨⟨1, by omega, rfl, rfl, trivial⟩, by decide⟩
    · exact ⟨⟨2, by omega, rfl, rfl, trivial⟩, by decide⟩
    · exact ⟨⟨3, by omega, rfl, rfl, trivial⟩, by decide⟩
    · exact ⟨⟨4, by omega, rfl, rfl, trivial⟩, by decide⟩
    · go_ret
      exact ⟨rfl, rfl⟩
end Go.Proofs.YtfdgiblkllfpjaaGreatDoor
