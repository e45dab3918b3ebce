/- table.ordered over ids: put and drop. -/
import Derived.Test.YtlhmcbcoaplcaaaTabH
set_option linter.unusedVariables false
set_option linter.unusedSimpArgs false
namespace Go.Proofs.Ytlhmcbcoaplcaaa
open Go.ChangeShapes Go.WideShapes Go.ChangeAt Go.RowKit

/-- Two slices lie in the cells o and o + 1 of a block; what they hold, and that nothing of it lies in one another. -/
structure Ord (w : World) (tb o : Nat) (cur : Array Value) (T e sz : Nat) (kv vv : Value) (n : Nat) (ks vs : List Value) : Prop where
  blkC : IsC w tb cur T
  atK : cur[o]? = some kv
  atV : cur[o + 1]? = some vv
  keys : Own w 3 1 kv n ks
  vals : Own w e sz vv n vs
  tk : tb ∉ blk kv
  tv : tb ∉ blk vv
  kvd : ∀ x ∈ blk kv, x ∉ blk vv

/-- What a change of both leaves. -/
def OrdStep (w : World) (tb o : Nat) (cur : Array Value) (T e sz : Nat) (kv vv : Value) (n : Nat) (ks vs : List Value) (w' : World) : Prop :=
  ∃ kv' vv', Ord w' tb o ((cur.setIfInBounds o kv').setIfInBounds (o + 1) vv') T e sz kv' vv' n ks vs ∧ Off (tb :: (blk kv ++ blk vv)) w w' ∧
    (∀ x ∈ blk kv', x ∈ blk kv ∨ w.heap.size ≤ x) ∧ ∀ x ∈ blk vv', x ∈ blk vv ∨ w.heap.size ≤ x

/-- The keys' slice has changed and is stored; then the values'. -/
theorem ord_steps {w w1 w2 : World} {tb o : Nat} {cur : Array Value} {T e sz : Nat} {kv vv kv' vv' : Value} {n n' : Nat} {ks vs ks' vs' : List Value} (h : Ord w tb o cur T e sz kv vv n ks vs)
    (hk : Own w1 3 1 kv' n' ks') (o1 : Off (blk kv) w w1) (b1 : ∀ x ∈ blk kv', x ∈ blk kv ∨ w.heap.size ≤ x)
    (hv : Own w2 e sz vv' n' vs') (o2 : Off (blk vv) (w1.setCell ⟨tb, o, none⟩ kv') w2) (b2 : ∀ x ∈ blk vv', x ∈ blk vv ∨ w1.heap.size ≤ x) :
    OrdStep w tb o cur T e sz kv vv n' ks' vs' (w2.setCell ⟨tb, o + 1, none⟩ vv') := by
  obtain ⟨h1, h2, h3, h4, h5, h6, h7, h8⟩ := h
  have hs1 := o1.size
  have htb := h1.lt
  have hk' : tb ∉ blk kv' := fun hx => by rcases b1 tb hx with q | q; exact h6 q; omega
  have hv' : tb ∉ blk vv' := fun hx => by rcases b2 tb hx with q | q; exact h7 q; omega
  have hkl := hk.lt
  have hkv' : ∀ x ∈ blk kv', x ∉ blk vv := fun x hx hx' => by rcases b1 x hx with q | q; exact h8 x q hx'; have := h5.lt x hx'; omega
  have c1 := ((h1.off o1 h6).set o kv').off o2 h7
  have c2 := c1.set (o + 1) vv'
  refine ⟨kv', vv', ⟨c2, ?_, ?_, ?_, hv.setCell _ _ hv', hk', hv', ?_⟩, ?_, b1, fun x hx => ?_⟩
  · have hlo := (Array.getElem?_eq_some_iff.1 h2).1
    rw [Array.getElem?_setIfInBounds, if_neg (by omega), Array.getElem?_setIfInBounds, if_pos rfl, if_pos hlo]
  · have hlo := (Array.getElem?_eq_some_iff.1 h3).1
    rw [Array.getElem?_setIfInBounds, if_pos rfl, if_pos (by simpa using hlo)]
  · exact ((hk.setCell ⟨tb, o, none⟩ kv' hk').off o2 hkv').setCell _ _ hk'
  · intro x hx hx'
    rcases b2 x hx' with q | q
    · exact hkv' x hx q
    · have := hkl x hx; omega
  · refine Off.setCell ?_ (.inl (by simp)) _
    refine Off.trans (T := blk vv) ?_ o2 (fun x hx => .inl (by simp [hx]))
    exact (o1.mono (fun x hx => .inl (by simp [hx]))).setCell (.inl (by simp)) _
  · rcases b2 x hx with q | q
    · exact .inl q
    · exact .inr (by omega)
end Go.Proofs.Ytlhmcbcoaplcaaa
