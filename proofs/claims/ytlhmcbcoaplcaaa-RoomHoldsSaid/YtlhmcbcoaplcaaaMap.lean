/- Maps keyed by int, whatever their elements: a map's block read as a list of pairs; look-up, store and delete as equations on the operation's run, in whatever world holds that block. -/
import Derived.Test.YtlhmcbcoaplcaaaLib
namespace Go.Proofs.Ytlhmcbcoaplcaaa
open Go.ChangeMaps (setBlock)
open Go.MapKept (IsKey)

section lists
variable {α β : Type}
def mget : List (Int × α) → Int → Option α
  | [], _ => none
  | p :: l, k => if p.1 = k then some p.2 else mget l k
def mput : List (Int × α) → Int → α → List (Int × α)
  | [], k, v => [(k, v)]
  | p :: l, k, v => if p.1 = k then (k, v) :: l else p :: mput l k v
def mdel : List (Int × α) → Int → List (Int × α)
  | [], _ => []
  | p :: l, k => if p.1 = k then l else p :: mdel l k

theorem mget_put (l : List (Int × α)) (k j : Int) (v : α) : mget (mput l k v) j = if k = j then some v else mget l j := by
  induction l with
  | nil => simp [mput, mget]
  | cons p l ih =>
    by_cases h : p.1 = k
    · simp only [mput, if_pos h, mget]; by_cases h2 : k = j <;> simp [h2]; intro hh; omega
    · simp only [mput, if_neg h, mget, ih]
      by_cases h2 : k = j
      · simp [h2, show ¬ p.1 = j by omega]
      · simp [h2]
theorem mget_none (l : List (Int × α)) (k : Int) : mget l k = none ↔ k ∉ l.map (·.1) := by
  induction l with
  | nil => simp [mget]
  | cons p l ih =>
    by_cases h : p.1 = k
    · simp [mget, h]
    · simp [mget, h, ih, Ne.symm h]
theorem mput_new (l : List (Int × α)) (k : Int) (v : α) (h : mget l k = none) : mput l k v = l ++ [(k, v)] := by
  induction l with
  | nil => rfl
  | cons p l ih =>
    by_cases h1 : p.1 = k
    · simp [mget, h1] at h
    · simp only [mget, if_neg h1] at h
      simp [mput, h1, ih h]
theorem mget_map (f : α → β) (l : List (Int × α)) (k : Int) : mget (l.map fun p => (p.1, f p.2)) k = (mget l k).map f := by
  induction l with
  | nil => rfl
  | cons p l ih => by_cases h : p.1 = k <;> simp [mget, h, ih]
theorem mput_map (f : α → β) (l : List (Int × α)) (k : Int) (v : α) : mput (l.map fun p => (p.1, f p.2)) k (f v) = (mput l k v).map fun p => (p.1, f p.2) := by
  induction l with
  | nil => rfl
  | cons p l ih => by_cases h : p.1 = k <;> simp [mput, h, ih]
theorem mdel_map (f : α → β) (l : List (Int × α)) (k : Int) : mdel (l.map fun p => (p.1, f p.2)) k = (mdel l k).map fun p => (p.1, f p.2) := by
  induction l with
  | nil => rfl
  | cons p l ih => by_cases h : p.1 = k <;> simp [mdel, h, ih]
theorem mput_split {l : List (Int × α)} {k : Int} {u v : α} (h : mget l k = some u) : ∃ a b, l = a ++ (k, u) :: b ∧ mput l k v = a ++ (k, v) :: b ∧ mdel l k = a ++ b ∧ mget a k = none := by
  induction l with
  | nil => simp [mget] at h
  | cons p l ih =>
    by_cases h1 : p.1 = k
    · simp only [mget, if_pos h1, Option.some.injEq] at h
      subst h; subst h1
      exact ⟨[], l, rfl, by simp [mput], by simp [mdel], rfl⟩
    · simp only [mget, if_neg h1] at h
      obtain ⟨a, b, e1, e2, e3, e4⟩ := ih h
      exact ⟨p :: a, b, by simp [e1], by simp [mput, h1, e2], by simp [mdel, h1, e3], by simp [mget, h1, e4]⟩
theorem mdel_none {l : List (Int × α)} {k : Int} (h : mget l k = none) : mdel l k = l := by
  induction l with
  | nil => rfl
  | cons p l ih =>
    by_cases h1 : p.1 = k
    · simp [mget, h1] at h
    · simp only [mget, if_neg h1] at h
      simp [mdel, h1, ih h]
theorem mem_of_mget {l : List (Int × α)} {k : Int} {v : α} (h : mget l k = some v) : (k, v) ∈ l := by
  obtain ⟨a, b, e, _⟩ := mput_split (v := v) h
  simp [e]
end lists

/-- The map's block reads as the list l. -/
def Ent (es : Array MapEntry) (l : List (Int × Value)) : Prop := es.toList.map (fun e => (e.key, e.val)) = l.map (fun p => (Value.int .i64 p.1, p.2))

theorem Ent.nil : Ent #[] [] := rfl
theorem Ent.isKey {es : Array MapEntry} {l : List (Int × Value)} (h : Ent es l) : ∀ x ∈ es.toList, IsKey (.int .i64) x.key := by
  intro x hx
  have : (x.key, x.val) ∈ l.map (fun p => (Value.int .i64 p.1, p.2)) := by rw [← h]; exact List.mem_map.2 ⟨x, hx, rfl⟩
  obtain ⟨p, _, hp⟩ := List.mem_map.1 this
  simp only [Prod.mk.injEq] at hp
  rw [← hp.1]; rfl

theorem findNow_none (k : Int) : ∀ (es : List MapEntry) (l : List (Int × Value)) (i : Nat), es.map (fun e => (e.key, e.val)) = l.map (fun p => (Value.int .i64 p.1, p.2)) → mget l k = none →
    Instr.findNow (.int .i64) (.int .i64 k) es i = some none
  | [], _, _, _, _ => rfl
  | e :: es, [], _, h, _ => by simp at h
  | e :: es, p :: l, i, h, hn => by
    simp only [List.map_cons, List.cons.injEq, Prod.mk.injEq] at h
    by_cases h1 : p.1 = k
    · simp [mget, h1] at hn
    · simp only [mget, if_neg h1] at hn
      have hne : (k == p.1) = false := by simp; exact fun q => h1 q.symm
      simp [Instr.findNow, h.1.1, Instr.sameNow, hne, findNow_none k es l (i + 1) h.2 hn]

theorem findNow_some (k : Int) (v : Value) : ∀ (es : List MapEntry) (l : List (Int × Value)) (i : Nat), es.map (fun e => (e.key, e.val)) = l.map (fun p => (Value.int .i64 p.1, p.2)) → mget l k = some v →
    ∃ j e, Instr.findNow (.int .i64) (.int .i64 k) es i = some (some (i + j, v)) ∧ es[j]? = some e ∧ e.key = .int .i64 k ∧ e.val = v ∧
      (∀ x born, (es.set j ⟨.int .i64 k, x, born⟩).map (fun e => (e.key, e.val)) = (mput l k x).map (fun p => (Value.int .i64 p.1, p.2))) ∧
      (es.eraseIdx j).map (fun e => (e.key, e.val)) = (mdel l k).map (fun p => (Value.int .i64 p.1, p.2))
  | [], [], _, _, hn => by simp [mget] at hn
  | [], p :: l, _, h, hn => by simp at h
  | e :: es, [], _, h, _ => by simp at h
  | e :: es, p :: l, i, h, hn => by
    simp only [List.map_cons, List.cons.injEq, Prod.mk.injEq] at h
    by_cases h1 : p.1 = k
    · simp only [mget, if_pos h1, Option.some.injEq] at hn
      refine ⟨0, e, ?_, rfl, by rw [h.1.1, h1], by rw [h.1.2, hn], ?_, ?_⟩
      · simp [Instr.findNow, h.1.1, Instr.sameNow, h1, h.1.2, hn]
      · intro x born; simp [mput, h1, h.2]
      · simp [mdel, h1, h.2]
    · simp only [mget, if_neg h1] at hn
      have hne : (k == p.1) = false := by simp; exact fun q => h1 q.symm
      obtain ⟨j, e', a1, a2, a3, a4, a5, a6⟩ := findNow_some k v es l (i + 1) h.2 hn
      refine ⟨j + 1, e', ?_, by simpa using a2, a3, a4, ?_, ?_⟩
      · simp [Instr.findNow, h.1.1, Instr.sameNow, hne, a1]; omega
      · intro x born; simp [mput, h1, a5 x born, h.1.1, h.1.2]
      · simp [mdel, h1, a6, h.1.1, h.1.2]

section
variable {P : Program} {t k e : TypeId}

theorem run_lookup_map {es : Array MapEntry} {clk : Nat} {l : List (Int × Value)} (ht : P.underlying t = some (.map k e)) (hk : P.underlying k = some (.int .i64)) {z : Value} (hz : ∀ W, (zeroValue e).run P W = .ok z W) (hl : Ent es l) (m : Nat) (key : Int) (c : Bool)
    (W : World) (hb : IsM W m es clk) :
    (Instr.lookup t (.map (some m)) (.int .i64 key) c).run P W = .ok (if c then .tuple #[(mget l key).getD z, .bool (mget l key).isSome] else (mget l key).getD z) W := by
  have hkey : IsKey (.int .i64) (.int .i64 key) := rfl
  unfold IsM at hb
  cases hg : mget l key with
  | none =>
    have h1 := findNow_none key es.toList l 0 hl hg
    simp [Instr.lookup, run_underlying ht, MapKept.run_getObj_map hb, MapKept.run_checkKey hk hkey, MapKept.run_findKey hk h1, hz, Result.andThen]
  | some v =>
    obtain ⟨j, e0, h1, h2, h3, h4, _, _⟩ := findNow_some key v es.toList l 0 hl hg
    simp [Instr.lookup, run_underlying ht, MapKept.run_getObj_map hb, MapKept.run_checkKey hk hkey, MapKept.run_findKey hk h1, Result.andThen]

theorem run_update_map {es : Array MapEntry} {clk : Nat} {l : List (Int × Value)} (ht : P.underlying t = some (.map k e)) (hk : P.underlying k = some (.int .i64)) (hl : Ent es l) (m : Nat) (key : Int) (v : Value) :
    ∃ es' clk', Ent es' (mput l key v) ∧ ∀ W : World, IsM W m es clk → (Instr.mapUpdate t (.map (some m)) (.int .i64 key) v).run P W = .ok () (setBlock W m (.map es' clk')) := by
  have hkey : IsKey (.int .i64) (.int .i64 key) := rfl
  cases hg : mget l key with
  | none =>
    have h1 := findNow_none key es.toList l 0 hl hg
    refine ⟨es.push ⟨.int .i64 key, v, clk⟩, clk + 1, ?_, fun W (hb : W.heap[m]? = some (.map es clk)) => ?_⟩
    · rw [mput_new l key v hg]; unfold Ent at hl ⊢; simp [hl]
    · simp [Instr.mapUpdate, run_underlying ht, MapKept.run_getObj_map hb, MapKept.run_checkKey hk hkey, MapKept.run_findKey hk h1, MapKept.run_setObj_map _ hb, Result.andThen, setBlock]
  | some u =>
    obtain ⟨j, e0, h1, h2, h3, h4, h5, _⟩ := findNow_some key u es.toList l 0 hl hg
    have hj : es[j]? = some e0 := by simpa using h2
    refine ⟨es.modify j (fun e' => { e' with key := .int .i64 key, val := v }), clk, ?_, fun W (hb : W.heap[m]? = some (.map es clk)) => ?_⟩
    · unfold Ent
      rw [Array.toList_modify, ← h5 v e0.born]
      congr 1
      exact ChangeMaps.modify_eq_set _ _ _ _ h2
    · simp [Instr.mapUpdate, run_underlying ht, MapKept.run_getObj_map hb, MapKept.run_checkKey hk hkey, MapKept.run_findKey hk h1, hj, h3, MapKept.run_keyThatStays hkey, MapKept.run_setObj_map _ hb, Result.andThen, setBlock]

theorem run_update_any {es : Array MapEntry} {clk : Nat} {l : List (Int × Value)} (ht : P.underlying t = some (.map k e)) (hk : P.underlying k = some (.int .i64)) (hl : Ent es l) (m : Nat) (key : Int) :
    ∃ f : Value → Array MapEntry × Nat, (∀ v, Ent (f v).1 (mput l key v)) ∧ ∀ v, ∀ W : World, IsM W m es clk → (Instr.mapUpdate t (.map (some m)) (.int .i64 key) v).run P W = .ok () (setBlock W m (.map (f v).1 (f v).2)) := by
  have h : ∀ v, ∃ y : Array MapEntry × Nat, Ent y.1 (mput l key v) ∧ ∀ W : World, IsM W m es clk → (Instr.mapUpdate t (.map (some m)) (.int .i64 key) v).run P W = .ok () (setBlock W m (.map y.1 y.2)) := fun v => by
    obtain ⟨es', clk', h1, h2⟩ := run_update_map (clk := clk) ht hk hl m key v
    exact ⟨(es', clk'), h1, h2⟩
  obtain ⟨f, hf⟩ := Classical.skolem.1 h
  exact ⟨f, fun v => (hf v).1, fun v => (hf v).2⟩

theorem run_delete_map {es : Array MapEntry} {clk : Nat} {l : List (Int × Value)} (ht : P.underlying t = some (.map k e)) (hk : P.underlying k = some (.int .i64)) (hl : Ent es l) (m : Nat) (key : Int) :
    ∃ es', Ent es' (mdel l key) ∧ ∀ (W : World) (ty : TypeId), IsM W m es clk → (Builtin.delete_ #[t, k] ty #[.map (some m), .int .i64 key]).run P W = .ok (.tuple #[]) (setBlock W m (.map es' clk)) := by
  have hkey : IsKey (.int .i64) (.int .i64 key) := rfl
  cases hg : mget l key with
  | none =>
    have h1 := findNow_none key es.toList l 0 hl hg
    refine ⟨es, by rw [mdel_none hg]; exact hl, fun W ty (hb : W.heap[m]? = some (.map es clk)) => ?_⟩
    simp [Builtin.delete_, run_underlying ht, MapKept.run_getObj_map hb, MapKept.run_checkKey hk hkey, MapKept.run_findKey hk h1, MapKept.run_setObj_map _ hb, Result.andThen, setBlock]
  | some u =>
    obtain ⟨j, e0, h1, h2, h3, h4, _, h6⟩ := findNow_some key u es.toList l 0 hl hg
    have hj : j < es.size := by simpa using (List.getElem?_eq_some_iff.1 h2).1
    refine ⟨es.eraseIdxIfInBounds j, ?_, fun W ty (hb : W.heap[m]? = some (.map es clk)) => ?_⟩
    · unfold Ent Array.eraseIdxIfInBounds
      rw [dif_pos hj]; simpa using h6
    · simp [Builtin.delete_, run_underlying ht, MapKept.run_getObj_map hb, MapKept.run_checkKey hk hkey, MapKept.run_findKey hk h1, MapKept.run_setObj_map _ hb, Result.andThen, setBlock]

theorem run_len_map {es : Array MapEntry} {clk : Nat} {l : List (Int × Value)} (ht : P.underlying t = some (.map k e)) (hl : Ent es l) (m : Nat) (ty : TypeId) (W : World) (hb : IsM W m es clk) :
    (Builtin.len_ #[t] ty #[.map (some m)]).run P W = .ok (.int .i64 l.length) W := by
  unfold IsM at hb
  have : es.size = l.length := by have := congrArg List.length hl; simpa using this
  simp [Builtin.len_, run_underlying ht, MapKept.run_getObj_map hb, goInt, Result.andThen, this]
end

end Go.Proofs.Ytlhmcbcoaplcaaa
