/- Slices that a call owns, wherever in their block they lie: what they hold, append, stores, reslicing. -/
import Derived.Test.YtlhmcbcoaplcaaaLib
import Derived.Deep.AppendSrc
import Derived.Laws.CopyOwn
set_option linter.unusedVariables false
set_option linter.unusedSimpArgs false
namespace Go.Proofs.Ytlhmcbcoaplcaaa
open Go.RowKit

/-- The blocks of a slice value. -/
def blk : Value → List Nat
  | .slice (some a) _ _ => [a.block]
  | _ => []

/-- The slice value v, of n elements of sz cells each, holds the cells xs; its block holds its whole capacity. -/
def Own (w : World) (e : TypeId) (sz : Nat) (v : Value) (n : Nat) (xs : List Value) : Prop :=
  xs.length = n * sz ∧ ((v = .slice none 0 0 ∧ n = 0) ∨
    ∃ g off cap cur, v = .slice (some ⟨g, off, none⟩) n cap ∧ IsC w g cur e ∧ n ≤ cap ∧ cap ≤ maxLen ∧ off + cap * sz ≤ cur.size ∧ (cur.toList.drop off).take (n * sz) = xs)

section
variable {w w' : World} {e : TypeId} {sz : Nat} {v : Value} {n : Nat} {xs : List Value} {S : List Nat}

theorem Own.nil (w : World) (e : TypeId) (sz : Nat) : Own w e sz (.slice none 0 0) 0 [] := ⟨by simp, .inl ⟨rfl, rfl⟩⟩
theorem Own.off (h : Own w e sz v n xs) (ho : Off S w w') (hn : ∀ b ∈ blk v, b ∉ S) : Own w' e sz v n xs := by
  refine ⟨h.1, ?_⟩
  rcases h.2 with h0 | ⟨g, off, cap, cur, rfl, hc, r⟩
  · exact .inl h0
  · exact .inr ⟨g, off, cap, cur, rfl, hc.off ho (hn g (by simp [blk])), r⟩
theorem Own.lt (h : Own w e sz v n xs) : ∀ b ∈ blk v, b < w.heap.size := by
  rcases h.2 with ⟨rfl, _⟩ | ⟨g, off, cap, cur, rfl, hc, _⟩
  · simp [blk]
  · intro b hb; simp [blk] at hb; subst hb; exact hc.lt
theorem Own.val (h : Own w e sz v n xs) : ∃ ao cap, v = .slice ao n cap ∧ (ao = none → n = 0) := by
  rcases h.2 with ⟨rfl, rfl⟩ | ⟨g, off, cap, cur, rfl, _⟩
  · exact ⟨none, 0, rfl, fun _ => rfl⟩
  · exact ⟨_, cap, rfl, fun h => by cases h⟩
theorem Own.new (w : World) (e : TypeId) (sz : Nat) (cs : Array Value) (n : Nat) (hm : n ≤ maxLen) (hs : cs.size = n * sz) :
    Own (w.alloc (.cells cs e)) e sz (.slice (some ⟨w.heap.size, 0, none⟩) n n) n cs.toList :=
  ⟨by simpa using hs, .inr ⟨w.heap.size, 0, n, cs, rfl, IsC.new _ _ _, Nat.le_refl _, hm, by omega, by rw [List.drop_zero, List.take_of_length_le (by simp [hs])]⟩⟩

theorem cut_get {l : List Value} {off k j : Nat} (hj : j < k) : l[off + j]? = ((l.drop off).take k)[j]? := by
  rw [List.getElem?_take, if_pos hj, List.getElem?_drop]

theorem Own.cellAt {g off cap : Nat} (h : Own w e sz (.slice (some ⟨g, off, none⟩) n cap) n xs) (j : Nat) (hj : j < n * sz) : w.cell? ⟨g, off + j, none⟩ = xs[j]? := by
  rcases h.2 with ⟨h', _⟩ | ⟨g', off', cap', cur, h', hc, _, _, _, ht⟩
  · simp at h'
  · simp only [Value.slice.injEq, Option.some.injEq, Addr.mk.injEq, and_true, true_and] at h'
    obtain ⟨⟨rfl, rfl⟩, rfl⟩ := h'
    rw [hc.cell, ← ht, ← cut_get hj]
    simp
theorem Own.isC {g off cap : Nat} (h : Own w e sz (.slice (some ⟨g, off, none⟩) n cap) n xs) : ∃ cur, IsC w g cur e ∧ off + cap * sz ≤ cur.size ∧ n ≤ cap := by
  rcases h.2 with ⟨h', _⟩ | ⟨g', off', cap', cur, h', hc, hn, _, hs, ht⟩
  · simp at h'
  · simp only [Value.slice.injEq, Option.some.injEq, Addr.mk.injEq, and_true, true_and] at h'
    obtain ⟨⟨rfl, rfl⟩, rfl⟩ := h'
    exact ⟨cur, hc, hs, hn⟩
theorem Own.unfrozen {g off cap : Nat} (h : Own w e sz (.slice (some ⟨g, off, none⟩) n cap) n xs) (o : Nat) : w.frozen? ⟨g, o, none⟩ = false := by
  obtain ⟨cur, hc, _⟩ := h.isC
  exact hc.unfrozen o

/-- A store into a cell of an element. -/
theorem Own.set {g off cap : Nat} (h : Own w e sz (.slice (some ⟨g, off, none⟩) n cap) n xs) (j : Nat) (u : Value) :
    Own (w.setCell ⟨g, off + j, none⟩ u) e sz (.slice (some ⟨g, off, none⟩) n cap) n (xs.set j u) := by
  refine ⟨by simpa using h.1, ?_⟩
  rcases h.2 with ⟨h', _⟩ | ⟨g', off', cap', cur, h', hc, hn, hm, hs, ht⟩
  · simp at h'
  · simp only [Value.slice.injEq, Option.some.injEq, Addr.mk.injEq, and_true, true_and] at h'
    obtain ⟨⟨rfl, rfl⟩, rfl⟩ := h'
    refine .inr ⟨g, off, cap, _, rfl, hc.set _ _, hn, hm, by simpa using hs, ?_⟩
    rw [Array.toList_setIfInBounds, ← ht, List.drop_set]
    rw [if_neg (by omega), show off + j - off = j by omega, List.take_set]

theorem isC_setCells {g : Nat} : ∀ (vs : List Value) (o : Nat) (w : World) (cur : Array Value), IsC w g cur e → o + vs.length ≤ cur.size → IsC (w.setCells g o vs) g (splice cur.toList o vs).toArray e
  | [], o, w, cur, h, _ => by simpa [World.setCells, splice] using h
  | v :: vs, o, w, cur, h, hl => by
    have h1 := h.set o v
    have := isC_setCells vs (o + 1) (w.setCell ⟨g, o, none⟩ v) _ h1 (by simp at hl ⊢; omega)
    rw [World.setCells]
    simp only [List.length_cons] at hl
    have e : splice (cur.setIfInBounds o v).toList (o + 1) vs = splice cur.toList o (v :: vs) := by
      have hlen : o < cur.toList.length := by simp; omega
      unfold splice
      rw [Array.toList_setIfInBounds]
      have e1 : (cur.toList.set o v).take (o + 1) = cur.toList.take o ++ [v] := by
        rw [List.take_add_one, List.take_set_of_le (Nat.le_refl o), List.getElem?_set_self hlen]
        rfl
      have e2 : (cur.toList.set o v).drop (o + 1 + vs.length) = cur.toList.drop (o + (v :: vs).length) := by
        rw [List.drop_set_of_lt (by omega), List.length_cons]
        congr 1; omega
      rw [e1, e2]; simp
    rw [e] at this
    exact this
theorem off_setCells {g : Nat} {a : World} : ∀ (vs : List Value) (o : Nat) (w : World), Off S a w → (g ∈ S ∨ a.heap.size ≤ g) → Off S a (w.setCells g o vs)
  | [], _, _, h, _ => h
  | v :: vs, o, w, h, hg => off_setCells vs (o + 1) _ (h.setCell hg v) hg
end

section
variable {P : Program} {w : World} {e : TypeId} {sz : Nat} {v : Value} {n : Nat} {xs : List Value}

/-- append, whatever the source: the elements behind one another; the block is the old one or a new one; nothing else has changed. -/
theorem run_append_vec (h : Own w e sz v n xs) {t tx ty : TypeId} {i : TypeInfo} {z : Value} {bytes : Nat} (ht : P.underlying t = some (.slice e)) (hi : P.info? e = some i) (hz : i.zero = some z)
    (hsz : i.size = sz) (hby : i.bytes = bytes) (hzs : z.cells.size = sz) {x : Value} {m : Nat} {news : List Value} (hs : Src P sz tx x m news w) (h63 : n + m ≤ maxLen) (hb : (n + m) * bytes ≤ 140737488355328) :
    ∃ v' w', (Builtin.append_ #[t, tx] ty #[v, x]).run P w = .ok v' w' ∧ Own w' e sz v' (n + m) (xs ++ news) ∧ Off (blk v) w w' ∧ (blk v' = blk v ∨ blk v' = [w.heap.size]) := by
  subst hsz; subst hby
  have hsmall : ((n + m : Nat) : Int) ≤ 9223372036854775807 := by simp only [maxLen] at h63; omega
  have hlen : (xs ++ news).length = (n + m) * i.size := by rw [List.length_append, h.1, hs.newsLen, Nat.add_mul]
  have grow : ∀ (base : Option Addr) (cap : Nat), v = .slice base n cap → cap < n + m → (Builtin.firstCells i.size n (.slice base n cap)).run P w.drew = .ok xs.toArray w.drew →
      ∃ v' w', (Builtin.append_ #[t, tx] ty #[v, x]).run P w = .ok v' w' ∧ Own w' e i.size v' (n + m) (xs ++ news) ∧ Off (blk v) w w' ∧ (blk v' = blk v ∨ blk v' = [w.heap.size]) := by
    intro base cap hv hlt hold
    have hr := run_append_grow_src (P := P) w t tx ty e i z ht hi hz base n cap xs hold x m news hs hlt hsmall (growslice_fits (by omega) hb)
    rw [← hv] at hr
    have hge := grownCap_ge w (n + m) cap e
    refine ⟨_, _, hr, ⟨hlen, .inr ⟨w.heap.size, 0, grownCap w (n + m) cap e, _, rfl, IsC.new w.drew _ _, hge, grownCap_le_maxLen w (n + m) cap e h63, ?_, ?_⟩⟩, ((Off.refl _ w).drew).alloc _, .inr rfl⟩
    · simp only [Array.size_append, List.size_toArray, size_zeroCells, hzs, hlen, ← Nat.add_mul]
      rw [Nat.zero_add]
      exact Nat.mul_le_mul_right _ (by omega)
    · rw [List.drop_zero, Array.toList_append, List.toList_toArray, ← hlen]
      exact List.take_left
  rcases h.2 with ⟨rfl, rfl⟩ | ⟨g, off, cap, cur, rfl, hc, hnc, hcm, hcs, htake⟩
  · have hx : xs = [] := List.eq_nil_of_length_eq_zero (by simpa using h.1)
    subst hx
    by_cases hm : m = 0
    · subst hm
      have hn : news = [] := List.eq_nil_of_length_eq_zero (by simpa using hs.newsLen)
      subst hn
      refine ⟨.slice none 0 0, w, ?_, Own.nil w e i.size, Off.refl _ _, .inl rfl⟩
      have hl := hs.len w
      have hcells := hs.cells
      rcases hs.kind with ⟨e', hk⟩ | hk <;> simp [Builtin.append_, run_underlying ht, run_underlying hk, sizeOf, typeInfo, hi, hs.len, hs.cells]
    · exact grow none 0 rfl (by omega) (run_firstCells_none w.drew i.size 0 0 0)
  · by_cases hroom : n + m ≤ cap
    · have hfit : n * i.size + news.length ≤ cap * i.size := by rw [hs.newsLen, ← Nat.add_mul]; exact Nat.mul_le_mul_right _ hroom
      have hr := run_append_room_src (P := P) w t tx ty e i ht hi g off n cap x m news hs hroom
        (fun j hj => by rw [hc.cell]; have : off + n * i.size + j < cur.size := by omega
                        simp [this]) (fun j _ => hc.unfrozen _)
      refine ⟨_, _, hr, ⟨hlen, .inr ⟨g, off, cap, _, rfl, isC_setCells news (off + n * i.size) w cur hc (by omega), hroom, hcm, ?_, ?_⟩⟩, off_setCells _ _ _ (Off.refl _ _) (.inl (by simp [blk])), .inl rfl⟩
      · rw [List.size_toArray, length_splice _ _ _ (by simp; omega)]; simpa using hcs
      · rw [List.toList_toArray]
        unfold splice
        have hl1 : (cur.toList.take (off + n * i.size)).drop off = xs := by
          rw [List.drop_take, show off + n * i.size - off = n * i.size by omega, htake]
        have hlt : (cur.toList.take (off + n * i.size)).length = off + n * i.size := by rw [List.length_take]; simp; omega
        rw [List.drop_append_of_le_length (by omega), hl1, ← List.append_assoc, ← hlen]
        exact List.take_left
    · refine grow (some ⟨g, off, none⟩) cap rfl (by omega) ?_
      refine run_firstCells_some w.drew i.size n ⟨g, off, none⟩ n cap xs h.1 (fun j u hj => ?_)
      rw [Addr.add_lit]
      have hjl : j < n * i.size := by rw [← h.1]; exact (List.getElem?_eq_some_iff.1 hj).1
      exact (h.cellAt j hjl).trans hj

theorem wpList_append_vec {ops : Array Oper} {rest : List Oper} {o : Oper} {a : Act} {Q : Exit → Act → World → Prop} (hgd : o.guard = none) (s x : Operand) (t tx : TypeId)
    (ho : o.op = .call { callee := .builtin .append, args := #[s, x], argTypes := #[t, tx] })
    {i : TypeInfo} {z : Value} {bytes : Nat} (hs : a.eval s = v) (h : Own w e sz v n xs) (ht : P.underlying t = some (.slice e)) (hi : P.info? e = some i) (hz : i.zero = some z)
    (hsz : i.size = sz) (hby : i.bytes = bytes) (hzs : z.cells.size = sz) {u : Value} {m : Nat} {news : List Value} (hx : a.eval x = u) (hsrc : Src P sz tx u m news w) (h63 : n + m ≤ maxLen) (hb : (n + m) * bytes ≤ 140737488355328)
    (hK : ∀ v' w', Own w' e sz v' (n + m) (xs ++ news) → Off (blk v) w w' → (blk v' = blk v ∨ blk v' = [w.heap.size]) → wpList P ops Q rest (a.put o.dst v') w') : wpList P ops Q (o :: rest) a w := by
  refine wpList_plain hgd fun K hK' => ?_
  obtain ⟨v', w', hr, h1, h2, h3⟩ := run_append_vec (P := P) h (ty := o.type) ht hi hz hsz hby hzs hsrc h63 hb
  unfold Oper.wp execOp
  simp only [ho, resolve, invoke, builtin, Sem.run_bind, Sem.run_pure, Result.andThen_ok, List.map_toArray, List.map_cons, List.map_nil, hs, hx, hr]
  exact hK' _ _ (hK v' w' h1 h2 h3)

/-- What a slice yields to append or copy. -/
theorem Own.src {t e' : TypeId} (h : Own w e sz v n xs) (hk : P.underlying t = some (.slice e')) (h1 : ∀ u ∈ xs, u.oneCell' = true) : Src P sz t v n xs w := by
  rcases h.2 with ⟨rfl, rfl⟩ | ⟨g, off, cap, cur, rfl, hc, hnc, hcm, hcs, htake⟩
  · have hx : xs = [] := List.eq_nil_of_length_eq_zero (by simpa using h.1)
    subst hx
    exact Src.ofNil w hk 0
  · refine Src.ofSlice w hk ⟨g, off, none⟩ n cap xs h.1 (fun j u hj => ?_) h1
    rw [Addr.add_lit]
    have hjl : j < n * sz := by rw [← h.1]; exact (List.getElem?_eq_some_iff.1 hj).1
    exact (h.cellAt j hjl).trans hj
end

theorem Own.alloc {w : World} {e : TypeId} {sz : Nat} {v : Value} {n : Nat} {xs : List Value} (h : Own w e sz v n xs) (o : Obj) : Own (w.alloc o) e sz v n xs := h.off ((Off.refl [] w).alloc o) (by simp)
theorem Own.drew {w : World} {e : TypeId} {sz : Nat} {v : Value} {n : Nat} {xs : List Value} (h : Own w e sz v n xs) : Own w.drew e sz v n xs := h.off ((Off.refl [] w).drew) (by simp)
theorem Own.setCell {w : World} {e : TypeId} {sz : Nat} {v : Value} {n : Nat} {xs : List Value} (h : Own w e sz v n xs) (p : Addr) (u : Value) (hn : p.block ∉ blk v) : Own (w.setCell p u) e sz v n xs :=
  h.off ((Off.refl [p.block] w).setCell (.inl (by simp)) u) (by intro b hb; simp; intro e; subst e; exact hn hb)

/-- A slice that was laid just now, handed to append. -/
theorem src_new {P : Program} (w : World) {t e e' : TypeId} {sz : Nat} (cs : Array Value) (m : Nat) (hk : P.underlying t = some (.slice e')) (hm : m ≤ maxLen) (hs : cs.size = m * sz) (h1 : ∀ u ∈ cs.toList, u.oneCell' = true) :
    Src P sz t (.slice (some ⟨w.heap.size, 0, none⟩) m m) m cs.toList (w.alloc (.cells cs e)) :=
  (Own.new w e sz cs m hm hs).src hk h1

/-- append at the operation: one closed fact on the element's type, one bound. -/
theorem wp_app {P : Program} {w : World} {e : TypeId} {sz : Nat} {v : Value} {n : Nat} {xs : List Value} {ops : Array Oper} {rest : List Oper} {o : Oper} {a : Act} {Q : Exit → Act → World → Prop} (hgd : o.guard = none) (s x : Operand) (t tx : TypeId)
    (ho : o.op = .call { callee := .builtin .append, args := #[s, x], argTypes := #[t, tx] })
    {z : Value} {bytes : Nat} (hs : a.eval s = v) (h : Own w e sz v n xs) (ht : P.underlying t = some (.slice e)) (hinfo : (P.info? e).map (fun i => (i.zero, i.size, i.bytes)) = some (some z, sz, bytes))
    (hzs : z.cells.size = sz) (hp : 0 < bytes) {u : Value} {m : Nat} {news : List Value} (hx : a.eval x = u) (hsrc : Src P sz tx u m news w) (hb : (n + m) * bytes ≤ 140737488355328)
    (hK : ∀ ao cap w', Own w' e sz (.slice ao (n + m) cap) (n + m) (xs ++ news) → Off (blk v) w w' → (blk (.slice ao (n + m) cap) = blk v ∨ blk (.slice ao (n + m) cap) = [w.heap.size]) → wpList P ops Q rest (a.put o.dst (.slice ao (n + m) cap)) w') : wpList P ops Q (o :: rest) a w := by
  obtain ⟨i, hi, hz, hsz, hby⟩ := info_parts hinfo
  have h63 : n + m ≤ maxLen := by
    have h1 : (n + m) * 1 ≤ (n + m) * bytes := Nat.mul_le_mul_left _ hp
    simp only [maxLen]; omega
  refine wpList_append_vec hgd s x t tx ho hs h ht hi hz hsz hby hzs hx hsrc h63 hb (fun v' w' h1 h2 h3 => ?_)
  obtain ⟨ao, cap, rfl, _⟩ := h1.val
  exact hK ao cap w' h1 h2 h3

/-- append as one step of a region that draws its order. -/
theorem step_app {P : Program} {w : World} {e : TypeId} {sz : Nat} {v : Value} {n : Nat} {xs : List Value} {ops : Array Oper} {o : Oper} {a : Act} {K : Act → World → Prop} {Q : Exit → Act → World → Prop} {E : Prop} (hgd : o.guard = none) (s x : Operand) (t tx : TypeId)
    (ho : o.op = .call { callee := .builtin .append, args := #[s, x], argTypes := #[t, tx] })
    {z : Value} {bytes : Nat} (hs : a.eval s = v) (h : Own w e sz v n xs) (ht : P.underlying t = some (.slice e)) (hinfo : (P.info? e).map (fun i => (i.zero, i.size, i.bytes)) = some (some z, sz, bytes))
    (hzs : z.cells.size = sz) (hp : 0 < bytes) {u : Value} {m : Nat} {news : List Value} (hx : a.eval x = u) (hsrc : Src P sz tx u m news w) (hb : (n + m) * bytes ≤ 140737488355328)
    (hK : ∀ ao cap w', Own w' e sz (.slice ao (n + m) cap) (n + m) (xs ++ news) → Off (blk v) w w' → (blk (.slice ao (n + m) cap) = blk v ∨ blk (.slice ao (n + m) cap) = [w.heap.size]) → K (a.put o.dst (.slice ao (n + m) cap)) w') :
    if Region.wanted o (yielded ops a.tmps) = true then Oper.wp P o a w K Q else E := by
  have hw : Region.wanted o (yielded ops a.tmps) = true := by simp [Region.wanted, hgd]
  rw [if_pos hw]
  obtain ⟨i, hi, hz, hsz, hby⟩ := info_parts hinfo
  have h63 : n + m ≤ maxLen := by
    have h1 : (n + m) * 1 ≤ (n + m) * bytes := Nat.mul_le_mul_left _ hp
    simp only [maxLen]; omega
  obtain ⟨v', w', hr, h1, h2, h3⟩ := run_append_vec (P := P) h (ty := o.type) ht hi hz hsz hby hzs hsrc h63 hb
  unfold Oper.wp execOp
  simp only [ho, resolve, invoke, builtin, Sem.run_bind, Sem.run_pure, Result.andThen_ok, List.map_toArray, List.map_cons, List.map_nil, hs, hx, hr]
  obtain ⟨ao, cap, rfl, _⟩ := h1.val
  exact hK ao cap w' h1 h2 h3

/-- Reslicing: v[l:m]: what the operation yields, and what it holds. -/
theorem Own.cut {P : Program} {w : World} {e : TypeId} {sz : Nat} {v : Value} {n : Nat} {xs : List Value} (h : Own w e sz v n xs) {t : TypeId} (ht : P.underlying t = some (.slice e)) (hi : (P.info? e).map (·.size) = some sz) (l m : Nat) (hlm : l ≤ m) (hm : m ≤ n) :
    ∃ ao cap, Own w e sz (.slice ao (m - l) cap) (m - l) ((xs.drop (l * sz)).take ((m - l) * sz)) ∧ (blk (.slice ao (m - l) cap) = blk v) ∧
      (∀ (W : World) (i j : Int), i = l → j = m → (Instr.slice t v (some (.int .i64 i)) (some (.int .i64 j)) none).run P W = .ok (.slice ao (m - l) cap) W) ∧
      (m = n → ∀ (W : World) (i : Int), i = l → (Instr.slice t v (some (.int .i64 i)) none none).run P W = .ok (.slice ao (m - l) cap) W) ∧
      (l = 0 → ∀ (W : World) (j : Int), j = m → (Instr.slice t v none (some (.int .i64 j)) none).run P W = .ok (.slice ao (m - l) cap) W) := by
  have hel : P.elem t = e := by simp [Program.elem, ht]
  have ht' : P.underlying t = some (.slice (P.elem t)) := by rw [hel]; exact ht
  have hsz : ∀ W, (sizeOf (P.elem t)).run P W = .ok sz W := by
    intro W
    rw [hel]
    cases hq : P.info? e with
    | none => simp [hq] at hi
    | some i => simp [hq] at hi; simp [sizeOf, typeInfo, hq, hi]
  have fin : ∀ (a : Option Addr) (cap : Nat), v = .slice a n cap → n ≤ cap → ∀ ao, ao = (if cap = l then a else a.map (·.add (l * sz))) →
      (∀ (W : World) (i j : Int), i = l → j = m → (Instr.slice t v (some (.int .i64 i)) (some (.int .i64 j)) none).run P W = .ok (.slice ao (m - l) (cap - l)) W) ∧
      (m = n → ∀ (W : World) (i : Int), i = l → (Instr.slice t v (some (.int .i64 i)) none none).run P W = .ok (.slice ao (m - l) (cap - l)) W) ∧
      (l = 0 → ∀ (W : World) (j : Int), j = m → (Instr.slice t v none (some (.int .i64 j)) none).run P W = .ok (.slice ao (m - l) (cap - l)) W) := by
    intro a cap hv hc ao hao
    subst hv; subst hao
    refine ⟨?_, ?_, ?_⟩
    · intro W i j hi hj
      subst hi; subst hj
      rw [run_slice_lh (w := W) t a n cap ht' .i64 .i64 l m (by omega) (by omega) (by omega), hsz]
      simp [sliced]
    · intro hmn W i hi
      subst hi
      rw [run_slice_l (w := W) t a n cap ht' .i64 l (by omega) (by omega), hsz]
      simp [sliced, hmn]
    · intro hl W j hj
      subst hj; subst hl
      rw [run_slice_h (w := W) t a n cap ht' .i64 m (by omega) (by omega), hsz]
      simp [sliced]
  rcases h.2 with ⟨rfl, rfl⟩ | ⟨g, off, cap, cur, rfl, hc, hnc, hcm, hcs, htake⟩
  · obtain ⟨f1, f2, f3⟩ := fin none 0 rfl (by omega) _ rfl
    have hx : xs = [] := List.eq_nil_of_length_eq_zero (by simpa using h.1)
    subst hx
    have hl0 : l = 0 := by omega
    subst hl0
    have hm0 : m = 0 := by omega
    subst hm0
    exact ⟨none, 0, by simpa using Own.nil w e sz, rfl, f1, f2, f3⟩
  · by_cases hcl : cap = l
    · obtain ⟨f1, f2, f3⟩ := fin (some ⟨g, off, none⟩) cap rfl hnc _ rfl
      rw [if_pos hcl] at f1 f2 f3
      have hml : m - l = 0 := by omega
      refine ⟨some ⟨g, off, none⟩, cap - l, ⟨by rw [hml]; simp, .inr ⟨g, off, cap - l, cur, rfl, hc, by omega, by omega, by rw [hcl, Nat.sub_self]; omega, by rw [hml]; simp⟩⟩, rfl, f1, f2, f3⟩
    · obtain ⟨f1, f2, f3⟩ := fin (some ⟨g, off, none⟩) cap rfl hnc _ rfl
      rw [if_neg hcl, Option.map_some, Addr.add_lit] at f1 f2 f3
      have e1 : l * sz + (m - l) * sz = m * sz := by rw [← Nat.add_mul]; congr 1; omega
      have e2 : l * sz + (cap - l) * sz = cap * sz := by rw [← Nat.add_mul]; congr 1; omega
      have e3 : m * sz ≤ n * sz := Nat.mul_le_mul_right _ hm
      refine ⟨some ⟨g, off + l * sz, none⟩, cap - l, ⟨?_, .inr ⟨g, off + l * sz, cap - l, cur, rfl, hc, by omega, by omega, by omega, ?_⟩⟩, rfl, f1, f2, f3⟩
      · rw [List.length_take, List.length_drop, h.1]; omega
      · rw [← htake, ← List.drop_drop, List.drop_take, List.take_take, Nat.min_eq_left (by omega)]
end Go.Proofs.Ytlhmcbcoaplcaaa
