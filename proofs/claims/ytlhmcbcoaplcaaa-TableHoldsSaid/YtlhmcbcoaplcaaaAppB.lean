/- append, once more: in place it keeps its base; else the old block is as it was. -/
import Derived.Test.YtlhmcbcoaplcaaaOrdA
set_option linter.unusedVariables false
set_option linter.unusedSimpArgs false
namespace Go.Proofs.Ytlhmcbcoaplcaaa
open Go.ChangeShapes Go.WideShapes Go.ChangeAt Go.RowKit

/-- Where an append has gone. -/
def Gone (w w' : World) (co : Option Addr) (n cc : Nat) (ao : Option Addr) (m cap : Nat) : Prop :=
  (ao = co ∧ cap = cc ∧ Off (blk (.slice co n cc)) w w') ∨ (Off [] w w' ∧ blk (.slice ao m cap) = [w.heap.size])
section
variable {P : Program} {w : World} {e : TypeId} {sz : Nat} {n : Nat} {xs : List Value}

theorem run_append_gone {co : Option Addr} {cc : Nat} (h : Own w e sz (.slice co n cc) n xs) {t tx ty : TypeId} {i : TypeInfo} {z : Value} {bytes : Nat} (ht : P.underlying t = some (.slice e)) (hi : P.info? e = some i) (hz : i.zero = some z)
    (hsz : i.size = sz) (hby : i.bytes = bytes) (hzs : z.cells.size = sz) {x : Value} {m : Nat} {news : List Value} (hs : Src P sz tx x m news w) (h63 : n + m ≤ maxLen) (hb : (n + m) * bytes ≤ 140737488355328) :
    ∃ ao cap w', (Builtin.append_ #[t, tx] ty #[.slice co n cc, x]).run P w = .ok (.slice ao (n + m) cap) w' ∧ Own w' e sz (.slice ao (n + m) cap) (n + m) (xs ++ news) ∧ Gone w w' co n cc ao (n + m) cap := by
  subst hsz; subst hby
  have hsmall : ((n + m : Nat) : Int) ≤ 9223372036854775807 := by simp only [maxLen] at h63; omega
  have hlen : (xs ++ news).length = (n + m) * i.size := by rw [List.length_append, h.1, hs.newsLen, Nat.add_mul]
  have grow : cc < n + m → (Builtin.firstCells i.size n (.slice co n cc)).run P w.drew = .ok xs.toArray w.drew →
      ∃ ao cap w', (Builtin.append_ #[t, tx] ty #[.slice co n cc, x]).run P w = .ok (.slice ao (n + m) cap) w' ∧ Own w' e i.size (.slice ao (n + m) cap) (n + m) (xs ++ news) ∧ Gone w w' co n cc ao (n + m) cap := by
    intro hlt hold
    have hr := run_append_grow_src (P := P) w t tx ty e i z ht hi hz co n cc xs hold x m news hs hlt hsmall (growslice_fits (by omega) hb)
    have hge := grownCap_ge w (n + m) cc e
    refine ⟨_, _, _, hr, ⟨hlen, .inr ⟨w.heap.size, 0, grownCap w (n + m) cc e, _, rfl, IsC.new w.drew _ _, hge, grownCap_le_maxLen w (n + m) cc e h63, ?_, ?_⟩⟩, .inr ⟨((Off.refl _ w).drew).alloc _, rfl⟩⟩
    · simp only [Array.size_append, List.size_toArray, size_zeroCells, hzs, hlen, ← Nat.add_mul]
      rw [Nat.zero_add]
      exact Nat.mul_le_mul_right _ (by omega)
    · rw [List.drop_zero, Array.toList_append, List.toList_toArray, ← hlen]
      exact List.take_left
  rcases h.2 with ⟨hv, rfl⟩ | ⟨g, off, cap, cur, hv, hc, hnc, hcm, hcs, htake⟩
  · have hx : xs = [] := List.eq_nil_of_length_eq_zero (by simpa using h.1)
    subst hx
    injection hv with e1 e2 e3
    subst e1; subst e3
    by_cases hm : m = 0
    · subst hm
      have hn : news = [] := List.eq_nil_of_length_eq_zero (by simpa using hs.newsLen)
      subst hn
      refine ⟨none, 0, w, ?_, Own.nil w e i.size, .inl ⟨rfl, rfl, Off.refl _ _⟩⟩
      have hl := hs.len w
      have hcells := hs.cells
      rcases hs.kind with ⟨e', hk⟩ | hk <;> simp [Builtin.append_, run_underlying ht, run_underlying hk, sizeOf, typeInfo, hi, hs.len, hs.cells]
    · exact grow (by omega) (run_firstCells_none w.drew i.size 0 0 0)
  · injection hv with e1 e2 e3
    subst e1; subst e3
    by_cases hroom : n + m ≤ cc
    · have hfit : n * i.size + news.length ≤ cc * i.size := by rw [hs.newsLen, ← Nat.add_mul]; exact Nat.mul_le_mul_right _ hroom
      have hr := run_append_room_src (P := P) w t tx ty e i ht hi g off n cc x m news hs hroom
        (fun j hj => by rw [hc.cell]; have : off + n * i.size + j < cur.size := by omega
                        simp [this]) (fun j _ => hc.unfrozen _)
      refine ⟨_, _, _, hr, ⟨hlen, .inr ⟨g, off, cc, _, rfl, isC_setCells news (off + n * i.size) w cur hc (by omega), hroom, hcm, ?_, ?_⟩⟩, .inl ⟨rfl, rfl, off_setCells _ _ _ (Off.refl _ _) (.inl (by simp [blk]))⟩⟩
      · rw [List.size_toArray, length_splice _ _ _ (by simp; omega)]; simpa using hcs
      · rw [List.toList_toArray]
        unfold splice
        have hl1 : (cur.toList.take (off + n * i.size)).drop off = xs := by
          rw [List.drop_take, show off + n * i.size - off = n * i.size by omega, htake]
        have hlt : (cur.toList.take (off + n * i.size)).length = off + n * i.size := by rw [List.length_take]; simp; omega
        rw [List.drop_append_of_le_length (by omega), hl1, ← List.append_assoc, ← hlen]
        exact List.take_left
    · refine grow (by omega) ?_
      refine run_firstCells_some w.drew i.size n ⟨g, off, none⟩ n cc xs h.1 (fun j u hj => ?_)
      rw [Addr.add_lit]
      have hjl : j < n * i.size := by rw [← h.1]; exact (List.getElem?_eq_some_iff.1 hj).1
      exact (h.cellAt j hjl).trans hj

theorem wp_app2 {co : Option Addr} {cc : Nat} {ops : Array Oper} {rest : List Oper} {o : Oper} {a : Act} {Q : Exit → Act → World → Prop} (hgd : o.guard = none) (s x : Operand) (t tx : TypeId)
    (ho : o.op = .call { callee := .builtin .append, args := #[s, x], argTypes := #[t, tx] })
    {z : Value} {bytes : Nat} (hs : a.eval s = .slice co n cc) (h : Own w e sz (.slice co n cc) n xs) (ht : P.underlying t = some (.slice e)) (hinfo : (P.info? e).map (fun i => (i.zero, i.size, i.bytes)) = some (some z, sz, bytes))
    (hzs : z.cells.size = sz) (hp : 0 < bytes) {u : Value} {m : Nat} {news : List Value} (hx : a.eval x = u) (hsrc : Src P sz tx u m news w) (hb : (n + m) * bytes ≤ 140737488355328)
    (hK : ∀ ao cap w', Own w' e sz (.slice ao (n + m) cap) (n + m) (xs ++ news) → Gone w w' co n cc ao (n + m) cap → wpList P ops Q rest (a.put o.dst (.slice ao (n + m) cap)) w') : wpList P ops Q (o :: rest) a w := by
  obtain ⟨i, hi, hz, hsz, hby⟩ := info_parts hinfo
  have h63 : n + m ≤ maxLen := by
    have h1 : (n + m) * 1 ≤ (n + m) * bytes := Nat.mul_le_mul_left _ hp
    simp only [maxLen]; omega
  refine wpList_plain hgd fun K hK' => ?_
  obtain ⟨ao, cap, w', hr, h1, h2⟩ := run_append_gone (P := P) h (ty := o.type) ht hi hz hsz hby hzs hsrc h63 hb
  unfold Oper.wp execOp
  simp only [ho, resolve, invoke, builtin, Sem.run_bind, Sem.run_pure, Result.andThen_ok, List.map_toArray, List.map_cons, List.map_nil, hs, hx, hr]
  exact hK' _ _ (hK ao cap w' h1 h2)
end

theorem Own.shorten {w : World} {e : TypeId} {sz n m cap : Nat} {b : Option Addr} {xs ys : List Value} (h : Own w e sz (.slice b (n + m) cap) (n + m) (xs ++ ys)) (hl : xs.length = n * sz) : Own w e sz (.slice b n cap) n xs := by
  rcases h.2 with ⟨hv, h0⟩ | ⟨g, off, cp, cur, hv, hc, hnc, hcm, hcs, ht⟩
  · injection hv with e1 e2 e3
    subst e1; subst e3
    have : n = 0 := by omega
    subst this
    exact ⟨hl, .inl ⟨rfl, rfl⟩⟩
  · injection hv with e1 e2 e3
    subst e1; subst e3
    refine ⟨hl, .inr ⟨g, off, cap, cur, rfl, hc, by omega, hcm, hcs, ?_⟩⟩
    have q := congrArg (List.take (n * sz)) ht
    rw [List.take_take, Nat.min_eq_left (Nat.mul_le_mul_right _ (by omega)), List.take_append_of_le_length (show n * sz ≤ xs.length by omega), List.take_of_length_le (show xs.length ≤ n * sz by omega)] at q
    exact q

/-- A list of rows, all alike, and a slice that has been lengthened from it. -/
def Ext (Wb wr : World) (ao : Option Addr) (N ca : Nat) (m : Rw) (k : Nat) (co : Option Addr) (cc : Nat) : Prop :=
  Own wr 70 5 (.slice ao N ca) N (rows (List.replicate N m)) ∧ Own wr 70 5 (.slice co (N + k) cc) (N + k) (rows (List.replicate (N + k) m)) ∧ (∀ z ∈ blk (.slice ao N ca), z < Wb.heap.size) ∧ ((co = ao ∧ cc = ca) ∨ ∀ z ∈ blk (.slice co (N + k) cc), Wb.heap.size ≤ z)
theorem Ext.start {Wb : World} {ao : Option Addr} {N ca : Nat} {m : Rw} (h : Own Wb 70 5 (.slice ao N ca) N (rows (List.replicate N m))) : Ext Wb Wb ao N ca m 0 ao ca := ⟨h, h, h.lt, .inl ⟨rfl, rfl⟩⟩
theorem Ext.off {Wb wr w' : World} {ao co : Option Addr} {N ca k cc : Nat} {m : Rw} {S : List Nat} (h : Ext Wb wr ao N ca m k co cc) (ho : Off S wr w') (h1 : ∀ z ∈ blk (.slice ao N ca), z ∉ S) (h2 : ∀ z ∈ blk (.slice co (N + k) cc), z ∉ S) : Ext Wb w' ao N ca m k co cc := by
  obtain ⟨q1, q2, q3, q4⟩ := h
  exact ⟨q1.off ho h1, q2.off ho h2, q3, q4⟩
theorem blk_ext {co : Option Addr} {n m c d : Nat} : blk (.slice co n c) = blk (.slice co m d) := by cases co <;> rfl
theorem Ext.app {Wb wr w' : World} {ao co co' : Option Addr} {N ca k cc cc' : Nat} {m : Rw} (h : Ext Wb wr ao N ca m k co cc) (hs : Wb.heap.size ≤ wr.heap.size)
    (h1 : Own w' 70 5 (.slice co' (N + k + 1) cc') (N + k + 1) (rows (List.replicate (N + k) m) ++ rcells m)) (h2 : Gone wr w' co (N + k) cc co' (N + k + 1) cc') :
    Ext Wb w' ao N ca m (k + 1) co' cc' ∧ Off (blk (.slice co (N + k) cc)) wr w' ∧ ∀ z ∈ blk (.slice co' (N + (k + 1)) cc'), z ∈ blk (.slice co (N + k) cc) ∨ wr.heap.size ≤ z := by
  obtain ⟨q1, q2, q3, q4⟩ := h
  have e : rows (List.replicate (N + k) m) ++ rcells m = rows (List.replicate (N + (k + 1)) m) := by
    rw [← Nat.add_assoc, List.replicate_succ', rows_append]; simp [rows]
  rw [e] at h1
  have e2 : List.replicate (N + (k + 1)) m = List.replicate N m ++ List.replicate (k + 1) m := (List.replicate_append_replicate ..).symm
  rcases h2 with ⟨rfl, rfl, ho⟩ | ⟨ho, hb⟩
  · refine ⟨⟨?_, h1, q3, ?_⟩, ho, fun z hz => .inl (by rw [blk_ext (m := N + k) (d := cc')] at hz; exact hz)⟩
    · rcases q4 with ⟨rfl, rfl⟩ | q
      · rw [e2, rows_append] at h1
        exact Own.shorten (m := k + 1) h1 (by rw [rows_len, List.length_replicate])
      · exact q1.off ho (fun z hz hz' => by have := q3 z hz; have := q z hz'; omega)
    · rcases q4 with q | q
      · exact .inl q
      · exact .inr (fun z hz => q z (by rw [blk_ext (m := N + k) (d := cc')] at hz; exact hz))
  · refine ⟨⟨q1.off ho (by simp), h1, q3, .inr (fun z hz => ?_)⟩, ho.mono (by simp), fun z hz => .inr ?_⟩
    · rw [← Nat.add_assoc, hb] at hz; simp at hz; omega
    · rw [← Nat.add_assoc, hb] at hz; simp at hz; omega
end Go.Proofs.Ytlhmcbcoaplcaaa
