/- The document's Room in memory (RefP) over the same plain model; 'at'. -/
import Derived.Test.YtlhmcbcoaplcaaaRoomU
import Derived.Test.YtlhmcbcoaplcaaaVec
set_option linter.unusedVariables false
set_option linter.unusedSimpArgs false
namespace Go.Proofs.Ytlhmcbcoaplcaaa
open Go.ChangeShapes Go.WideShapes Go.ChangeAt Go.RowKit

structure Rt where
  birth : Int
  uv : Value
  ups : List Int

def rtCells (ts : List Rt) : List Value := ts.flatMap fun t => [.int .i64 t.birth, t.uv]
def rtFoot (ts : List Rt) : List Nat := ts.flatMap fun t => blk t.uv
def rtTx (t : Rt) : Int × List Int := (t.birth, t.ups)
def ints (l : List Int) : List Value := l.map (Value.int .i64)

structure RefAt (w : World) (qb : Nat) (area : Int) (L : Txns) (Lv : Value) (ts : List Rt) : Prop where
  nodup : (qb :: (blk Lv ++ rtFoot ts)).Nodup
  head : IsC w qb #[.int .i64 area, Lv] 44
  rows : Own w 96 2 Lv ts.length (rtCells ts)
  ups : ∀ t ∈ ts, Own w 3 1 t.uv t.ups.length (ints t.ups)
  list : ts.map rtTx = L

def RefP (w : World) (qb : Nat) (fp : List Nat) (area : Int) (L : Txns) : Prop := ∃ Lv ts, fp = qb :: (blk Lv ++ rtFoot ts) ∧ RefAt w qb area L Lv ts

theorem mem_rtFoot {ts : List Rt} {x : Nat} : x ∈ rtFoot ts ↔ ∃ t ∈ ts, x ∈ blk t.uv := by simp [rtFoot]
theorem RefP.off {S fp : List Nat} {w w' : World} {qb : Nat} {area : Int} {L : Txns} (h : RefP w qb fp area L) (ho : Off S w w') (hS : ∀ x ∈ fp, x ∉ S) : RefP w' qb fp area L := by
  obtain ⟨Lv, ts, rfl, ⟨a1, a2, a3, a4, a5⟩⟩ := h
  refine ⟨Lv, ts, rfl, ⟨a1, a2.off ho (hS _ (by simp)), a3.off ho (fun b hb => hS _ (by simp [hb])), fun t ht => (a4 t ht).off ho (fun b hb => hS _ ?_), a5⟩⟩
  simp only [List.mem_cons, List.mem_append]
  exact .inr (.inr (mem_rtFoot.2 ⟨t, ht, hb⟩))
theorem RefP.lt {fp : List Nat} {w : World} {qb : Nat} {area : Int} {L : Txns} (h : RefP w qb fp area L) : ∀ x ∈ fp, x < w.heap.size := by
  obtain ⟨Lv, ts, rfl, ⟨a1, a2, a3, a4, a5⟩⟩ := h
  intro x hx
  simp only [List.mem_cons, List.mem_append] at hx
  rcases hx with rfl | hx | hx
  · exact a2.lt
  · exact a3.lt x hx
  · obtain ⟨t, ht, hb⟩ := mem_rtFoot.1 hx
    exact (a4 t ht).lt x hb

theorem rtCells_len (ts : List Rt) : (rtCells ts).length = ts.length * 2 := by
  induction ts with
  | nil => rfl
  | cons t ts ih => simp only [rtCells, List.flatMap_cons, List.length_append, List.length_cons, List.length_nil] at ih ⊢; omega
theorem rtCells_get (ts : List Rt) (j : Nat) (t : Rt) (h : ts[j]? = some t) : (rtCells ts)[j * 2]? = some (.int .i64 t.birth) ∧ (rtCells ts)[j * 2 + 1]? = some t.uv := by
  induction ts generalizing j with
  | nil => simp at h
  | cons a ts ih =>
    cases j with
    | zero => simp at h; subst h; simp [rtCells]
    | succ j =>
      have := ih j (by simpa using h)
      have e : rtCells (a :: ts) = .int .i64 a.birth :: a.uv :: rtCells ts := by simp [rtCells]
      rw [e, show (j + 1) * 2 = j * 2 + 1 + 1 by omega]
      simpa using this

/-- Where a birth stands. -/
def pos : Txns → Int → Option Nat
  | [], _ => none
  | p :: L, b => if p.1 = b then some 0 else (pos L b).map (· + 1)
def posI (L : Txns) (b : Int) : Int := match pos L b with | none => -1 | some i => i

theorem pos_spec (L : Txns) (b : Int) : (pos L b = none ∧ mget L b = none ∧ ∀ p ∈ L, p.1 ≠ b) ∨ ∃ i u, pos L b = some i ∧ L[i]? = some (b, u) ∧ mget L b = some u ∧ ∀ j, j < i → ∀ p : Int × List Int, L[j]? = some p → p.1 ≠ b := by
  induction L with
  | nil => exact .inl ⟨rfl, rfl, by simp⟩
  | cons q L ih =>
    by_cases h : q.1 = b
    · refine .inr ⟨0, q.2, by simp [pos, h], by simp [← h], by simp [mget, h], by omega⟩
    · rcases ih with ⟨h1, h2, h3⟩ | ⟨i, u, h1, h2, h3, h4⟩
      · exact .inl ⟨by simp [pos, h, h1], by simp [mget, h, h2], by intro p hp; rcases List.mem_cons.1 hp with rfl | hp; exact h; exact h3 p hp⟩
      · refine .inr ⟨i + 1, u, by simp [pos, h, h1], by simpa using h2, by simp [mget, h, h3], ?_⟩
        intro j hj p hp
        cases j with
        | zero => simp at hp; subst hp; exact h
        | succ j => exact h4 j (by omega) p (by simpa using hp)

theorem pos_none_iff {L : Txns} {b : Int} (h : ∀ (j : Nat) (p : Int × List Int), L[j]? = some p → p.1 ≠ b) : posI L b = -1 := by
  rcases pos_spec L b with ⟨h1, _⟩ | ⟨i, u, h1, h2, _⟩
  · simp [posI, h1]
  · exact (h i _ h2 rfl).elim
theorem pos_first {L : Txns} {b : Int} {k : Nat} {p : Int × List Int} (hk : L[k]? = some p) (hb : p.1 = b) (h : ∀ j, j < k → ∀ p : Int × List Int, L[j]? = some p → p.1 ≠ b) : posI L b = k := by
  rcases pos_spec L b with ⟨h1, _, h3⟩ | ⟨i, u, h1, h2, _, h4⟩
  · exact (h3 p (List.mem_of_getElem? hk) hb).elim
  · have : i = k := by
      rcases Nat.lt_trichotomy i k with q | q | q
      · exact (h i q _ h2 rfl).elim
      · exact q
      · exact (h4 k q _ hk hb).elim
    simp [posI, h1, this]

set_option maxRecDepth 100000 in
set_option maxHeartbeats 1000000 in
theorem at_any (qb : Nat) (fp : List Nat) (area b : Int) (L : Txns) (w : World) (h : RefP w qb fp area L) (hn : L.length < 4398046511104) :
    Calls Try.prog 49 #[.pointer (some ⟨qb, 0, none⟩), .int .i64 b] w fun e w' => e = .returned (.int .i64 (posI L b)) ∧ w = w' := by
  obtain ⟨Lv, ts, rfl, ⟨a1, a2, a3, a4, a5⟩⟩ := h
  obtain ⟨ao, cap, rfl, hao⟩ := a3.val
  have c := a2.reads
  have hlen : ts.length = L.length := by rw [← a5]; simp
  have hts : ∀ (j : Nat) (p : Int × List Int), L[j]? = some p → ∃ t : Rt, ts[j]? = some t ∧ t.birth = p.1 := by
    intro j p hp
    rw [← a5, List.getElem?_map] at hp
    cases ht : ts[j]? with
    | none => rw [ht] at hp; simp at hp
    | some t => rw [ht] at hp; simp at hp; exact ⟨t, rfl, by rw [← hp]; rfl⟩
  have hcell : Hid (∀ g off, ao = some ⟨g, off, none⟩ → ∀ (j : Nat) (t : Rt), ts[j]? = some t → w.cell? ⟨g, off + j * 2, none⟩ = some (.int .i64 t.birth)) := by
    intro g off e j t ht
    subst e
    have hj : j < ts.length := (List.getElem?_eq_some_iff.1 ht).1
    have := a3.cellAt (j * 2) (by omega)
    rw [this]; exact (rtCells_get ts j t ht).1
  have hne : Hid (0 < ts.length → ∃ g off, ao = some ⟨g, off, none⟩) := by
    intro h0
    rcases a3.2 with ⟨h', h''⟩ | ⟨g, off, cap', cur, h', _⟩
    · omega
    · simp at h'; exact ⟨g, off, h'.1⟩
  have HL := Lib.hid hlen
  have HT := Lib.hid hts
  have hn' : ts.length < 4398046511104 := by omega
  clear hlen hts a1 a3 a4 a5 hao
  generalize hNN : ts.length = N at *
  have HN := Lib.hid hNN
  clear hNN
  go_enter Try.func49, Try.ntmps49
  go_wp2
  go_loop [5] (fun i => ∃ k : Nat, k ≤ N ∧ i = .int .i64 k ∧ ∀ j, j < k → ∀ p : Int × List Int, L[j]? = some p → p.1 ≠ b) (fun i => N - (intOf i).toNat)
  case atStart => exact ⟨0, Nat.zero_le _, rfl, by omega⟩
  case round =>
    obtain ⟨k, hk, rfl, hbef⟩ := hrel
    have HB := Lib.hid hbef
    clear hbef
    by_cases hlt : k < N
    · obtain ⟨g, off, rfl⟩ := hne.out (by omega)
      obtain ⟨t, ht⟩ : ∃ t, ts[k]? = some t := ⟨ts[k]'(by have := HN.out; omega), List.getElem?_eq_getElem _⟩
      have hc := hcell.out g off rfl k t ht
      obtain ⟨p, hp⟩ : ∃ p, L[k]? = some p := ⟨L[k]'(by have := HL.out; have := HN.out; omega), List.getElem?_eq_getElem _⟩
      obtain ⟨t', ht', htb⟩ := HT.out k p hp
      obtain rfl : t = t' := by rw [ht] at ht'; exact Option.some.inj ht'
      have HP := Lib.hid hp
      have HTB := Lib.hid htb
      clear ht ht' hp htb
      by_cases hb : t.birth = b
      · have hd : ((t.birth : Int) == b) = true := by simpa using hb
        clear hb
        go_wp2
        go_ret
        refine ⟨ret_int ?_, rfl⟩
        exact (pos_first HP.out (by rw [← HTB.out]; simpa using hd) HB.out).symm
      · have hd : ((t.birth : Int) == b) = false := by simpa using hb
        clear hb
        go_wp2
        go_round
        case rel =>
          refine ⟨k + 1, by omega, by go_num, ?_⟩
          intro j hj p' hp'
          by_cases e : j = k
          · subst e
            rw [HP.out] at hp'
            obtain rfl := Option.some.inj hp'
            rw [← HTB.out]; simpa using hd
          · exact HB.out j (by omega) p' hp'
        case measure => simp [intOf]; omega
    · go_wp2
      go_ret
      refine ⟨ret_int ?_, rfl⟩
      refine (pos_none_iff ?_).symm
      intro j p hp
      have : j < L.length := (List.getElem?_eq_some_iff.1 hp).1
      have h1 := HL.out
      exact HB.out j (by have h2 := HN.out; omega) p hp
end Go.Proofs.Ytlhmcbcoaplcaaa
