/- PoolFirst: what a torn write leaves, plainly. -/
import Derived.Test.YtfdgiblkllfpjaaGreatDoorL20
set_option linter.unusedVariables false
set_option linter.unusedSimpArgs false
namespace Go.Proofs.YtfdgiblkllfpjaaGreatDoor
open Go.ChangeShapes Go.WideShapes Go.ChangeAt Go.RowKit

/-- The first k bytes of one, the rest of the other. -/
def tear (k : Nat) (a b : List UInt8) : List UInt8 := b.take k ++ a.drop k
theorem tear_len {k : Nat} {a b : List UInt8} (h : a.length = b.length) : (tear k a b).length = a.length := by
  unfold tear; rw [List.length_append, List.length_take, List.length_drop]; omega
theorem tear_all {k : Nat} {a b : List UInt8} (h : a.length = b.length) (hk : b.length ≤ k) : tear k a b = b := by
  unfold tear; rw [List.take_of_length_le hk, List.drop_of_length_le (by omega), List.append_nil]
/-- A right page with its LSN. -/
def Right (t : Nat → Nat) (n : Nat) (b : List UInt8) (x : Nat) : Prop := b.length = 40 ∧ pageCheck t b (n : Int) 1 = some x ∧ pageLsn b = some x
theorem check_inv {t : Nat → Nat} {l : List UInt8} {n : Int} {x : Nat} (h : pageCheck t l n 1 = some x) : l.length = 40 ∧ ((zeros l = true ∧ x = 0) ∨ (pageLsn l = some x ∧ x = num8 (l.drop 32))) := by
  unfold pageCheck at h
  split at h
  · cases h
  · rename_i h0
    have hl : l.length = 40 := by
      have : ¬ ((l.length : Int) ≠ pageLen 1) := fun q => h0 (.inr (.inr q))
      have e : pageLen 1 = 40 := by decide
      rw [e] at this; omega
    refine ⟨hl, ?_⟩
    split at h
    · rename_i hz; injection h with h; exact .inl ⟨hz, h.symm⟩
    · split at h
      · cases h
      · rename_i y hy
        split at h
        · rename_i hc
          injection h with h
          subst h
          rw [hl] at hc
          exact .inr ⟨hy, hc.1⟩
        · cases h
theorem lsn_num {l : List UInt8} {x : Nat} (h : pageLsn l = some x) : x = num8 (l.take 8) := by
  unfold pageLsn at h
  split at h
  · cases h
  · split at h
    · injection h with h; exact h.symm
    · cases h
theorem num8_zeros : ∀ {l : List UInt8}, (∀ x ∈ l, x = 0) → num8 l = 0
  | [], _ => rfl
  | x :: l, h => by
    have h1 := h x (by simp)
    have h2 := num8_zeros (l := l) (fun y hy => h y (by simp [hy]))
    subst h1
    simp [num8, h2]
theorem zeros_all {l : List UInt8} (h : zeros l = true) : ∀ x ∈ l, x = 0 := by
  unfold zeros at h
  intro x hx
  have := List.all_eq_true.1 h x hx
  exact UInt8.toNat_inj.1 (by simpa using this)
theorem right_first {t : Nat → Nat} {n : Nat} {b : List UInt8} {x : Nat} (h : Right t n b x) : num8 (b.take 8) = x ∧ num8 (b.drop 32) = x := by
  refine ⟨(lsn_num h.2.2).symm, ?_⟩
  rcases (check_inv h.2.1).2 with ⟨q, e⟩ | ⟨_, e⟩
  · rw [e]; exact num8_zeros (fun y hy => zeros_all q y (List.mem_of_mem_drop hy))
  · exact e.symm
/-- A torn page's LSN is one of the two, or none. -/
theorem tear_page {t : Nat → Nat} {n : Nat} {a b : List UInt8} {x y : Nat} (ha : Right t n a y) (hb : Right t n b x) (k : Nat) {z : Nat} (h : pageCheck t (tear k a b) (n : Int) 1 = some z) : z = 0 ∨ z = y ∨ z = x := by
  obtain ⟨hl, hz⟩ := check_inv h
  rcases hz with ⟨_, e⟩ | ⟨h1, h2⟩
  · exact .inl e
  · by_cases hk : k ≤ 32
    · refine .inr (.inl ?_)
      rw [h2, ← (right_first ha).2]
      unfold tear
      rw [List.drop_append]
      have e1 : (b.take k).drop 32 = [] := List.drop_of_length_le (by rw [List.length_take]; omega)
      rw [e1, List.nil_append, List.length_take, List.drop_drop]
      congr 2
      have := hb.1; omega
    · refine .inr (.inr ?_)
      rw [lsn_num h1, ← (right_first hb).1]
      unfold tear
      have hb8 := hb.1
      rw [List.take_append_of_le_length (by rw [List.length_take]; omega), List.take_take]
      congr 2
      omega
theorem num8_inj : ∀ {a b : List UInt8}, a.length = b.length → num8 a = num8 b → a = b
  | [], [], _, _ => rfl
  | x :: a, y :: b, h, e => by
    simp only [num8] at e
    have hx := x.toNat_lt
    have hy := y.toNat_lt
    have e1 : x.toNat = y.toNat := by omega
    have e2 : num8 a = num8 b := by omega
    rw [UInt8.toNat_inj.1 e1, num8_inj (by simpa using h) e2]
/-- A right pair's page. -/
def parseM (t : Nat → Nat) (N : Nat) (pb : List UInt8) : Option (Nat × List UInt8 × Nat) :=
  match pageCheck t (pb.drop 16) (num8 ((pb.drop 8).take 4) : Nat) 1 with
  | none => none
  | some z => if num8 ((pb.drop 8).take 4) < N ∧ 1 ≤ z ∧ z = num8 (pb.take 8) then some (num8 ((pb.drop 8).take 4), pb.drop 16, z) else none
theorem parse_inv {t : Nat → Nat} {N : Nat} {pb : List UInt8} {n : Nat} {c : List UInt8} {z : Nat} (hl : pb.length = 56) (h : parseM t N pb = some (n, c, z)) : n < N ∧ c = pb.drop 16 ∧ n = num8 ((pb.drop 8).take 4) ∧ 1 ≤ z ∧ z = num8 (pb.take 8) ∧ z = num8 (pb.drop 48) ∧ z = num8 ((pb.drop 16).take 8) ∧ pageCheck t c (n : Int) 1 = some z := by
  unfold parseM at h
  split at h
  · cases h
  · rename_i y hy
    split at h
    · rename_i hc
      simp only [Option.some.injEq, Prod.mk.injEq] at h
      obtain ⟨rfl, rfl, rfl⟩ := h
      obtain ⟨k1, k2⟩ := check_inv hy
      rcases k2 with ⟨_, e⟩ | ⟨e1, e2⟩
      · omega
      · refine ⟨hc.1, rfl, rfl, hc.2.1, hc.2.2, by rw [e2, List.drop_drop], lsn_num e1, hy⟩
    · cases h
theorem num8_le4 (n : Nat) (h : n < 256) : num8 (le 4 n) = n := by
  exact num8_le 4 n (Nat.lt_of_lt_of_le h (by decide))
theorem pairB_parts (x n : Nat) (b : List UInt8) : (pairB x n b).take 8 = le 8 x ∧ ((pairB x n b).drop 8).take 4 = le 4 n ∧ (pairB x n b).drop 16 = b := by
  have h8 := le_len 8 x
  have h4 := le_len 4 n
  have h40 := le_len 4 0
  unfold pairB
  refine ⟨?_, ?_, ?_⟩
  · rw [List.append_assoc, List.append_assoc, List.take_append_of_le_length (by omega), List.take_of_length_le (by omega)]
  · rw [List.append_assoc, List.append_assoc, List.drop_append, List.drop_of_length_le (by omega), List.nil_append, h8, Nat.sub_self, List.drop_zero, List.take_append_of_le_length (by omega), List.take_of_length_le (by omega)]
  · rw [List.drop_append, List.drop_of_length_le (by simp [h8, h4, h40]), List.nil_append]
    simp [h8, h4, h40]
/-- A pair that a page was written into. -/
theorem parse_pair {t : Nat → Nat} {N n : Nat} {b : List UInt8} {x : Nat} (hb : Right t n b x) (h1 : 1 ≤ x) (hn : n < N) (hN : N ≤ 15) : parseM t N (pairB x n b) = some (n, b, x) := by
  obtain ⟨p1, p2, p3⟩ := pairB_parts x n b
  have hx := pageLsn_le hb.2.2
  unfold parseM
  rw [p1, p2, p3, num8_le4 n (by omega), num8_le 8 x (Nat.lt_of_le_of_lt hx (by decide)), hb.2.1]
  simp only
  rw [if_pos ⟨hn, h1, by trivial⟩]
/-- A torn pair is one of the two, or no right one. -/
theorem tear_pair {t : Nat → Nat} {N : Nat} {P Q : List UInt8} (hP : P.length = 56) (hQ : Q.length = 56) {nP : Nat} {cP : List UInt8} {x : Nat} (hp : parseM t N P = some (nP, cP, x)) (hq : (∀ v ∈ Q, v = 0) ∨ ∃ m c y, parseM t N Q = some (m, c, y)) (hne : num8 (Q.take 8) ≠ x) (k : Nat) {r : Nat × List UInt8 × Nat} (h : parseM t N (tear k Q P) = some r) : tear k Q P = Q ∨ tear k Q P = P := by
  obtain ⟨m, c, z⟩ := r
  have hl : (tear k Q P).length = 56 := by rw [tear_len (by omega), hQ]
  obtain ⟨q1, q2, q3, q4, q5, q6, q7, q8⟩ := parse_inv hl h
  obtain ⟨p1, p2, p3, p4, p5, p6, p7, p8⟩ := parse_inv hP hp
  have hqq : num8 (Q.drop 48) = num8 (Q.take 8) ∧ num8 ((Q.drop 16).take 8) = num8 (Q.take 8) := by
    rcases hq with hz | ⟨m', c', y, hy⟩
    · rw [num8_zeros (fun v hv => hz v (List.mem_of_mem_drop hv)), num8_zeros (fun v hv => hz v (List.mem_of_mem_take hv)), num8_zeros (fun v hv => hz v (List.mem_of_mem_drop (List.mem_of_mem_take hv)))]
      exact ⟨rfl, rfl⟩
    · obtain ⟨_, _, _, _, e5, e6, e7, _⟩ := parse_inv hQ hy
      exact ⟨by rw [← e6, ← e5], by rw [← e7, ← e5]⟩
  by_cases hk : k ≤ 48
  · have e48 : (tear k Q P).drop 48 = Q.drop 48 := by
      unfold tear
      rw [List.drop_append, List.drop_of_length_le (by rw [List.length_take]; omega), List.nil_append, List.length_take, List.drop_drop]
      congr 1; omega
    have hz : z = num8 (Q.take 8) := by rw [q6, e48, hqq.1]
    by_cases hk8 : 8 ≤ k
    · have e8 : (tear k Q P).take 8 = P.take 8 := by
        unfold tear
        rw [List.take_append_of_le_length (by rw [List.length_take]; omega), List.take_take]
        congr 1; omega
      rw [e8, ← p5] at q5
      exact absurd (hz.symm.trans q5) hne
    · refine .inl ?_
      have e8 : num8 ((tear k Q P).take 8) = num8 (Q.take 8) := by rw [← q5, hz]
      have e9 := num8_inj (by rw [List.length_take, List.length_take, hl, hQ]) e8
      have e10 : (tear k Q P).drop 8 = Q.drop 8 := by
        unfold tear
        rw [List.drop_append, List.drop_of_length_le (by rw [List.length_take]; omega), List.nil_append, List.length_take, List.drop_drop]
        congr 1; omega
      rw [← List.take_append_drop 8 (tear k Q P), e9, e10, List.take_append_drop]
  · refine .inr ?_
    have e48 : (tear k Q P).take 48 = P.take 48 := by
      unfold tear
      rw [List.take_append_of_le_length (by rw [List.length_take]; omega), List.take_take]
      congr 1; omega
    have e8 : (tear k Q P).take 8 = P.take 8 := by
      have := congrArg (List.take 8) e48
      rw [List.take_take, List.take_take] at this
      simpa using this
    have e9 : num8 ((tear k Q P).drop 48) = num8 (P.drop 48) := by rw [← q6, ← p6, p5, q5, e8]
    have e10 := num8_inj (by rw [List.length_drop, List.length_drop, hl, hP]) e9
    rw [← List.take_append_drop 48 (tear k Q P), e48, e10, List.take_append_drop]
end Go.Proofs.YtfdgiblkllfpjaaGreatDoor

/- PoolFirst: a disk that may stop, as long as it has not; what a crash may find. -/
set_option linter.unusedVariables false
set_option linter.unusedSimpArgs false
namespace Go.Proofs.YtfdgiblkllfpjaaGreatDoor
open Go.ChangeShapes Go.WideShapes Go.ChangeAt Go.RowKit

/-- The same disk, as if it never stopped. -/
def DiskM.run (m : DiskM) : DiskM := { m with stop := 0, dead := false }
theorem DiskM.run_live (m : DiskM) : m.run.live := ⟨rfl, rfl⟩
theorem DiskM.stops_dead {m : DiskM} (h : m.stops = false) : m.dead = false := by
  unfold DiskM.stops at h
  cases hd : m.dead with
  | false => rfl
  | true => rw [hd] at h; simp at h
theorem DiskM.act_go {m : DiskM} (h : m.stops = false) : m.act = { m with acts := m.acts + 1 } := by
  unfold DiskM.act; rw [if_neg (by rw [h]; simp)]
theorem DiskM.act_no {m : DiskM} (h : m.stops = true) : m.act = { m with dead := true } := by
  unfold DiskM.act; rw [if_pos h]
theorem DiskM.act_run {m : DiskM} (h : m.stops = false) : m.act.run = m.run.act ∧ m.act.dead = false := by
  have hd : m.dead = false := DiskM.stops_dead h
  rw [DiskM.act_go h, DiskM.act_go m.run_live.stops]
  exact ⟨rfl, hd⟩
theorem DiskM.put_run {m : DiskM} (h : m.stops = false) (k : Nat) (l : List UInt8) : (m.put k l).run = m.run.put k l ∧ (m.put k l).dead = false := by
  have hd : m.dead = false := DiskM.stops_dead h
  unfold DiskM.put
  rw [DiskM.act_go h, DiskM.act_go m.run_live.stops]
  exact ⟨rfl, hd⟩
theorem DiskM.sync_run {m : DiskM} (h : m.stops = false) : m.sync.run = m.run.sync ∧ m.sync.dead = false := by
  have hd : m.dead = false := DiskM.stops_dead h
  unfold DiskM.sync
  rw [DiskM.act_go h, DiskM.act_go m.run_live.stops]
  exact ⟨rfl, hd⟩
theorem DiskM.syncLog_run {m : DiskM} (h : m.stops = false) : m.syncLog.run = m.run.syncLog ∧ m.syncLog.dead = false := by
  have hd : m.dead = false := DiskM.stops_dead h
  unfold DiskM.syncLog
  rw [DiskM.act_go h, DiskM.act_go m.run_live.stops]
  exact ⟨rfl, hd⟩
theorem DiskM.app_run {m : DiskM} (h : m.stops = false) (l : List UInt8) : (m.app l).run = m.run.app l ∧ (m.app l).dead = false := by
  have hd : m.dead = false := DiskM.stops_dead h
  unfold DiskM.app
  rw [DiskM.act_go h, DiskM.act_go m.run_live.stops]
  by_cases c : m.log.length + l.length ≤ m.shp.log
  · rw [if_pos c, if_pos (show m.run.log.length + l.length ≤ m.run.shp.log from c)]; exact ⟨rfl, hd⟩
  · rw [if_neg c, if_neg (show ¬ m.run.log.length + l.length ≤ m.run.shp.log from c)]; exact ⟨rfl, hd⟩
theorem flush_run {dm : DiskM} {lm : LogM} {lsn : Nat} (hd : dm.dead = false) (h : (flushM dm lm lsn).2.2 = 0) : flushM dm.run lm lsn = ((flushM dm lm lsn).1.run, (flushM dm lm lsn).2.1, 0) ∧ (flushM dm lm lsn).1.dead = false := by
  unfold flushM at h ⊢
  by_cases c : lsn ≤ lm.base + lm.disk ∨ lm.tail = []
  · simp only [c, if_true] at h ⊢; exact ⟨by first | rfl | trivial, hd⟩
  · simp only [c, if_false] at h ⊢
    cases h1 : dm.stops with
    | true => rw [h1] at h; simp at h
    | false =>
      rw [h1] at h
      simp only [Bool.false_eq_true, if_false] at h ⊢
      cases h2 : (dm.app lm.tail).stops with
      | true => rw [h2] at h; simp at h
      | false =>
        simp only [Bool.false_eq_true, if_false]
        have a := DiskM.app_run h1 lm.tail
        have b := DiskM.syncLog_run h2
        have s1 : dm.run.stops = false := dm.run_live.stops
        have s2 : (dm.run.app lm.tail).stops = false := by rw [← a.1]; exact (dm.app lm.tail).run_live.stops
        rw [s1, s2, ← a.1, ← b.1]
        exact ⟨by simp, b.2⟩
theorem pairS_run {m : DiskM} {n : Nat} {b pb : List UInt8} (hd : m.dead = false) (h : ∀ j, j < 4 → (pairS m n b pb j).stops = false) : ∀ j, j ≤ 4 → pairS m.run n b pb j = (pairS m n b pb j).run ∧ (pairS m n b pb j).dead = false := by
  have a1 := DiskM.put_run (h 0 (by omega)) m.shp.pages pb
  have a2 := DiskM.sync_run (h 1 (by omega))
  have a3 := DiskM.put_run (h 2 (by omega)) n b
  have a4 := DiskM.sync_run (h 3 (by omega))
  have e1 : pairS m.run n b pb 1 = (pairS m n b pb 1).run := a1.1.symm
  have e2 : pairS m.run n b pb 2 = (pairS m n b pb 2).run := by
    show (pairS m.run n b pb 1).sync = _
    rw [e1]; exact a2.1.symm
  have e3 : pairS m.run n b pb 3 = (pairS m n b pb 3).run := by
    show (pairS m.run n b pb 2).put n b = _
    rw [e2]; exact a3.1.symm
  have e4 : pairS m.run n b pb 4 = (pairS m n b pb 4).run := by
    show (pairS m.run n b pb 3).sync = _
    rw [e3]; exact a4.1.symm
  intro j hj
  match j, hj with
  | 0, _ => exact ⟨rfl, hd⟩
  | 1, _ => exact ⟨e1, a1.2⟩
  | 2, _ => exact ⟨e2, a2.2⟩
  | 3, _ => exact ⟨e3, a3.2⟩
  | 4, _ => exact ⟨e4, a4.2⟩
theorem pairM_cases (m : DiskM) (n : Nat) (b pb : List UInt8) : ((∀ j, j < 4 → (pairS m n b pb j).stops = false) ∧ pairM m n b pb = (pairS m n b pb 4, 0)) ∨ ∃ k, k < 4 ∧ (pairS m n b pb k).stops = true ∧ (∀ j, j < k → (pairS m n b pb j).stops = false) ∧ pairM m n b pb = ((pairS m n b pb k).act, 1) := by
  cases h0 : (pairS m n b pb 0).stops with
  | true => exact .inr ⟨0, by omega, h0, fun j hj => by omega, pairM_stop (by omega) (fun j hj => by omega) h0⟩
  | false =>
    cases h1 : (pairS m n b pb 1).stops with
    | true =>
      have hh : ∀ j, j < 1 → (pairS m n b pb j).stops = false := fun j hj => by obtain rfl : j = 0 := by omega
                                                                                exact h0
      exact .inr ⟨1, by omega, h1, hh, pairM_stop (by omega) hh h1⟩
    | false =>
      cases h2 : (pairS m n b pb 2).stops with
      | true =>
        have hh : ∀ j, j < 2 → (pairS m n b pb j).stops = false := fun j hj => by
          match j, hj with
          | 0, _ => exact h0
          | 1, _ => exact h1
        exact .inr ⟨2, by omega, h2, hh, pairM_stop (by omega) hh h2⟩
      | false =>
        cases h3 : (pairS m n b pb 3).stops with
        | true =>
          have hh : ∀ j, j < 3 → (pairS m n b pb j).stops = false := fun j hj => by
            match j, hj with
            | 0, _ => exact h0
            | 1, _ => exact h1
            | 2, _ => exact h2
          exact .inr ⟨3, by omega, h3, hh, pairM_stop (by omega) hh h3⟩
        | false =>
          have hh : ∀ j, j < 4 → (pairS m n b pb j).stops = false := fun j hj => by
            match j, hj with
            | 0, _ => exact h0
            | 1, _ => exact h1
            | 2, _ => exact h2
            | 3, _ => exact h3
          exact .inl ⟨hh, pairM_done hh⟩
theorem pair_run {m : DiskM} {n : Nat} {b pb : List UInt8} (hd : m.dead = false) (h : (pairM m n b pb).2 = 0) : pairM m.run n b pb = ((pairM m n b pb).1.run, 0) ∧ (pairM m n b pb).1.dead = false := by
  rcases pairM_cases m n b pb with ⟨h1, h2⟩ | ⟨k, _, _, _, h2⟩
  · have q := pairS_run hd h1 4 (Nat.le_refl _)
    rw [h2, (m.run_live.pair n b pb).1, q.1]
    exact ⟨rfl, q.2⟩
  · rw [h2] at h; simp at h
theorem write_run {dm : DiskM} {lm : LogM} {pm : PoolM} {f : Fr} {lsn : Nat} (hd : dm.dead = false) (h : (writeM dm lm pm f lsn).2.2.2 = 0) : writeM dm.run lm pm f lsn = ((writeM dm lm pm f lsn).1.run, (writeM dm lm pm f lsn).2.1, (writeM dm lm pm f lsn).2.2.1, 0) ∧ (writeM dm lm pm f lsn).1.dead = false ∧
    (flushM dm lm lsn).2.2 = 0 ∧ (pairM (flushM dm lm lsn).1 f.num f.b (pairB lsn f.num f.b)).2 = 0 ∧ (writeM dm lm pm f lsn).1 = (pairM (flushM dm lm lsn).1 f.num f.b (pairB lsn f.num f.b)).1 := by
  unfold writeM at h ⊢
  by_cases c1 : (flushM dm lm lsn).2.2 = 0
  · obtain ⟨f1, f2⟩ := flush_run hd c1
    by_cases c2 : (pairM (flushM dm lm lsn).1 f.num f.b (pairB lsn f.num f.b)).2 = 0
    · obtain ⟨p1, p2⟩ := pair_run f2 c2
      rw [f1]
      simp only [c1, c2, if_true, p1]
      exact ⟨trivial, p2, trivial, trivial, trivial⟩
    · rw [if_pos c1, if_neg c2] at h; simp at h
  · rw [if_neg c1] at h; simp at h

/-- The pages that last, all right ones, of those that they were, not beyond L. -/
def PagesIn (t : Nat → Nat) (N : Nat) (wf : Nat → List (List UInt8)) (lasts : List (List UInt8)) (L : Nat) : Prop := ∀ n, n < N → ∃ b x, lasts[n]? = some b ∧ Right t n b x ∧ x ≤ L ∧ b ∈ wf n
def PairIn (t : Nat → Nat) (N : Nat) (wf : Nat → List (List UInt8)) (lasts : List (List UInt8)) (L : Nat) : Prop := ∃ pb, lasts[N]? = some pb ∧ pb.length = 56 ∧ ((∀ v ∈ pb, v = 0) ∨ ∃ m c y, parseM t N pb = some (m, c, y) ∧ y ≤ L ∧ c ∈ wf m)
def LooseIn (t : Nat → Nat) (N : Nat) (wf : Nat → List (List UInt8)) (lasts : List (List UInt8)) (L : Nat) (loose : List LooseW) : Prop :=
  loose = [] ∨ ∃ n b x, n < N ∧ Right t n b x ∧ 1 ≤ x ∧ x ≤ L ∧ b ∈ wf n ∧ ((loose = [⟨false, N, pairB x n b⟩] ∧ ∀ pb, lasts[N]? = some pb → num8 (pb.take 8) ≠ x) ∨ (loose = [⟨false, n, b⟩] ∧ lasts[N]? = some (pairB x n b)))
/-- What a crash may find. -/
structure Safe (t : Nat → Nat) (N : Nat) (wf : Nat → List (List UInt8)) (dm : DiskM) : Prop where
  small : N ≤ 15
  shp : dm.shp = ⟨N, 1, 65536⟩
  fit : dm.fit
  log : ∃ ids1 ids2, (∀ x ∈ ids1 ++ ids2, 1 ≤ x ∧ x ≤ 64) ∧ dm.log = logB t 1 (ids1 ++ ids2) ∧ dm.lasted = 34 * ids1.length ∧ dm.log.length ≤ 65536
  page : PagesIn t N wf dm.lasts dm.lasted
  pair : PairIn t N wf dm.lasts dm.lasted
  loose : LooseIn t N wf dm.lasts dm.lasted dm.loose
theorem Safe.of {t : Nat → Nat} {N : Nat} {wf : Nat → List (List UInt8)} {m m' : DiskM} (h : Safe t N wf m) (e1 : m'.shp = m.shp) (e2 : m'.lasts = m.lasts) (e3 : m'.reads = m.reads) (e4 : m'.loose = m.loose) (e5 : m'.log = m.log) (e6 : m'.lasted = m.lasted) : Safe t N wf m' :=
  { small := h.small, shp := e1.trans h.shp, fit := DiskM.fit_of h.fit e1 e2 e3 e4, log := by rw [e5, e6]; exact h.log, page := by rw [e2, e6]; exact h.page, pair := by rw [e2, e6]; exact h.pair, loose := by rw [e2, e4, e6]; exact h.loose }
theorem Safe.act {t : Nat → Nat} {N : Nat} {wf : Nat → List (List UInt8)} {m : DiskM} (h : Safe t N wf m) : Safe t N wf m.act := by
  obtain ⟨e1, e2, e3, e4, e5, e6, _⟩ := m.act_fields
  exact h.of e1 e2 e3 e4 e5 e6
theorem PagesIn.more {t : Nat → Nat} {N : Nat} {wf wf' : Nat → List (List UInt8)} {lasts : List (List UInt8)} {L L' : Nat} (h : PagesIn t N wf lasts L) (hL : L ≤ L') (hw : ∀ n b, b ∈ wf n → b ∈ wf' n) : PagesIn t N wf' lasts L' := fun n hn => by
  obtain ⟨b, x, h1, h2, h3, h4⟩ := h n hn
  exact ⟨b, x, h1, h2, by omega, hw n b h4⟩
theorem PairIn.more {t : Nat → Nat} {N : Nat} {wf wf' : Nat → List (List UInt8)} {lasts : List (List UInt8)} {L L' : Nat} (h : PairIn t N wf lasts L) (hL : L ≤ L') (hw : ∀ n b, b ∈ wf n → b ∈ wf' n) : PairIn t N wf' lasts L' := by
  obtain ⟨pb, h1, h2, h3⟩ := h
  exact ⟨pb, h1, h2, h3.imp id (fun ⟨m, c, y, k1, k2, k3⟩ => ⟨m, c, y, k1, by omega, hw m c k3⟩)⟩
end Go.Proofs.YtfdgiblkllfpjaaGreatDoor

/- PoolFirst: what a run keeps as long as the disk lives; what it leaves where the disk dies. -/
set_option linter.unusedVariables false
set_option linter.unusedSimpArgs false
namespace Go.Proofs.YtfdgiblkllfpjaaGreatDoor
open Go.ChangeShapes Go.WideShapes Go.ChangeAt Go.RowKit

def lsnN (b : List UInt8) : Nat := (pageLsn b).getD 0
/-- A run on a disk that may stop, as long as it has not. -/
structure FirI (t : Nat → Nat) (N : Nat) (cur : Nat → List UInt8) (wf : Nat → List (List UInt8)) (ids1 ids2 : List Nat) (K : Nat) (c : Nat → Nat) (dm : DiskM) (lm : LogM) (pm : PoolM) : Prop where
  main : LastI t N cur ids1 ids2 K c dm.run lm pm
  small : K < 400000000000000000
  dead : dm.dead = false
  page : PagesIn t N wf dm.lasts dm.lasted
  pair : PairIn t N wf dm.lasts dm.lasted
  same : dm.reads = dm.lasts
  cur : ∀ n, n < N → cur n ∈ wf n
  old : ∀ f ∈ pm.held, 0 < f.rc → (∀ pb, dm.lasts[N]? = some pb → num8 (pb.take 8) ≠ lsnN f.b)
  diff : ∀ f ∈ pm.held, ∀ f' ∈ pm.held, 0 < f.rc → 0 < f'.rc → lsnN f.b = lsnN f'.b → f.num = f'.num
section
variable {t : Nat → Nat} {N : Nat} {cur : Nat → List UInt8} {wf : Nat → List (List UInt8)} {ids1 ids2 : List Nat} {K : Nat} {c : Nat → Nat} {dm : DiskM} {lm : LogM} {pm : PoolM}
theorem FirI.logs (h : FirI t N cur wf ids1 ids2 K c dm lm pm) : dm.lasted = 34 * ids1.length ∧ dm.log.length = 34 * ids1.length ∧ lm.disk = 34 * ids1.length ∧ lm.base = 0 ∧ lm.bytes = lm.disk + lm.tail.length ∧ lm.bytes ≤ 65536 := by
  have h1 : dm.log.length = lm.disk := h.main.desk.2.2.2.2.1
  have h2 : dm.lasted = dm.log.length := h.main.lasted
  have h3 := h.main.disk
  exact ⟨by omega, by omega, h3, h.main.base, h.main.sized, h.main.fin.2⟩
theorem FirI.deskOk (h : FirI t N cur wf ids1 ids2 K c dm lm pm) : DeskOk dm lm K := h.main.desk
theorem FirI.safe (h : FirI t N cur wf ids1 ids2 K c dm lm pm) : Safe t N wf dm := by
  obtain ⟨l1, l2, l3, l4, l5, l6⟩ := h.logs
  have hlog : dm.log = logB t 1 ids1 := h.main.log
  have hsh : dm.shp = ⟨N, 1, 65536⟩ := h.main.shp
  exact ⟨h.main.pages, hsh, h.main.desk.1, ⟨ids1, [], (by rw [List.append_nil]; exact fun x hx => h.main.ids x (List.mem_append.2 (.inl hx))), (by rw [List.append_nil]; exact hlog), l1, (by rw [l2]; omega)⟩, h.page, h.pair, .inl h.main.loose⟩
/-- The log's tail goes to the disk, and does not last yet. -/
theorem FirI.appended (h : FirI t N cur wf ids1 ids2 K c dm lm pm) : Safe t N wf (dm.app lm.tail) := by
  obtain ⟨l1, l2, l3, l4, l5, l6⟩ := h.logs
  have hs := h.safe
  have hcap : dm.log.length + lm.tail.length ≤ dm.shp.log := by rw [hs.shp]; simp only; omega
  have a := dm.app_fields lm.tail hcap
  have hlog : dm.log = logB t 1 ids1 := h.main.log
  refine ⟨hs.small, a.1.trans hs.shp, DiskM.fit_of hs.fit a.1 a.2.1 a.2.2.1 a.2.2.2.1, ⟨ids1, ids2, h.main.ids, ?_, by rw [a.2.2.2.2.2.2]; exact l1, ?_⟩, by rw [a.2.1, a.2.2.2.2.2.2]; exact hs.page, by rw [a.2.1, a.2.2.2.2.2.2]; exact hs.pair, by rw [a.2.1, a.2.2.2.1, a.2.2.2.2.2.2]; exact hs.loose⟩
  · rw [a.2.2.2.2.1, hlog, h.main.tail, logB_app]
  · rw [a.2.2.2.2.1, List.length_append]; omega
/-- The log is flushed, or the disk has died. -/
theorem FirI.flush (h : FirI t N cur wf ids1 ids2 K c dm lm pm) (lsn : Nat) (hK : K + 2 < 400000000000000000) :
    ((flushM dm lm lsn).2.2 = 0 ∧ (∃ i1 i2, FirI t N cur wf i1 i2 (K + 2) c (flushM dm lm lsn).1 (flushM dm lm lsn).2.1 pm) ∧ (flushM dm lm lsn).1.lasts = dm.lasts ∧ (lsn < lm.fin → lsn ≤ (flushM dm lm lsn).1.lasted)) ∨
    ((flushM dm lm lsn).2.2 = 1 ∧ Safe t N wf (flushM dm lm lsn).1) := by
  obtain ⟨l1, l2, l3, l4, l5, l6⟩ := h.logs
  have hg := flushM_grounds h.deskOk l5 lsn
  rcases flushM_code dm lm lsn with hc | hc
  · refine .inl ⟨hc, ?_, hg.1, ?_⟩
    · obtain ⟨hr, hd⟩ := flush_run h.dead hc
      obtain ⟨_, i1, i2, hI⟩ := h.main.flush lsn
      rw [hr] at hI
      have hge : dm.lasted ≤ (flushM dm lm lsn).1.lasted := by
        unfold flushM at hc ⊢
        by_cases c1 : lsn ≤ lm.base + lm.disk ∨ lm.tail = []
        · rw [if_pos c1]; exact Nat.le_refl _
        · rw [if_neg c1] at hc ⊢
          by_cases c2 : dm.stops = true
          · rw [if_pos c2] at hc; simp at hc
          · rw [if_neg c2] at hc ⊢
            by_cases c3 : (dm.app lm.tail).stops = true
            · rw [if_pos c3] at hc; simp at hc
            · rw [if_neg c3]
              have a := dm.app_fields lm.tail (by rw [h.safe.shp]; simp only; omega)
              rw [(dm.app lm.tail).syncLog_fields.2.2.2.2.2.2, a.2.2.2.2.1, List.length_append]; omega
      exact ⟨i1, i2, hI, hK, hd, (by rw [hg.1]; exact h.page.more hge (fun _ _ q => q)), (by rw [hg.1]; exact h.pair.more hge (fun _ _ q => q)), (by rw [hg.1, hg.2.1]; exact h.same), h.cur, (by rw [hg.1]; exact h.old), h.diff⟩
    · intro hlt
      have hfin : lm.fin = lm.bytes + 1 := by unfold LogM.fin; rw [l4]; omega
      unfold flushM at hc ⊢
      by_cases c1 : lsn ≤ lm.base + lm.disk ∨ lm.tail = []
      · rw [if_pos c1]
        rcases c1 with q | q
        · show lsn ≤ dm.lasted; omega
        · rw [q, List.length_nil] at l5
          show lsn ≤ dm.lasted; omega
      · rw [if_neg c1] at hc ⊢
        by_cases c2 : dm.stops = true
        · rw [if_pos c2] at hc; simp at hc
        · rw [if_neg c2] at hc ⊢
          by_cases c3 : (dm.app lm.tail).stops = true
          · rw [if_pos c3] at hc; simp at hc
          · rw [if_neg c3]
            have a := dm.app_fields lm.tail (by rw [h.safe.shp]; simp only; omega)
            rw [(dm.app lm.tail).syncLog_fields.2.2.2.2.2.2, a.2.2.2.2.1, List.length_append]; omega
  · refine .inr ⟨hc, ?_⟩
    unfold flushM at hc ⊢
    by_cases c1 : lsn ≤ lm.base + lm.disk ∨ lm.tail = []
    · rw [if_pos c1] at hc; simp at hc
    · rw [if_neg c1] at hc ⊢
      by_cases c2 : dm.stops = true
      · rw [if_pos c2]; exact h.safe.act
      · rw [if_neg c2] at hc ⊢
        by_cases c3 : (dm.app lm.tail).stops = true
        · rw [if_pos c3]; exact h.appended.act
        · rw [if_neg c3] at hc; simp at hc
/-- What lies there on a pair's way. -/
theorem pairS_places {m : DiskM} (hfit : m.fit) (hlo : m.loose = []) {n : Nat} (hn : n < m.shp.pages) {b pb : List UInt8} (hb : b.length = m.shp.pageB) (hpb : pb.length = 16 + m.shp.pageB) :
    ((pairS m n b pb 1).lasts = m.lasts ∧ (pairS m n b pb 1).loose = [⟨false, m.shp.pages, pb⟩]) ∧
    ((∀ j : Nat, (pairS m n b pb 2).lasts[j]? = if j = m.shp.pages then some pb else m.lasts[j]?) ∧ (pairS m n b pb 2).loose = []) ∧
    ((∀ j : Nat, (pairS m n b pb 3).lasts[j]? = if j = m.shp.pages then some pb else m.lasts[j]?) ∧ (pairS m n b pb 3).loose = [⟨false, n, b⟩]) ∧
    ((∀ j : Nat, (pairS m n b pb 4).lasts[j]? = if j = n then some b else if j = m.shp.pages then some pb else m.lasts[j]?) ∧ (pairS m n b pb 4).loose = []) ∧
    (m.reads = m.lasts → (pairS m n b pb 4).reads = (pairS m n b pb 4).lasts) := by
  obtain ⟨y1, e1, f1⟩ := hfit.1 m.shp.pages (by omega)
  obtain ⟨y3, e3, f3⟩ := hfit.1 n (by omega)
  have s1 : m.shp.sizeB m.shp.pages = pb.length := by rw [hpb]; unfold Shp.sizeB; rw [if_neg (by omega), if_pos rfl]
  have s2 : m.shp.sizeB n = b.length := by rw [hb]; unfold Shp.sizeB; rw [if_pos hn]
  have a1 := m.put_fields m.shp.pages pb
  have a2 := (m.put m.shp.pages pb).sync_fields
  have a3 := (m.put m.shp.pages pb).sync.put_fields n b
  have a4 := ((m.put m.shp.pages pb).sync.put n b).sync_fields
  have l1 : (m.put m.shp.pages pb).sync.lasts = laid m.lasts m.shp.pages pb.length pb := by rw [a2.2.1, a1.2.1, a1.2.2.2.1, hlo]; rfl
  have r1 : (m.put m.shp.pages pb).sync.reads = laid m.reads m.shp.pages pb.length pb := by rw [a2.2.2.1, a1.2.2.1]
  have sp : (m.put m.shp.pages pb).sync.shp = m.shp := a2.1.trans a1.1
  have l2 : (pairS m n b pb 4).lasts = laid (laid m.lasts m.shp.pages pb.length pb) n b.length b := by
    show ((m.put m.shp.pages pb).sync.put n b).sync.lasts = _
    rw [a4.2.1, a3.2.1, a3.2.2.2.1, a2.2.2.2.1, l1]; rfl
  have r2 : (pairS m n b pb 4).reads = laid (laid m.reads m.shp.pages pb.length pb) n b.length b := by
    show ((m.put m.shp.pages pb).sync.put n b).sync.reads = _
    rw [a4.2.2.1, a3.2.2.1, r1]
  have q1 := laid_at (l := pb) e1 (by rw [f1, s1])
  have d0 : decide (m.shp.pages < m.shp.pages) = false := decide_eq_false (by omega)
  have d1 : decide (m.shp.pages < n) = false := decide_eq_false (by omega)
  refine ⟨⟨a1.2.1, ?_⟩, ⟨fun j => ?_, a2.2.2.2.1⟩, ⟨fun j => ?_, ?_⟩, ⟨fun j => ?_, a4.2.2.2.1⟩, fun hr => ?_⟩
  · show (m.put m.shp.pages pb).loose = _
    rw [a1.2.2.2.1, hlo, d0]; rfl
  · show (m.put m.shp.pages pb).sync.lasts[j]? = _
    rw [l1]; exact q1 j
  · show ((m.put m.shp.pages pb).sync.put n b).lasts[j]? = _
    rw [a3.2.1, l1]; exact q1 j
  · show ((m.put m.shp.pages pb).sync.put n b).loose = _
    rw [a3.2.2.2.1, a2.2.2.2.1, sp, d1]; rfl
  · rw [l2, laid_at (y := y3) (by rw [q1, if_neg (by omega)]; exact e3) (by rw [f3, s2]) j]
    by_cases e : j = n
    · rw [if_pos e, if_pos e]
    · rw [if_neg e, if_neg e, q1]
  · rw [r2, l2, hr]
end
end Go.Proofs.YtfdgiblkllfpjaaGreatDoor

/- PoolFirst: a dirty page is written out, or the disk dies on the way. -/
set_option linter.unusedVariables false
set_option linter.unusedSimpArgs false
namespace Go.Proofs.YtfdgiblkllfpjaaGreatDoor
open Go.ChangeShapes Go.WideShapes Go.ChangeAt Go.RowKit

section
variable {t : Nat → Nat} {N : Nat} {cur : Nat → List UInt8} {wf : Nat → List (List UInt8)} {ids1 ids2 : List Nat} {K : Nat} {c : Nat → Nat} {dm : DiskM} {lm : LogM} {pm : PoolM}
/-- A held page is a right one. -/
theorem FirI.frame (h : FirI t N cur wf ids1 ids2 K c dm lm pm) {f : Fr} (hf : f ∈ pm.held) : f.num < N ∧ f.b ∈ wf f.num ∧ Right t f.num f.b (lsnN f.b) ∧ lsnN f.b < lm.fin ∧ (0 < f.rc → 1 ≤ lsnN f.b) := by
  obtain ⟨e1, e2, e3, e4, e5⟩ := h.main.fr f hf
  obtain ⟨p1, x, p2, p3, p4, p5⟩ := h.main.page f.num e2
  have hx : lsnN f.b = x := by unfold lsnN; rw [e1, p3]; rfl
  refine ⟨e2, by rw [e1]; exact h.cur _ e2, by rw [hx, e1]; exact ⟨p1, p2, p3⟩, ?_, fun hr => ?_⟩
  · rw [hx]
    rcases p5 with q | q
    · exact q
    · have := h.small; omega
  · exact e5 hr
/-- The states on a pair's way are safe. -/
theorem FirI.onway (h : FirI t N cur wf ids1 ids2 K c dm lm pm) {f : Fr} (hf : f ∈ pm.held) (hr : 0 < f.rc) (hx : lsnN f.b ≤ dm.lasted) {k : Nat} (hk : k < 4) : Safe t N wf (pairS dm f.num f.b (pairB (lsnN f.b) f.num f.b) k) := by
  have hs := h.safe
  obtain ⟨f1, f2, f3, f4, f5⟩ := h.frame hf
  have hlo : dm.loose = [] := h.main.loose
  have hpl : dm.plain := h.main.desk.2.1
  have hpg : dm.shp.pages = N := by rw [hs.shp]
  have hpb : (pairB (lsnN f.b) f.num f.b).length = 16 + dm.shp.pageB := by rw [pairB_len, hs.shp, f3.1]; rfl
  have hbl : f.b.length = dm.shp.pageB := by rw [hs.shp, f3.1]; rfl
  have hnp : f.num < dm.shp.pages := by rw [hpg]; exact f1
  obtain ⟨k0, k1, k2, k3, _⟩ := pairS_ok (m := dm) hs.fit hpl hnp hbl hpb
  obtain ⟨⟨a1, a2⟩, ⟨b1, b2⟩, ⟨c1, c2⟩, _, _⟩ := pairS_places (m := dm) hs.fit hlo hnp hbl hpb
  have hparse := parse_pair (N := N) f3 (f5 hr) f1 hs.small
  have hplen : (pairB (lsnN f.b) f.num f.b).length = 56 := by rw [pairB_len, f3.1]
  have hlog : ∀ k, k < 4 → (pairS dm f.num f.b (pairB (lsnN f.b) f.num f.b) k).log = dm.log ∧ (pairS dm f.num f.b (pairB (lsnN f.b) f.num f.b) k).lasted = dm.lasted := by
    have a1 := dm.put_fields dm.shp.pages (pairB (lsnN f.b) f.num f.b)
    have a2 := (dm.put dm.shp.pages (pairB (lsnN f.b) f.num f.b)).sync_fields
    have a3 := (dm.put dm.shp.pages (pairB (lsnN f.b) f.num f.b)).sync.put_fields f.num f.b
    intro k hk
    match k, hk with
    | 0, _ => exact ⟨rfl, rfl⟩
    | 1, _ => exact ⟨a1.2.2.2.2.1, a1.2.2.2.2.2.2⟩
    | 2, _ => exact ⟨a2.2.2.2.2.1.trans a1.2.2.2.2.1, a2.2.2.2.2.2.2.trans a1.2.2.2.2.2.2⟩
    | 3, _ => exact ⟨a3.2.2.2.2.1.trans (a2.2.2.2.2.1.trans a1.2.2.2.2.1), a3.2.2.2.2.2.2.trans (a2.2.2.2.2.2.2.trans a1.2.2.2.2.2.2)⟩
  have hpair2 : ∀ {lasts : List (List UInt8)}, lasts[N]? = some (pairB (lsnN f.b) f.num f.b) → PairIn t N wf lasts dm.lasted := fun hl => ⟨_, hl, hplen, .inr ⟨f.num, f.b, lsnN f.b, hparse, hx, f2⟩⟩
  have hpage2 : ∀ {lasts : List (List UInt8)}, (∀ j : Nat, lasts[j]? = if j = dm.shp.pages then some (pairB (lsnN f.b) f.num f.b) else dm.lasts[j]?) → PagesIn t N wf lasts dm.lasted := fun hl n hn => by
    rw [hl n, if_neg (by omega)]; exact h.page n hn
  obtain ⟨hl1, hl2⟩ := hlog k hk
  match k, hk with
  | 0, _ => exact hs
  | 1, _ =>
    refine ⟨hs.small, k1.1.trans hs.shp, k1.2.1, by rw [hl1, hl2]; exact hs.log, by rw [a1, hl2]; exact h.page, by rw [a1, hl2]; exact h.pair, .inr ⟨f.num, f.b, lsnN f.b, f1, f3, f5 hr, by rw [hl2]; exact hx, f2, .inl ⟨by rw [a2, hpg], ?_⟩⟩⟩
    rw [a1]; exact h.old f hf hr
  | 2, _ =>
    exact ⟨hs.small, k2.1.trans hs.shp, k2.2.1, by rw [hl1, hl2]; exact hs.log, by rw [hl2]; exact hpage2 b1, by rw [hl2]; exact hpair2 (by rw [b1, if_pos hpg.symm]), .inl b2⟩
  | 3, _ =>
    exact ⟨hs.small, k3.1.trans hs.shp, k3.2.1, by rw [hl1, hl2]; exact hs.log, by rw [hl2]; exact hpage2 c1, by rw [hl2]; exact hpair2 (by rw [c1, if_pos hpg.symm]), .inr ⟨f.num, f.b, lsnN f.b, f1, f3, f5 hr, by rw [hl2]; exact hx, f2, .inr ⟨c2, by rw [c1, if_pos hpg.symm]⟩⟩⟩
/-- A dirty page is written out, or the disk dies on the way. -/
theorem FirI.write (h : FirI t N cur wf ids1 ids2 K c dm lm pm) {f : Fr} (hf : f ∈ pm.held) (hr : 0 < f.rc) (hK : K + 6 < 400000000000000000) :
    ((writeM dm lm pm f (lsnN f.b)).2.2.2 = 0 ∧ (writeM dm lm pm f (lsnN f.b)).2.2.1 = pm.set { f with rc := 0 } ∧ ∃ i1 i2, FirI t N cur wf i1 i2 (K + 6) c (writeM dm lm pm f (lsnN f.b)).1 (writeM dm lm pm f (lsnN f.b)).2.1 (pm.set { f with rc := 0 })) ∨
    ((writeM dm lm pm f (lsnN f.b)).2.2.2 = 1 ∧ Safe t N wf (writeM dm lm pm f (lsnN f.b)).1) := by
  obtain ⟨f1, f2, f3, f4, f5⟩ := h.frame hf
  rcases h.flush (lsnN f.b) (by omega) with ⟨c1, ⟨i1, i2, hI⟩, g1, g2⟩ | ⟨c1, hs⟩
  · have hx := g2 f4
    have hs1 := hI.safe
    have hpg : (flushM dm lm (lsnN f.b)).1.shp.pages = N := by rw [hs1.shp]
    have hpb : (pairB (lsnN f.b) f.num f.b).length = 16 + (flushM dm lm (lsnN f.b)).1.shp.pageB := by rw [pairB_len, hs1.shp, f3.1]; rfl
    have hbl : f.b.length = (flushM dm lm (lsnN f.b)).1.shp.pageB := by rw [hs1.shp, f3.1]; rfl
    have hnp : f.num < (flushM dm lm (lsnN f.b)).1.shp.pages := by rw [hpg]; exact f1
    rcases pairM_cases (flushM dm lm (lsnN f.b)).1 f.num f.b (pairB (lsnN f.b) f.num f.b) with ⟨q1, q2⟩ | ⟨k, q1, q2, q3, q4⟩
    · refine .inl ?_
      have hw : writeM dm lm pm f (lsnN f.b) = (pairS (flushM dm lm (lsnN f.b)).1 f.num f.b (pairB (lsnN f.b) f.num f.b) 4, (flushM dm lm (lsnN f.b)).2.1, pm.set { f with rc := 0 }, 0) := by
        unfold writeM; rw [if_pos c1, q2]; simp
      have hz : (writeM dm lm pm f (lsnN f.b)).2.2.2 = 0 := by rw [hw]
      obtain ⟨r1, r2, _⟩ := write_run h.dead hz
      have hrd := (pairS_run hI.dead q1 4 (Nat.le_refl _)).2
      obtain ⟨_, _, _, j1, j2, hL⟩ := h.main.write hf hr
      rw [show (pageLsn f.b).getD 0 = lsnN f.b from rfl, r1] at hL
      simp only [hw] at hL ⊢
      obtain ⟨_, _, _, ⟨d1, d2⟩, d3⟩ := pairS_places (m := (flushM dm lm (lsnN f.b)).1) hs1.fit hI.main.loose hnp hbl hpb
      have hla : (pairS (flushM dm lm (lsnN f.b)).1 f.num f.b (pairB (lsnN f.b) f.num f.b) 4).lasted = (flushM dm lm (lsnN f.b)).1.lasted := pairS_lasted
      have hplen : (pairB (lsnN f.b) f.num f.b).length = 56 := by rw [pairB_len, f3.1]
      have hN' : ¬ N = f.num := by omega
      have hin : ∀ y ∈ (pm.set { f with rc := 0 }).held, 0 < y.rc → y ∈ pm.held ∧ y.num ≠ f.num := fun y hy hy0 => by
        obtain ⟨z, hz, e⟩ := List.mem_map.1 (show y ∈ pm.held.map (fun y => if y.num = f.num then { f with rc := 0 } else y) from hy)
        by_cases q : z.num = f.num
        · rw [if_pos q] at e; subst e; exact absurd hy0 (by simp)
        · rw [if_neg q] at e; subst e; exact ⟨hz, q⟩
      refine ⟨trivial, trivial, j1, j2, hL, hK, hrd, ?_, ?_, d3 hI.same, h.cur, ?_, ?_⟩
      · intro n hn
        rw [hla, d1 n]
        by_cases e : n = f.num
        · rw [if_pos e, e]; exact ⟨_, _, rfl, f3, hx, f2⟩
        · rw [if_neg e, if_neg (by omega)]; exact hI.page n hn
      · rw [hla]
        exact ⟨_, by rw [d1, if_neg hN', if_pos hpg.symm], hplen, .inr ⟨f.num, f.b, lsnN f.b, parse_pair (N := N) f3 (f5 hr) f1 hs1.small, hx, f2⟩⟩
      · intro y hy hy0 pb hpb'
        obtain ⟨y1, y2⟩ := hin y hy hy0
        rw [d1, if_neg hN', if_pos hpg.symm] at hpb'
        injection hpb' with hpb'
        subst hpb'
        rw [(pairB_parts _ _ _).1, num8_le 8 _ (Nat.lt_of_le_of_lt (pageLsn_le f3.2.2) (by decide))]
        exact fun e => y2 (h.diff y y1 f hf hy0 hr e.symm)
      · intro y hy y' hy' h0 h0' e
        exact h.diff y (hin y hy h0).1 y' (hin y' hy' h0').1 h0 h0' e
    · refine .inr ?_
      have hw : writeM dm lm pm f (lsnN f.b) = ((pairS (flushM dm lm (lsnN f.b)).1 f.num f.b (pairB (lsnN f.b) f.num f.b) k).act, (flushM dm lm (lsnN f.b)).2.1, pm.met 1, 1) := by
        unfold writeM; rw [if_pos c1, q4]; simp
      rw [hw]
      exact ⟨rfl, (hI.onway hf hr hx q1).act⟩
  · refine .inr ?_
    have hw : writeM dm lm pm f (lsnN f.b) = ((flushM dm lm (lsnN f.b)).1, (flushM dm lm (lsnN f.b)).2.1, pm.met 1, 1) := by
      unfold writeM; rw [if_neg (by omega)]
    rw [hw]
    exact ⟨rfl, hs⟩
end
end Go.Proofs.YtfdgiblkllfpjaaGreatDoor

/- PoolFirst: what a run keeps: pins, pages that come and go, Append, Change, Clean, CleanAll. -/
set_option linter.unusedVariables false
set_option linter.unusedSimpArgs false
namespace Go.Proofs.YtfdgiblkllfpjaaGreatDoor
open Go.ChangeShapes Go.WideShapes Go.ChangeAt Go.RowKit

section
variable {t : Nat → Nat} {N : Nat} {cur : Nat → List UInt8} {wf : Nat → List (List UInt8)} {ids1 ids2 : List Nat} {K : Nat} {c : Nat → Nat} {dm : DiskM} {lm : LogM} {pm pm' : PoolM}
theorem FirI.mono (h : FirI t N cur wf ids1 ids2 K c dm lm pm) {K' : Nat} (hK : K ≤ K') (hK' : K' < 400000000000000000) : FirI t N cur wf ids1 ids2 K' c dm lm pm :=
  { h with main := h.main.mono hK, small := hK' }
theorem FirI.congr (h : FirI t N cur wf ids1 ids2 K c dm lm pm) {c' : Nat → Nat} (hc : ∀ n, n < N → c n = c' n) : FirI t N cur wf ids1 ids2 K c' dm lm pm :=
  { h with main := h.main.congr hc }
/-- The frames have changed, none is newly dirty. -/
theorem FirI.frames (h : FirI t N cur wf ids1 ids2 K c dm lm pm) {K' : Nat} {c' : Nat → Nat} (hm : LastI t N cur ids1 ids2 K' c' dm.run lm pm') (hK : K' < 400000000000000000) (hf : ∀ f ∈ pm'.held, 0 < f.rc → ∃ g ∈ pm.held, g.b = f.b ∧ g.num = f.num ∧ 0 < g.rc) : FirI t N cur wf ids1 ids2 K' c' dm lm pm' :=
  { main := hm, small := hK, dead := h.dead, page := h.page, pair := h.pair, same := h.same, cur := h.cur,
    old := fun f hf' hr pb hpb => by obtain ⟨g, g1, g2, g3, g4⟩ := hf f hf' hr; rw [← g2]; exact h.old g g1 g4 pb hpb
    diff := fun f h1 f' h2 r1 r2 e => by
      obtain ⟨g, g1, g2, g3, g4⟩ := hf f h1 r1
      obtain ⟨g', k1, k2, k3, k4⟩ := hf f' h2 r2
      rw [← g3, ← k3]; exact h.diff g g1 g' k1 g4 k4 (by rw [g2, k2]; exact e) }
theorem FirI.setP (h : FirI t N cur wf ids1 ids2 K c dm lm pm) {a : Nat} {f : Fr} (hf : pm.find a = some f) (x : Nat) : FirI t N cur wf ids1 ids2 K (fun n => if n = a then x else c n) dm lm (pm.set { f with pins := x }) := by
  refine h.frames (h.main.setP hf x) h.small (fun y hy hy0 => ?_)
  obtain ⟨f1, f2⟩ := pfind_some hf
  obtain ⟨z, hz, e⟩ := List.mem_map.1 (show y ∈ pm.held.map (fun y => if y.num = f.num then { f with pins := x } else y) from hy)
  by_cases q : z.num = f.num
  · rw [if_pos q] at e; subst e; exact ⟨f, f1, rfl, rfl, hy0⟩
  · rw [if_neg q] at e; subst e; exact ⟨z, hz, rfl, rfl, hy0⟩
theorem FirI.act (h : FirI t N cur wf ids1 ids2 K c dm lm pm) (hs : dm.stops = false) (hK : K + 1 < 400000000000000000) : FirI t N cur wf ids1 ids2 (K + 1) c dm.act lm pm := by
  obtain ⟨e1, e2, e3, e4, e5, e6, e7⟩ := dm.act_fields
  have a := DiskM.act_run hs
  refine { main := by rw [a.1]; exact h.main.act, small := hK, dead := a.2, page := by rw [e2, e6]; exact h.page, pair := by rw [e2, e6]; exact h.pair, same := by rw [e2, e3]; exact h.same, cur := h.cur, old := by rw [e2]; exact h.old, diff := h.diff }
theorem FirI.addP (h : FirI t N cur wf ids1 ids2 K c dm lm pm) {a : Nat} (ha : a < N) (hf : pm.find a = none) (hr : pm.held.length < pm.most) : FirI t N cur wf ids1 ids2 K (bump c a) dm lm (pm.add ⟨a, cur a, 1, 0⟩) := by
  refine h.frames (h.main.addP ha hf hr) h.small (fun y hy hy0 => ?_)
  rcases List.mem_append.1 (show y ∈ pm.held ++ [(⟨a, cur a, 1, 0⟩ : Fr)] from hy) with q | q
  · exact ⟨y, q, rfl, rfl, hy0⟩
  · simp at q; subst q; exact absurd hy0 (by simp)
theorem FirI.delP (h : FirI t N cur wf ids1 ids2 K c dm lm pm) {v : Nat} {f : Fr} (hf : pm.find v = some f) (h0 : c v = 0) (hrc : f.rc = 0) : FirI t N cur wf ids1 ids2 K c dm lm (pm.del v) ∧ (pm.del v).held.length < pm.most := by
  obtain ⟨a, b⟩ := h.main.delP hf h0 hrc
  exact ⟨h.frames a h.small (fun y hy hy0 => ⟨y, List.filter_sublist.subset hy, rfl, rfl, hy0⟩), b⟩
theorem FirI.append (h : FirI t N cur wf ids1 ids2 K c dm lm pm) {x : Nat} (h1 : 1 ≤ x) (h2 : x ≤ 64) (hr : lm.bytes + 34 ≤ 65536) : FirI t N cur wf ids1 (ids2 ++ [x]) K c dm (lm.begin t x) pm ∧ (lm.begin t x).fin = lm.fin + 34 := by
  obtain ⟨a, b⟩ := h.main.append h1 h2 hr
  exact ⟨{ h with main := a }, b⟩
theorem FirI.pairLsn (h : FirI t N cur wf ids1 ids2 K c dm lm pm) {pb : List UInt8} (hp : dm.lasts[N]? = some pb) : num8 (pb.take 8) ≤ dm.lasted := by
  obtain ⟨pb', e1, e2, e3⟩ := h.pair
  rw [hp] at e1
  injection e1 with e1
  subst e1
  rcases e3 with q | ⟨m, c', y, q1, q2, _⟩
  · rw [num8_zeros (fun v hv => q v (List.mem_of_mem_take hv))]; exact Nat.zero_le _
  · obtain ⟨_, _, _, _, e5, _⟩ := parse_inv e2 q1
    rw [← e5]; exact q2
/-- A pinned page gets other bytes, with an LSN that is beyond all others. -/
theorem FirI.change {w : World} (ht : Tbl t w) (h : FirI t N cur wf ids1 ids2 K c dm lm pm) {a : Nat} {f : Fr} (hf : pm.find a = some f) {b : List UInt8} (hb : b.length = 40) {lsn : Nat} (h1 : 1 ≤ lsn) (h2 : lsn < lm.fin) (h3 : dm.lasted < lsn) (h4 : ∀ n, n < N → lsnN (cur n) < lsn) {wf' : Nat → List (List UInt8)} (hw : ∀ n x, x ∈ wf n → x ∈ wf' n) (hwa : stampB t b a lsn ∈ wf' a) :
    FirI t N (fun n => if n = a then stampB t b a lsn else cur n) wf' ids1 ids2 K c dm lm (pm.set { f with b := stampB t b a lsn, rc := if f.rc = 0 then lsn else f.rc }) := by
  obtain ⟨f1, f2⟩ := pfind_some hf
  have hfin := h.main.fin
  have hby := h.main.bytes
  have hlsn : lsnN (stampB t b a lsn) = lsn := by unfold lsnN; rw [pageLsn_stamp (by rw [hb, slots40]; omega) (by omega)]; rfl
  have hin : ∀ y ∈ (pm.set { f with b := stampB t b a lsn, rc := if f.rc = 0 then lsn else f.rc }).held, (y.num = a ∧ lsnN y.b = lsn) ∨ (y ∈ pm.held ∧ y.num ≠ a ∧ lsnN y.b < lsn) := fun y hy => by
    obtain ⟨z, hz, e⟩ := List.mem_map.1 (show y ∈ pm.held.map (fun y => if y.num = f.num then { f with b := stampB t b a lsn, rc := if f.rc = 0 then lsn else f.rc } else y) from hy)
    by_cases q : z.num = f.num
    · rw [if_pos q] at e; subst e; exact .inl ⟨f2, hlsn⟩
    · rw [if_neg q] at e; subst e
      refine .inr ⟨hz, by rw [← f2]; exact q, ?_⟩
      obtain ⟨e1, e2, _⟩ := h.main.fr z hz
      rw [e1]; exact h4 z.num e2
  refine { main := h.main.change ht hf hb h1 h2, small := h.small, dead := h.dead, page := h.page.more (Nat.le_refl _) hw, pair := h.pair.more (Nat.le_refl _) hw, same := h.same, cur := fun n hn => ?_, old := fun y hy hy0 pb hpb => ?_, diff := fun y hy y' hy' r r' e => ?_ }
  · by_cases q : n = a
    · simp only [if_pos q]; rw [q]; exact hwa
    · simp only [if_neg q]; exact hw n _ (h.cur n hn)
  · have hp := h.pairLsn hpb
    rcases hin y hy with ⟨_, q⟩ | ⟨q1, q2, _⟩
    · rw [q]; omega
    · exact h.old y q1 hy0 pb hpb
  · rcases hin y hy with ⟨q0, q⟩ | ⟨q1, q2, q3⟩
    · rcases hin y' hy' with ⟨p0, p⟩ | ⟨p1, p2, p3⟩
      · rw [q0, p0]
      · omega
    · rcases hin y' hy' with ⟨p0, p⟩ | ⟨p1, p2, p3⟩
      · omega
      · exact h.diff y q1 y' p1 r r' e
theorem FirI.clean (h : FirI t N cur wf ids1 ids2 K c dm lm pm) (n : Nat) (hK : K + 6 < 400000000000000000) :
    ((cleanM dm lm pm n).2.2.2 = 0 ∧ ∃ i1 i2, FirI t N cur wf i1 i2 (K + 6) c (cleanM dm lm pm n).1 (cleanM dm lm pm n).2.1 (cleanM dm lm pm n).2.2.1) ∨ ((cleanM dm lm pm n).2.2.2 = 1 ∧ Safe t N wf (cleanM dm lm pm n).1) := by
  cases hf : pm.find n with
  | none =>
    have e : cleanM dm lm pm n = (dm, lm, pm, 0) := by unfold cleanM; rw [hf]
    rw [e]
    exact .inl ⟨rfl, ids1, ids2, h.mono (by omega) hK⟩
  | some f =>
    obtain ⟨f1, f2⟩ := pfind_some hf
    by_cases hr : 0 < f.rc
    · have e : cleanM dm lm pm n = writeM dm lm pm f (lsnN f.b) := by unfold cleanM; rw [hf]; simp only [hr, if_true]; rfl
      rw [e]
      rcases h.write f1 hr hK with ⟨q1, q2, i1, i2, q3⟩ | q
      · exact .inl ⟨q1, i1, i2, by rw [q2]; exact q3⟩
      · exact .inr q
    · have e : cleanM dm lm pm n = (dm, lm, pm, 0) := by unfold cleanM; rw [hf]; simp only [hr, if_false]
      rw [e]
      exact .inl ⟨rfl, ids1, ids2, h.mono (by omega) hK⟩
theorem FirI.cleanAll : ∀ (ns : List Nat) {ids1 ids2 : List Nat} {K : Nat} {dm : DiskM} {lm : LogM} {pm : PoolM} (h : FirI t N cur wf ids1 ids2 K c dm lm pm) (hK : K + 6 * ns.length < 400000000000000000),
    ((cleanAllM ns dm lm pm).2.2.2 = 0 ∧ ∃ i1 i2, FirI t N cur wf i1 i2 (K + 6 * ns.length) c (cleanAllM ns dm lm pm).1 (cleanAllM ns dm lm pm).2.1 (cleanAllM ns dm lm pm).2.2.1) ∨ ((cleanAllM ns dm lm pm).2.2.2 = 1 ∧ Safe t N wf (cleanAllM ns dm lm pm).1)
  | [], ids1, ids2, K, dm, lm, pm, h, hK => .inl ⟨rfl, ids1, ids2, h⟩
  | n :: ns, ids1, ids2, K, dm, lm, pm, h, hK => by
    simp only [List.length_cons] at hK
    rcases h.clean n (by omega) with ⟨h1, i1, i2, h2⟩ | ⟨h1, h2⟩
    · have e : cleanAllM (n :: ns) dm lm pm = cleanAllM ns (cleanM dm lm pm n).1 (cleanM dm lm pm n).2.1 (cleanM dm lm pm n).2.2.1 := by
        show (if (cleanM dm lm pm n).2.2.2 = 0 then _ else _) = _
        rw [if_pos h1]
      rw [e]
      rcases FirI.cleanAll ns h2 (by omega) with ⟨k1, j1, j2, k2⟩ | k
      · exact .inl ⟨k1, j1, j2, k2.mono (by simp only [List.length_cons]; omega) (by simp only [List.length_cons]; omega)⟩
      · exact .inr k
    · have e : cleanAllM (n :: ns) dm lm pm = cleanM dm lm pm n := by
        show (if (cleanM dm lm pm n).2.2.2 = 0 then _ else _) = _
        rw [if_neg (by omega)]
      rw [e]
      exact .inr ⟨h1, h2⟩
end
end Go.Proofs.YtfdgiblkllfpjaaGreatDoor

/- PoolFirst: what a crash leaves. -/
set_option linter.unusedVariables false
set_option linter.unusedSimpArgs false
namespace Go.Proofs.YtfdgiblkllfpjaaGreatDoor
open Go.ChangeShapes Go.WideShapes Go.ChangeAt Go.RowKit

/-- The grounds that a crash leaves: of a loose write its first j bytes. -/
def laidK (m : DiskM) (j : Nat) : List (List UInt8) := match m.loose with | [] => m.lasts | x :: _ => laid m.lasts x.place j x.bytes
def DiskM.leftAt (m : DiskM) (j n : Nat) : DiskM := ⟨m.shp, laidK m j, laidK m j, [], m.log.take n, n, 0, 0, false⟩
theorem laid_tear {gs : List (List UInt8)} {k : Nat} {y : List UInt8} (hk : gs[k]? = some y) (n : Nat) (l : List UInt8) (j : Nat) : (laid gs k n l)[j]? = if j = k then some (tear n y l) else gs[j]? := by
  have hlt := (List.getElem?_eq_some_iff.1 hk).1
  unfold laid
  by_cases e : j = k
  · subst e
    rw [if_pos rfl, List.getElem?_set_self hlt, List.getD_eq_getElem?_getD, hk]
    rfl
  · rw [if_neg e, List.getElem?_set_ne (Ne.symm e)]
/-- A log's beginning: whole frames, and a part of one. -/
theorem logB_take (t : Nat → Nat) : ∀ (xs : List Nat) (l n : Nat), n ≤ 34 * xs.length → ∃ k part, k ≤ xs.length ∧ (logB t l xs).take n = logB t l (xs.take k) ++ part ∧ part.length < 34 ∧ (part = [] ∨ ∃ x ∈ xs, part = (frameB t (l + 34 * k) (beginB x)).take part.length) ∧ 34 * k + part.length = n
  | [], l, n, h => ⟨0, [], by simp, by simp [logB], by simp, .inl rfl, by simp at h ⊢; omega⟩
  | x :: xs, l, n, h => by
    have hf : (frameB t l (beginB x)).length = 34 := by rw [frameB_len, beginB_len]
    by_cases hn : n < 34
    · refine ⟨0, (frameB t l (beginB x)).take n, by simp, ?_, by rw [List.length_take]; omega, .inr ⟨x, by simp, ?_⟩, by rw [List.length_take]; omega⟩
      · rw [logB_cons, List.take_append_of_le_length (by omega)]; simp [logB]
      · rw [List.length_take, Nat.mul_zero, Nat.add_zero, hf, Nat.min_eq_left (by omega)]
    · obtain ⟨k, part, h1, h2, h3, h4, h5⟩ := logB_take t xs (l + 34) (n - 34) (by simp only [List.length_cons] at h; omega)
      refine ⟨k + 1, part, by simp only [List.length_cons]; omega, ?_, h3, ?_, by omega⟩
      · rw [logB_cons, List.take_append, List.take_of_length_le (by omega), hf, h2, List.take_succ_cons, logB_cons, List.append_assoc]
      · rcases h4 with q | ⟨y, y1, y2⟩
        · exact .inl q
        · refine .inr ⟨y, by simp [y1], ?_⟩
          rw [show l + 34 * (k + 1) = l + 34 + 34 * k by omega]; exact y2
/-- What is left. -/
structure LeftI (t : Nat → Nat) (N : Nat) (wf : Nat → List (List UInt8)) (ids : List Nat) (part : List UInt8) (m : DiskM) : Prop where
  small : N ≤ 15
  live : m.live
  acts : m.acts = 0
  shp : m.shp = ⟨N, 1, 65536⟩
  fit : m.fit
  loose : m.loose = []
  same : m.reads = m.lasts
  log : m.log = logB t 1 ids ++ part
  short : part.length < 34
  part : part = [] ∨ ∃ x, 1 ≤ x ∧ x ≤ 64 ∧ part = (frameB t (1 + 34 * ids.length) (beginB x)).take part.length
  okIds : ∀ x ∈ ids, 1 ≤ x ∧ x ≤ 64
  len : m.log.length ≤ 65536
  page : ∀ n, n < N → ∃ b, m.lasts[n]? = some b ∧ b.length = 40 ∧ ∀ z, pageCheck t b (n : Int) 1 = some z → z ≤ 34 * ids.length
  pair : ∃ pb, m.lasts[N]? = some pb ∧ pb.length = 56 ∧ (∀ k c y, parseM t N pb = some (k, c, y) → y ≤ 34 * ids.length ∧ c ∈ wf k) ∧ ∀ n, n < N → (∃ b, m.lasts[n]? = some b ∧ b ∈ wf n) ∨ ∃ c y, parseM t N pb = some (n, c, y)
theorem parse_zeros {t : Nat → Nat} {N : Nat} {pb : List UInt8} (hl : pb.length = 56) (hz : ∀ v ∈ pb, v = 0) : parseM t N pb = none := by
  cases h : parseM t N pb with
  | none => rfl
  | some r =>
    obtain ⟨n, c, y⟩ := r
    obtain ⟨_, _, _, e4, e5, _⟩ := parse_inv hl h
    rw [num8_zeros (fun v hv => hz v (List.mem_of_mem_take hv))] at e5
    omega
theorem Safe.left {t : Nat → Nat} {N : Nat} {wf : Nat → List (List UInt8)} {m : DiskM} (h : Safe t N wf m) (j n : Nat) (h1 : m.lasted ≤ n) (h2 : n ≤ m.log.length) : ∃ ids part, LeftI t N wf ids part (m.leftAt j n) := by
  obtain ⟨ids1, ids2, i1, i2, i3, i4⟩ := h.log
  have hll : m.log.length = 34 * (ids1 ++ ids2).length := by rw [i2, logB_len]
  obtain ⟨k, part, k1, k2, k3, k4, k5⟩ := logB_take t (ids1 ++ ids2) 1 n (by omega)
  have hkl : ((ids1 ++ ids2).take k).length = k := by rw [List.length_take]; omega
  have hL : m.lasted ≤ 34 * ((ids1 ++ ids2).take k).length := by rw [hkl]; omega
  have hpg : m.shp.pages = N := by rw [h.shp]
  have s40 : ∀ i, i < N → m.shp.sizeB i = 40 := fun i hi => by rw [h.shp]; unfold Shp.sizeB Shp.pageB; simp only; rw [if_pos hi]
  have s56 : m.shp.sizeB N = 56 := by rw [h.shp]; unfold Shp.sizeB Shp.pageB; simp only; rw [if_neg (by omega), if_pos trivial]
  have hsub : ∀ x ∈ (ids1 ++ ids2).take k, 1 ≤ x ∧ x ≤ 64 := fun x hx => i1 x (List.mem_of_mem_take hx)
  refine ⟨(ids1 ++ ids2).take k, part, ?_⟩
  -- the grounds
  have hg : (∀ i, i < m.shp.pages + 3 → ∃ l, (laidK m j)[i]? = some l ∧ l.length = m.shp.sizeB i) ∧
      (∀ i, i < N → ∃ b, (laidK m j)[i]? = some b ∧ b.length = 40 ∧ ∀ z, pageCheck t b (i : Int) 1 = some z → z ≤ m.lasted) ∧
      (∃ pb, (laidK m j)[N]? = some pb ∧ pb.length = 56 ∧ (∀ k c y, parseM t N pb = some (k, c, y) → y ≤ m.lasted ∧ c ∈ wf k) ∧ ∀ i, i < N → (∃ b, (laidK m j)[i]? = some b ∧ b ∈ wf i) ∨ ∃ c y, parseM t N pb = some (i, c, y)) := by
    have hpair : ∀ pb, m.lasts[N]? = some pb → pb.length = 56 ∧ ∀ k c y, parseM t N pb = some (k, c, y) → y ≤ m.lasted ∧ c ∈ wf k := fun pb hpb => by
      obtain ⟨pb', e1, e2, e3⟩ := h.pair
      rw [hpb] at e1; injection e1 with e1; subst e1
      refine ⟨e2, fun k c y hk => ?_⟩
      rcases e3 with q | ⟨m', c', y', q1, q2, q3⟩
      · rw [parse_zeros e2 q] at hk; cases hk
      · rw [q1] at hk; injection hk with hk; simp only [Prod.mk.injEq] at hk; obtain ⟨rfl, rfl, rfl⟩ := hk; exact ⟨q2, q3⟩
    obtain ⟨pb0, hp0, _⟩ := h.pair
    rcases h.loose with hlo | ⟨n0, b0, x0, a1, a2, a3, a4, a5, ⟨a6, a7⟩ | ⟨a6, a7⟩⟩
    · have e : laidK m j = m.lasts := by unfold laidK; rw [hlo]
      rw [e]
      refine ⟨h.fit.1, fun i hi => ?_, pb0, hp0, (hpair pb0 hp0).1, (hpair pb0 hp0).2, fun i hi => ?_⟩
      · obtain ⟨b, x, q1, q2, q3, q4⟩ := h.page i hi
        exact ⟨b, q1, q2.1, fun z hz => by rw [q2.2.1] at hz; injection hz with hz; omega⟩
      · obtain ⟨b, x, q1, q2, q3, q4⟩ := h.page i hi
        exact .inl ⟨b, q1, q4⟩
    · have e : laidK m j = laid m.lasts N j (pairB x0 n0 b0) := by unfold laidK; rw [a6]
      have hla := laid_tear hp0 j (pairB x0 n0 b0)
      have hpl : (pairB x0 n0 b0).length = 56 := by rw [pairB_len, a2.1]
      have hp56 := (hpair pb0 hp0).1
      have hparse := parse_pair (N := N) a2 a3 a1 h.small
      rw [e]
      refine ⟨fun i hi => ?_, fun i hi => ?_, tear j pb0 (pairB x0 n0 b0), by rw [hla, if_pos rfl], by rw [tear_len (by omega)]; exact hp56, fun k c y hk => ?_, fun i hi => ?_⟩
      · obtain ⟨l, q1, q2⟩ := h.fit.1 i hi
        rw [hla]
        by_cases ei : i = N
        · subst ei; rw [if_pos rfl]; exact ⟨_, rfl, by rw [tear_len (by omega), hp56, s56]⟩
        · rw [if_neg ei]; exact ⟨l, q1, q2⟩
      · obtain ⟨b, x, q1, q2, q3, q4⟩ := h.page i hi
        rw [hla, if_neg (by omega)]
        exact ⟨b, q1, q2.1, fun z hz => by rw [q2.2.1] at hz; injection hz with hz; omega⟩
      · have hq : (∀ v ∈ pb0, v = 0) ∨ ∃ m' c' y', parseM t N pb0 = some (m', c', y') := by
          obtain ⟨pb', e1, _, e3⟩ := h.pair
          rw [hp0] at e1; injection e1 with e1; subst e1
          exact e3.imp id (fun ⟨m', c', y', q, _⟩ => ⟨m', c', y', q⟩)
        rcases tear_pair hpl hp56 hparse hq (a7 pb0 hp0) j hk with q | q
        · rw [q] at hk; exact (hpair pb0 hp0).2 k c y hk
        · rw [q, hparse] at hk; injection hk with hk; simp only [Prod.mk.injEq] at hk; obtain ⟨rfl, rfl, rfl⟩ := hk; exact ⟨a4, a5⟩
      · obtain ⟨b, x, q1, q2, q3, q4⟩ := h.page i hi
        rw [hla, if_neg (by omega)]
        exact .inl ⟨b, q1, q4⟩
    · have e : laidK m j = laid m.lasts n0 j b0 := by unfold laidK; rw [a6]
      obtain ⟨b1, x1, r1, r2, r3, r4⟩ := h.page n0 a1
      have hla := laid_tear r1 j b0
      have hpN := hpair _ a7
      rw [e]
      refine ⟨fun i hi => ?_, fun i hi => ?_, pairB x0 n0 b0, by rw [hla, if_neg (by omega)]; exact a7, hpN.1, hpN.2, fun i hi => ?_⟩
      · obtain ⟨l, q1, q2⟩ := h.fit.1 i hi
        rw [hla]
        by_cases ei : i = n0
        · subst ei; rw [if_pos rfl]; exact ⟨_, rfl, by rw [tear_len (by rw [r2.1, a2.1]), r2.1, s40 i a1]⟩
        · rw [if_neg ei]; exact ⟨l, q1, q2⟩
      · rw [hla]
        by_cases ei : i = n0
        · subst ei; rw [if_pos rfl]
          refine ⟨_, rfl, by rw [tear_len (by rw [r2.1, a2.1]), r2.1], fun z hz => ?_⟩
          rcases tear_page r2 a2 j hz with q | q | q <;> omega
        · rw [if_neg ei]
          obtain ⟨b, x, q1, q2, q3, q4⟩ := h.page i hi
          exact ⟨b, q1, q2.1, fun z hz => by rw [q2.2.1] at hz; injection hz with hz; omega⟩
      · rw [hla]
        by_cases ei : i = n0
        · subst ei; exact .inr ⟨b0, x0, parse_pair (N := N) a2 a3 a1 h.small⟩
        · rw [if_neg ei]
          obtain ⟨b, x, q1, q2, q3, q4⟩ := h.page i hi
          exact .inl ⟨b, q1, q4⟩
  obtain ⟨g1, g2, pb, g3, g4, g5, g6⟩ := hg
  exact { small := h.small, live := ⟨rfl, rfl⟩, acts := rfl, shp := h.shp, fit := ⟨g1, g1, fun x hx => by cases hx⟩, loose := rfl, same := rfl,
          log := (by show m.log.take n = _; rw [i2]; exact k2), short := k3,
          part := k4.imp id (fun ⟨x, x1, x2⟩ => ⟨x, (i1 x x1).1, (i1 x x1).2, by rw [hkl]; exact x2⟩), okIds := hsub,
          len := (by show (m.log.take n).length ≤ _; rw [List.length_take]; omega),
          page := fun i hi => (by obtain ⟨b, q1, q2, q3⟩ := g2 i hi; exact ⟨b, q1, q2, fun z hz => Nat.le_trans (q3 z hz) hL⟩),
          pair := ⟨pb, g3, g4, fun k c y hk => ⟨Nat.le_trans (g5 k c y hk).1 hL, (g5 k c y hk).2⟩, g6⟩ }
end Go.Proofs.YtfdgiblkllfpjaaGreatDoor
