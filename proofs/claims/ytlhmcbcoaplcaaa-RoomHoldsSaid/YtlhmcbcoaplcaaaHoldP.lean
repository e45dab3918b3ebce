/- RoomHolds: the plain law: what is used, beside what is kept, stays in the area; and the state of the law's loop. -/
import Derived.Test.YtlhmcbcoaplcaaaRoomSumsV
set_option linter.unusedVariables false
set_option linter.unusedSimpArgs false
namespace Go.Proofs.Ytlhmcbcoaplcaaa
open Go.ChangeShapes Go.WideShapes Go.ChangeAt Go.RowKit

def upd {α : Type} (f : Nat → α) (b : Nat) (v : α) : Nat → α := fun j => if j = b then v else f j
theorem upd_same {α : Type} (f : Nat → α) (b : Nat) (v : α) : upd f b v b = v := by simp [upd]
theorem upd_other {α : Type} (f : Nat → α) {b j : Nat} (v : α) (h : j ≠ b) : upd f b v j = f j := by simp [upd, h]
/-- What one birth's updates keep. -/
def keep1 : Option (List Int) → Int
  | none => 0
  | some s => ksum s
def sumB (o : Nat → Option (List Int)) : Nat → Int
  | 0 => 0
  | n + 1 => sumB o n + keep1 (o n)
theorem sumB_upd (o : Nat → Option (List Int)) (b : Nat) (x : Option (List Int)) (n : Nat) : sumB (upd o b x) n = sumB o n + if b < n then keep1 x - keep1 (o b) else 0 := by
  induction n with
  | zero => simp [sumB]
  | succ n ih =>
    rw [sumB, sumB, ih]
    by_cases h : b = n
    · subst h; rw [upd_same, if_neg (by omega), if_pos (by omega)]; omega
    · rw [upd_other _ _ (Ne.symm h)]
      by_cases h2 : b < n
      · rw [if_pos h2, if_pos (by omega)]; omega
      · rw [if_neg h2, if_neg (by omega)]; omega
def stack (o : Nat → Option (List Int)) (b : Nat) : List Int := (o b).getD []

/-- The law's own books against the Room's. -/
structure Books (L : Txns) (o : Nat → Option (List Int)) (used area : Int) (k : Nat) : Prop where
  wf : Wf L k
  has : ∀ b s, o b = some s → ∃ u, mget L (b : Nat) = some u ∧ u.Perm s
  not : ∀ b, o b = none → mget L (b : Nat) = none
  sum : tot L = sumB o 8
  low : 0 ≤ used
  fits : used + tot L ≤ area

theorem ksum_perm {u s : List Int} (h : u.Perm s) : ksum u = ksum s := by
  induction h with
  | nil => rfl
  | cons a _ ih => simp [ksum, ih]
  | swap a b l => simp [ksum]; omega
  | trans _ _ h1 h2 => exact h1.trans h2

theorem Books.good {L : Txns} {o : Nat → Option (List Int)} {used area : Int} {k : Nat} (h : Books L o used area k) {b : Nat} {s : List Int} (hs : o b = some s) : good s ∧ s.length ≤ k := by
  obtain ⟨u, h1, h2⟩ := h.has b s hs
  have hm := mem_of_mget h1
  have hc := mem_cnt hm
  have hk := h.wf.cnt
  refine ⟨fun n hn => h.wf.good _ hm n (h2.mem_iff.2 hn), ?_⟩
  rw [← h2.length_eq]; simp only at hc; omega

theorem Books.begin {L : Txns} {o : Nat → Option (List Int)} {used area : Int} {k : Nat} (h : Books L o used area k) (hk : k + 1 < 4398046511104) {b : Nat} (hb : b < 8) (ho : o b = none) (hf : used + 34 + 99 + tot L ≤ area) :
    rBegin L b = (0, L ++ [((b : Int), [])]) ∧ Books (L ++ [((b : Int), [])]) (upd o b (some [])) (used + 34) area (k + 1) := by
  have hn := h.not b ho
  have e : rBegin L b = (0, L ++ [((b : Int), [])]) := by simp [rBegin, hn]
  refine ⟨e, ?_, ?_, ?_, ?_, by have := h.low; omega, ?_⟩
  · have := wf_step h.wf hk 0 b 0
    have q : (rBegin L b).2 = L ++ [((b : Int), [])] := by rw [e]
    rw [← q]; exact this
  · intro b' s hs
    have e2 := mget_put L b b' ([] : List Int)
    rw [mput_new _ _ _ hn] at e2
    rw [e2]
    by_cases hbb : b' = b
    · subst hbb; rw [upd_same] at hs; obtain rfl := Option.some.inj hs; exact ⟨[], by simp, List.Perm.refl _⟩
    · rw [upd_other _ _ hbb] at hs; rw [if_neg (by omega)]; exact h.has b' s hs
  · intro b' hs
    have e2 := mget_put L b b' ([] : List Int)
    rw [mput_new _ _ _ hn] at e2
    rw [e2]
    by_cases hbb : b' = b
    · subst hbb; rw [upd_same] at hs; cases hs
    · rw [upd_other _ _ hbb] at hs; rw [if_neg (by omega)]; exact h.not b' hs
  · rw [tot_append, h.sum, sumB_upd, if_pos hb, ho]; simp [tot, keep1, ksum]
  · rw [tot_append]; simp [tot, ksum]; omega

theorem Books.put {L : Txns} {o : Nat → Option (List Int)} {used area : Int} {k : Nat} (h : Books L o used area k) {b : Nat} (hb : b < 8) {s s' u u' : List Int} {used' : Int} (ho : o b = some s) (hu : mget L (b : Nat) = some u) (hp : u.Perm s) (hp' : u'.Perm s')
    (hw : Wf (mput L b u') (k + 1)) (hl : 0 ≤ used') (hf : used' + ksum s' - ksum s = used ∨ used' + tot L + ksum s' - ksum s ≤ area) : Books (mput L b u') (upd o b (some s')) used' area (k + 1) := by
  have e3 := tot_mput hu u'
  rw [ksum_perm hp, ksum_perm hp'] at e3
  refine ⟨hw, ?_, ?_, ?_, hl, ?_⟩
  · intro b' t ht
    rw [mget_put]
    by_cases hbb : b' = b
    · subst hbb; rw [upd_same] at ht; obtain rfl := Option.some.inj ht; exact ⟨u', by simp, hp'⟩
    · rw [upd_other _ _ hbb] at ht; rw [if_neg (by omega)]; exact h.has b' t ht
  · intro b' ht
    rw [mget_put]
    by_cases hbb : b' = b
    · subst hbb; rw [upd_same] at ht; cases ht
    · rw [upd_other _ _ hbb] at ht; rw [if_neg (by omega)]; exact h.not b' ht
  · rw [e3, h.sum, sumB_upd, if_pos hb, ho]; simp only [keep1]; omega
  · have := h.fits; rw [e3]; omega

theorem Books.update {L : Txns} {o : Nat → Option (List Int)} {used area : Int} {k : Nat} (h : Books L o used area k) (hk : k + 1 < 4398046511104) {b : Nat} (hb : b < 8) {s : List Int} (ho : o b = some s) {n : Int} (hn : 1 ≤ n ∧ n ≤ 16) (hf : used + (38 + 2 * n) + (46 + n) + tot L ≤ area) :
    ∃ L', rUpdate L b n = (0, L') ∧ Books L' (upd o b (some (s ++ [n]))) (used + 38 + 2 * n) area (k + 1) := by
  obtain ⟨u, h1, h2⟩ := h.has b s ho
  have e : rUpdate L b n = (0, mput L b (u ++ [n])) := by simp only [rUpdate, h1]; rw [if_neg (by omega)]
  refine ⟨_, e, h.put hb ho h1 h2 (h2.append_right [n]) ?_ (by have := h.low; omega) (.inr ?_)⟩
  · have := wf_step h.wf hk 1 b n
    have q : (rUpdate L b n).2 = mput L b (u ++ [n]) := by rw [e]
    rw [← q]; exact this
  · rw [ksum_snoc]; omega

theorem Books.undo {L : Txns} {o : Nat → Option (List Int)} {used area : Int} {k : Nat} (h : Books L o used area k) (hk : k + 1 < 4398046511104) {b : Nat} (hb : b < 8) {s : List Int} {n : Int} (ho : o b = some (s ++ [n])) :
    ∃ L', rUndone L b n = (0, L') ∧ Books L' (upd o b (some s)) (used + 46 + n) area (k + 1) := by
  obtain ⟨u, h1, h2⟩ := h.has b _ ho
  have hg := (h.good ho).1 n (by simp)
  have hm : n ∈ u := h2.mem_iff.2 (by simp)
  have e : rUndone L b n = (0, mput L b (u.erase n)) := by simp only [rUndone, h1]; rw [if_pos hm]
  have hp : (u.erase n).Perm s := by
    have q1 := (List.perm_cons_erase hm).symm.trans h2
    have q2 : (n :: u.erase n).Perm (n :: s) := q1.trans (List.perm_append_comm (l₁ := s) (l₂ := [n]))
    exact q2.cons_inv
  refine ⟨_, e, h.put hb ho h1 h2 hp ?_ (by have := h.low; omega) (.inl ?_)⟩
  · have := wf_step h.wf hk 2 b n
    have q : (rUndone L b n).2 = mput L b (u.erase n) := by rw [e]
    rw [← q]; exact this
  · rw [ksum_snoc]; omega

theorem mget_skip (A B : Txns) {b b' : Int} {u : List Int} (h : b ≠ b') : mget (A ++ B) b' = mget (A ++ (b, u) :: B) b' := by
  induction A with
  | nil => simp only [List.nil_append, mget]; rw [if_neg h]
  | cons a A ih => simp only [List.cons_append, mget, ih]

theorem Books.drop {L : Txns} {o : Nat → Option (List Int)} {used area : Int} {k : Nat} (h : Books L o used area k) (hk : k + 1 < 4398046511104) {b : Nat} (hb : b < 8) {s : List Int} (ho : o b = some s) :
    rDrop L b = (0, mdel L b) ∧ Books (mdel L b) (upd o b none) (used + ksum s) area (k + 1) := by
  obtain ⟨u, h1, h2⟩ := h.has b _ ho
  have e : rDrop L b = (0, mdel L b) := by simp only [rDrop, h1]
  have e3 := tot_mdel h1
  rw [ksum_perm h2] at e3
  have hks := ksum_pos s (h.good ho).1
  have hw : Wf (mdel L b) (k + 1) := by
    have := wf_step h.wf hk 3 b 0
    have q : (rDrop L b).2 = mdel L b := by rw [e]
    rw [← q]; exact this
  have hother : ∀ b' : Nat, b' ≠ b → mget (mdel L b) (b' : Nat) = mget L (b' : Nat) := by
    intro b' hbb
    obtain ⟨A, B, q1, _, q3, _⟩ := mput_split (v := u) h1
    rw [q3, q1]
    exact mget_skip A B (by omega)
  have hself : mget (mdel L b) (b : Nat) = none := by
    rw [mget_none]
    intro hm
    obtain ⟨A, B, q1, _, q3, q4⟩ := mput_split (v := u) h1
    have hnd := h.wf.births
    rw [q1] at hnd
    rw [q3] at hm
    simp only [List.map_append, List.map_cons] at hnd hm
    have := (List.nodup_append.1 hnd)
    rcases List.mem_append.1 hm with hm | hm
    · exact this.2.2 _ hm _ (by simp) rfl
    · exact (List.nodup_cons.1 this.2.1).1 hm
  refine ⟨e, hw, ?_, ?_, ?_, by have := h.low; omega, by have := h.fits; rw [e3]; omega⟩
  · intro b' t ht
    by_cases hbb : b' = b
    · subst hbb; rw [upd_same] at ht; cases ht
    · rw [upd_other _ _ hbb] at ht; rw [hother b' hbb]; exact h.has b' t ht
  · intro b' ht
    by_cases hbb : b' = b
    · subst hbb; exact hself
    · rw [upd_other _ _ hbb] at ht; rw [hother b' hbb]; exact h.not b' ht
  · rw [e3, h.sum, sumB_upd, if_pos hb, ho]; simp only [keep1]; omega

theorem Books.more {L : Txns} {o : Nat → Option (List Int)} {used area : Int} {k : Nat} (h : Books L o used area k) (x : Int) (hx : 0 ≤ x) (hf : used + x + tot L ≤ area) : Books L o (used + x) area k :=
  ⟨h.wf, h.has, h.not, h.sum, by have := h.low; omega, hf⟩
theorem Books.up {L : Txns} {o : Nat → Option (List Int)} {used area : Int} {k : Nat} (h : Books L o used area k) (hk : k + 1 < 4398046511104) : Books L o used area (k + 1) :=
  ⟨wf_up h.wf hk, h.has, h.not, h.sum, h.low, h.fits⟩
theorem Books.new (area : Int) (h : 0 ≤ area) : Books [] (fun _ => none) 0 area 0 := by
  refine ⟨wf_empty, by simp, fun _ _ => by simp [mget], ?_, by omega, by simp [tot]; omega⟩
  have : ∀ n, sumB (fun _ => none) n = 0 := fun n => by induction n with
    | zero => rfl
    | succ n ih => rw [sumB, ih]; rfl
  rw [this]; rfl
theorem sumB_nonneg {L : Txns} {o : Nat → Option (List Int)} {used area : Int} {k : Nat} (h : Books L o used area k) (n : Nat) : 0 ≤ sumB o n := by
  induction n with
  | zero => simp [sumB]
  | succ n ih =>
    rw [sumB]
    cases ho : o n with
    | none => simpa [keep1] using ih
    | some s => have := ksum_pos s (h.good ho).1; simp only [keep1]; omega
theorem sumB_le {L : Txns} {o : Nat → Option (List Int)} {used area : Int} {k : Nat} (h : Books L o used area k) : ∀ n m, sumB o n ≤ sumB o (n + m) := by
  intro n m
  induction m with
  | zero => exact Int.le_refl _
  | succ m ih =>
    rw [← Nat.add_assoc, sumB]
    cases ho : o (n + m) with
    | none => simpa [keep1] using ih
    | some s => have := ksum_pos s (h.good ho).1; simp only [keep1]; omega
theorem ksum_drop {s : List Int} {k : Nat} {n : Int} (h : s[k]? = some n) : ksum (s.drop k) = 46 + n + ksum (s.drop (k + 1)) := by
  obtain ⟨hk, rfl⟩ := List.getElem?_eq_some_iff.1 h
  rw [List.drop_eq_getElem_cons hk, ksum]
theorem good_drop {s : List Int} (h : good s) (k : Nat) : good (s.drop k) := fun n hn => h n (List.mem_of_mem_drop hn)
theorem ksum_drop_le {s : List Int} (h : good s) (k : Nat) : ksum (s.drop k) ≤ ksum s := by
  induction s generalizing k with
  | nil => simp
  | cons a s ih =>
    cases k with
    | zero => simp
    | succ k =>
      have h1 := h a (by simp)
      have h2 := ih (fun n hn => h n (by simp [hn])) k
      rw [List.drop_succ_cons, ksum]; omega
theorem ksum_len (u : List Int) (h : good u) : (u.length : Int) + 1 ≤ ksum u := by
  induction u with
  | nil => simp [ksum]
  | cons a u ih =>
    have h1 := h a (by simp)
    have h2 := ih (fun n hn => h n (by simp [hn]))
    rw [ksum, List.length_cons]; omega
theorem cnt_tot (L : Txns) (h : ∀ p ∈ L, Ytlhmcbcoaplcaaa.good p.2) : (cnt L : Int) ≤ tot L := by
  induction L with
  | nil => simp [cnt, tot]
  | cons p L ih =>
    have h1 := ksum_len p.2 (h p (by simp))
    have h2 := ih (fun q hq => h q (by simp [hq]))
    rw [cnt, tot]; omega
theorem Books.fix {L : Txns} {o : Nat → Option (List Int)} {used area : Int} {k : Nat} (h : Books L o used area k) (ha : area < 100000) : Books L o used area 100000 := by
  have h1 := cnt_tot L h.wf.good
  have h2 := h.fits
  have h3 := h.low
  exact ⟨⟨h.wf.births, h.wf.good, by omega, by omega⟩, h.has, h.not, h.sum, h.low, h.fits⟩
end Go.Proofs.Ytlhmcbcoaplcaaa
