/- The plain table: rows sorted by birth beside pairs sorted by id. -/
import Derived.Test.YtlhmcbcoaplcaaaTabM
set_option linter.unusedVariables false
set_option linter.unusedSimpArgs false
namespace Go.Proofs.Ytlhmcbcoaplcaaa
open Go.ChangeShapes Go.WideShapes Go.ChangeAt Go.RowKit

section
variable {α β : Type}
/-- Where a key stands. -/
def pos (f : α → Int) (l : List α) (x : Int) : Nat := (l.map f).countP (· < x)
def insB (f : α → Int) (l : List α) (a : α) : List α := l.take (pos f l (f a)) ++ (a :: l.drop (pos f l (f a)))
def delB (f : α → Int) (l : List α) (x : Int) : List α := l.take (pos f l x) ++ l.drop (pos f l x + 1)
def setB (f : α → Int) (l : List α) (a : α) : List α := l.take (pos f l (f a)) ++ (a :: l.drop (pos f l (f a) + 1))

theorem pos_nil (f : α → Int) (x : Int) : pos f [] x = 0 := rfl
theorem pos_cons (f : α → Int) (a : α) (l : List α) (x : Int) : pos f (a :: l) x = pos f l x + if f a < x then 1 else 0 := by
  simp only [pos, List.map_cons, List.countP_cons, decide_eq_true_eq]
theorem pos_zero (f : α → Int) (l : List α) (x : Int) (h : ∀ a ∈ l, x ≤ f a) : pos f l x = 0 := by
  induction l with
  | nil => rfl
  | cons a l ih =>
    rw [pos_cons, ih (fun b hb => h b (List.mem_cons_of_mem _ hb)), if_neg (by have := h a (List.mem_cons_self); omega)]
theorem pos_split (f : α → Int) (l : List α) (x : Int) (hs : l.Pairwise (fun a b => f a < f b)) : (∀ a ∈ l.take (pos f l x), f a < x) ∧ ∀ a ∈ l.drop (pos f l x), x ≤ f a := by
  induction l with
  | nil => simp
  | cons a l ih =>
    obtain ⟨h1, h2⟩ := List.pairwise_cons.1 hs
    obtain ⟨i1, i2⟩ := ih h2
    rw [pos_cons]
    by_cases h : f a < x
    · rw [if_pos h]
      simp only [List.take_succ_cons, List.drop_succ_cons]
      refine ⟨fun b hb => ?_, i2⟩
      rcases List.mem_cons.1 hb with rfl | hb
      · exact h
      · exact i1 b hb
    · rw [if_neg h, Nat.add_zero]
      have hz : pos f l x = 0 := pos_zero f l x (fun b hb => by have := h1 b hb; omega)
      rw [hz]
      refine ⟨by simp, fun b hb => ?_⟩
      rcases List.mem_cons.1 hb with rfl | hb
      · omega
      · have := h1 b hb; omega
theorem has_pos (f : α → Int) (l : List α) (x : Int) (hs : l.Pairwise (fun a b => f a < f b)) (h : (l.map f).contains x = true) : ∃ a, l[pos f l x]? = some a ∧ f a = x := by
  induction l with
  | nil => simp at h
  | cons a l ih =>
    obtain ⟨h1, h2⟩ := List.pairwise_cons.1 hs
    rw [pos_cons]
    by_cases e : f a = x
    · rw [if_neg (by omega), pos_zero f l x (fun b hb => by have := h1 b hb; omega)]
      exact ⟨a, rfl, e⟩
    · have hm : x ∈ l.map f := by
        have : x ∈ (a :: l).map f := by simpa using h
        rcases List.mem_cons.1 this with q | q
        · exact absurd q.symm e
        · exact q
      obtain ⟨b, hb, hx⟩ := List.mem_map.1 hm
      have := h1 b hb
      rw [if_pos (by omega)]
      simpa using ih h2 (by simpa using hm)
theorem pos_lt (f : α → Int) (l : List α) (x : Int) (h : (l.map f).contains x = true) : pos f l x < l.length := by
  have := count_lt h
  rw [List.length_map] at this; exact this
theorem split_at (f : α → Int) (l : List α) (x : Int) {a : α} (h : l[pos f l x]? = some a) : l = l.take (pos f l x) ++ (a :: l.drop (pos f l x + 1)) := by
  obtain ⟨hl, rfl⟩ := List.getElem?_eq_some_iff.1 h
  rw [List.getElem_cons_drop, List.take_append_drop]

theorem insB_perm (f : α → Int) (l : List α) (a : α) : (insB f l a).Perm (a :: l) := by
  unfold insB
  refine List.perm_middle.trans ?_
  rw [List.take_append_drop]
theorem insB_sorted (f : α → Int) (l : List α) (a : α) (hs : l.Pairwise (fun a b => f a < f b)) (h : (l.map f).contains (f a) = false) : (insB f l a).Pairwise (fun a b => f a < f b) := by
  obtain ⟨h1, h2⟩ := pos_split f l (f a) hs
  have hn : ∀ b ∈ l, f b ≠ f a := fun b hb e => by
    have : (l.map f).contains (f a) = true := by simpa using ⟨b, hb, e⟩
    rw [h] at this; cases this
  unfold insB
  refine List.pairwise_append.2 ⟨hs.sublist (List.take_sublist _ _), List.pairwise_cons.2 ⟨fun b hb => ?_, hs.sublist (List.drop_sublist _ _)⟩, fun b hb c hc => ?_⟩
  · have := h2 b hb; have := hn b (List.mem_of_mem_drop hb); omega
  · have := h1 b hb
    rcases List.mem_cons.1 hc with rfl | hc
    · exact this
    · have := h2 c hc; omega
theorem delB_perm (f : α → Int) (l : List α) (x : Int) (hs : l.Pairwise (fun a b => f a < f b)) (h : (l.map f).contains x = true) : ∃ a, f a = x ∧ l.Perm (a :: delB f l x) := by
  obtain ⟨a, ha, e⟩ := has_pos f l x hs h
  refine ⟨a, e, ?_⟩
  have q := split_at f l x ha
  exact (q ▸ List.Perm.refl l : l.Perm (l.take (pos f l x) ++ (a :: l.drop (pos f l x + 1)))).trans List.perm_middle
theorem delB_sorted (f : α → Int) (l : List α) (x : Int) (hs : l.Pairwise (fun a b => f a < f b)) : (delB f l x).Pairwise (fun a b => f a < f b) := by
  refine hs.sublist ?_
  unfold delB
  have : l.take (pos f l x) ++ l.drop (pos f l x + 1) = l.eraseIdx (pos f l x) := (List.eraseIdx_eq_take_drop_succ _ _).symm
  rw [this]; exact List.eraseIdx_sublist _ _
theorem delB_len (f : α → Int) (l : List α) (x : Int) (h : (l.map f).contains x = true) : (delB f l x).length = l.length - 1 := by
  have := pos_lt f l x h
  unfold delB
  rw [List.length_append, List.length_take, List.length_drop]; omega
theorem insB_len (f : α → Int) (l : List α) (a : α) : (insB f l a).length = l.length + 1 := (insB_perm f l a).length_eq
theorem setB_len (f : α → Int) (l : List α) (a : α) (h : (l.map f).contains (f a) = true) : (setB f l a).length = l.length := by
  have := pos_lt f l _ h
  unfold setB
  rw [List.length_append, List.length_cons, List.length_take, List.length_drop]; omega

theorem insB_map (f : α → Int) (l : List α) (a : α) : (insB f l a).map f = (l.map f).take ((l.map f).countP (· < f a)) ++ (f a :: (l.map f).drop ((l.map f).countP (· < f a))) := by
  simp [insB, pos, List.map_take, List.map_drop]
theorem delB_map (f : α → Int) (l : List α) (x : Int) : (delB f l x).map f = (l.map f).take ((l.map f).countP (· < x)) ++ (l.map f).drop ((l.map f).countP (· < x) + 1) := by
  simp [delB, pos, List.map_take, List.map_drop]
theorem setB_map (g : α → β) (f : α → Int) (l : List α) (a b : α) (hb : l[pos f l (f a)]? = some b) (e : g b = g a) : (setB f l a).map g = l.map g := by
  conv => rhs; rw [split_at f l (f a) hb]
  simp [setB, e]

theorem look_find (f : α → Int) (g : α → β) (l : List α) (x : Int) (hs : l.Pairwise (fun a b => f a < f b)) : look (l.map f) (l.map g) x = (l.find? (fun a => f a == x)).map g := by
  unfold look
  cases hk : (l.map f).contains x with
  | false =>
    rw [if_neg (by simp)]
    have : l.find? (fun a => f a == x) = none := by
      rw [List.find?_eq_none]
      intro a ha q
      have : (l.map f).contains x = true := by simpa using ⟨a, ha, by simpa using q⟩
      rw [hk] at this; cases this
    rw [this]; rfl
  | true =>
    rw [if_pos rfl]
    obtain ⟨a, ha, e⟩ := has_pos f l x hs hk
    have q : l.find? (fun a => f a == x) = some a := by
      have hsp := split_at f l x ha
      obtain ⟨h1, h2⟩ := pos_split f l x hs
      rw [hsp, List.find?_append, (List.find?_eq_none.2 (fun b hb q => by have := h1 b hb; simp at q; omega) : (l.take (pos f l x)).find? (fun a => f a == x) = none)]
      simp [e]
    rw [q]
    show (l.map g)[pos f l x]? = _
    rw [List.getElem?_map, ha]

theorem find_unique {p : α → Bool} {l : List α} {a : α} (ha : a ∈ l) (hp : p a = true) (hu : ∀ b ∈ l, p b = true → b = a) : l.find? p = some a := by
  induction l with
  | nil => simp at ha
  | cons b l ih =>
    by_cases h : p b = true
    · rw [List.find?_cons_of_pos h, hu b List.mem_cons_self h]
    · rw [List.find?_cons_of_neg (by simpa using h)]
      rcases List.mem_cons.1 ha with rfl | ha
      · exact absurd hp h
      · exact ih ha (fun c hc => hu c (List.mem_cons_of_mem _ hc))
theorem find_perm {p : α → Bool} {l m : List α} (h : l.Perm m) (hu : ∀ a ∈ l, ∀ b ∈ l, p a = true → p b = true → a = b) : l.find? p = m.find? p := by
  cases e : l.find? p with
  | none =>
    symm
    rw [List.find?_eq_none] at e ⊢
    exact fun a ha => e a (h.mem_iff.2 ha)
  | some a =>
    have ha := List.mem_of_find?_eq_some e
    have hp := List.find?_some e
    exact (find_unique (h.mem_iff.1 ha) hp (fun b hb hb' => hu b (h.mem_iff.2 hb) a ha hb' hp)).symm
end

theorem rows_take (l : List Rw) : ∀ (c : Nat), rows (l.take c) = (rows l).take (c * 5) := by
  induction l with
  | nil => intro c; simp [rows]
  | cons a l ih =>
    intro c
    cases c with
    | zero => simp [rows]
    | succ c =>
      have e : (c + 1) * 5 = (rcells a).length + c * 5 := by simp [rcells]; omega
      have e1 : rows (a :: l) = rcells a ++ rows l := by simp [rows]
      rw [List.take_succ_cons, e1, e, List.take_length_add_append, ← ih c]
      simp [rows]
theorem rows_drop (l : List Rw) : ∀ (c : Nat), rows (l.drop c) = (rows l).drop (c * 5) := by
  induction l with
  | nil => intro c; simp [rows]
  | cons a l ih =>
    intro c
    cases c with
    | zero => simp [rows]
    | succ c =>
      have e : (c + 1) * 5 = (rcells a).length + c * 5 := by simp [rcells]; omega
      have e1 : rows (a :: l) = rcells a ++ rows l := by simp [rows]
      rw [List.drop_succ_cons, e1, e, List.drop_length_add_append, ← ih c]
theorem rows_append (l m : List Rw) : rows (l ++ m) = rows l ++ rows m := by simp [rows]
theorem rows_cons (a : Rw) (l : List Rw) : rows (a :: l) = rcells a ++ rows l := by simp [rows]
theorem rows_ins (l : List Rw) (r : Rw) : rows (insB Rw.birth l r) = (rows l).take ((l.map Rw.birth).countP (· < r.birth) * 5) ++ (rcells r ++ (rows l).drop ((l.map Rw.birth).countP (· < r.birth) * 5)) := by
  rw [insB, rows_append, rows_cons, rows_take, rows_drop]; rfl
theorem rows_set (l : List Rw) (r : Rw) : rows (setB Rw.birth l r) = (rows l).take ((l.map Rw.birth).countP (· < r.birth) * 5) ++ (rcells r ++ (rows l).drop (((l.map Rw.birth).countP (· < r.birth) + 1) * 5)) := by
  rw [setB, rows_append, rows_cons, rows_take, rows_drop]; rfl
theorem rows_del (l : List Rw) (x : Int) : rows (delB Rw.birth l x) = (rows l).take ((l.map Rw.birth).countP (· < x) * 5) ++ (rows l).drop (((l.map Rw.birth).countP (· < x) + 1) * 5) := by
  rw [delB, rows_append, rows_take, rows_drop]; rfl
end Go.Proofs.Ytlhmcbcoaplcaaa
