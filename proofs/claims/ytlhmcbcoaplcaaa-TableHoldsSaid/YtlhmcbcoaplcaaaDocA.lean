/- The document's Table: at, Get, ById, New. -/
import Derived.Test.YtlhmcbcoaplcaaaTabV
set_option linter.unusedVariables false
set_option linter.unusedSimpArgs false
namespace Go.Proofs.Ytlhmcbcoaplcaaa
open Go.ChangeShapes Go.WideShapes Go.ChangeAt Go.RowKit

structure DocW (w : World) (tb : Nat) (m : Int) (v : Value) (M : List Rw) : Prop where
  head : IsC w tb #[.int .i64 m, v] 104
  own : Own w 70 5 v M.length (rows M)
  tv : tb ∉ blk v
def DocP (w : World) (tb : Nat) (fp : List Nat) (most : Nat) (M : List Rw) : Prop := ∃ v, DocW w tb most v M ∧ fp = tb :: blk v
def DocStep (tb : Nat) (fp : List Nat) (most : Nat) (M : List Rw) (w w' : World) : Prop :=
  ∃ fp', DocP w' tb fp' most M ∧ Off fp w w' ∧ ∀ x ∈ fp', x ∈ fp ∨ w.heap.size ≤ x
section
variable {w w' : World} {tb : Nat} {fp S : List Nat} {most : Nat} {M : List Rw} {m : Int} {v : Value}
theorem DocW.off (h : DocW w tb m v M) (ho : Off S w w') (hd : ∀ x ∈ tb :: blk v, x ∉ S) : DocW w' tb m v M :=
  ⟨h.head.off ho (hd _ (by simp)), h.own.off ho (fun x hx => hd x (by simp [hx])), h.tv⟩
theorem DocP.off (h : DocP w tb fp most M) (ho : Off S w w') (hd : ∀ x ∈ fp, x ∉ S) : DocP w' tb fp most M := by
  obtain ⟨v, h1, rfl⟩ := h; exact ⟨v, h1.off ho hd, rfl⟩
theorem DocP.lt (h : DocP w tb fp most M) : ∀ x ∈ fp, x < w.heap.size := by
  obtain ⟨v, h1, rfl⟩ := h
  intro x hx
  rcases List.mem_cons.1 hx with rfl | hx
  · exact h1.head.lt
  · exact h1.own.lt x hx
theorem DocP.same (h : DocP w tb fp most M) (ho : Off [] w w') : DocStep tb fp most M w w' := ⟨fp, h.off ho (by simp), ho.mono (by simp), fun x hx => .inl hx⟩
theorem DocStep.offs (h : DocStep tb fp most M w w') : Off fp w w' := by obtain ⟨_, _, h, _⟩ := h; exact h
theorem DocStep.ends {w1 w2 w3 : World} (o1 : Off [] w w1) (h : DocStep tb fp most M w1 w2) (o3 : Off [] w2 w3) : DocStep tb fp most M w w3 := by
  obtain ⟨fp', h1, h2, h3⟩ := h
  have := o1.size
  refine ⟨fp', h1.off o3 (by simp), ((o1.mono (by simp)).trans h2 (fun x hx => .inl hx)).trans o3 (by simp), fun x hx => ?_⟩
  rcases h3 x hx with q | q
  · exact .inl q
  · exact .inr (by omega)
theorem DocW.cells (h : DocW w tb m v M) : w.cell? ⟨tb, 0, none⟩ = some (.int .i64 m) ∧ w.cell? ⟨tb, 1, none⟩ = some v := ⟨by rw [h.head.cell]; rfl, by rw [h.head.cell]; rfl⟩

/-- The first thing of a number. -/
theorem first_spec {α : Type} (f : α → Int) (M : List α) (x : Int) : ((∀ a ∈ M, f a ≠ x) ∧ M.find? (fun a => f a == x) = none) ∨
    ∃ (i : Nat) (a : α), M[i]? = some a ∧ f a = x ∧ (∀ j, j < i → ∀ b, M[j]? = some b → f b ≠ x) ∧ M.find? (fun a => f a == x) = some a := by
  induction M with
  | nil => exact .inl ⟨by simp, rfl⟩
  | cons a M ih =>
    by_cases e : f a = x
    · exact .inr ⟨0, a, rfl, e, by omega, by rw [List.find?_cons_of_pos (by simpa using e)]⟩
    · rw [List.find?_cons_of_neg (by simpa using e)]
      rcases ih with ⟨h1, h2⟩ | ⟨i, b, h1, h2, h3, h4⟩
      · refine .inl ⟨fun b hb => ?_, h2⟩
        rcases List.mem_cons.1 hb with rfl | hb
        · exact e
        · exact h1 b hb
      · refine .inr ⟨i + 1, b, by simpa using h1, h2, fun j hj c hc => ?_, h4⟩
        cases j with
        | zero => simp at hc; subst hc; exact e
        | succ j => exact h3 j (by omega) c (by simpa using hc)

/-- What at answers. -/
def AtI (M : List Rw) (x : Int) (k : Int) : Prop := (k = -1 ∧ ∀ a ∈ M, a.birth ≠ x) ∨ ∃ i : Nat, k = i ∧ ∃ a, M[i]? = some a ∧ a.birth = x ∧ ∀ j, j < i → ∀ b, M[j]? = some b → b.birth ≠ x

set_option maxRecDepth 100000 in
set_option maxHeartbeats 1000000 in
theorem DocW.at66 {k : Int} (h : DocW w tb m v M) (hn : M.length < 1000000) (x : Int) (hk : AtI M x k) :
    Calls Try.prog 66 #[.pointer (some ⟨tb, 0, none⟩), .int .i64 x] w fun e w' => e = .returned (.int .i64 k) ∧ w = w' := by
  obtain ⟨c0, c1⟩ := h.cells
  obtain ⟨ao, cap, rfl, hr⟩ := own_rows h.own
  have HC := Lib.hid hr
  have HK := Lib.hid hk
  clear h hr hk
  generalize hNN : M.length = N at *
  have HN := Lib.hid hNN
  clear hNN
  go_enter Try.func66, Try.ntmps66
  go_wp2
  go_loop [5] (fun i => ∃ k : Nat, k ≤ N ∧ i = .int .i64 k ∧ ∀ j, j < k → ∀ p : Rw, M[j]? = some p → p.birth ≠ x) (fun i => N - (intOf i).toNat)
  case atStart => exact ⟨0, Nat.zero_le _, rfl, by omega⟩
  case round =>
    obtain ⟨k', hk, rfl, hbef⟩ := hrel
    have HB := Lib.hid hbef
    clear hbef
    by_cases hlt : k' < N
    · obtain ⟨t, ht⟩ : ∃ t, M[k']? = some t := ⟨M[k']'(by have := HN.out; omega), List.getElem?_eq_getElem _⟩
      obtain ⟨g, off, rfl, hc, _⟩ := HC.out k' t ht
      have HT := Lib.hid ht
      clear ht
      by_cases hb : t.birth = x
      · have hd : ((t.birth : Int) == x) = true := by simpa using hb
        have HBX := Lib.hid hb
        clear hb
        go_wp2
        go_ret
        refine ⟨ret_int ?_, rfl⟩
        rcases HK.out with ⟨_, h1⟩ | ⟨i, rfl, a, h1, h2, h3⟩
        · exact absurd HBX.out (h1 t (List.mem_of_getElem? HT.out))
        · rcases Nat.lt_trichotomy i k' with q | q | q
          · exact absurd h2 (HB.out i q a h1)
          · rw [q]
          · exact absurd HBX.out (h3 k' q t HT.out)
      · have hd : ((t.birth : Int) == x) = false := by simpa using hb
        have HBX := Lib.hid hb
        clear hb
        go_wp2
        go_round
        case rel =>
          refine ⟨k' + 1, by omega, by go_num, ?_⟩
          intro j hj p' hp'
          by_cases e : j = k'
          · subst e
            rw [HT.out] at hp'
            injection hp' with hp'
            subst hp'
            exact HBX.out
          · exact HB.out j (by omega) p' hp'
        case measure => show N - ((k' : Int) + 1).toNat < N - ((k' : Int)).toNat; omega
    · have e : k' = N := by omega
      subst e
      go_wp2
      go_ret
      refine ⟨ret_int ?_, rfl⟩
      rcases HK.out with ⟨h1, _⟩ | ⟨i, rfl, a, h1, h2, h3⟩
      · exact h1.symm
      · have := (List.getElem?_eq_some_iff.1 h1).1
        exact absurd h2 (HB.out i (by have := HN.out; omega) a h1)
theorem atI_of (M : List Rw) (x : Int) : (AtI M x (-1) ∧ getL M x = none) ∨ ∃ i : Nat, ∃ a, AtI M x i ∧ M[i]? = some a ∧ a.birth = x ∧ getL M x = some a ∧ i < M.length := by
  rcases first_spec Rw.birth M x with ⟨h1, h2⟩ | ⟨i, a, h1, h2, h3, h4⟩
  · exact .inl ⟨.inl ⟨rfl, h1⟩, h2⟩
  · exact .inr ⟨i, a, .inr ⟨i, rfl, a, h1, h2, h3⟩, h1, h2, h4, (List.getElem?_eq_some_iff.1 h1).1⟩
end
end Go.Proofs.Ytlhmcbcoaplcaaa
