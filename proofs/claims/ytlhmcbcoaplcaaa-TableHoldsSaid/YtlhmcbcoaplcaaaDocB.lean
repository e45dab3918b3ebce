/- The document's Table: Get, ById, New. -/
import Derived.Test.YtlhmcbcoaplcaaaDocA
set_option linter.unusedVariables false
set_option linter.unusedSimpArgs false
namespace Go.Proofs.Ytlhmcbcoaplcaaa
open Go.ChangeShapes Go.WideShapes Go.ChangeAt Go.RowKit

set_option maxRecDepth 100000 in
set_option maxHeartbeats 2000000 in
theorem getD53 {w : World} {tb : Nat} {fp : List Nat} {most : Nat} {M : List Rw} (h : DocP w tb fp most M) (hn : M.length < 1000000) (x : Int) :
    Calls Try.prog 53 #[.pointer (some ⟨tb, 0, none⟩), .int .i64 x] w fun e w' => e = .returned (.tuple #[ragg ((getL M x).getD Rw.zero), .bool (getL M x).isSome]) ∧ Off [] w w' := by
  have h0 := h.off ((Off.refl [] w).alloc zero70) (by simp)
  obtain ⟨v, h1, rfl⟩ := h0
  have hq := fun k hk => h1.at66 (k := k) hn x hk
  rcases atI_of M x with ⟨hk, e⟩ | ⟨i, a, hk, hi, _, e, hl⟩
  · have HF := Lib.hid (hq _ hk)
    rw [e]
    unfold zero70 at HF
    simp only [Option.isSome_none, Option.getD_none]
    clear h1 hq hk e h hn
    go_enter Try.func53, Try.ntmps53
    go_wp2_with (go_at_call 66; refine HF.out.mono ?_; rintro e w1 ⟨rfl, rfl⟩)
    refine bodyPost_ret (v := .tuple #[ragg Rw.zero, .bool false]) (by rw [results_cell_tmp rfl]; go_simp; try rfl) rfl ?_
    exact ⟨rfl, (Off.refl _ _).alloc _⟩
  · have HF := Lib.hid (hq _ hk)
    rw [e]
    obtain ⟨_, c1⟩ := h1.cells
    obtain ⟨ao, cap, rfl, hr⟩ := own_rows h1.own
    obtain ⟨g, off, rfl, k0, k1, k2, k3, k4⟩ := hr i a hi
    unfold zero70 at HF c1 k0 k1 k2 k3 k4
    simp only [Option.isSome_some, Option.getD_some]
    obtain ⟨b, i1, s, l, n⟩ := a
    simp only at k0 k1 k2 k3 k4
    generalize M.length = N at *
    clear h1 hq hk e h hr hi
    go_enter Try.func53, Try.ntmps53
    go_wp2_with (go_at_call 66; refine HF.out.mono ?_; rintro e w1 ⟨rfl, rfl⟩)
    refine bodyPost_ret (v := .tuple #[ragg ⟨b, i1, s, l, n⟩, .bool true]) (by rw [results_cell_tmp rfl]; go_simp; try rfl) rfl ?_
    exact ⟨rfl, (Off.refl _ _).alloc _⟩

set_option maxRecDepth 100000 in
set_option maxHeartbeats 2000000 in
theorem byIdD54 {w : World} {tb : Nat} {fp : List Nat} {most : Nat} {M : List Rw} (h : DocP w tb fp most M) (hn : M.length < 1000000) (x : Int) :
    Calls Try.prog 54 #[.pointer (some ⟨tb, 0, none⟩), .int .i64 x] w fun e w' => e = .returned (.tuple #[ragg ((idL M x).getD Rw.zero), .bool (idL M x).isSome]) ∧ Off [] w w' := by
  obtain ⟨v, h1, rfl⟩ := h
  obtain ⟨_, c1⟩ := (h1.off ((Off.refl [] w).alloc zero70) (by simp)).cells
  obtain ⟨ao, cap, rfl, hr⟩ := own_rows ((h1.off ((Off.refl [] w).alloc zero70) (by simp)).own)
  unfold zero70 at c1 hr
  have HC := Lib.hid hr
  have HS := Lib.hid (first_spec Rw.id M x)
  have HI : Hid (idL M x = M.find? (fun a => a.id == x)) := rfl
  generalize idL M x = R at *
  clear h1 hr
  generalize hNN : M.length = N at *
  have HN := Lib.hid hNN
  clear hNN
  go_enter Try.func54, Try.ntmps54
  go_wp2
  go_loop [6] (fun i => ∃ k : Nat, k ≤ N ∧ i = .int .i64 k ∧ ∀ j, j < k → ∀ p : Rw, M[j]? = some p → p.id ≠ x) (fun i => N - (intOf i).toNat)
  case atStart => exact ⟨0, Nat.zero_le _, rfl, by omega⟩
  case round =>
    obtain ⟨k', hk, rfl, hbef⟩ := hrel
    have HB := Lib.hid hbef
    clear hbef
    by_cases hlt : k' < N
    · obtain ⟨t, ht⟩ : ∃ t, M[k']? = some t := ⟨M[k']'(by have := HN.out; omega), List.getElem?_eq_getElem _⟩
      obtain ⟨g, off, rfl, q0, q1, q2, q3, q4⟩ := HC.out k' t ht
      have HT := Lib.hid ht
      clear ht
      obtain ⟨b, id, s, l, n⟩ := t
      simp only at q0 q1 q2 q3 q4
      by_cases hb : id = x
      · have hd : ((id : Int) == x) = true := by simpa using hb
        have e : R = some ⟨b, id, s, l, n⟩ := by
          rw [HI.out]
          rcases HS.out with ⟨h1, _⟩ | ⟨i, a, h1, h2, h3, h4⟩
          · exact absurd hb (h1 _ (List.mem_of_getElem? HT.out))
          · rw [h4]
            rcases Nat.lt_trichotomy i k' with q | q | q
            · exact absurd h2 (HB.out i q a h1)
            · subst q; rw [HT.out] at h1; exact h1.symm
            · exact absurd hb (h3 k' q _ HT.out)
        subst e
        clear hb
        go_wp2
        refine bodyPost_ret (v := .tuple #[ragg ⟨b, id, s, l, n⟩, .bool true]) (by rw [results_cell_tmp rfl]; go_simp; try rfl) rfl ?_
        exact ⟨rfl, (Off.refl _ _).alloc _⟩
      · have hd : ((id : Int) == x) = false := by simpa using hb
        have HBX := Lib.hid hb
        clear hb
        go_wp2
        go_round
        case rel =>
          refine ⟨k' + 1, by omega, by go_num, ?_⟩
          intro j hj p' hp'
          by_cases e : j = k'
          · subst e
            rw [HT.out] at hp'
            injection hp' with hp'
            subst hp'
            exact HBX.out
          · exact HB.out j (by omega) p' hp'
        case measure => show N - ((k' : Int) + 1).toNat < N - ((k' : Int)).toNat; omega
    · have e : k' = N := by omega
      subst e
      have e2 : R = none := by
        rw [HI.out]
        rcases HS.out with ⟨_, h1⟩ | ⟨i, a, h1, h2, h3, h4⟩
        · exact h1
        · have := (List.getElem?_eq_some_iff.1 h1).1
          exact absurd h2 (HB.out i (by have := HN.out; omega) a h1)
      subst e2
      go_wp2
      refine bodyPost_ret (v := .tuple #[ragg Rw.zero, .bool false]) (by rw [results_cell_tmp rfl]; go_simp; try rfl) rfl ?_
      exact ⟨rfl, (Off.refl _ _).alloc _⟩

set_option maxHeartbeats 1000000 in
theorem new31_bad (m : Int) (w : World) (h : m < 1 ∨ 8 < m) : Calls Try.prog 31 #[.int .i64 m] w fun e w' => e = .returned (.tuple #[.pointer none, .int .i64 161]) ∧ w = w' := by
  rcases h with h | h
  · go_enter Try.func31, Try.ntmps31
    go_wp2
    go_ret2
    exact ⟨rfl, rfl⟩
  · go_enter Try.func31, Try.ntmps31
    go_wp2
    all_goals (go_ret2; exact ⟨rfl, rfl⟩)
set_option maxHeartbeats 1000000 in
theorem new31_ok (m : Nat) (w : World) (h1 : 1 ≤ m) (h2 : m ≤ 8) : Calls Try.prog 31 #[.int .i64 m] w fun e w' => e = .returned (.tuple #[.pointer (some ⟨w.heap.size, 0, none⟩), .int .i64 0]) ∧ DocP w' w.heap.size [w.heap.size] m [] ∧ Off [] w w' := by
  have HP : Hid (DocP (w.alloc (.cells #[.int .i64 m, .slice none 0 0] 104)) w.heap.size [w.heap.size] m [] ∧ Off [] w (w.alloc (.cells #[.int .i64 m, .slice none 0 0] 104))) :=
    ⟨⟨.slice none 0 0, ⟨IsC.new _ _ _, Own.nil _ _ _, by simp [blk]⟩, by simp [blk]⟩, (Off.refl _ _).alloc _⟩
  have hi1 : (1 : Int) ≤ (m : Int) := by omega
  have hi2 : (m : Int) ≤ 8 := by omega
  generalize (m : Int) = mi at *
  clear h1 h2
  go_enter Try.func31, Try.ntmps31
  go_wp2
  all_goals first | (go_ret2; exact ⟨rfl, HP.out⟩) | omega
end Go.Proofs.Ytlhmcbcoaplcaaa
