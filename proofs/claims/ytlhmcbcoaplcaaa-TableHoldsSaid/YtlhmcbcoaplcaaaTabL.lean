/- table.ordered over rows: put of a key that is there. -/
import Derived.Test.YtlhmcbcoaplcaaaTabK
set_option linter.unusedVariables false
set_option linter.unusedSimpArgs false
namespace Go.Proofs.Ytlhmcbcoaplcaaa
open Go.ChangeShapes Go.WideShapes Go.ChangeAt Go.RowKit

/-- Five stores into one element. -/
theorem own_put5 {w : World} {g off n cap : Nat} {vs : List Value} (h : Own w 70 5 (.slice (some ⟨g, off, none⟩) n cap) n vs) (i : Nat) (hi : i < n) (a b c d e : Value) :
    Own (((((w.setCell ⟨g, off + i * 5, none⟩ a).setCell ⟨g, off + i * 5 + 1, none⟩ b).setCell ⟨g, off + i * 5 + 2, none⟩ c).setCell ⟨g, off + i * 5 + 3, none⟩ d).setCell ⟨g, off + i * 5 + 4, none⟩ e) 70 5 (.slice (some ⟨g, off, none⟩) n cap) n
      (vs.take (i * 5) ++ ([a, b, c, d, e] ++ vs.drop ((i + 1) * 5))) := by
  have q := ((((h.set (i * 5) a).set (i * 5 + 1) b).set (i * 5 + 2) c).set (i * 5 + 3) d).set (i * 5 + 4) e
  simp only [← Nat.add_assoc] at q
  have hl := h.1
  have e1 : ((((vs.set (i * 5) a).set (i * 5 + 1) b).set (i * 5 + 2) c).set (i * 5 + 3) d).set (i * 5 + 4) e = vs.take (i * 5) ++ ([a, b, c, d, e] ++ vs.drop ((i + 1) * 5)) := by
    have ht : (vs.take (i * 5)).length = i * 5 := by rw [List.length_take]; omega
    apply List.ext_getElem?
    intro j
    simp only [List.getElem?_set]
    by_cases h1 : j < i * 5
    · rw [List.getElem?_append_left (by omega), List.getElem?_take, if_pos h1]
      rw [if_neg (by omega), if_neg (by omega), if_neg (by omega), if_neg (by omega), if_neg (by omega)]
    · rw [List.getElem?_append_right (by omega), ht]
      by_cases h2 : j < (i + 1) * 5
      · rcases (show j = i * 5 ∨ j = i * 5 + 1 ∨ j = i * 5 + 2 ∨ j = i * 5 + 3 ∨ j = i * 5 + 4 by omega) with rfl | rfl | rfl | rfl | rfl <;> simp [List.length_set] <;> omega
      · rw [List.getElem?_append_right (by simp; omega), List.getElem?_drop]
        rw [if_neg (by omega), if_neg (by omega), if_neg (by omega), if_neg (by omega), if_neg (by omega)]
        congr 1
        simp; omega
  rw [e1] at q
  exact q

theorem Ord.off {w w' : World} {tb o : Nat} {cur : Array Value} {T e sz : Nat} {kv vv : Value} {n : Nat} {ks vs : List Value} {S : List Nat} (h : Ord w tb o cur T e sz kv vv n ks vs) (ho : Off S w w') (h1 : tb ∉ S) (h2 : ∀ x ∈ blk kv, x ∉ S) (h3 : ∀ x ∈ blk vv, x ∉ S) :
    Ord w' tb o cur T e sz kv vv n ks vs :=
  ⟨h.blkC.off ho h1, h.atK, h.atV, h.keys.off ho h2, h.vals.off ho h3, h.tk, h.tv, h.kvd⟩
theorem PutPost.drew {w w' : World} {tb o : Nat} {cur : Array Value} {T e sz : Nat} {kv vv : Value} {ks : List Int} {vs news : List Value} {x : Int} {en : Ending} (h : PutPost w tb o cur T e sz kv vv ks vs x news en w') :
    PutPost w tb o cur T e sz kv vv ks vs x news en w'.drew := by
  obtain ⟨rfl, h | h⟩ := h
  · exact ⟨rfl, .inl ⟨h.1, h.2.1.off (Off.refl [] _).drew (by simp) (by simp) (by simp), h.2.2.drew⟩⟩
  · obtain ⟨h1, kv', vv', h2, h3, h4, h5⟩ := h
    exact ⟨rfl, .inr ⟨h1, kv', vv', h2.off (Off.refl [] _).drew (by simp) (by simp) (by simp), h3.drew, h4, h5⟩⟩

set_option maxRecDepth 100000 in
set_option maxHeartbeats 4000000 in
theorem put61_old (tb o : Nat) (cur : Array Value) (T : Nat) (kv vv : Value) (ks : List Int) (vs : List Value) (x : Int) (r : Rw) (w : World) (h : Ord w tb o cur T 70 5 kv vv ks.length (zin ks) vs) (hbig : ks.length < 1000000) (hs : ks.Pairwise (· ≤ ·)) (hk : ks.contains x = true) :
    Calls Try.prog 61 #[.pointer (some ⟨tb, o, none⟩), .int .i64 x, ragg r] w (PutPost w tb o cur T 70 5 kv vv ks vs x (rcells r)) := by
  obtain ⟨b, i, s, l, n⟩ := r
  have hcl := count_lt hk
  rcases h.vals.2 with ⟨_, h0⟩ | ⟨g, off, cap, cu, rfl, hcu, hnc, _, hcs, _⟩
  · omega
  have hgt : g ≠ tb := fun e => h.tv (by simp [blk, e])
  have ho := (Off.refl [] w).alloc (.cells #[.int .i64 b, .int .i64 i, .int .i64 s, .int .i64 l, .int .i64 n] 70)
  have HF : Hid (Calls Try.prog 67 #[.pointer (some ⟨tb, o, none⟩), .int .i64 x] (w.alloc (.cells #[.int .i64 b, .int .i64 i, .int .i64 s, .int .i64 l, .int .i64 n] 70)) fun e w' => e = .returned (.tuple #[.int .i64 (ks.countP (· < x) : Nat), .bool true]) ∧ w.alloc (.cells #[.int .i64 b, .int .i64 i, .int .i64 s, .int .i64 l, .int .i64 n] 70) = w') := by
    have q := find67 tb o ks kv x (w.alloc (.cells #[.int .i64 b, .int .i64 i, .int .i64 s, .int .i64 l, .int .i64 n] 70)) (by rw [(h.blkC.off ho (by simp)).cell]; exact h.atK) (h.keys.off ho (by simp)) (by omega) hs
    rw [hk] at q; exact q
  have hq : (w.alloc (.cells #[.int .i64 b, .int .i64 i, .int .i64 s, .int .i64 l, .int .i64 n] 70)).cell? ⟨tb, o + 1, none⟩ = some (.slice (some ⟨g, off, none⟩) ks.length cap) := by rw [(h.blkC.off ho (by simp)).cell]; exact h.atV
  have hcu2 := hcu.off ho (by simp)
  have hm : (ks.countP (· < x) + 1) * 5 ≤ cap * 5 := Nat.mul_le_mul_right _ (by omega)
  have hcell : ∀ j, j < 5 → ∃ v, (w.alloc (.cells #[.int .i64 b, .int .i64 i, .int .i64 s, .int .i64 l, .int .i64 n] 70)).cell? ⟨g, off + ks.countP (· < x) * 5 + j, none⟩ = some v := fun j hj => by
    rw [hcu2.cell, Array.getElem?_eq_getElem (by omega)]; exact ⟨_, rfl⟩
  obtain ⟨v0, k0⟩ := hcell 0 (by omega)
  obtain ⟨v1, k1⟩ := hcell 1 (by omega)
  obtain ⟨v2, k2⟩ := hcell 2 (by omega)
  obtain ⟨v3, k3⟩ := hcell 3 (by omega)
  obtain ⟨v4, k4⟩ := hcell 4 (by omega)
  rw [Nat.add_zero] at k0
  have hfz := hcu2.unfrozen
  have HP : Hid (∀ W, Off [] w W → PutPost w tb o cur T 70 5 kv (.slice (some ⟨g, off, none⟩) ks.length cap) ks vs x (rcells ⟨b, i, s, l, n⟩) (.returned (.tuple #[]))
      (((((W.setCell ⟨g, off + ks.countP (· < x) * 5, none⟩ (.int .i64 b)).setCell ⟨g, off + ks.countP (· < x) * 5 + 1, none⟩ (.int .i64 i)).setCell ⟨g, off + ks.countP (· < x) * 5 + 2, none⟩ (.int .i64 s)).setCell ⟨g, off + ks.countP (· < x) * 5 + 3, none⟩ (.int .i64 l)).setCell ⟨g, off + ks.countP (· < x) * 5 + 4, none⟩ (.int .i64 n))) := by
    intro W hW
    have q := own_put5 (h.vals.off hW (by simp)) (ks.countP (· < x)) hcl (.int .i64 b) (.int .i64 i) (.int .i64 s) (.int .i64 l) (.int .i64 n)
    have hoff : Off (blk (.slice (some ⟨g, off, none⟩) ks.length cap)) W _ := (((((Off.refl _ W).setCell (p := ⟨g, off + ks.countP (· < x) * 5, none⟩) (.inl (by simp [blk])) (.int .i64 b)).setCell (p := ⟨g, off + ks.countP (· < x) * 5 + 1, none⟩) (.inl (by simp [blk])) (.int .i64 i)).setCell (p := ⟨g, off + ks.countP (· < x) * 5 + 2, none⟩) (.inl (by simp [blk])) (.int .i64 s)).setCell (p := ⟨g, off + ks.countP (· < x) * 5 + 3, none⟩) (.inl (by simp [blk])) (.int .i64 l)).setCell (p := ⟨g, off + ks.countP (· < x) * 5 + 4, none⟩) (.inl (by simp [blk])) (.int .i64 n)
    refine ⟨rfl, .inl ⟨hk, ⟨(h.blkC.off hW (by simp)).off hoff h.tv, h.atK, h.atV, (h.keys.off hW (by simp)).off hoff h.kvd, q, h.tk, h.tv, h.kvd⟩, (hW.mono (by simp)).trans hoff (fun z hz => .inl hz)⟩⟩
  have hcN : ks.countP (· < x) < ks.length := hcl
  generalize ks.countP (· < x) = c at *
  generalize ks.length = N at *
  have HA := Lib.hid ho
  clear h hbig hs hk hcl hcell hcu hcu2 hnc hcs hm ho
  show Calls Try.prog 61 #[.pointer (some ⟨tb, o, none⟩), .int .i64 x, .agg #[.int .i64 b, .int .i64 i, .int .i64 s, .int .i64 l, .int .i64 n]] w _
  go_enter Try.func61, Try.ntmps61
  go_wp2_with (go_at_call 67; refine HF.out.mono ?_; rintro e w' ⟨rfl, rfl⟩)
  go_region
  have HQ := Lib.hid (HP.out _ HA.out).drew
  clear k0 k1 k2 k3 k4 hfz hq HF hgt hcN HP HA
  generalize World.drew _ = W5 at HQ ⊢
  go_wp2_with fail
  go_end0
  exact HQ.out
end Go.Proofs.Ytlhmcbcoaplcaaa
