/- RoomHolds: the state of the law's loop: the Room, the eight slices, the eight flags. -/
import Derived.Test.YtlhmcbcoaplcaaaHoldP
set_option linter.unusedVariables false
set_option linter.unusedSimpArgs false
namespace Go.Proofs.Ytlhmcbcoaplcaaa
open Go.ChangeShapes Go.WideShapes Go.ChangeAt Go.RowKit

def sl8 (vs : Nat → Value) : Array Value := #[vs 0, vs 1, vs 2, vs 3, vs 4, vs 5, vs 6, vs 7]
def is8 (o : Nat → Option (List Int)) : Array Value := #[.bool (o 0).isSome, .bool (o 1).isSome, .bool (o 2).isSome, .bool (o 3).isSome, .bool (o 4).isSome, .bool (o 5).isSome, .bool (o 6).isSome, .bool (o 7).isSome]
theorem lt8 {b : Nat} (h : b < 8) : b = 0 ∨ b = 1 ∨ b = 2 ∨ b = 3 ∨ b = 4 ∨ b = 5 ∨ b = 6 ∨ b = 7 := by omega
theorem sl8_get (vs : Nat → Value) {b : Nat} (h : b < 8) : (sl8 vs)[b]? = some (vs b) := by
  rcases lt8 h with rfl | rfl | rfl | rfl | rfl | rfl | rfl | rfl <;> rfl
theorem is8_get (o : Nat → Option (List Int)) {b : Nat} (h : b < 8) : (is8 o)[b]? = some (.bool (o b).isSome) := by
  rcases lt8 h with rfl | rfl | rfl | rfl | rfl | rfl | rfl | rfl <;> rfl
theorem sl8_set (vs : Nat → Value) {b : Nat} (h : b < 8) (v : Value) : (sl8 vs).setIfInBounds b v = sl8 (upd vs b v) := by
  rcases lt8 h with rfl | rfl | rfl | rfl | rfl | rfl | rfl | rfl <;> rfl
theorem is8_set (o : Nat → Option (List Int)) {b : Nat} (h : b < 8) (x : Option (List Int)) : (is8 o).setIfInBounds b (.bool x.isSome) = is8 (upd o b x) := by
  rcases lt8 h with rfl | rfl | rfl | rfl | rfl | rfl | rfl | rfl <;> rfl

structure HoldF (w0 w : World) (rb : Nat) (fp : List Nat) (area : Int) (L : Txns) (o : Nat → Option (List Int)) (ab cb : Nat) (vs : Nat → Value) : Prop where
  room : RoomP w rb fp area L
  sl : IsC w ab (sl8 vs) 54
  is : IsC w cb (is8 o) 55
  own : ∀ b, b < 8 → Own w 3 1 (vs b) (stack o b).length (ints (stack o b))
  old : Off [] w0 w
  ne : ab ≠ cb
  n1 : ∀ x ∈ fp, w0.heap.size ≤ x
  n2 : w0.heap.size ≤ ab
  n3 : w0.heap.size ≤ cb
  n4 : ∀ b, b < 8 → ∀ x ∈ blk (vs b), w0.heap.size ≤ x
  d1 : ∀ x ∈ fp, x ≠ ab ∧ x ≠ cb ∧ ∀ b, b < 8 → x ∉ blk (vs b)
  d2 : ∀ b, b < 8 → ∀ x ∈ blk (vs b), x ≠ ab ∧ x ≠ cb
  d3 : ∀ i j, i < 8 → j < 8 → i ≠ j → ∀ x ∈ blk (vs i), x ∉ blk (vs j)
def HoldAt (w0 w : World) (rb : Nat) (area : Int) (L : Txns) (o : Nat → Option (List Int)) (ab cb : Nat) (vs : Nat → Value) : Prop := ∃ fp, HoldF w0 w rb fp area L o ab cb vs

section
variable {w0 w w' : World} {rb : Nat} {area : Int} {L L' : Txns} {o : Nat → Option (List Int)} {ab cb : Nat} {vs : Nat → Value}
theorem HoldAt.off (h : HoldAt w0 w rb area L o ab cb vs) (ho : Off [] w w') : HoldAt w0 w' rb area L o ab cb vs := by
  obtain ⟨fp, h1, h2, h3, h4, h5, h6, h7, h8, h9, h10, h11, h12, h13⟩ := h
  exact ⟨fp, h1.off ho (by simp), h2.off ho (by simp), h3.off ho (by simp), fun b hb => (h4 b hb).off ho (by simp), h5.trans ho (by simp), h6, h7, h8, h9, h10, h11, h12, h13⟩
theorem HoldAt.old (h : HoldAt w0 w rb area L o ab cb vs) : Off [] w0 w := by obtain ⟨fp, h⟩ := h; exact h.old
theorem HoldAt.slAt (h : HoldAt w0 w rb area L o ab cb vs) {b : Nat} (hb : b < 8) : w.cell? ⟨ab, b, none⟩ = some (vs b) ∧ w.frozen? ⟨ab, b, none⟩ = false := by
  obtain ⟨fp, h⟩ := h
  exact ⟨by rw [h.sl.cell, sl8_get vs hb], h.sl.unfrozen b⟩
theorem HoldAt.isAt (h : HoldAt w0 w rb area L o ab cb vs) {b : Nat} (hb : b < 8) : w.cell? ⟨cb, b, none⟩ = some (.bool (o b).isSome) ∧ w.frozen? ⟨cb, b, none⟩ = false := by
  obtain ⟨fp, h⟩ := h
  exact ⟨by rw [h.is.cell, is8_get o hb], h.is.unfrozen b⟩
theorem HoldAt.own (h : HoldAt w0 w rb area L o ab cb vs) {b : Nat} (hb : b < 8) : Own w 3 1 (vs b) (stack o b).length (ints (stack o b)) := by
  obtain ⟨fp, h⟩ := h; exact h.own b hb
theorem HoldAt.stackAt (h : HoldAt w0 w rb area L o ab cb vs) {b : Nat} (hb : b < 8) : ∃ ao cap, vs b = .slice ao (stack o b).length cap ∧ ∀ (j : Nat) (n : Int), (stack o b)[j]? = some n → ∃ g off, ao = some ⟨g, off, none⟩ ∧ w.cell? ⟨g, off + j, none⟩ = some (.int .i64 n) := by
  obtain ⟨ao, cap, h1, h2⟩ := own_ints (h.own hb)
  refine ⟨ao, cap, h1, fun j n hj => ?_⟩
  obtain ⟨g, off, q1, q2, _⟩ := h2 j n hj
  exact ⟨g, off, q1, q2⟩
/-- One of the eight slices changes. -/
theorem HoldAt.put (h : HoldAt w0 w rb area L o ab cb vs) {b : Nat} (hb : b < 8) (hs : (o b).isSome = true) {s : List Int} {v : Value} (ho : Own w' 3 1 v s.length (ints s)) (hoff : Off (blk (vs b)) w w') (hn : ∀ x ∈ blk v, x ∈ blk (vs b) ∨ w.heap.size ≤ x) :
    HoldAt w0 (w'.setCell ⟨ab, b, none⟩ v) rb area L (upd o b (some s)) ab cb (upd vs b v) := by
  obtain ⟨fp, h1, h2, h3, h4, h5, h6, h7, h8, h9, h10, h11, h12, h13⟩ := h
  have hsz := h5.size
  have hva : ab ∉ blk v := fun hx => by rcases hn _ hx with q | q; exact (h12 b hb _ q).1 rfl; have := h2.lt; omega
  have hvc : cb ∉ blk v := fun hx => by rcases hn _ hx with q | q; exact (h12 b hb _ q).2 rfl; have := h3.lt; omega
  have hst : ∀ j, j ≠ b → stack (upd o b (some s)) j = stack o j := fun j hj => by simp only [stack, upd_other _ _ hj]
  refine ⟨fp, ?_, ?_, ?_, ?_, ?_, h6, h7, h8, h9, ?_, ?_, ?_, ?_⟩
  · exact (h1.off hoff (fun x hx hx' => (h11 x hx).2.2 b hb hx')).off ((Off.refl [ab] w').setCell (.inl (by simp)) v) (fun x hx hx' => (h11 x hx).1 (by simpa using hx'))
  · rw [← sl8_set vs hb v]; exact (h2.off hoff (fun hx => (h12 b hb _ hx).1 rfl)).set b v
  · have e : is8 (upd o b (some s)) = is8 o := by
      rw [← is8_set o hb (some s)]
      have := is8_get o hb
      rw [hs] at this
      apply Array.ext_getElem?
      intro i
      rw [Array.getElem?_setIfInBounds]
      by_cases e : b = i
      · subst e; rw [if_pos rfl, if_pos (by exact (Array.getElem?_eq_some_iff.1 this).1), this]; rfl
      · rw [if_neg e]
    rw [e]; exact (h3.off hoff (fun hx => (h12 b hb _ hx).2 rfl)).setCell _ _ (Ne.symm h6)
  · intro j hj
    by_cases hjb : j = b
    · subst hjb
      have e : stack (upd o j (some s)) j = s := by simp only [stack, upd_same]; rfl
      rw [upd_same, e]
      exact ho.setCell _ _ hva
    · rw [upd_other _ _ hjb, hst j hjb]
      exact ((h4 j hj).off hoff (fun x hx => h13 j b hj hb hjb x hx)).setCell _ _ (fun hx => (h12 j hj _ hx).1 rfl)
  · exact (h5.trans hoff (fun x hx => .inr (h10 b hb x hx))).setCell (.inr h8) v
  · intro j hj x hx
    by_cases hjb : j = b
    · subst hjb; rw [upd_same] at hx; rcases hn x hx with q | q; exact h10 j hj x q; omega
    · rw [upd_other _ _ hjb] at hx; exact h10 j hj x hx
  · intro x hx
    refine ⟨(h11 x hx).1, (h11 x hx).2.1, fun j hj hx' => ?_⟩
    by_cases hjb : j = b
    · subst hjb; rw [upd_same] at hx'; rcases hn x hx' with q | q; exact (h11 x hx).2.2 j hj q; have := h1.lt x hx; omega
    · rw [upd_other _ _ hjb] at hx'; exact (h11 x hx).2.2 j hj hx'
  · intro j hj x hx
    by_cases hjb : j = b
    · subst hjb; rw [upd_same] at hx; exact ⟨fun e => hva (e ▸ hx), fun e => hvc (e ▸ hx)⟩
    · rw [upd_other _ _ hjb] at hx; exact h12 j hj x hx
  · intro i j hi hj hij x hx hx'
    by_cases hib : i = b
    · subst hib
      rw [upd_same] at hx
      rw [upd_other _ _ (Ne.symm hij)] at hx'
      rcases hn x hx with q | q
      · exact h13 i j hi hj hij x q hx'
      · have := (h4 j hj).lt x hx'; omega
    · rw [upd_other _ _ hib] at hx
      by_cases hjb : j = b
      · subst hjb
        rw [upd_same] at hx'
        rcases hn x hx' with q | q
        · exact h13 i j hi hj hij x hx q
        · have := (h4 i hi).lt x hx; omega
      · rw [upd_other _ _ hjb] at hx'; exact h13 i j hi hj hij x hx hx'
/-- One of the eight flags changes. -/
theorem HoldAt.flag (h : HoldAt w0 w rb area L o ab cb vs) {b : Nat} (hb : b < 8) (x : Option (List Int)) (hx : x.getD [] = stack o b) {v : Value} (hv : v = .bool x.isSome) :
    HoldAt w0 (w.setCell ⟨cb, b, none⟩ v) rb area L (upd o b x) ab cb vs := by
  subst hv
  obtain ⟨fp, h1, h2, h3, h4, h5, h6, h7, h8, h9, h10, h11, h12, h13⟩ := h
  have hst : ∀ j, stack (upd o b x) j = stack o j := fun j => by
    by_cases hj : j = b
    · subst hj; simp only [stack, upd_same]; exact hx
    · simp only [stack, upd_other _ _ hj]
  refine ⟨fp, h1.off ((Off.refl [cb] w).setCell (.inl (by simp)) _) (fun y hy hy' => (h11 y hy).2.1 (by simpa using hy')), h2.setCell _ _ h6, ?_, ?_, h5.setCell (.inr h9) _, h6, h7, h8, h9, h10, h11, h12, h13⟩
  · rw [← is8_set o hb x]; exact h3.set b _
  · intro j hj; rw [hst j]; exact (h4 j hj).setCell _ _ (fun hy => (h12 j hj _ hy).2 rfl)
theorem HoldAt.room {fp : List Nat} {r : Int × Txns} {e : Ending} (h : HoldF w0 w rb fp area L o ab cb vs) (hs : RoomStep rb fp area r w e w') : e = .returned (.int .i64 r.1) ∧ HoldAt w0 w' rb area r.2 o ab cb vs := by
  obtain ⟨rfl, fp', g1, g2, g3⟩ := hs
  obtain ⟨h1, h2, h3, h4, h5, h6, h7, h8, h9, h10, h11, h12, h13⟩ := h
  have hsz := h5.size
  refine ⟨rfl, fp', g1, h2.off g2 (fun hx => (h11 _ hx).1 rfl), h3.off g2 (fun hx => (h11 _ hx).2.1 rfl), fun b hb => (h4 b hb).off g2 (fun x hx hx' => (h11 x hx').2.2 b hb hx), h5.trans g2 (fun x hx => .inr (h7 x hx)), h6, ?_, h8, h9, h10, ?_, h12, h13⟩
  · intro x hx; rcases g3 x hx with q | q; exact h7 x q; omega
  · intro x hx
    rcases g3 x hx with q | q
    · exact h11 x q
    · exact ⟨by have := h2.lt; omega, by have := h3.lt; omega, fun b hb hx' => by have := (h4 b hb).lt x hx'; omega⟩
variable {n : Nat}
theorem begin_h (b : Int) (h : HoldAt w0 w rb area L o ab cb vs) (hw : Wf L n) :
    Calls Try.prog 21 #[.pointer (some ⟨rb, 0, none⟩), .int .i64 b] w fun e w' => e = .returned (.int .i64 (rBegin L b).1) ∧ HoldAt w0 w' rb area (rBegin L b).2 o ab cb vs := by
  obtain ⟨fp, h⟩ := h
  exact (begin_any rb fp area b L w h.room hw.big).mono fun _ _ hs => HoldAt.room h hs
theorem update_h (b x : Int) (h : HoldAt w0 w rb area L o ab cb vs) (hw : Wf L n) :
    Calls Try.prog 27 #[.pointer (some ⟨rb, 0, none⟩), .int .i64 b, .int .i64 x] w fun e w' => e = .returned (.int .i64 (rUpdate L b x).1) ∧ HoldAt w0 w' rb area (rUpdate L b x).2 o ab cb vs := by
  obtain ⟨fp, h⟩ := h
  exact (update_any rb fp area b x L w h.room hw.big).mono fun _ _ hs => HoldAt.room h hs
theorem undone_h (b x : Int) (h : HoldAt w0 w rb area L o ab cb vs) (hw : Wf L n) :
    Calls Try.prog 28 #[.pointer (some ⟨rb, 0, none⟩), .int .i64 b, .int .i64 x] w fun e w' => e = .returned (.int .i64 (rUndone L b x).1) ∧ HoldAt w0 w' rb area (rUndone L b x).2 o ab cb vs := by
  obtain ⟨fp, h⟩ := h
  exact (undone_any rb fp area b x L w h.room hw.big).mono fun _ _ hs => HoldAt.room h hs
theorem drop_h (b : Int) (h : HoldAt w0 w rb area L o ab cb vs) (hw : Wf L n) :
    Calls Try.prog 29 #[.pointer (some ⟨rb, 0, none⟩), .int .i64 b] w fun e w' => e = .returned (.int .i64 (rDrop L b).1) ∧ HoldAt w0 w' rb area (rDrop L b).2 o ab cb vs := by
  obtain ⟨fp, h⟩ := h
  exact (drop_any rb fp area b L w h.room hw.big).mono fun _ _ hs => HoldAt.room h hs
theorem kept_h (h : HoldAt w0 w rb area L o ab cb vs) :
    Calls Try.prog 26 #[.pointer (some ⟨rb, 0, none⟩)] w fun e w' => e = .returned (.int .i64 (tot L)) ∧ w = w' := by
  obtain ⟨fp, h⟩ := h; exact kept_any rb fp area L w h.room
theorem fits_h (used more keep : Int) (h : HoldAt w0 w rb area L o ab cb vs) (ha : area ≤ imax) :
    Calls Try.prog 20 #[.pointer (some ⟨rb, 0, none⟩), .int .i64 used, .int .i64 more, .int .i64 keep] w fun e w' => e = .returned (.bool (rFits area (tot L) used more keep)) ∧ w = w' := by
  obtain ⟨fp, h⟩ := h; exact fits_any rb fp area used more keep L w h.room ha
end

def HoldRel (w0 : World) (rb : Nat) (area : Int) (ab cb len : Nat) (u i : Value) (w : World) : Prop := ∃ (k : Nat) (L : Txns) (o : Nat → Option (List Int)) (vs : Nat → Value) (used : Int), k ≤ len ∧ u = .int .i64 used ∧ i = .int .i64 (k : Nat) ∧ HoldAt w0 w rb area L o ab cb vs ∧ Books L o used area 100000
def HoldMid (w0 : World) (rb : Nat) (area : Int) (ab cb : Nat) (u : Value) (w : World) : Prop := ∃ (L : Txns) (o : Nat → Option (List Int)) (vs : Nat → Value) (used : Int), u = .int .i64 used ∧ HoldAt w0 w rb area L o ab cb vs ∧ Books L o used area 100000
def AreaMid (w1 : World) (a : Value) (w : World) : Prop := ∃ A : Int, a = .int .i64 A ∧ 0 ≤ A ∧ A < 100000 ∧ w = w1
theorem area_mid (w1 : World) (area : Int) : (¬ area.tmod 100000 < 0 → AreaMid w1 (.int .i64 (area.tmod 100000)) w1) ∧ (area.tmod 100000 < 0 → AreaMid w1 (.int .i64 (wrap64 (-area.tmod 100000))) w1) := by
  have h1 : area.tmod 100000 < 100000 := Int.tmod_lt_of_pos area (by decide)
  have h2 : -100000 < area.tmod 100000 := by
    have := Int.lt_tmod_of_pos area (b := 100000) (by decide)
    omega
  refine ⟨fun h => ⟨_, rfl, by omega, h1, rfl⟩, fun h => ?_⟩
  have e : wrap64 (-area.tmod 100000) = -area.tmod 100000 := by unfold wrap64; omega
  exact ⟨_, rfl, by rw [e]; omega, by rw [e]; omega, rfl⟩
theorem frame1 : frameV 1 0 0 = 34 := by decide
theorem frame2 (n : Int) (h1 : 1 ≤ n) (h2 : n ≤ 65535) : frameV 2 n 0 = 38 + 2 * n := by
  unfold frameV; rw [if_neg (by omega)]; simp
theorem frame7 (b n : Int) (h0 : 0 ≤ b) (h3 : b ≤ 65535) (h1 : 1 ≤ n) (h2 : n ≤ 65535) : frameV 7 b n = 35 + 26 * b + 9 * n := by
  unfold frameV; rw [if_neg (by omega)]; simp
theorem hold_new {w0 w2 : World} {rb : Nat} {fp : List Nat} {area : Int} (h : RoomP w2 rb fp area []) (ho : Off [] w0 w2) (hn : ∀ x ∈ fp, w0.heap.size ≤ x) :
    HoldAt w0 ((w2.alloc (.cells (sl8 fun _ => .slice none 0 0) 54)).alloc (.cells (is8 fun _ => none) 55)) rb area [] (fun _ => none) w2.heap.size (w2.heap.size + 1) (fun _ => .slice none 0 0) := by
  have hsz := ho.size
  have o2 := ((Off.refl [] w2).alloc (.cells (sl8 fun _ => .slice none 0 0) 54)).alloc (.cells (is8 fun _ => none) 55)
  refine ⟨fp, h.off o2 (by simp), (IsC.new _ _ _).alloc _, IsC.newAt _ (by simp), fun b hb => Own.nil _ _ _, ho.trans o2 (by simp), by omega, hn, by omega, by omega, by simp [blk], ?_, by simp [blk], by simp [blk]⟩
  intro x hx
  have := h.lt x hx
  exact ⟨by omega, by omega, by simp [blk]⟩
theorem i64_mask (n : Int) (m : Int) (k : Nat) (hm : (BitVec.ofInt 64 m).toNat = 2 ^ k - 1) (hk : k < 60) : ∃ j : Nat, j < 2 ^ k ∧ bits .and .i64 n m = j := by
  have key : (BitVec.ofInt 64 n &&& BitVec.ofInt 64 m).toNat = (n % ((2 ^ 64 : Nat) : Int)).toNat % 2 ^ k := by
    rw [BitVec.toNat_and, BitVec.toNat_ofInt, hm, Nat.and_two_pow_sub_one_eq_mod]
  have hlt : (n % ((2 ^ 64 : Nat) : Int)).toNat % 2 ^ k < 2 ^ k := Nat.mod_lt _ (Nat.two_pow_pos k)
  have h60 : 2 ^ k ≤ 2 ^ 59 := Nat.pow_le_pow_right (by decide) (by omega)
  have h59 : (2 : Nat) ^ 59 = 576460752303423488 := by decide
  refine ⟨_, hlt, ?_⟩
  show IntKind.i64.wrap ((BitVec.ofInt 64 n &&& BitVec.ofInt 64 m).toNat : Nat) = _
  rw [key]
  exact IntWalk.i64_in _ (by omega)
theorem mask7 (n : Int) : ∃ j : Nat, j < 8 ∧ bits .and .i64 n 7 = j := i64_mask n 7 3 (by decide) (by decide)
theorem mask15 (n : Int) : ∃ j : Nat, j < 16 ∧ bits .and .i64 n 15 = j := i64_mask n 15 4 (by decide) (by decide)
theorem mask3 (n : Int) : ∃ j : Nat, j < 4 ∧ bits .and .i64 n 3 = j := i64_mask n 3 2 (by decide) (by decide)
section
variable {w0 w w' : World} {rb : Nat} {area : Int} {L L' : Txns} {o : Nat → Option (List Int)} {ab cb : Nat} {vs : Nat → Value}
theorem HoldAt.after (h : HoldAt w0 w rb area L o ab cb vs) {b : Nat} (hb : b < 8) (hoff : Off (blk (vs b)) w w') : w'.cell? ⟨ab, b, none⟩ = some (vs b) ∧ w'.frozen? ⟨ab, b, none⟩ = false := by
  obtain ⟨fp, h⟩ := h
  have q := h.sl.off hoff (fun hx => (h.d2 b hb _ hx).1 rfl)
  exact ⟨by rw [q.cell, sl8_get vs hb], q.unfrozen b⟩
theorem Books.small {used : Int} {k : Nat} (h : Books L o used area k) (b : Nat) : (stack o b).length ≤ k := by
  cases ho : o b with
  | none => simp [stack, ho]
  | some s => have := (h.good ho).2; simpa [stack, ho] using this
theorem stack_some {b : Nat} {s : List Int} (h : o b = some s) : stack o b = s := by simp [stack, h]
theorem stack_none {b : Nat} (h : o b = none) : stack o b = [] := by simp [stack, h]
end
theorem cut_take {w : World} {v : Value} {B : List Int} {M m : Nat} (h : Own w 3 1 v M (ints B)) (hB : B.length = M) (hm : m ≤ M) : ∃ ao cap, Own w 3 1 (.slice ao m cap) m (ints (B.take m)) ∧ blk (.slice ao m cap) = blk v ∧
    ∀ (W : World) (j : Int), j = m → (Instr.slice 51 v none (some (.int .i64 j)) none).run Try.prog W = .ok (.slice ao m cap) W := by
  obtain ⟨ao1, cap1, ho1, hb1, f1, z1, f1'⟩ := h.cut (t := 51) Try.underlying51 size3 0 m (by omega) (by omega)
  have g1 := f1' rfl
  rw [Nat.sub_zero, Nat.mul_one, Nat.zero_mul, List.drop_zero] at ho1
  rw [Nat.sub_zero] at g1 hb1
  have e1 : List.take m (ints B) = ints (B.take m) := by simp [ints]
  rw [e1] at ho1
  exact ⟨ao1, cap1, ho1, hb1, g1⟩
theorem Books.next {L : Txns} {o : Nat → Option (List Int)} {used area : Int} {k : Nat} (h : Books L o used area k) {nb : Nat} (h8 : nb < 8) :
    Ytlhmcbcoaplcaaa.good (stack o nb) ∧ 0 ≤ used + sumB o nb ∧ used + sumB o nb + (ksum (stack o nb) - 99) ≤ area ∧
    ((o nb = none ∧ used + sumB o nb + (ksum (stack o nb) - 99) = used + sumB o (nb + 1)) ∨ (∃ s, o nb = some s ∧ used + sumB o nb + (ksum (stack o nb) - 99) + 99 = used + sumB o (nb + 1) ∧ used + sumB o (nb + 1) ≤ area)) := by
  have hle := sumB_le h (nb + 1) (8 - (nb + 1))
  rw [show nb + 1 + (8 - (nb + 1)) = 8 by omega] at hle
  have h1 := h.sum
  have h2 := h.fits
  have h3 := h.low
  have h4 := sumB_nonneg h nb
  have h5 : sumB o (nb + 1) = sumB o nb + keep1 (o nb) := rfl
  cases ho : o nb with
  | none =>
    rw [ho] at h5
    simp only [keep1] at h5
    have h6 : ksum (stack o nb) = 99 := by rw [stack_none ho]; rfl
    refine ⟨by rw [stack_none ho]; intro n hn; simp at hn, by omega, by omega, .inl ⟨rfl, by omega⟩⟩
  | some s =>
    rw [ho] at h5
    simp only [keep1] at h5
    have h6 : ksum (stack o nb) = ksum s := by rw [stack_some ho]
    refine ⟨by rw [stack_some ho]; exact (h.good ho).1, by omega, by omega, .inr ⟨s, rfl, by omega, by omega⟩⟩
end Go.Proofs.Ytlhmcbcoaplcaaa
