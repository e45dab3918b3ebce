/- TableAll: the walk. -/
import Derived.Test.YtlhmcbcoaplcaaaTLawG
set_option linter.unusedVariables false
set_option linter.unusedSimpArgs false
namespace Go.Proofs.Ytlhmcbcoaplcaaa
open Go.ChangeShapes Go.WideShapes Go.ChangeAt Go.RowKit

set_option maxRecDepth 100000 in
set_option maxHeartbeats 8000000 in
theorem tableAll_YY (w : World) (m : Nat) (hm1 : 1 ≤ m) (hm2 : m ≤ 8) (n : Nat) (hn1 : 1 ≤ n) (hn2 : n ≤ 8) (v : Value) (l : List St) (h : StepRows w v l) :
    Calls Try.prog 10 #[.int .i64 m, .int .i64 n, v] w fun e w' => e = .returned (.bool true) ∧ Off [] w w' := by
  obtain ⟨ao, cap, rfl, hlen, hel⟩ := h
  have HEL : Hid (∀ W, Off [] w W → ∀ (i : Nat) (t : St), l[i]? = some t → ∃ b off, ao = some ⟨b, off, none⟩ ∧ ∀ j, j < 8 → W.cell? ⟨b, off + i * 8 + j, none⟩ = (stCells t)[j]?) := fun W ho i t ht => by
    obtain ⟨b, off, e, hb, hc⟩ := hel i t ht
    refine ⟨b, off, e, fun j hj => ?_⟩
    rw [World.cell?_of_block (a := ⟨b, off + i * 8 + j, none⟩) (ho.old b hb (by simp)), Nat.add_assoc]; exact hc j hj
  clear hel
  generalize hN : l.length = len at *
  have HN := Lib.hid hN
  clear hN
  have HX1 := Lib.hid (new30_ok m w hm1 hm2)
  have HX2 := Lib.hid (new31_ok m · hm1 hm2)
  clear hm1 hm2
  have HY1 := Lib.hid (new30_ok n · hn1 hn2)
  have HY2 := Lib.hid (new31_ok n · hn1 hn2)
  clear hn1 hn2
  go_enter Try.func10, Try.ntmps10
  go_wp2_with fail
  refine HX1.out.mono ?_
  rintro e w1 ⟨rfl, t1, o1⟩
  have HT1 := Lib.hid (And.intro t1 o1)
  clear t1 o1 HX1
  go_wp2_with fail
  refine (HX2.out w1).mono ?_
  rintro e w2 ⟨rfl, t2, o2⟩
  have HX : Hid (SlotP w2 (some (w.heap.size, w1.heap.size, m)) [w.heap.size, w1.heap.size] ∧ Off [] w w2 ∧ ∀ z ∈ [w.heap.size, w1.heap.size], w.heap.size ≤ z) := ⟨TwoP.new HT1.out.1 t2 o2 (Nat.le_refl _), HT1.out.2.trans o2 (by simp), fun z hz => by have := HT1.out.2.size; simp at hz; omega⟩
  clear t2 o2 HX2 HT1
  go_wp2_with fail
  refine (HY1.out w2).mono ?_
  rintro e w3 ⟨rfl, t3, o3⟩
  have HT3 := Lib.hid (And.intro t3 o3)
  clear t3 o3 HY1
  go_wp2_with fail
  refine (HY2.out w3).mono ?_
  rintro e w4 ⟨rfl, t4, o4⟩
  have HY : Hid (SlotP w4 (some (w2.heap.size, w3.heap.size, n)) [w2.heap.size, w3.heap.size] ∧ Off [] w2 w4 ∧ ∀ z ∈ [w2.heap.size, w3.heap.size], w2.heap.size ≤ z) := ⟨TwoP.new HT3.out.1 t4 o4 (Nat.le_refl _), HT3.out.2.trans o4 (by simp), fun z hz => by have := HT3.out.2.size; simp at hz; omega⟩
  clear t4 o4 HY2 HT3
  go_wp2_with fail
  refine (known32 w4).mono ?_
  rintro e w5 ⟨rfl, o5⟩
  have HR0 : Hid (TabsRel w w5.heap.size (w5.heap.size + 1) (some (w.heap.size, w1.heap.size, m)) (some (w2.heap.size, w3.heap.size, n)) ((w5.alloc (.cells #[pvOf (some (w.heap.size, w1.heap.size, m)), rvOf (some (w.heap.size, w1.heap.size, m))] 68)).alloc (.cells #[pvOf (some (w2.heap.size, w3.heap.size, n)), rvOf (some (w2.heap.size, w3.heap.size, n))] 68))) := TabsRel.start HX.out.2.1 HY.out.2.1 HX.out.1 HY.out.1 HX.out.2.2 HY.out.2.2 w5 o5
  clear o5 HX HY
  go_wp2_with fail
  generalize hb15 : w5.heap.size = b15 at HR0 ⊢
  clear hb15
  generalize hp0 : w.heap.size = p0 at HR0 ⊢
  clear hp0
  generalize hq0 : w1.heap.size = q0 at HR0 ⊢
  clear hq0
  generalize hp1 : w2.heap.size = p1 at HR0 ⊢
  clear hp1
  generalize hq1 : w3.heap.size = q1 at HR0 ⊢
  clear hq1
  go_loopw [17, 18] (fun i _ wr => ∃ k : Nat, k ≤ len ∧ i = .int .i64 k ∧ TabsRel w b15 (b15 + 1) (some (p0, q0, m)) (some (p1, q1, n)) wr) (fun i _ _ => len - (intOf i).toNat)
  case atStart => exact ⟨0, Nat.zero_le _, rfl, HR0.out⟩
  case round =>
    obtain ⟨k, hk, rfl, ht⟩ := hrel
    have HT := Lib.hid ht
    clear ht HR0
    by_cases hlt : k < len
    · obtain ⟨t, hkt⟩ : ∃ t, l[k]? = some t := ⟨l[k]'(by have := HN.out; omega), List.getElem?_eq_getElem _⟩
      obtain ⟨b, off, rfl, hcs⟩ := HEL.out wr HT.out.offs k t hkt
      obtain ⟨se, kind, ⟨rb, ri, rs, rl, rn⟩, tn⟩ := t
      have c0 : wr.cell? ⟨b, off + k * 8, none⟩ = some (.bool se) := hcs 0 (by omega)
      have c1 : wr.cell? ⟨b, off + k * 8 + 1, none⟩ = some (.int .i64 kind) := hcs 1 (by omega)
      have c2 : wr.cell? ⟨b, off + k * 8 + 2, none⟩ = some (.int .i64 rb) := hcs 2 (by omega)
      have c3 : wr.cell? ⟨b, off + k * 8 + 3, none⟩ = some (.int .i64 ri) := hcs 3 (by omega)
      have c4 : wr.cell? ⟨b, off + k * 8 + 4, none⟩ = some (.int .i64 rs) := hcs 4 (by omega)
      have c5 : wr.cell? ⟨b, off + k * 8 + 5, none⟩ = some (.int .i64 rl) := hcs 5 (by omega)
      have c6 : wr.cell? ⟨b, off + k * 8 + 6, none⟩ = some (.int .i64 rn) := hcs 6 (by omega)
      have c7 : wr.cell? ⟨b, off + k * 8 + 7, none⟩ = some (.int .i64 tn) := hcs 7 (by omega)
      have hbx : (wr.cell? ⟨b15, 0, none⟩ = some (.pointer (some ⟨p0, 0, none⟩)) ∧ wr.cell? ⟨b15, 1, none⟩ = some (.pointer (some ⟨q0, 0, none⟩))) ∧ wr.cell? ⟨b15 + 1, 0, none⟩ = some (.pointer (some ⟨p1, 0, none⟩)) ∧ wr.cell? ⟨b15 + 1, 1, none⟩ = some (.pointer (some ⟨q1, 0, none⟩)) := HT.out.boxes
      obtain ⟨⟨d0, d1⟩, d2, d3⟩ := hbx
      have HCX := Lib.hid (HT.out.callX ⟨se, kind, ⟨rb, ri, rs, rl, rn⟩, tn⟩ _ (Off.refl _ _).drew)
      have HCY := Lib.hid (HT.out.callY ⟨se, kind, ⟨rb, ri, rs, rl, rn⟩, tn⟩ _ (Off.refl _ _).drew)
      clear hkt hcs HEL
      cases se with
      | true =>
        go_wp2_with fail
        go_region_law (first | (go_simp; go_at_call 33; refine HCY.out.mono ?_; rintro e w3 ⟨rfl, h3, _⟩; have HR := Lib.hid h3; clear h3))
        all_goals
          go_wp2_with fail
          go_roundw
          case rel => exact ⟨k + 1, by omega, by go_num, HR.out⟩
          case measure => simp [intOf]; omega
      | false =>
        go_wp2_with fail
        go_region_law (first | (go_simp; go_at_call 33; refine HCX.out.mono ?_; rintro e w3 ⟨rfl, h3, _⟩; have HR := Lib.hid h3; clear h3))
        all_goals
          go_wp2_with fail
          go_roundw
          case rel => exact ⟨k + 1, by omega, by go_num, HR.out⟩
          case measure => simp [intOf]; omega
    · have e : k = len := by omega
      subst e
      have HBX := Lib.hid (fun W ho => (HT.out.off (w' := W) ho).boxes)
      have hb0 : ∀ ob, (wr.alloc ob).cell? ⟨b15, 0, none⟩ = some (.pointer (some ⟨p0, 0, none⟩)) := fun ob => (HBX.out _ ((Off.refl _ _).alloc ob)).1.1
      have hb1 : ∀ ob, (wr.alloc ob).cell? ⟨b15, 1, none⟩ = some (.pointer (some ⟨q0, 0, none⟩)) := fun ob => (HBX.out _ ((Off.refl _ _).alloc ob)).1.2
      have hb2 : ∀ ob, (wr.alloc ob).cell? ⟨b15 + 1, 0, none⟩ = some (.pointer (some ⟨p1, 0, none⟩)) := fun ob => (HBX.out _ ((Off.refl _ _).alloc ob)).2.1
      have hb3 : ∀ ob, (wr.alloc ob).cell? ⟨b15 + 1, 1, none⟩ = some (.pointer (some ⟨q1, 0, none⟩)) := fun ob => (HBX.out _ ((Off.refl _ _).alloc ob)).2.2
      clear HEL HBX
      have HO := Lib.hid HT.out.offs
      have HCX := Lib.hid (HT.out.callX ⟨false, 5, ⟨0, 0, 0, 0, 0⟩, 0⟩ _ ((Off.refl _ _).alloc (.cells #[.bool false, .int .i64 5, .int .i64 0, .int .i64 0, .int .i64 0, .int .i64 0, .int .i64 0, .int .i64 0] 72)))
      go_wp2_with fail
      refine HCX.out.mono ?_
      rintro e w6 ⟨rfl, h6, h7⟩
      have HT6 := Lib.hid h6
      have he : IsC w6 wr.heap.size #[.bool false, .int .i64 5, .int .i64 0, .int .i64 0, .int .i64 0, .int .i64 0, .int .i64 0, .int .i64 0] 72 := h7 _ _ _ (Nat.le_refl _) (IsC.new _ _ _)
      clear h6 h7 hb0 hb1 hb2 hb3 HCX
      have e0 : w6.cell? ⟨wr.heap.size, 0, none⟩ = some (.bool false) := by rw [he.cell]; rfl
      have e1 : w6.cell? ⟨wr.heap.size, 1, none⟩ = some (.int .i64 5) := by rw [he.cell]; rfl
      have e2 : w6.cell? ⟨wr.heap.size, 2, none⟩ = some (.int .i64 0) := by rw [he.cell]; rfl
      have e3 : w6.cell? ⟨wr.heap.size, 3, none⟩ = some (.int .i64 0) := by rw [he.cell]; rfl
      have e4 : w6.cell? ⟨wr.heap.size, 4, none⟩ = some (.int .i64 0) := by rw [he.cell]; rfl
      have e5 : w6.cell? ⟨wr.heap.size, 5, none⟩ = some (.int .i64 0) := by rw [he.cell]; rfl
      have e6 : w6.cell? ⟨wr.heap.size, 6, none⟩ = some (.int .i64 0) := by rw [he.cell]; rfl
      have e7 : w6.cell? ⟨wr.heap.size, 7, none⟩ = some (.int .i64 0) := by rw [he.cell]; rfl
      have g2 : w6.cell? ⟨b15 + 1, 0, none⟩ = some (.pointer (some ⟨p1, 0, none⟩)) := HT6.out.boxes.2.1
      have g3 : w6.cell? ⟨b15 + 1, 1, none⟩ = some (.pointer (some ⟨q1, 0, none⟩)) := HT6.out.boxes.2.2
      have HCY := Lib.hid (HT6.out.callY ⟨false, 5, ⟨0, 0, 0, 0, 0⟩, 0⟩ _ (Off.refl _ _))
      clear he
      go_wp2_with fail
      refine HCY.out.mono ?_
      rintro e w7 ⟨rfl, h6, h7⟩
      have HO7 := Lib.hid h6.offs
      clear h6 h7 e0 e1 e2 e3 e4 e5 e6 e7 g2 g3 HCY HT6
      go_wp2_with fail
      go_ret
      exact ⟨rfl, HO7.out⟩
set_option maxRecDepth 100000 in
set_option maxHeartbeats 8000000 in
theorem tableAll_YN (w : World) (m : Nat) (hm1 : 1 ≤ m) (hm2 : m ≤ 8) (c : Int) (hc : c < 1 ∨ 8 < c) (v : Value) (l : List St) (h : StepRows w v l) :
    Calls Try.prog 10 #[.int .i64 m, .int .i64 c, v] w fun e w' => e = .returned (.bool true) ∧ Off [] w w' := by
  obtain ⟨ao, cap, rfl, hlen, hel⟩ := h
  have HEL : Hid (∀ W, Off [] w W → ∀ (i : Nat) (t : St), l[i]? = some t → ∃ b off, ao = some ⟨b, off, none⟩ ∧ ∀ j, j < 8 → W.cell? ⟨b, off + i * 8 + j, none⟩ = (stCells t)[j]?) := fun W ho i t ht => by
    obtain ⟨b, off, e, hb, hc⟩ := hel i t ht
    refine ⟨b, off, e, fun j hj => ?_⟩
    rw [World.cell?_of_block (a := ⟨b, off + i * 8 + j, none⟩) (ho.old b hb (by simp)), Nat.add_assoc]; exact hc j hj
  clear hel
  generalize hN : l.length = len at *
  have HN := Lib.hid hN
  clear hN
  have HX1 := Lib.hid (new30_ok m w hm1 hm2)
  have HX2 := Lib.hid (new31_ok m · hm1 hm2)
  clear hm1 hm2
  have HY1 := Lib.hid (new30_bad c · hc)
  have HY2 := Lib.hid (new31_bad c · hc)
  clear hc
  go_enter Try.func10, Try.ntmps10
  go_wp2_with fail
  refine HX1.out.mono ?_
  rintro e w1 ⟨rfl, t1, o1⟩
  have HT1 := Lib.hid (And.intro t1 o1)
  clear t1 o1 HX1
  go_wp2_with fail
  refine (HX2.out w1).mono ?_
  rintro e w2 ⟨rfl, t2, o2⟩
  have HX : Hid (SlotP w2 (some (w.heap.size, w1.heap.size, m)) [w.heap.size, w1.heap.size] ∧ Off [] w w2 ∧ ∀ z ∈ [w.heap.size, w1.heap.size], w.heap.size ≤ z) := ⟨TwoP.new HT1.out.1 t2 o2 (Nat.le_refl _), HT1.out.2.trans o2 (by simp), fun z hz => by have := HT1.out.2.size; simp at hz; omega⟩
  clear t2 o2 HX2 HT1
  go_wp2_with fail
  refine (HY1.out w2).mono ?_
  rintro e w3 ⟨rfl, rfl⟩
  go_wp2_with fail
  refine (HY2.out w2).mono ?_
  rintro e w3 ⟨rfl, rfl⟩
  have HY : Hid (SlotP w2 none [] ∧ Off [] w2 w2 ∧ ∀ z ∈ ([] : List Nat), w2.heap.size ≤ z) := ⟨rfl, Off.refl _ _, by simp⟩
  clear HY1 HY2
  go_wp2_with fail
  refine (known32 w2).mono ?_
  rintro e w5 ⟨rfl, o5⟩
  have HR0 : Hid (TabsRel w w5.heap.size (w5.heap.size + 1) (some (w.heap.size, w1.heap.size, m)) none ((w5.alloc (.cells #[pvOf (some (w.heap.size, w1.heap.size, m)), rvOf (some (w.heap.size, w1.heap.size, m))] 68)).alloc (.cells #[pvOf none, rvOf none] 68))) := TabsRel.start HX.out.2.1 HY.out.2.1 HX.out.1 HY.out.1 HX.out.2.2 HY.out.2.2 w5 o5
  clear o5 HX HY
  go_wp2_with fail
  generalize hb15 : w5.heap.size = b15 at HR0 ⊢
  clear hb15
  generalize hp0 : w.heap.size = p0 at HR0 ⊢
  clear hp0
  generalize hq0 : w1.heap.size = q0 at HR0 ⊢
  clear hq0
  go_loopw [17, 18] (fun i _ wr => ∃ k : Nat, k ≤ len ∧ i = .int .i64 k ∧ TabsRel w b15 (b15 + 1) (some (p0, q0, m)) none wr) (fun i _ _ => len - (intOf i).toNat)
  case atStart => exact ⟨0, Nat.zero_le _, rfl, HR0.out⟩
  case round =>
    obtain ⟨k, hk, rfl, ht⟩ := hrel
    have HT := Lib.hid ht
    clear ht HR0
    by_cases hlt : k < len
    · obtain ⟨t, hkt⟩ : ∃ t, l[k]? = some t := ⟨l[k]'(by have := HN.out; omega), List.getElem?_eq_getElem _⟩
      obtain ⟨b, off, rfl, hcs⟩ := HEL.out wr HT.out.offs k t hkt
      obtain ⟨se, kind, ⟨rb, ri, rs, rl, rn⟩, tn⟩ := t
      have c0 : wr.cell? ⟨b, off + k * 8, none⟩ = some (.bool se) := hcs 0 (by omega)
      have c1 : wr.cell? ⟨b, off + k * 8 + 1, none⟩ = some (.int .i64 kind) := hcs 1 (by omega)
      have c2 : wr.cell? ⟨b, off + k * 8 + 2, none⟩ = some (.int .i64 rb) := hcs 2 (by omega)
      have c3 : wr.cell? ⟨b, off + k * 8 + 3, none⟩ = some (.int .i64 ri) := hcs 3 (by omega)
      have c4 : wr.cell? ⟨b, off + k * 8 + 4, none⟩ = some (.int .i64 rs) := hcs 4 (by omega)
      have c5 : wr.cell? ⟨b, off + k * 8 + 5, none⟩ = some (.int .i64 rl) := hcs 5 (by omega)
      have c6 : wr.cell? ⟨b, off + k * 8 + 6, none⟩ = some (.int .i64 rn) := hcs 6 (by omega)
      have c7 : wr.cell? ⟨b, off + k * 8 + 7, none⟩ = some (.int .i64 tn) := hcs 7 (by omega)
      have hbx : (wr.cell? ⟨b15, 0, none⟩ = some (.pointer (some ⟨p0, 0, none⟩)) ∧ wr.cell? ⟨b15, 1, none⟩ = some (.pointer (some ⟨q0, 0, none⟩))) ∧ wr.cell? ⟨b15 + 1, 0, none⟩ = some (.pointer none) ∧ wr.cell? ⟨b15 + 1, 1, none⟩ = some (.pointer none) := HT.out.boxes
      obtain ⟨⟨d0, d1⟩, d2, d3⟩ := hbx
      have HCX := Lib.hid (HT.out.callX ⟨se, kind, ⟨rb, ri, rs, rl, rn⟩, tn⟩ _ (Off.refl _ _).drew)
      clear hkt hcs HEL
      cases se with
      | true =>
        go_wp2_with fail
        go_roundw
        case rel => exact ⟨k + 1, by omega, by go_num, HT.out⟩
        case measure => simp [intOf]; omega
      | false =>
        go_wp2_with fail
        go_region_law (first | (go_simp; go_at_call 33; refine HCX.out.mono ?_; rintro e w3 ⟨rfl, h3, _⟩; have HR := Lib.hid h3; clear h3))
        all_goals
          go_wp2_with fail
          go_roundw
          case rel => exact ⟨k + 1, by omega, by go_num, HR.out⟩
          case measure => simp [intOf]; omega
    · have e : k = len := by omega
      subst e
      have HBX := Lib.hid (fun W ho => (HT.out.off (w' := W) ho).boxes)
      have hb0 : ∀ ob, (wr.alloc ob).cell? ⟨b15, 0, none⟩ = some (.pointer (some ⟨p0, 0, none⟩)) := fun ob => (HBX.out _ ((Off.refl _ _).alloc ob)).1.1
      have hb1 : ∀ ob, (wr.alloc ob).cell? ⟨b15, 1, none⟩ = some (.pointer (some ⟨q0, 0, none⟩)) := fun ob => (HBX.out _ ((Off.refl _ _).alloc ob)).1.2
      have hb2 : ∀ ob, (wr.alloc ob).cell? ⟨b15 + 1, 0, none⟩ = some (.pointer none) := fun ob => (HBX.out _ ((Off.refl _ _).alloc ob)).2.1
      have hb3 : ∀ ob, (wr.alloc ob).cell? ⟨b15 + 1, 1, none⟩ = some (.pointer none) := fun ob => (HBX.out _ ((Off.refl _ _).alloc ob)).2.2
      clear HEL HBX
      have HO := Lib.hid HT.out.offs
      have HCX := Lib.hid (HT.out.callX ⟨false, 5, ⟨0, 0, 0, 0, 0⟩, 0⟩ _ ((Off.refl _ _).alloc (.cells #[.bool false, .int .i64 5, .int .i64 0, .int .i64 0, .int .i64 0, .int .i64 0, .int .i64 0, .int .i64 0] 72)))
      go_wp2_with fail
      refine HCX.out.mono ?_
      rintro e w6 ⟨rfl, h6, h7⟩
      have HT6 := Lib.hid h6
      have he : IsC w6 wr.heap.size #[.bool false, .int .i64 5, .int .i64 0, .int .i64 0, .int .i64 0, .int .i64 0, .int .i64 0, .int .i64 0] 72 := h7 _ _ _ (Nat.le_refl _) (IsC.new _ _ _)
      clear h6 h7 hb0 hb1 hb2 hb3 HCX
      clear he
      go_wp2_with fail
      go_ret
      exact ⟨rfl, HT6.out.offs⟩
set_option maxRecDepth 100000 in
set_option maxHeartbeats 8000000 in
theorem tableAll_NY (w : World) (a : Int) (ha : a < 1 ∨ 8 < a) (n : Nat) (hn1 : 1 ≤ n) (hn2 : n ≤ 8) (v : Value) (l : List St) (h : StepRows w v l) :
    Calls Try.prog 10 #[.int .i64 a, .int .i64 n, v] w fun e w' => e = .returned (.bool true) ∧ Off [] w w' := by
  obtain ⟨ao, cap, rfl, hlen, hel⟩ := h
  have HEL : Hid (∀ W, Off [] w W → ∀ (i : Nat) (t : St), l[i]? = some t → ∃ b off, ao = some ⟨b, off, none⟩ ∧ ∀ j, j < 8 → W.cell? ⟨b, off + i * 8 + j, none⟩ = (stCells t)[j]?) := fun W ho i t ht => by
    obtain ⟨b, off, e, hb, hc⟩ := hel i t ht
    refine ⟨b, off, e, fun j hj => ?_⟩
    rw [World.cell?_of_block (a := ⟨b, off + i * 8 + j, none⟩) (ho.old b hb (by simp)), Nat.add_assoc]; exact hc j hj
  clear hel
  generalize hN : l.length = len at *
  have HN := Lib.hid hN
  clear hN
  have HX1 := Lib.hid (new30_bad a w ha)
  have HX2 := Lib.hid (new31_bad a · ha)
  clear ha
  have HY1 := Lib.hid (new30_ok n · hn1 hn2)
  have HY2 := Lib.hid (new31_ok n · hn1 hn2)
  clear hn1 hn2
  go_enter Try.func10, Try.ntmps10
  go_wp2_with fail
  refine HX1.out.mono ?_
  rintro e w1 ⟨rfl, rfl⟩
  go_wp2_with fail
  refine (HX2.out w).mono ?_
  rintro e w1 ⟨rfl, rfl⟩
  have HX : Hid (SlotP w none [] ∧ Off [] w w ∧ ∀ z ∈ ([] : List Nat), w.heap.size ≤ z) := ⟨rfl, Off.refl _ _, by simp⟩
  clear HX1 HX2
  go_wp2_with fail
  refine (HY1.out w).mono ?_
  rintro e w3 ⟨rfl, t3, o3⟩
  have HT3 := Lib.hid (And.intro t3 o3)
  clear t3 o3 HY1
  go_wp2_with fail
  refine (HY2.out w3).mono ?_
  rintro e w4 ⟨rfl, t4, o4⟩
  have HY : Hid (SlotP w4 (some (w.heap.size, w3.heap.size, n)) [w.heap.size, w3.heap.size] ∧ Off [] w w4 ∧ ∀ z ∈ [w.heap.size, w3.heap.size], w.heap.size ≤ z) := ⟨TwoP.new HT3.out.1 t4 o4 (Nat.le_refl _), HT3.out.2.trans o4 (by simp), fun z hz => by have := HT3.out.2.size; simp at hz; omega⟩
  clear t4 o4 HY2 HT3
  go_wp2_with fail
  refine (known32 w4).mono ?_
  rintro e w5 ⟨rfl, o5⟩
  have HR0 : Hid (TabsRel w w5.heap.size (w5.heap.size + 1) none (some (w.heap.size, w3.heap.size, n)) ((w5.alloc (.cells #[pvOf none, rvOf none] 68)).alloc (.cells #[pvOf (some (w.heap.size, w3.heap.size, n)), rvOf (some (w.heap.size, w3.heap.size, n))] 68))) := TabsRel.start HX.out.2.1 HY.out.2.1 HX.out.1 HY.out.1 HX.out.2.2 HY.out.2.2 w5 o5
  clear o5 HX HY
  go_wp2_with fail
  generalize hb15 : w5.heap.size = b15 at HR0 ⊢
  clear hb15
  generalize hp1 : w.heap.size = p1 at HR0 ⊢
  clear hp1
  generalize hq1 : w3.heap.size = q1 at HR0 ⊢
  clear hq1
  go_loopw [17, 18] (fun i _ wr => ∃ k : Nat, k ≤ len ∧ i = .int .i64 k ∧ TabsRel w b15 (b15 + 1) none (some (p1, q1, n)) wr) (fun i _ _ => len - (intOf i).toNat)
  case atStart => exact ⟨0, Nat.zero_le _, rfl, HR0.out⟩
  case round =>
    obtain ⟨k, hk, rfl, ht⟩ := hrel
    have HT := Lib.hid ht
    clear ht HR0
    by_cases hlt : k < len
    · obtain ⟨t, hkt⟩ : ∃ t, l[k]? = some t := ⟨l[k]'(by have := HN.out; omega), List.getElem?_eq_getElem _⟩
      obtain ⟨b, off, rfl, hcs⟩ := HEL.out wr HT.out.offs k t hkt
      obtain ⟨se, kind, ⟨rb, ri, rs, rl, rn⟩, tn⟩ := t
      have c0 : wr.cell? ⟨b, off + k * 8, none⟩ = some (.bool se) := hcs 0 (by omega)
      have c1 : wr.cell? ⟨b, off + k * 8 + 1, none⟩ = some (.int .i64 kind) := hcs 1 (by omega)
      have c2 : wr.cell? ⟨b, off + k * 8 + 2, none⟩ = some (.int .i64 rb) := hcs 2 (by omega)
      have c3 : wr.cell? ⟨b, off + k * 8 + 3, none⟩ = some (.int .i64 ri) := hcs 3 (by omega)
      have c4 : wr.cell? ⟨b, off + k * 8 + 4, none⟩ = some (.int .i64 rs) := hcs 4 (by omega)
      have c5 : wr.cell? ⟨b, off + k * 8 + 5, none⟩ = some (.int .i64 rl) := hcs 5 (by omega)
      have c6 : wr.cell? ⟨b, off + k * 8 + 6, none⟩ = some (.int .i64 rn) := hcs 6 (by omega)
      have c7 : wr.cell? ⟨b, off + k * 8 + 7, none⟩ = some (.int .i64 tn) := hcs 7 (by omega)
      have hbx : (wr.cell? ⟨b15, 0, none⟩ = some (.pointer none) ∧ wr.cell? ⟨b15, 1, none⟩ = some (.pointer none)) ∧ wr.cell? ⟨b15 + 1, 0, none⟩ = some (.pointer (some ⟨p1, 0, none⟩)) ∧ wr.cell? ⟨b15 + 1, 1, none⟩ = some (.pointer (some ⟨q1, 0, none⟩)) := HT.out.boxes
      obtain ⟨⟨d0, d1⟩, d2, d3⟩ := hbx
      have HCY := Lib.hid (HT.out.callY ⟨se, kind, ⟨rb, ri, rs, rl, rn⟩, tn⟩ _ (Off.refl _ _).drew)
      clear hkt hcs HEL
      cases se with
      | true =>
        go_wp2_with fail
        go_region_law (first | (go_simp; go_at_call 33; refine HCY.out.mono ?_; rintro e w3 ⟨rfl, h3, _⟩; have HR := Lib.hid h3; clear h3))
        all_goals
          go_wp2_with fail
          go_roundw
          case rel => exact ⟨k + 1, by omega, by go_num, HR.out⟩
          case measure => simp [intOf]; omega
      | false =>
        go_wp2_with fail
        go_roundw
        case rel => exact ⟨k + 1, by omega, by go_num, HT.out⟩
        case measure => simp [intOf]; omega
    · have e : k = len := by omega
      subst e
      have HBX := Lib.hid (fun W ho => (HT.out.off (w' := W) ho).boxes)
      have hb0 : ∀ ob, (wr.alloc ob).cell? ⟨b15, 0, none⟩ = some (.pointer none) := fun ob => (HBX.out _ ((Off.refl _ _).alloc ob)).1.1
      have hb1 : ∀ ob, (wr.alloc ob).cell? ⟨b15, 1, none⟩ = some (.pointer none) := fun ob => (HBX.out _ ((Off.refl _ _).alloc ob)).1.2
      have hb2 : ∀ ob, (wr.alloc ob).cell? ⟨b15 + 1, 0, none⟩ = some (.pointer (some ⟨p1, 0, none⟩)) := fun ob => (HBX.out _ ((Off.refl _ _).alloc ob)).2.1
      have hb3 : ∀ ob, (wr.alloc ob).cell? ⟨b15 + 1, 1, none⟩ = some (.pointer (some ⟨q1, 0, none⟩)) := fun ob => (HBX.out _ ((Off.refl _ _).alloc ob)).2.2
      clear HEL HBX
      have HO := Lib.hid HT.out.offs
      have HCY := Lib.hid (HT.out.callY ⟨false, 5, ⟨0, 0, 0, 0, 0⟩, 0⟩ _ ((Off.refl _ _).alloc (.cells #[.bool false, .int .i64 5, .int .i64 0, .int .i64 0, .int .i64 0, .int .i64 0, .int .i64 0, .int .i64 0] 72)))
      go_wp2_with fail
      refine HCY.out.mono ?_
      rintro e w7 ⟨rfl, h6, h7⟩
      have HO7 := Lib.hid h6.offs
      clear h6 h7 HCY
      go_wp2_with fail
      go_ret
      exact ⟨rfl, HO7.out⟩
set_option maxRecDepth 100000 in
set_option maxHeartbeats 8000000 in
theorem tableAll_NN (w : World) (a : Int) (ha : a < 1 ∨ 8 < a) (c : Int) (hc : c < 1 ∨ 8 < c) (v : Value) (l : List St) (h : StepRows w v l) :
    Calls Try.prog 10 #[.int .i64 a, .int .i64 c, v] w fun e w' => e = .returned (.bool true) ∧ Off [] w w' := by
  obtain ⟨ao, cap, rfl, hlen, hel⟩ := h
  have HEL : Hid (∀ W, Off [] w W → ∀ (i : Nat) (t : St), l[i]? = some t → ∃ b off, ao = some ⟨b, off, none⟩ ∧ ∀ j, j < 8 → W.cell? ⟨b, off + i * 8 + j, none⟩ = (stCells t)[j]?) := fun W ho i t ht => by
    obtain ⟨b, off, e, hb, hc⟩ := hel i t ht
    refine ⟨b, off, e, fun j hj => ?_⟩
    rw [World.cell?_of_block (a := ⟨b, off + i * 8 + j, none⟩) (ho.old b hb (by simp)), Nat.add_assoc]; exact hc j hj
  clear hel
  generalize hN : l.length = len at *
  have HN := Lib.hid hN
  clear hN
  have HX1 := Lib.hid (new30_bad a w ha)
  have HX2 := Lib.hid (new31_bad a · ha)
  clear ha
  have HY1 := Lib.hid (new30_bad c · hc)
  have HY2 := Lib.hid (new31_bad c · hc)
  clear hc
  go_enter Try.func10, Try.ntmps10
  go_wp2_with fail
  refine HX1.out.mono ?_
  rintro e w1 ⟨rfl, rfl⟩
  go_wp2_with fail
  refine (HX2.out w).mono ?_
  rintro e w1 ⟨rfl, rfl⟩
  have HX : Hid (SlotP w none [] ∧ Off [] w w ∧ ∀ z ∈ ([] : List Nat), w.heap.size ≤ z) := ⟨rfl, Off.refl _ _, by simp⟩
  clear HX1 HX2
  go_wp2_with fail
  refine (HY1.out w).mono ?_
  rintro e w3 ⟨rfl, rfl⟩
  go_wp2_with fail
  refine (HY2.out w).mono ?_
  rintro e w3 ⟨rfl, rfl⟩
  have HY : Hid (SlotP w none [] ∧ Off [] w w ∧ ∀ z ∈ ([] : List Nat), w.heap.size ≤ z) := ⟨rfl, Off.refl _ _, by simp⟩
  clear HY1 HY2
  go_wp2_with fail
  refine (known32 w).mono ?_
  rintro e w5 ⟨rfl, o5⟩
  have HR0 : Hid (TabsRel w w5.heap.size (w5.heap.size + 1) none none ((w5.alloc (.cells #[pvOf none, rvOf none] 68)).alloc (.cells #[pvOf none, rvOf none] 68))) := TabsRel.start HX.out.2.1 HY.out.2.1 HX.out.1 HY.out.1 HX.out.2.2 HY.out.2.2 w5 o5
  clear o5 HX HY
  go_wp2_with fail
  generalize hb15 : w5.heap.size = b15 at HR0 ⊢
  clear hb15
  go_loopw [17, 18] (fun i _ wr => ∃ k : Nat, k ≤ len ∧ i = .int .i64 k ∧ TabsRel w b15 (b15 + 1) none none wr) (fun i _ _ => len - (intOf i).toNat)
  case atStart => exact ⟨0, Nat.zero_le _, rfl, HR0.out⟩
  case round =>
    obtain ⟨k, hk, rfl, ht⟩ := hrel
    have HT := Lib.hid ht
    clear ht HR0
    by_cases hlt : k < len
    · obtain ⟨t, hkt⟩ : ∃ t, l[k]? = some t := ⟨l[k]'(by have := HN.out; omega), List.getElem?_eq_getElem _⟩
      obtain ⟨b, off, rfl, hcs⟩ := HEL.out wr HT.out.offs k t hkt
      obtain ⟨se, kind, ⟨rb, ri, rs, rl, rn⟩, tn⟩ := t
      have c0 : wr.cell? ⟨b, off + k * 8, none⟩ = some (.bool se) := hcs 0 (by omega)
      have c1 : wr.cell? ⟨b, off + k * 8 + 1, none⟩ = some (.int .i64 kind) := hcs 1 (by omega)
      have c2 : wr.cell? ⟨b, off + k * 8 + 2, none⟩ = some (.int .i64 rb) := hcs 2 (by omega)
      have c3 : wr.cell? ⟨b, off + k * 8 + 3, none⟩ = some (.int .i64 ri) := hcs 3 (by omega)
      have c4 : wr.cell? ⟨b, off + k * 8 + 4, none⟩ = some (.int .i64 rs) := hcs 4 (by omega)
      have c5 : wr.cell? ⟨b, off + k * 8 + 5, none⟩ = some (.int .i64 rl) := hcs 5 (by omega)
      have c6 : wr.cell? ⟨b, off + k * 8 + 6, none⟩ = some (.int .i64 rn) := hcs 6 (by omega)
      have c7 : wr.cell? ⟨b, off + k * 8 + 7, none⟩ = some (.int .i64 tn) := hcs 7 (by omega)
      have hbx : (wr.cell? ⟨b15, 0, none⟩ = some (.pointer none) ∧ wr.cell? ⟨b15, 1, none⟩ = some (.pointer none)) ∧ wr.cell? ⟨b15 + 1, 0, none⟩ = some (.pointer none) ∧ wr.cell? ⟨b15 + 1, 1, none⟩ = some (.pointer none) := HT.out.boxes
      obtain ⟨⟨d0, d1⟩, d2, d3⟩ := hbx
      clear hkt hcs HEL
      cases se with
      | true =>
        go_wp2_with fail
        go_roundw
        case rel => exact ⟨k + 1, by omega, by go_num, HT.out⟩
        case measure => simp [intOf]; omega
      | false =>
        go_wp2_with fail
        go_roundw
        case rel => exact ⟨k + 1, by omega, by go_num, HT.out⟩
        case measure => simp [intOf]; omega
    · have e : k = len := by omega
      subst e
      have HBX := Lib.hid (fun W ho => (HT.out.off (w' := W) ho).boxes)
      have hb0 : ∀ ob, (wr.alloc ob).cell? ⟨b15, 0, none⟩ = some (.pointer none) := fun ob => (HBX.out _ ((Off.refl _ _).alloc ob)).1.1
      have hb1 : ∀ ob, (wr.alloc ob).cell? ⟨b15, 1, none⟩ = some (.pointer none) := fun ob => (HBX.out _ ((Off.refl _ _).alloc ob)).1.2
      have hb2 : ∀ ob, (wr.alloc ob).cell? ⟨b15 + 1, 0, none⟩ = some (.pointer none) := fun ob => (HBX.out _ ((Off.refl _ _).alloc ob)).2.1
      have hb3 : ∀ ob, (wr.alloc ob).cell? ⟨b15 + 1, 1, none⟩ = some (.pointer none) := fun ob => (HBX.out _ ((Off.refl _ _).alloc ob)).2.2
      clear HEL HBX
      have HO := Lib.hid HT.out.offs
      go_wp2_with fail
      go_ret
      exact ⟨rfl, (HO.out.alloc _)⟩
theorem tableAll_walk (w : World) (a : Int) (_ : InI64 a) (c : Int) (_ : InI64 c) (v : Value) (l : List St) (h : StepRows w v l) :
    Calls Try.prog 10 #[.int .i64 a, .int .i64 c, v] w fun e w' => e = .returned (.bool true) ∧ Below w.heap.size w w' := by
  have key : Calls Try.prog 10 #[.int .i64 a, .int .i64 c, v] w fun e w' => e = .returned (.bool true) ∧ Off [] w w' := by
    by_cases ha : 1 ≤ a ∧ a ≤ 8
    · obtain ⟨m, rfl⟩ := Int.eq_ofNat_of_zero_le (show 0 ≤ a by omega)
      by_cases hc : 1 ≤ c ∧ c ≤ 8
      · obtain ⟨n, rfl⟩ := Int.eq_ofNat_of_zero_le (show 0 ≤ c by omega)
        exact tableAll_YY w m (by omega) (by omega) n (by omega) (by omega) v l h
      · exact tableAll_YN w m (by omega) (by omega) c (by omega) v l h
    · by_cases hc : 1 ≤ c ∧ c ≤ 8
      · obtain ⟨n, rfl⟩ := Int.eq_ofNat_of_zero_le (show 0 ≤ c by omega)
        exact tableAll_NY w a (by omega) n (by omega) (by omega) v l h
      · exact tableAll_NN w a (by omega) c (by omega) v l h
  exact key.mono fun e w' ⟨he, ho⟩ => ⟨he, ho.below⟩
end Go.Proofs.Ytlhmcbcoaplcaaa
