/- Pair.step: Put, Set, Get, ById, Drop. -/
import Derived.Test.YtlhmcbcoaplcaaaTLawD
set_option linter.unusedVariables false
set_option linter.unusedSimpArgs false
namespace Go.Proofs.Ytlhmcbcoaplcaaa
open Go.ChangeShapes Go.WideShapes Go.ChangeAt Go.RowKit

set_option maxRecDepth 100000 in
set_option maxHeartbeats 8000000 in
theorem step33_put {w : World} {pb qb : Nat} {f : List Nat} {most : Nat} (h : TwoP w pb qb f most) (se : Bool) (r : Rw) (m : Int) :
    Calls Try.prog 33 #[.agg #[.pointer (some ⟨pb, 0, none⟩), .pointer (some ⟨qb, 0, none⟩)], .agg #[.bool se, .int .i64 0, .int .i64 r.birth, .int .i64 r.id, .int .i64 r.state, .int .i64 r.last, .int .i64 r.next, .int .i64 m]] w fun e w' => e = .returned (.bool true) ∧ TwoStep pb qb f most w w' := by
  have hlt := h.lt
  obtain ⟨fp, fq, L, M, hp, hq, hperm, hd, rfl⟩ := h
  obtain ⟨I, hi⟩ := hp.inv
  have HJ1 := Lib.hid (join_ab (opA_put r) (opB_put hi.small hi.len hperm r) hp hq hd)
  have HJ2 := Lib.hid (join_ba (opA_put r) (opB_put hi.small hi.len hperm r) hp hq hd)
  generalize putCode most L r = code at *
  obtain ⟨b, i, s, l, n⟩ := r
  unfold ragg at HJ1 HJ2
  simp only at HJ1 HJ2 ⊢
  have hK : ∀ W, Off (fp ++ fq) ((w.alloc (.cells #[.pointer (some ⟨pb, 0, none⟩), .pointer (some ⟨qb, 0, none⟩)] 68)).alloc (.cells #[.bool se, .int .i64 0, .int .i64 b, .int .i64 i, .int .i64 s, .int .i64 l, .int .i64 n, .int .i64 m] 72)) W → Boxes W w.heap.size pb qb se 0 b i s l n m := fun W ho => by
    have q1 := ((IsC.new w #[.pointer (some ⟨pb, 0, none⟩), .pointer (some ⟨qb, 0, none⟩)] 68).alloc (.cells #[.bool se, .int .i64 0, .int .i64 b, .int .i64 i, .int .i64 s, .int .i64 l, .int .i64 n, .int .i64 m] 72)).off ho (fun hx => by have := hlt _ hx; omega)
    have q2 : IsC W (w.heap.size + 1) #[.bool se, .int .i64 0, .int .i64 b, .int .i64 i, .int .i64 s, .int .i64 l, .int .i64 n, .int .i64 m] 72 := (IsC.newAt (w := w.alloc _) (w.heap.size + 1) (by simp)).off ho (fun hx => by have := hlt _ hx; omega)
    exact ⟨by rw [q1.cell]; rfl, by rw [q1.cell]; rfl, by rw [q2.cell]; rfl, by rw [q2.cell]; rfl, by rw [q2.cell]; rfl, by rw [q2.cell]; rfl, by rw [q2.cell]; rfl, by rw [q2.cell]; rfl⟩
  unfold Boxes at hK
  have HK := Lib.hid hK
  have HLT := Lib.hid hlt
  have HO : Hid (Off [] w ((w.alloc (.cells #[.pointer (some ⟨pb, 0, none⟩), .pointer (some ⟨qb, 0, none⟩)] 68)).alloc (.cells #[.bool se, .int .i64 0, .int .i64 b, .int .i64 i, .int .i64 s, .int .i64 l, .int .i64 n, .int .i64 m] 72))) := ((Off.refl [] w).alloc _).alloc _
  clear hp hq hperm hd hi hlt hK
  go_enter Try.func33, Try.ntmps33
  go_upto_region 3 with fail
  generalize hW0 : World.alloc (World.alloc w _) _ = W0 at HK HO ⊢
  clear hW0
  have HJ3 := Lib.hid (HJ1.out _ HO.out.drew)
  have HJ4 := Lib.hid (HJ2.out _ HO.out.drew)
  have HK0 := Lib.hid (HK.out _ (Off.refl _ _).drew)
  clear HJ1 HJ2
  go_region_held3 (fun w' => w'.cell? ⟨w.heap.size, 0, none⟩ = some (.pointer (some ⟨pb, 0, none⟩)) ∧ w'.cell? ⟨w.heap.size, 1, none⟩ = some (.pointer (some ⟨qb, 0, none⟩)) ∧ w'.cell? ⟨w.heap.size + 1, 2, none⟩ = some (.int .i64 b) ∧ w'.cell? ⟨w.heap.size + 1, 3, none⟩ = some (.int .i64 i) ∧ w'.cell? ⟨w.heap.size + 1, 4, none⟩ = some (.int .i64 s) ∧ w'.cell? ⟨w.heap.size + 1, 5, none⟩ = some (.int .i64 l) ∧ w'.cell? ⟨w.heap.size + 1, 6, none⟩ = some (.int .i64 n) ∧ w'.cell? ⟨w.heap.size + 1, 7, none⟩ = some (.int .i64 m))
    (first | exact HK0.out | exact HK.out _ HOA.out | exact HK.out _ HOB.out | fail)
    (first
      | (go_at_call 40; refine HJ3.out.mono ?_; rintro e w1 ⟨rfl, o1, h1⟩; have HOA : Hid (Off (fp ++ fq) W0 w1) := ((Off.refl _ _).drew).trans o1 (fun x hx => .inl hx); have HNX := Lib.hid (h1 w1 (Off.refl _ _)); clear o1 h1)
      | (go_at_call 50; refine HNX.out.mono ?_; rintro e w2 ⟨rfl, o2, h2⟩; have HOB : Hid (Off (fp ++ fq) W0 w2) := HOA.out.trans o2 (fun x hx => .inl hx); have HTS := Lib.hid h2; clear o2 h2)
      | (go_at_call 50; refine HJ4.out.mono ?_; rintro e w1 ⟨rfl, o1, h1⟩; have HOA : Hid (Off (fp ++ fq) W0 w1) := ((Off.refl _ _).drew).trans o1 (fun x hx => .inl hx); have HNX := Lib.hid (h1 w1 (Off.refl _ _)); clear o1 h1)
      | (go_at_call 40; refine HNX.out.mono ?_; rintro e w2 ⟨rfl, o2, h2⟩; have HOB : Hid (Off (fp ++ fq) W0 w2) := HOA.out.trans o2 (fun x hx => .inl hx); have HTS := Lib.hid h2; clear o2 h2))
  all_goals
    go_wp2_with fail
    go_ret
    exact ⟨rfl, HTS.out⟩

set_option maxRecDepth 100000 in
set_option maxHeartbeats 8000000 in
theorem step33_set {w : World} {pb qb : Nat} {f : List Nat} {most : Nat} (h : TwoP w pb qb f most) (se : Bool) (r : Rw) (m : Int) :
    Calls Try.prog 33 #[.agg #[.pointer (some ⟨pb, 0, none⟩), .pointer (some ⟨qb, 0, none⟩)], .agg #[.bool se, .int .i64 1, .int .i64 r.birth, .int .i64 r.id, .int .i64 r.state, .int .i64 r.last, .int .i64 r.next, .int .i64 m]] w fun e w' => e = .returned (.bool true) ∧ TwoStep pb qb f most w w' := by
  have hlt := h.lt
  obtain ⟨fp, fq, L, M, hp, hq, hperm, hd, rfl⟩ := h
  obtain ⟨I, hi⟩ := hp.inv
  have HJ1 := Lib.hid (join_ab (opA_set r) (opB_set hi hperm r) hp hq hd)
  have HJ2 := Lib.hid (join_ba (opA_set r) (opB_set hi hperm r) hp hq hd)
  generalize setCode L r = code at *
  obtain ⟨b, i, s, l, n⟩ := r
  unfold ragg at HJ1 HJ2
  simp only at HJ1 HJ2 ⊢
  have hK : ∀ W, Off (fp ++ fq) ((w.alloc (.cells #[.pointer (some ⟨pb, 0, none⟩), .pointer (some ⟨qb, 0, none⟩)] 68)).alloc (.cells #[.bool se, .int .i64 1, .int .i64 b, .int .i64 i, .int .i64 s, .int .i64 l, .int .i64 n, .int .i64 m] 72)) W → Boxes W w.heap.size pb qb se 1 b i s l n m := fun W ho => by
    have q1 := ((IsC.new w #[.pointer (some ⟨pb, 0, none⟩), .pointer (some ⟨qb, 0, none⟩)] 68).alloc (.cells #[.bool se, .int .i64 1, .int .i64 b, .int .i64 i, .int .i64 s, .int .i64 l, .int .i64 n, .int .i64 m] 72)).off ho (fun hx => by have := hlt _ hx; omega)
    have q2 : IsC W (w.heap.size + 1) #[.bool se, .int .i64 1, .int .i64 b, .int .i64 i, .int .i64 s, .int .i64 l, .int .i64 n, .int .i64 m] 72 := (IsC.newAt (w := w.alloc _) (w.heap.size + 1) (by simp)).off ho (fun hx => by have := hlt _ hx; omega)
    exact ⟨by rw [q1.cell]; rfl, by rw [q1.cell]; rfl, by rw [q2.cell]; rfl, by rw [q2.cell]; rfl, by rw [q2.cell]; rfl, by rw [q2.cell]; rfl, by rw [q2.cell]; rfl, by rw [q2.cell]; rfl⟩
  unfold Boxes at hK
  have HK := Lib.hid hK
  have HLT := Lib.hid hlt
  have HO : Hid (Off [] w ((w.alloc (.cells #[.pointer (some ⟨pb, 0, none⟩), .pointer (some ⟨qb, 0, none⟩)] 68)).alloc (.cells #[.bool se, .int .i64 1, .int .i64 b, .int .i64 i, .int .i64 s, .int .i64 l, .int .i64 n, .int .i64 m] 72))) := ((Off.refl [] w).alloc _).alloc _
  clear hp hq hperm hd hi hlt hK
  go_enter Try.func33, Try.ntmps33
  go_upto_region 5 with fail
  generalize hW0 : World.alloc (World.alloc w _) _ = W0 at HK HO ⊢
  clear hW0
  have HJ3 := Lib.hid (HJ1.out _ HO.out.drew)
  have HJ4 := Lib.hid (HJ2.out _ HO.out.drew)
  have HK0 := Lib.hid (HK.out _ (Off.refl _ _).drew)
  clear HJ1 HJ2
  go_region_held3 (fun w' => w'.cell? ⟨w.heap.size, 0, none⟩ = some (.pointer (some ⟨pb, 0, none⟩)) ∧ w'.cell? ⟨w.heap.size, 1, none⟩ = some (.pointer (some ⟨qb, 0, none⟩)) ∧ w'.cell? ⟨w.heap.size + 1, 2, none⟩ = some (.int .i64 b) ∧ w'.cell? ⟨w.heap.size + 1, 3, none⟩ = some (.int .i64 i) ∧ w'.cell? ⟨w.heap.size + 1, 4, none⟩ = some (.int .i64 s) ∧ w'.cell? ⟨w.heap.size + 1, 5, none⟩ = some (.int .i64 l) ∧ w'.cell? ⟨w.heap.size + 1, 6, none⟩ = some (.int .i64 n) ∧ w'.cell? ⟨w.heap.size + 1, 7, none⟩ = some (.int .i64 m))
    (first | exact HK0.out | exact HK.out _ HOA.out | exact HK.out _ HOB.out | fail)
    (first
      | (go_at_call 51; refine HJ3.out.mono ?_; rintro e w1 ⟨rfl, o1, h1⟩; have HOA : Hid (Off (fp ++ fq) W0 w1) := ((Off.refl _ _).drew).trans o1 (fun x hx => .inl hx); have HNX := Lib.hid (h1 w1 (Off.refl _ _)); clear o1 h1)
      | (go_at_call 52; refine HNX.out.mono ?_; rintro e w2 ⟨rfl, o2, h2⟩; have HOB : Hid (Off (fp ++ fq) W0 w2) := HOA.out.trans o2 (fun x hx => .inl hx); have HTS := Lib.hid h2; clear o2 h2)
      | (go_at_call 52; refine HJ4.out.mono ?_; rintro e w1 ⟨rfl, o1, h1⟩; have HOA : Hid (Off (fp ++ fq) W0 w1) := ((Off.refl _ _).drew).trans o1 (fun x hx => .inl hx); have HNX := Lib.hid (h1 w1 (Off.refl _ _)); clear o1 h1)
      | (go_at_call 51; refine HNX.out.mono ?_; rintro e w2 ⟨rfl, o2, h2⟩; have HOB : Hid (Off (fp ++ fq) W0 w2) := HOA.out.trans o2 (fun x hx => .inl hx); have HTS := Lib.hid h2; clear o2 h2))
  all_goals
    go_wp2_with fail
    go_ret
    exact ⟨rfl, HTS.out⟩

set_option maxRecDepth 100000 in
set_option maxHeartbeats 8000000 in
theorem step33_get {w : World} {pb qb : Nat} {f : List Nat} {most : Nat} (h : TwoP w pb qb f most) (se : Bool) (r : Rw) (m : Int) :
    Calls Try.prog 33 #[.agg #[.pointer (some ⟨pb, 0, none⟩), .pointer (some ⟨qb, 0, none⟩)], .agg #[.bool se, .int .i64 2, .int .i64 r.birth, .int .i64 r.id, .int .i64 r.state, .int .i64 r.last, .int .i64 r.next, .int .i64 m]] w fun e w' => e = .returned (.bool true) ∧ TwoStep pb qb f most w w' := by
  have hlt := h.lt
  obtain ⟨fp, fq, L, M, hp, hq, hperm, hd, rfl⟩ := h
  obtain ⟨I, hi⟩ := hp.inv
  have HJ1 := Lib.hid (join_ab (opA_get m) (opB_get hi hperm m) hp hq hd)
  have HJ2 := Lib.hid (join_ba (opA_get m) (opB_get hi hperm m) hp hq hd)
  obtain ⟨old, hold⟩ : ∃ x, x = (getL L m).getD Rw.zero := ⟨_, rfl⟩
  rw [← hold] at HJ1 HJ2
  clear hold
  generalize (getL L m).isSome = bo at *
  obtain ⟨b', i', s', l', n'⟩ := old
  obtain ⟨b, i, s, l, n⟩ := r
  unfold ragg at HJ1 HJ2
  simp only at HJ1 HJ2 ⊢
  have hK : ∀ W, Off (fp ++ fq) ((w.alloc (.cells #[.pointer (some ⟨pb, 0, none⟩), .pointer (some ⟨qb, 0, none⟩)] 68)).alloc (.cells #[.bool se, .int .i64 2, .int .i64 b, .int .i64 i, .int .i64 s, .int .i64 l, .int .i64 n, .int .i64 m] 72)) W → Boxes W w.heap.size pb qb se 2 b i s l n m := fun W ho => by
    have q1 := ((IsC.new w #[.pointer (some ⟨pb, 0, none⟩), .pointer (some ⟨qb, 0, none⟩)] 68).alloc (.cells #[.bool se, .int .i64 2, .int .i64 b, .int .i64 i, .int .i64 s, .int .i64 l, .int .i64 n, .int .i64 m] 72)).off ho (fun hx => by have := hlt _ hx; omega)
    have q2 : IsC W (w.heap.size + 1) #[.bool se, .int .i64 2, .int .i64 b, .int .i64 i, .int .i64 s, .int .i64 l, .int .i64 n, .int .i64 m] 72 := (IsC.newAt (w := w.alloc _) (w.heap.size + 1) (by simp)).off ho (fun hx => by have := hlt _ hx; omega)
    exact ⟨by rw [q1.cell]; rfl, by rw [q1.cell]; rfl, by rw [q2.cell]; rfl, by rw [q2.cell]; rfl, by rw [q2.cell]; rfl, by rw [q2.cell]; rfl, by rw [q2.cell]; rfl, by rw [q2.cell]; rfl⟩
  unfold Boxes at hK
  have HK := Lib.hid hK
  have HLT := Lib.hid hlt
  have HO : Hid (Off [] w ((w.alloc (.cells #[.pointer (some ⟨pb, 0, none⟩), .pointer (some ⟨qb, 0, none⟩)] 68)).alloc (.cells #[.bool se, .int .i64 2, .int .i64 b, .int .i64 i, .int .i64 s, .int .i64 l, .int .i64 n, .int .i64 m] 72))) := ((Off.refl [] w).alloc _).alloc _
  clear hp hq hperm hd hi hlt hK
  go_enter Try.func33, Try.ntmps33
  go_upto_region 7 with fail
  generalize hW0 : World.alloc (World.alloc w _) _ = W0 at HK HO ⊢
  have HSZ := Lib.hid (show w.heap.size + 2 = W0.heap.size by rw [← hW0]; simp)
  clear hW0
  have HJ3 := Lib.hid (HJ1.out _ HO.out)
  obtain ⟨k0, k1, k2, k3, k4, k5, k6, k7⟩ := HK.out _ (Off.refl _ _)
  clear HJ1 HJ2
  go_wp2_with fail
  refine HJ3.out.mono ?_
  rintro e w1 ⟨rfl, o1, h1⟩
  clear k0 k1 k2 k3 k4 k5 k6 k7
  have HNX := Lib.hid (h1 (w1.alloc (.cells #[.int .i64 b', .int .i64 i', .int .i64 s', .int .i64 l', .int .i64 n'] 70)) ((Off.refl _ _).alloc _))
  have HK1 := Lib.hid (fun ob => HK.out _ (o1.alloc ob))
  have HX : Hid (∀ w2, Off (fp ++ fq) (w1.alloc (.cells #[.int .i64 b', .int .i64 i', .int .i64 s', .int .i64 l', .int .i64 n'] 70)) w2 → ∀ ob, R5 (w2.alloc ob) w1.heap.size b' i' s' l' n') := fun w2 ho ob => by
    have q := o1.size
    exact (((IsC.new w1 _ 70).off ho (fun hx => by have := HLT.out _ hx; have := HSZ.out; omega)).alloc ob).r5
  clear o1 h1 HJ3
  have kk0 := fun ob => (HK1.out ob).2.1
  have kk1 := fun ob => (HK1.out ob).2.2.2.2.2.2.2
  go_wp2_with fail
  refine HNX.out.mono ?_
  rintro e w2 ⟨rfl, o2, h2⟩
  have z0 := fun ob => (HX.out w2 o2 ob).1
  have z1 := fun ob => (HX.out w2 o2 ob).2.1
  have z2 := fun ob => (HX.out w2 o2 ob).2.2.1
  have z3 := fun ob => (HX.out w2 o2 ob).2.2.2.1
  have z4 := fun ob => (HX.out w2 o2 ob).2.2.2.2.1
  have HTS : Hid (∀ w3, Off [] w2 w3 → TwoStep pb qb (fp ++ fq) most w w3) := fun w3 ho => TwoStep.ends (Off.refl _ _) h2 ho
  clear o2 h2 kk0 kk1 HNX HX HK1
  go_wp2_with fail
  go_ret
  exact ⟨rfl, HTS.out _ ((Off.refl _ _).alloc _)⟩

set_option maxRecDepth 100000 in
set_option maxHeartbeats 8000000 in
theorem step33_byId {w : World} {pb qb : Nat} {f : List Nat} {most : Nat} (h : TwoP w pb qb f most) (se : Bool) (r : Rw) (m : Int) :
    Calls Try.prog 33 #[.agg #[.pointer (some ⟨pb, 0, none⟩), .pointer (some ⟨qb, 0, none⟩)], .agg #[.bool se, .int .i64 3, .int .i64 r.birth, .int .i64 r.id, .int .i64 r.state, .int .i64 r.last, .int .i64 r.next, .int .i64 m]] w fun e w' => e = .returned (.bool true) ∧ TwoStep pb qb f most w w' := by
  have hlt := h.lt
  obtain ⟨fp, fq, L, M, hp, hq, hperm, hd, rfl⟩ := h
  obtain ⟨I, hi⟩ := hp.inv
  have HJ1 := Lib.hid (join_ab (opA_byId m) (opB_byId hi hperm m) hp hq hd)
  have HJ2 := Lib.hid (join_ba (opA_byId m) (opB_byId hi hperm m) hp hq hd)
  obtain ⟨old, hold⟩ : ∃ x, x = (idL L m).getD Rw.zero := ⟨_, rfl⟩
  rw [← hold] at HJ1 HJ2
  clear hold
  generalize (idL L m).isSome = bo at *
  obtain ⟨b', i', s', l', n'⟩ := old
  obtain ⟨b, i, s, l, n⟩ := r
  unfold ragg at HJ1 HJ2
  simp only at HJ1 HJ2 ⊢
  have hK : ∀ W, Off (fp ++ fq) ((w.alloc (.cells #[.pointer (some ⟨pb, 0, none⟩), .pointer (some ⟨qb, 0, none⟩)] 68)).alloc (.cells #[.bool se, .int .i64 3, .int .i64 b, .int .i64 i, .int .i64 s, .int .i64 l, .int .i64 n, .int .i64 m] 72)) W → Boxes W w.heap.size pb qb se 3 b i s l n m := fun W ho => by
    have q1 := ((IsC.new w #[.pointer (some ⟨pb, 0, none⟩), .pointer (some ⟨qb, 0, none⟩)] 68).alloc (.cells #[.bool se, .int .i64 3, .int .i64 b, .int .i64 i, .int .i64 s, .int .i64 l, .int .i64 n, .int .i64 m] 72)).off ho (fun hx => by have := hlt _ hx; omega)
    have q2 : IsC W (w.heap.size + 1) #[.bool se, .int .i64 3, .int .i64 b, .int .i64 i, .int .i64 s, .int .i64 l, .int .i64 n, .int .i64 m] 72 := (IsC.newAt (w := w.alloc _) (w.heap.size + 1) (by simp)).off ho (fun hx => by have := hlt _ hx; omega)
    exact ⟨by rw [q1.cell]; rfl, by rw [q1.cell]; rfl, by rw [q2.cell]; rfl, by rw [q2.cell]; rfl, by rw [q2.cell]; rfl, by rw [q2.cell]; rfl, by rw [q2.cell]; rfl, by rw [q2.cell]; rfl⟩
  unfold Boxes at hK
  have HK := Lib.hid hK
  have HLT := Lib.hid hlt
  have HO : Hid (Off [] w ((w.alloc (.cells #[.pointer (some ⟨pb, 0, none⟩), .pointer (some ⟨qb, 0, none⟩)] 68)).alloc (.cells #[.bool se, .int .i64 3, .int .i64 b, .int .i64 i, .int .i64 s, .int .i64 l, .int .i64 n, .int .i64 m] 72))) := ((Off.refl [] w).alloc _).alloc _
  clear hp hq hperm hd hi hlt hK
  go_enter Try.func33, Try.ntmps33
  go_upto_region 11 with fail
  generalize hW0 : World.alloc (World.alloc w _) _ = W0 at HK HO ⊢
  have HSZ := Lib.hid (show w.heap.size + 2 = W0.heap.size by rw [← hW0]; simp)
  clear hW0
  have HJ3 := Lib.hid (HJ1.out _ HO.out)
  obtain ⟨k0, k1, k2, k3, k4, k5, k6, k7⟩ := HK.out _ (Off.refl _ _)
  clear HJ1 HJ2
  go_wp2_with fail
  refine HJ3.out.mono ?_
  rintro e w1 ⟨rfl, o1, h1⟩
  clear k0 k1 k2 k3 k4 k5 k6 k7
  have HNX := Lib.hid (h1 (w1.alloc (.cells #[.int .i64 b', .int .i64 i', .int .i64 s', .int .i64 l', .int .i64 n'] 70)) ((Off.refl _ _).alloc _))
  have HK1 := Lib.hid (fun ob => HK.out _ (o1.alloc ob))
  have HX : Hid (∀ w2, Off (fp ++ fq) (w1.alloc (.cells #[.int .i64 b', .int .i64 i', .int .i64 s', .int .i64 l', .int .i64 n'] 70)) w2 → ∀ ob, R5 (w2.alloc ob) w1.heap.size b' i' s' l' n') := fun w2 ho ob => by
    have q := o1.size
    exact (((IsC.new w1 _ 70).off ho (fun hx => by have := HLT.out _ hx; have := HSZ.out; omega)).alloc ob).r5
  clear o1 h1 HJ3
  have kk0 := fun ob => (HK1.out ob).2.1
  have kk1 := fun ob => (HK1.out ob).2.2.2.2.2.2.2
  go_wp2_with fail
  refine HNX.out.mono ?_
  rintro e w2 ⟨rfl, o2, h2⟩
  have z0 := fun ob => (HX.out w2 o2 ob).1
  have z1 := fun ob => (HX.out w2 o2 ob).2.1
  have z2 := fun ob => (HX.out w2 o2 ob).2.2.1
  have z3 := fun ob => (HX.out w2 o2 ob).2.2.2.1
  have z4 := fun ob => (HX.out w2 o2 ob).2.2.2.2.1
  have HTS : Hid (∀ w3, Off [] w2 w3 → TwoStep pb qb (fp ++ fq) most w w3) := fun w3 ho => TwoStep.ends (Off.refl _ _) h2 ho
  clear o2 h2 kk0 kk1 HNX HX HK1
  go_wp2_with fail
  go_ret
  exact ⟨rfl, HTS.out _ ((Off.refl _ _).alloc _)⟩

set_option maxRecDepth 100000 in
set_option maxHeartbeats 8000000 in
theorem step33_drop {w : World} {pb qb : Nat} {f : List Nat} {most : Nat} (h : TwoP w pb qb f most) (se : Bool) (r : Rw) (m : Int) :
    Calls Try.prog 33 #[.agg #[.pointer (some ⟨pb, 0, none⟩), .pointer (some ⟨qb, 0, none⟩)], .agg #[.bool se, .int .i64 4, .int .i64 r.birth, .int .i64 r.id, .int .i64 r.state, .int .i64 r.last, .int .i64 r.next, .int .i64 m]] w fun e w' => e = .returned (.bool true) ∧ TwoStep pb qb f most w w' := by
  have hlt := h.lt
  obtain ⟨fp, fq, L, M, hp, hq, hperm, hd, rfl⟩ := h
  obtain ⟨I, hi⟩ := hp.inv
  have HJ1 := Lib.hid (join_ab (opA_drop m) (opB_drop hi hperm m) hp hq hd)
  have HJ2 := Lib.hid (join_ba (opA_drop m) (opB_drop hi hperm m) hp hq hd)
  obtain ⟨old, hold⟩ : ∃ x, x = (getL L m).getD Rw.zero := ⟨_, rfl⟩
  rw [← hold] at HJ1 HJ2
  clear hold
  generalize (getL L m).isSome = bo at *
  obtain ⟨b', i', s', l', n'⟩ := old
  obtain ⟨b, i, s, l, n⟩ := r
  unfold ragg at HJ1 HJ2
  simp only at HJ1 HJ2 ⊢
  have hK : ∀ W, Off (fp ++ fq) ((w.alloc (.cells #[.pointer (some ⟨pb, 0, none⟩), .pointer (some ⟨qb, 0, none⟩)] 68)).alloc (.cells #[.bool se, .int .i64 4, .int .i64 b, .int .i64 i, .int .i64 s, .int .i64 l, .int .i64 n, .int .i64 m] 72)) W → Boxes W w.heap.size pb qb se 4 b i s l n m := fun W ho => by
    have q1 := ((IsC.new w #[.pointer (some ⟨pb, 0, none⟩), .pointer (some ⟨qb, 0, none⟩)] 68).alloc (.cells #[.bool se, .int .i64 4, .int .i64 b, .int .i64 i, .int .i64 s, .int .i64 l, .int .i64 n, .int .i64 m] 72)).off ho (fun hx => by have := hlt _ hx; omega)
    have q2 : IsC W (w.heap.size + 1) #[.bool se, .int .i64 4, .int .i64 b, .int .i64 i, .int .i64 s, .int .i64 l, .int .i64 n, .int .i64 m] 72 := (IsC.newAt (w := w.alloc _) (w.heap.size + 1) (by simp)).off ho (fun hx => by have := hlt _ hx; omega)
    exact ⟨by rw [q1.cell]; rfl, by rw [q1.cell]; rfl, by rw [q2.cell]; rfl, by rw [q2.cell]; rfl, by rw [q2.cell]; rfl, by rw [q2.cell]; rfl, by rw [q2.cell]; rfl, by rw [q2.cell]; rfl⟩
  unfold Boxes at hK
  have HK := Lib.hid hK
  have HLT := Lib.hid hlt
  have HO : Hid (Off [] w ((w.alloc (.cells #[.pointer (some ⟨pb, 0, none⟩), .pointer (some ⟨qb, 0, none⟩)] 68)).alloc (.cells #[.bool se, .int .i64 4, .int .i64 b, .int .i64 i, .int .i64 s, .int .i64 l, .int .i64 n, .int .i64 m] 72))) := ((Off.refl [] w).alloc _).alloc _
  clear hp hq hperm hd hi hlt hK
  go_enter Try.func33, Try.ntmps33
  go_upto_region 15 with fail
  generalize hW0 : World.alloc (World.alloc w _) _ = W0 at HK HO ⊢
  have HSZ := Lib.hid (show w.heap.size + 2 = W0.heap.size by rw [← hW0]; simp)
  clear hW0
  have HJ3 := Lib.hid (HJ1.out _ HO.out)
  obtain ⟨k0, k1, k2, k3, k4, k5, k6, k7⟩ := HK.out _ (Off.refl _ _)
  clear HJ1 HJ2
  go_wp2_with fail
  refine HJ3.out.mono ?_
  rintro e w1 ⟨rfl, o1, h1⟩
  clear k0 k1 k2 k3 k4 k5 k6 k7
  have HNX := Lib.hid (h1 (w1.alloc (.cells #[.int .i64 b', .int .i64 i', .int .i64 s', .int .i64 l', .int .i64 n'] 70)) ((Off.refl _ _).alloc _))
  have HK1 := Lib.hid (fun ob => HK.out _ (o1.alloc ob))
  have HX : Hid (∀ w2, Off (fp ++ fq) (w1.alloc (.cells #[.int .i64 b', .int .i64 i', .int .i64 s', .int .i64 l', .int .i64 n'] 70)) w2 → ∀ ob, R5 (w2.alloc ob) w1.heap.size b' i' s' l' n') := fun w2 ho ob => by
    have q := o1.size
    exact (((IsC.new w1 _ 70).off ho (fun hx => by have := HLT.out _ hx; have := HSZ.out; omega)).alloc ob).r5
  clear o1 h1 HJ3
  have kk0 := fun ob => (HK1.out ob).2.1
  have kk1 := fun ob => (HK1.out ob).2.2.2.2.2.2.2
  go_wp2_with fail
  refine HNX.out.mono ?_
  rintro e w2 ⟨rfl, o2, h2⟩
  have z0 := fun ob => (HX.out w2 o2 ob).1
  have z1 := fun ob => (HX.out w2 o2 ob).2.1
  have z2 := fun ob => (HX.out w2 o2 ob).2.2.1
  have z3 := fun ob => (HX.out w2 o2 ob).2.2.2.1
  have z4 := fun ob => (HX.out w2 o2 ob).2.2.2.2.1
  have HTS : Hid (∀ w3, Off [] w2 w3 → TwoStep pb qb (fp ++ fq) most w w3) := fun w3 ho => TwoStep.ends (Off.refl _ _) h2 ho
  clear o2 h2 kk0 kk1 HNX HX HK1
  go_wp2_with fail
  go_ret
  exact ⟨rfl, HTS.out _ ((Off.refl _ _).alloc _)⟩

end Go.Proofs.Ytlhmcbcoaplcaaa
