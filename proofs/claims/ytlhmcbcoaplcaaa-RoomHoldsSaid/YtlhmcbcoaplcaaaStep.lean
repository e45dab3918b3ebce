/- step: one call on the program's Room and on the document's: the answers are equal, both states are the model's. -/
import Derived.Test.YtlhmcbcoaplcaaaRefD
import Derived.Test.YtlhmcbcoaplcaaaRoomH
import Derived.Deep.RegionHeld3
set_option linter.unusedVariables false
set_option linter.unusedSimpArgs false
namespace Go.Proofs.Ytlhmcbcoaplcaaa
open Go.ChangeShapes Go.WideShapes Go.ChangeAt Go.RowKit

structure Both (w : World) (rb : Nat) (fp : List Nat) (qb : Nat) (fq : List Nat) (area : Int) (L : Txns) : Prop where
  room : RoomP w rb fp area L
  ref : RefP w qb fq area L
  apart : ∀ x ∈ fp, x ∉ fq

theorem Both.off {S : List Nat} {w w' : World} {rb qb : Nat} {fp fq : List Nat} {area : Int} {L : Txns} (h : Both w rb fp qb fq area L) (ho : Off S w w') (h1 : ∀ x ∈ fp, x ∉ S) (h2 : ∀ x ∈ fq, x ∉ S) : Both w' rb fp qb fq area L :=
  ⟨h.room.off ho h1, h.ref.off ho h2, h.apart⟩

/-- Behind a call of the program's Room that leaves (a, L'), the document's still at L. -/
structure Half (w0 w : World) (rb : Nat) (fp fp' : List Nat) (qb : Nat) (fq : List Nat) (area : Int) (L L' : Txns) : Prop where
  room : RoomP w rb fp' area L'
  ref : RefP w qb fq area L
  off : Off fp w0 w
  new : ∀ x ∈ fp', x ∈ fp ∨ w0.heap.size ≤ x
  apart : ∀ x ∈ fp', x ∉ fq

theorem Both.half {w w' : World} {rb qb : Nat} {fp fq : List Nat} {area : Int} {L : Txns} {r : Int × Txns} {e : Ending} (h : Both w rb fp qb fq area L) (hs : RoomStep rb fp area r w e w') :
    e = .returned (.int .i64 r.1) ∧ ∃ fp', Half w w' rb fp fp' qb fq area L r.2 := by
  obtain ⟨rfl, fp', h1, h2, h3⟩ := hs
  refine ⟨rfl, fp', h1, h.ref.off h2 (fun x hx hx' => h.apart x hx' hx), h2, h3, fun x hx hx' => ?_⟩
  rcases h3 x hx with h4 | h4
  · exact h.apart x h4 hx'
  · have := h.ref.lt x hx'; omega

/-- What step leaves. -/
def StepPost (rb : Nat) (fp : List Nat) (qb : Nat) (fq : List Nat) (area : Int) (L' : Txns) (w : World) (e : Ending) (w' : World) : Prop :=
  e = .returned (.bool true) ∧ ∃ fp' fq', Both w' rb fp' qb fq' area L' ∧ Off (fp ++ fq) w w' ∧ (∀ x ∈ fp', x ∈ fp ∨ w.heap.size ≤ x) ∧ ∀ x ∈ fq', x ∈ fq ∨ w.heap.size ≤ x

theorem Half.whole {w0 w w' : World} {rb qb : Nat} {fp fp' fq : List Nat} {area : Int} {L L' : Txns} {r : Int × Txns} {e : Ending} {w00 : World} (h : Half w0 w rb fp fp' qb fq area L L') (hs : RefStep qb fq area r w e w') (hL : r.2 = L') (h0 : Off [] w00 w0) (hfp : ∀ x ∈ fp, x < w00.heap.size) (hfq : ∀ x ∈ fq, x < w00.heap.size) :
    e = .returned (.int .i64 r.1) ∧ StepPost rb fp qb fq area L' w00 (.returned (.bool true)) w' := by
  obtain ⟨rfl, fq', h1, h2, h3⟩ := hs
  subst hL
  have hsz := h0.size
  have hsz2 := h.off.size
  have hap : ∀ x ∈ fp', x ∉ fq' := by
    intro x hx hx'
    rcases h3 x hx' with h4 | h4
    · exact h.apart x hx h4
    · have := h.room.lt x hx; omega
  refine ⟨rfl, rfl, fp', fq', ⟨h.room.off h2 h.apart, h1, hap⟩, ?_, ?_, ?_⟩
  · have o1 : Off (fp ++ fq) w00 w0 := h0.mono (by simp)
    exact (o1.trans h.off (fun x hx => .inl (by simp [hx]))).trans h2 (fun x hx => .inl (by simp [hx]))
  · intro x hx
    rcases h.new x hx with h4 | h4
    · exact .inl h4
    · exact .inr (by omega)
  · intro x hx
    rcases h3 x hx with h4 | h4
    · exact .inl h4
    · exact .inr (by omega)

def rStep (L : Txns) (kind b n : Int) : Txns :=
  if kind = 0 then (rBegin L b).2 else if kind = 1 then (rUpdate L b n).2 else if kind = 2 then (rUndone L b n).2 else if kind = 3 then (rDrop L b).2 else L

theorem Both.same {w0 w w' : World} {rb qb : Nat} {fp fq : List Nat} {area : Int} {L : Txns} (h : Both w0 rb fp qb fq area L) (h0 : Off [] w0 w) (h1 : Off [] w w') :
    StepPost rb fp qb fq area L w0 (.returned (.bool true)) w' := by
  have ho := h0.trans h1 (by simp)
  exact ⟨rfl, fp, fq, h.off ho (by simp) (by simp), ho.mono (by simp), fun x hx => .inl hx, fun x hx => .inl hx⟩

set_option maxRecDepth 100000 in
set_option maxHeartbeats 2000000 in
theorem step_any (rb : Nat) (fp : List Nat) (qb : Nat) (fq : List Nat) (area kind b x m : Int) (L : Txns) (n : Nat) (w : World) (h : Both w rb fp qb fq area L) (hw : Wf L n) (ha : area ≤ imax) :
    Calls Try.prog 22 #[.pointer (some ⟨rb, 0, none⟩), .pointer (some ⟨qb, 0, none⟩), .agg #[.int .i64 kind, .int .i64 b, .int .i64 x, .int .i64 m]] w (StepPost rb fp qb fq area (rStep L kind b x) w) := by
  have HB := Lib.hid h
  have HW := Lib.hid hw
  have HA := Lib.hid ha
  clear h hw ha
  have B1 : Hid (Both (w.alloc (.cells #[.int .i64 kind, .int .i64 b, .int .i64 x, .int .i64 m] 47)) rb fp qb fq area L) := HB.out.off ((Off.refl [] w).alloc _) (by simp) (by simp)
  by_cases k0 : kind = 0
  · subst k0
    have e : rStep L 0 b x = (rBegin L b).2 := rfl
    rw [e]; clear e
    go_enter Try.func22, Try.ntmps22
    go_wp2_with fail
    refine (begin_any rb fp area b L _ B1.out.room HW.out.big).mono ?_
    intro e w1 hs
    obtain ⟨rfl, fp', hh⟩ := B1.out.half hs
    clear hs
    have q1 := (IsC.new w #[.int .i64 0, .int .i64 b, .int .i64 x, .int .i64 m] 47).off hh.off (fun hx => by have := HB.out.room.lt _ hx; omega)
    have r1 := q1.reads
    go_wp2_with fail
    refine (beginR_any qb fq area b L n _ hh.ref HW.out).mono ?_
    intro e w2 hs
    obtain ⟨rfl, hp⟩ := hh.whole hs rfl ((Off.refl [] w).alloc _) HB.out.room.lt HB.out.ref.lt
    have HP := Lib.hid hp
    clear hs hp hh q1 r1
    go_wp2_with fail
    go_ret
    simpa using HP.out
  by_cases k1 : kind = 1
  · subst k1
    have e : rStep L 1 b x = (rUpdate L b x).2 := rfl
    rw [e]; clear e
    go_enter Try.func22, Try.ntmps22
    go_wp2_with fail
    refine (update_any rb fp area b x L _ B1.out.room HW.out.big).mono ?_
    intro e w1 hs
    obtain ⟨rfl, fp', hh⟩ := B1.out.half hs
    clear hs
    have q1 := (IsC.new w #[.int .i64 1, .int .i64 b, .int .i64 x, .int .i64 m] 47).off hh.off (fun hx => by have := HB.out.room.lt _ hx; omega)
    have r1 := q1.reads
    go_wp2_with fail
    refine (updateR_any qb fq area b x L n _ hh.ref HW.out).mono ?_
    intro e w2 hs
    obtain ⟨rfl, hp⟩ := hh.whole hs rfl ((Off.refl [] w).alloc _) HB.out.room.lt HB.out.ref.lt
    have HP := Lib.hid hp
    clear hs hp hh q1 r1
    go_wp2_with fail
    go_ret
    simpa using HP.out
  by_cases k2 : kind = 2
  · subst k2
    have e : rStep L 2 b x = (rUndone L b x).2 := rfl
    rw [e]; clear e
    go_enter Try.func22, Try.ntmps22
    go_wp2_with fail
    refine (undone_any rb fp area b x L _ B1.out.room HW.out.big).mono ?_
    intro e w1 hs
    obtain ⟨rfl, fp', hh⟩ := B1.out.half hs
    clear hs
    have q1 := (IsC.new w #[.int .i64 2, .int .i64 b, .int .i64 x, .int .i64 m] 47).off hh.off (fun hx => by have := HB.out.room.lt _ hx; omega)
    have r1 := q1.reads
    go_wp2_with fail
    refine (undoneR_any qb fq area b x L n _ hh.ref HW.out).mono ?_
    intro e w2 hs
    obtain ⟨rfl, hp⟩ := hh.whole hs rfl ((Off.refl [] w).alloc _) HB.out.room.lt HB.out.ref.lt
    have HP := Lib.hid hp
    clear hs hp hh q1 r1
    go_wp2_with fail
    go_ret
    simpa using HP.out
  by_cases k3 : kind = 3
  · subst k3
    have e : rStep L 3 b x = (rDrop L b).2 := rfl
    rw [e]; clear e
    go_enter Try.func22, Try.ntmps22
    go_wp2_with fail
    refine (drop_any rb fp area b L _ B1.out.room HW.out.big).mono ?_
    intro e w1 hs
    obtain ⟨rfl, fp', hh⟩ := B1.out.half hs
    clear hs
    have q1 := (IsC.new w #[.int .i64 3, .int .i64 b, .int .i64 x, .int .i64 m] 47).off hh.off (fun hx => by have := HB.out.room.lt _ hx; omega)
    have r1 := q1.reads
    go_wp2_with fail
    refine (dropR_any qb fq area b L n _ hh.ref HW.out).mono ?_
    intro e w2 hs
    obtain ⟨rfl, hp⟩ := hh.whole hs rfl ((Off.refl [] w).alloc _) HB.out.room.lt HB.out.ref.lt
    have HP := Lib.hid hp
    clear hs hp hh q1 r1
    go_wp2_with fail
    go_ret
    simpa using HP.out
  have e : rStep L kind b x = L := by simp only [rStep, if_neg k0, if_neg k1, if_neg k2, if_neg k3]
  rw [e]; clear e
  have d0 : (kind == 0) = false := by simpa using k0
  have d1 : (kind == 1) = false := by simpa using k1
  have d2 : (kind == 2) = false := by simpa using k2
  have d3 : (kind == 3) = false := by simpa using k3
  have q0 := IsC.new w #[.int .i64 kind, .int .i64 b, .int .i64 x, .int .i64 m] 47
  have KR : Hid (∀ w', Off [] (w.alloc (.cells #[.int .i64 kind, .int .i64 b, .int .i64 x, .int .i64 m] 47)) w' → RoomP w' rb fp area L ∧ RefP w' qb fq area L) := fun w' ho => ⟨B1.out.room.off ho (by simp), B1.out.ref.off ho (by simp)⟩
  have KC : Hid (∀ w', Off [] (w.alloc (.cells #[.int .i64 kind, .int .i64 b, .int .i64 x, .int .i64 m] 47)) w' → w'.cell? ⟨w.heap.size, 1, none⟩ = some (.int .i64 b) ∧ w'.cell? ⟨w.heap.size, 2, none⟩ = some (.int .i64 x) ∧ w'.cell? ⟨w.heap.size, 3, none⟩ = some (.int .i64 m)) := by
    intro w' ho
    have q := q0.off ho (by simp)
    exact ⟨by rw [q.cell]; rfl, by rw [q.cell]; rfl, by rw [q.cell]; rfl⟩
  have KP : Hid (∀ w', Off [] (w.alloc (.cells #[.int .i64 kind, .int .i64 b, .int .i64 x, .int .i64 m] 47)) w' → StepPost rb fp qb fq area L w (.returned (.bool true)) w') := fun w' ho => HB.out.same ((Off.refl [] w).alloc _) ho
  have K4 : Hid (∀ W w2, ((W.cell? ⟨w.heap.size, 1, none⟩ = some (.int .i64 b) ∧ W.cell? ⟨w.heap.size, 2, none⟩ = some (.int .i64 x) ∧ W.cell? ⟨w.heap.size, 3, none⟩ = some (.int .i64 m)) ∧ Off [] (w.alloc (.cells #[.int .i64 kind, .int .i64 b, .int .i64 x, .int .i64 m] 47)) W) → Off [] W w2 → Off [] (w.alloc (.cells #[.int .i64 kind, .int .i64 b, .int .i64 x, .int .i64 m] 47)) w2) := fun _ _ h ho => h.2.trans ho (by simp)
  clear k0 k1 k2 k3 q0
  by_cases k5 : kind = 5
  · have d5 : (kind == 5) = true := by simpa using k5
    clear k5
    go_enter Try.func22, Try.ntmps22
    go_wp2_with fail
    go_region_held3 (fun w' => (w'.cell? ⟨w.heap.size, 1, none⟩ = some (.int .i64 b) ∧ w'.cell? ⟨w.heap.size, 2, none⟩ = some (.int .i64 x) ∧ w'.cell? ⟨w.heap.size, 3, none⟩ = some (.int .i64 m)) ∧ Off [] (w.alloc (.cells #[.int .i64 kind, .int .i64 b, .int .i64 x, .int .i64 m] 47)) w')
      (first | exact ⟨KC.out _ ((Off.refl _ _).drew), (Off.refl _ _).drew⟩ | exact ⟨KC.out _ (by assumption), by assumption⟩ | fail)
      (first | (go_at_call 20; refine (fits_any rb fp area _ _ _ L _ (KR.out _ (And.right (by assumption))).1 HA.out).mono ?_; rintro e w' ⟨rfl, rfl⟩)
             | (go_at_call 48; refine (fitsR_any qb fq area _ _ _ L n _ (KR.out _ (And.right (by assumption))).2 HW.out HA.out).mono ?_; rintro e w2 ⟨rfl, ho⟩; have ho' := K4.out _ _ (by assumption) ho))
    all_goals
      have HP := Lib.hid (KP.out _ (by assumption))
      clear KR KC KP K4
      go_wp2_with fail
      go_ret
      simpa using HP.out
  · have d5 : (kind == 5) = false := by simpa using k5
    clear k5
    go_enter Try.func22, Try.ntmps22
    go_wp2_with fail
    go_region_held3 (fun w' => (w'.cell? ⟨w.heap.size, 1, none⟩ = some (.int .i64 b) ∧ w'.cell? ⟨w.heap.size, 2, none⟩ = some (.int .i64 x) ∧ w'.cell? ⟨w.heap.size, 3, none⟩ = some (.int .i64 m)) ∧ Off [] (w.alloc (.cells #[.int .i64 kind, .int .i64 b, .int .i64 x, .int .i64 m] 47)) w')
      (first | exact ⟨KC.out _ ((Off.refl _ _).drew), (Off.refl _ _).drew⟩ | exact ⟨KC.out _ (by assumption), by assumption⟩ | fail)
      (first | (go_at_call 24; refine (of_any rb fp area _ L _ (KR.out _ (And.right (by assumption))).1).mono ?_; rintro e w' ⟨rfl, rfl⟩)
             | (go_at_call 25; refine (ofR_any qb fq area _ L n _ (KR.out _ (And.right (by assumption))).2 HW.out).mono ?_; rintro e w2 ⟨rfl, rfl⟩))
    all_goals
      have HP := Lib.hid (KP.out _ (And.right (by assumption)))
      clear KR KC KP K4
      go_wp2_with fail
      go_ret
      simpa using HP.out
end Go.Proofs.Ytlhmcbcoaplcaaa
