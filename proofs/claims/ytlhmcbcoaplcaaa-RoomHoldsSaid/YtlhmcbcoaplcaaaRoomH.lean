/- head: the document's examples hold. -/
import Derived.Test.YtlhmcbcoaplcaaaRoomU
import Derived.Test.YtlhmcbcoaplcaaaRoomF
set_option linter.unusedVariables false
set_option linter.unusedSimpArgs false
namespace Go.Proofs.Ytlhmcbcoaplcaaa
open Go.ChangeShapes Go.WideShapes Go.ChangeAt Go.RowKit

/-- A Room made since w0: its blocks are all newer. -/
def RoomS (w0 w : World) (rb : Nat) (area : Int) (L : Txns) : Prop := ∃ fp, RoomP w rb fp area L ∧ Off [] w0 w ∧ ∀ x ∈ fp, w0.heap.size ≤ x

theorem RoomS.step {w0 w w' : World} {rb : Nat} {fp : List Nat} {area : Int} {r : Int × Txns} {e : Ending} (ho : Off [] w0 w) (hf : ∀ x ∈ fp, w0.heap.size ≤ x) (h : RoomStep rb fp area r w e w') :
    e = .returned (.int .i64 r.1) ∧ RoomS w0 w' rb area r.2 := by
  obtain ⟨rfl, fp', h1, h2, h3⟩ := h
  refine ⟨rfl, fp', h1, ho.trans h2 (fun x hx => .inr (hf x hx)), fun x hx => ?_⟩
  rcases h3 x hx with h | h
  · exact hf x h
  · have := ho.size; omega

theorem new_s (area : Int) (w : World) : Calls Try.prog 19 #[.int .i64 area] w fun e w' => ∃ rb, e = .returned (.pointer (some ⟨rb, 0, none⟩)) ∧ RoomS w w' rb area [] :=
  (new_any area w).mono fun _ _ ⟨rb, fp, h1, h2, h3, h4⟩ => ⟨rb, h1, fp, h2, h3, h4⟩
theorem begin_s {w0 w : World} {rb : Nat} {area : Int} {L : Txns} (b : Int) (h : RoomS w0 w rb area L) (hbig : tot L ≤ big) :
    Calls Try.prog 21 #[.pointer (some ⟨rb, 0, none⟩), .int .i64 b] w fun e w' => e = .returned (.int .i64 (rBegin L b).1) ∧ RoomS w0 w' rb area (rBegin L b).2 := by
  obtain ⟨fp, h1, h2, h3⟩ := h
  exact (begin_any rb fp area b L w h1 hbig).mono fun _ _ hs => RoomS.step h2 h3 hs
theorem update_s {w0 w : World} {rb : Nat} {area : Int} {L : Txns} (b n : Int) (h : RoomS w0 w rb area L) (hbig : tot L ≤ big) :
    Calls Try.prog 27 #[.pointer (some ⟨rb, 0, none⟩), .int .i64 b, .int .i64 n] w fun e w' => e = .returned (.int .i64 (rUpdate L b n).1) ∧ RoomS w0 w' rb area (rUpdate L b n).2 := by
  obtain ⟨fp, h1, h2, h3⟩ := h
  exact (update_any rb fp area b n L w h1 hbig).mono fun _ _ hs => RoomS.step h2 h3 hs
theorem undone_s {w0 w : World} {rb : Nat} {area : Int} {L : Txns} (b n : Int) (h : RoomS w0 w rb area L) (hbig : tot L ≤ big) :
    Calls Try.prog 28 #[.pointer (some ⟨rb, 0, none⟩), .int .i64 b, .int .i64 n] w fun e w' => e = .returned (.int .i64 (rUndone L b n).1) ∧ RoomS w0 w' rb area (rUndone L b n).2 := by
  obtain ⟨fp, h1, h2, h3⟩ := h
  exact (undone_any rb fp area b n L w h1 hbig).mono fun _ _ hs => RoomS.step h2 h3 hs
theorem drop_s {w0 w : World} {rb : Nat} {area : Int} {L : Txns} (b : Int) (h : RoomS w0 w rb area L) (hbig : tot L ≤ big) :
    Calls Try.prog 29 #[.pointer (some ⟨rb, 0, none⟩), .int .i64 b] w fun e w' => e = .returned (.int .i64 (rDrop L b).1) ∧ RoomS w0 w' rb area (rDrop L b).2 := by
  obtain ⟨fp, h1, h2, h3⟩ := h
  exact (drop_any rb fp area b L w h1 hbig).mono fun _ _ hs => RoomS.step h2 h3 hs
theorem of_s {w0 w : World} {rb : Nat} {area : Int} {L : Txns} (b : Int) (h : RoomS w0 w rb area L) :
    Calls Try.prog 24 #[.pointer (some ⟨rb, 0, none⟩), .int .i64 b] w fun e w' => e = .returned (.int .i64 (rOf L b)) ∧ w = w' := by
  obtain ⟨fp, h1, h2, h3⟩ := h; exact of_any rb fp area b L w h1
theorem kept_s {w0 w : World} {rb : Nat} {area : Int} {L : Txns} (h : RoomS w0 w rb area L) :
    Calls Try.prog 26 #[.pointer (some ⟨rb, 0, none⟩)] w fun e w' => e = .returned (.int .i64 (tot L)) ∧ w = w' := by
  obtain ⟨fp, h1, h2, h3⟩ := h; exact kept_any rb fp area L w h1
theorem fits_s {w0 w : World} {rb : Nat} {area : Int} {L : Txns} (used more keep : Int) (h : RoomS w0 w rb area L) (ha : area ≤ imax) :
    Calls Try.prog 20 #[.pointer (some ⟨rb, 0, none⟩), .int .i64 used, .int .i64 more, .int .i64 keep] w fun e w' => e = .returned (.bool (rFits area (tot L) used more keep)) ∧ w = w' := by
  obtain ⟨fp, h1, h2, h3⟩ := h; exact fits_any rb fp area used more keep L w h1 ha

theorem big_pos (n : Int) (h : n ≤ 1000000) : n ≤ big := by unfold big; omega
theorem imax_pos (n : Int) (h : n ≤ 1000000) : n ≤ imax := by unfold imax; omega

set_option maxRecDepth 100000 in
set_option maxHeartbeats 1000000 in
theorem head_any (w : World) : Calls Try.prog 16 #[] w fun e w' => e = .returned (.bool true) ∧ Off [] w w' := by
  have e1 : rBegin [] 1 = (0, [(1, [])]) := rfl
  have e2 : rBegin [(1, [])] 1 = (160, [(1, [])]) := rfl
  have e3 : rUpdate [(1, [])] 1 16 = (0, [(1, [16])]) := rfl
  have e4 : frameV 2 16 0 = 70 := by decide
  have t1 : tot [(1, [16])] = 161 := by decide
  have t2 : rOf [(1, [16])] 1 = 161 := by decide
  have t3 : rOf [(1, [16])] 2 = 0 := by decide
  have t4 : rFits 1024 161 800 60 3 = true := by decide
  have t5 : rFits 1024 161 800 60 4 = false := by decide
  go_enter Try.func16, Try.ntmps16
  go_wp2_with fail
  refine (new_s _ _).mono ?_
  rintro e w1 ⟨rb, rfl, s1⟩
  go_wp2_with fail
  refine (frame_prog _ _ _ _).mono ?_
  rintro e w1 ⟨rfl, rfl⟩
  rw [e4]
  go_wp2_with fail
  refine (begin_s _ s1 (big_pos _ (by decide))).mono ?_
  rintro e w2 ⟨rfl, s2⟩
  rw [e1] at *
  go_wp2_with fail
  refine (begin_s _ s2 (big_pos _ (by decide))).mono ?_
  rintro e w3 ⟨rfl, s3⟩
  rw [e2] at *
  go_wp2_with fail
  refine (update_s _ _ s3 (big_pos _ (by decide))).mono ?_
  rintro e w4 ⟨rfl, s4⟩
  rw [e3] at *
  go_wp2_with fail
  refine (kept_s s4).mono ?_
  rintro e w4 ⟨rfl, rfl⟩
  rw [t1]
  go_wp2_with fail
  refine (of_s _ s4).mono ?_
  rintro e w4 ⟨rfl, rfl⟩
  rw [t2]
  go_wp2_with fail
  refine (of_s _ s4).mono ?_
  rintro e w4 ⟨rfl, rfl⟩
  rw [t3]
  go_wp2_with fail
  refine (fits_s _ _ _ s4 (imax_pos _ (by decide))).mono ?_
  rintro e w4 ⟨rfl, rfl⟩
  rw [t1, t4]
  go_wp2_with fail
  refine (fits_s _ _ _ s4 (imax_pos _ (by decide))).mono ?_
  rintro e w4 ⟨rfl, rfl⟩
  rw [t1, t5]
  go_wp2_with fail
  go_ret
  obtain ⟨fp, h1, h2, h3⟩ := s4
  exact ⟨rfl, h2⟩

set_option maxRecDepth 100000 in
theorem roomFrames_walk (kind n m : Int) (w : World) : Calls Try.prog 4 #[.int .i64 kind, .int .i64 n, .int .i64 m] w fun e w' => e = .returned (.bool true) ∧ Below w.heap.size w w' := by
  go_enter Try.func4, Try.ntmps4
  go_wp2_with fail
  refine (head_any _).mono ?_
  rintro e w1 ⟨rfl, h1⟩
  go_wp2_with fail
  refine (frame_prog _ _ _ _).mono ?_
  rintro e w1 ⟨rfl, rfl⟩
  go_wp2_with fail
  refine (frame_ref _ _ _ _).mono ?_
  rintro e w1 ⟨rfl, rfl⟩
  go_wp2_with fail
  go_ret
  exact ⟨by simp, h1.below⟩
end Go.Proofs.Ytlhmcbcoaplcaaa
