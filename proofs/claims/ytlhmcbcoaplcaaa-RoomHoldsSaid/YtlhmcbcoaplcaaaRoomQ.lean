/- The contracts of the program's Room: New, Of, Kept, Fits, more, Begin. -/
import Derived.Test.YtlhmcbcoaplcaaaRoomP
namespace Go.Proofs.Ytlhmcbcoaplcaaa
open Go.ChangeShapes Go.WideShapes Go.ChangeAt Go.RowKit
open Go.ChangeMaps (setBlock)

theorem zero90 (W : World) : (zeroValue 90).run Try.prog W = .ok (.pointer none) W := by kernel_rfl
theorem zero3 (W : World) : (zeroValue 3).run Try.prog W = .ok (.int .i64 0) W := by kernel_rfl

set_option maxHeartbeats 400000 in
theorem more_any (rb kb : Nat) (area s ks n : Int) (M U : Value) (T V : TypeId) (w : World) (hne : rb ≠ kb)
    (hr : IsC w rb #[.int .i64 area, .int .i64 s, M] T)
    (hk : IsC w kb #[.int .i64 ks, U] V) :
    Calls Try.prog 43 #[.pointer (some ⟨rb, 0, none⟩), .pointer (some ⟨kb, 0, none⟩), .int .i64 n] w fun e w' =>
      e = .returned (.tuple #[]) ∧ IsC w' rb #[.int .i64 area, .int .i64 (wrap64 (s + n)), M] T ∧
      IsC w' kb #[.int .i64 (wrap64 (ks + n)), U] V ∧ Off [rb, kb] w w' := by
  have r1 := hr.reads
  have r2 := hk.reads
  have f1 := hr.free
  have f2 := hk.free
  have hne' := hne.symm
  go_enter Try.func43, Try.ntmps43
  go_wp2
  go_end0
  refine ⟨rfl, ?_, ?_, ?_⟩
  · exact (hr.setCell 0 _ hne).set 1 _
  · exact (hk.set 0 _).setCell 1 _ hne'
  · exact ((Off.refl _ _).setCell (by simp) _).setCell (by simp) _

theorem new_any (area : Int) (w : World) :
    Calls Try.prog 19 #[.int .i64 area] w fun e w' => ∃ rb fp, e = .returned (.pointer (some ⟨rb, 0, none⟩)) ∧ RoomP w' rb fp area [] ∧ Off [] w w' ∧ ∀ x ∈ fp, w.heap.size ≤ x := by
  have hmm := @run_makeMap Try.prog
  go_enter Try.func19, Try.ntmps19
  go_wp2
  go_ret
  refine ⟨_, _, rfl, ⟨w.heap.size, #[], 0, [], rfl, ⟨?_, ?_, ?_, Ent.nil, rfl, by simp, by simp, by simp⟩⟩, ((Off.refl _ _).alloc _).alloc _, ?_⟩
  · simp [kpFoot]
  · exact IsC.newAt _ (by simp)
  · exact (IsM.new _ _ _).alloc _
  · simp [kpFoot]

theorem kept_any (rb : Nat) (fp : List Nat) (area : Int) (L : Txns) (w : World) (h : RoomP w rb fp area L) :
    Calls Try.prog 26 #[.pointer (some ⟨rb, 0, none⟩)] w fun e w' => e = .returned (.int .i64 (tot L)) ∧ w = w' := by
  obtain ⟨m, es, clk, ks, rfl, ⟨a1, a2, a3, a4, a5, a6, a7, a8⟩⟩ := h
  have c := a2.reads
  clear a3 a5 a6 a7 a8
  go_enter Try.func26, Try.ntmps26
  go_wp2
  go_ret
  exact ⟨rfl, rfl⟩

theorem mget_kp {ks : List Kp} {L : Txns} (h : ks.map (fun k => (k.birth, k.ups)) = L) (b : Int) :
    (mget L b = none ∧ mget (ks.map kpPair) b = none) ∨ ∃ k ∈ ks, k.birth = b ∧ mget L b = some k.ups ∧ mget (ks.map kpPair) b = some (.pointer (some ⟨k.kb, 0, none⟩)) := by
  subst h
  induction ks with
  | nil => exact .inl ⟨rfl, rfl⟩
  | cons k ks ih =>
    by_cases hb : k.birth = b
    · exact .inr ⟨k, by simp, hb, by simp [mget, hb], by simp [mget, kpPair, hb]⟩
    · rcases ih with ⟨h1, h2⟩ | ⟨k', hk, e1, e2, e3⟩
      · exact .inl ⟨by simp [mget, hb, h1], by simpa [mget, kpPair, hb] using h2⟩
      · exact .inr ⟨k', by simp [hk], e1, by simp [mget, hb, e2], by simpa [mget, kpPair, hb] using e3⟩

theorem of_any (rb : Nat) (fp : List Nat) (area b : Int) (L : Txns) (w : World) (h : RoomP w rb fp area L) :
    Calls Try.prog 24 #[.pointer (some ⟨rb, 0, none⟩), .int .i64 b] w fun e w' => e = .returned (.int .i64 (rOf L b)) ∧ w = w' := by
  obtain ⟨m, es, clk, ks, rfl, ⟨a1, a2, a3, a4, a5, a6, a7, a8⟩⟩ := h
  have c := a2.reads
  have hlk := fun W => run_lookup_map (P := Try.prog) (W := W) (clk := clk) Try.underlying86 Try.underlying3 zero90 a4 m b false
  rcases mget_kp a5 b with ⟨e1, e2⟩ | ⟨k, hk, e0, e1, e2⟩
  · have hL : rOf L b = 0 := by simp [rOf, e1]
    rw [hL]
    simp only [e2, Option.getD_none] at hlk
    clear hL e1 e2 a1 a5 a6 a7 a8
    go_enter Try.func24, Try.ntmps24
    go_wp2
    go_ret
    exact ⟨rfl, rfl⟩
  · have hL : rOf L b = ksum k.ups := by simp [rOf, e1]
    rw [hL]
    simp only [e2, Option.getD_some] at hlk
    have ak := (a7 k hk).1
    have ck := ak.reads
    clear hL e0 e1 e2 a1 a5 a6 a7 a8
    go_enter Try.func24, Try.ntmps24
    go_wp2
    go_ret
    exact ⟨rfl, rfl⟩
end Go.Proofs.Ytlhmcbcoaplcaaa
