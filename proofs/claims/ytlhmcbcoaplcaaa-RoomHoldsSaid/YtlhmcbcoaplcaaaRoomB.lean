/- Begin of the program's Room. -/
import Derived.Test.YtlhmcbcoaplcaaaRoomQ
import Derived.Handy
namespace Go.Proofs.Ytlhmcbcoaplcaaa
open Go.ChangeShapes Go.WideShapes Go.ChangeAt Go.RowKit
open Go.ChangeMaps (setBlock)

/-- What a method of the Room leaves: the answer and the state are the model's. -/
def RoomStep (rb : Nat) (fp : List Nat) (area : Int) (r : Int × Txns) (w : World) (e : Ending) (w' : World) : Prop :=
  e = .returned (.int .i64 r.1) ∧ ∃ fp', RoomP w' rb fp' area r.2 ∧ Off fp w w' ∧ ∀ x ∈ fp', x ∈ fp ∨ w.heap.size ≤ x

theorem RoomStep.same {rb : Nat} {fp : List Nat} {area : Int} {L : Txns} {w : World} {n : Int} (h : RoomP w rb fp area L) : RoomStep rb fp area (n, L) w (.returned (.int .i64 n)) w :=
  ⟨rfl, fp, h, Off.refl _ _, fun _ hx => .inl hx⟩

theorem big_imax : big + 1000000 ≤ imax := by decide

theorem begin_new_post {w w2 : World} {rb m : Nat} {area b : Int} {L : Txns} {es es' : Array MapEntry} {clk clk' : Nat} {ks : List Kp} (h : RoomAt w rb m area L es clk ks) (hbig : tot L ≤ big) (hb : mget L b = none)
    (hes : Ent es' (mput (ks.map kpPair) b (.pointer (some ⟨w.heap.size + 1, 0, none⟩))))
    (hr : IsC w2 rb #[.int .i64 area, .int .i64 (wrap64 (tot L + 99)), .map (some m)] 88)
    (hk : IsC w2 (w.heap.size + 1) #[.int .i64 (wrap64 (0 + 99)), .map (some w.heap.size)] 93)
    (hoff : Off [rb, w.heap.size + 1] (setBlock ((w.alloc (.map #[] 0)).alloc (.cells #[.int .i64 0, .map (some w.heap.size)] 93)) m (.map es' clk')) w2) :
    RoomStep rb (rb :: m :: kpFoot ks) area (0, L ++ [(b, [])]) w (.returned (.int .i64 0)) w2 := by
  obtain ⟨a1, a2, a3, a4, a5, a6, a7, a8⟩ := h
  have hp : RoomP w rb (rb :: m :: kpFoot ks) area L := ⟨m, es, clk, ks, rfl, ⟨a1, a2, a3, a4, a5, a6, a7, a8⟩⟩
  have hlt := hp.lt
  have hm := a3.lt
  have hrl := a2.lt
  have hrm : m ≠ rb := fun e => by simp [e] at a1
  have hn := (mget_none L b).1 hb
  have hb2 : mget (ks.map kpPair) b = none := by
    rcases mget_kp a5 b with ⟨_, h⟩ | ⟨k, _, _, h, _⟩
    · exact h
    · rw [hb] at h; cases h
  have h0 := tot_nonneg L a8
  have hbi := big_imax
  rw [wadd (by omega) (by omega)] at hr
  have e99 : wrap64 (0 + 99) = 99 := by unfold wrap64; omega
  rw [e99] at hk
  have hoff' : Off (rb :: m :: kpFoot ks) w w2 := Off.trans ((((Off.refl _ w).alloc _).alloc _).setBlock (.inl (by simp)) _) hoff (by simp)
  refine ⟨rfl, rb :: m :: (kpFoot ks ++ [w.heap.size + 1, w.heap.size]), ⟨m, es', clk', ks ++ [⟨b, w.heap.size + 1, w.heap.size, []⟩], by simp [kpFoot], ⟨?_, ?_, ?_, ?_, ?_, ?_, ?_, ?_⟩⟩, hoff', ?_⟩
  · have e : rb :: m :: kpFoot (ks ++ [⟨b, w.heap.size + 1, w.heap.size, []⟩]) = (rb :: m :: kpFoot ks) ++ [w.heap.size + 1, w.heap.size] := by simp [kpFoot]
    rw [e]
    refine List.nodup_append.2 ⟨a1, by simp, ?_⟩
    intro x hx y hy
    have := hlt x hx
    simp at hy
    omega
  · simpa [tot_append, tot, ksum] using hr
  · exact (((a3.alloc _).alloc _).setSame).off hoff (by simp; omega)
  · rw [mput_new _ _ _ hb2] at hes; simpa [kpPair] using hes
  · simp [a5]
  · rw [List.map_append]
    refine List.nodup_append.2 ⟨a6, by simp, ?_⟩
    intro x hx y hy e
    simp at hy
    subst hy; subst e
    exact hn hx
  · intro k hk'
    rcases List.mem_append.1 hk' with h1 | h1
    · have hkb := hlt k.kb (by simp only [List.mem_cons]; exact .inr (.inr (mem_kpFoot.2 ⟨k, h1, .inl rfl⟩)))
      have hum := hlt k.um (by simp only [List.mem_cons]; exact .inr (.inr (mem_kpFoot.2 ⟨k, h1, .inr rfl⟩)))
      have d1 : k.kb ≠ rb ∧ k.kb ≠ m ∧ k.um ≠ rb ∧ k.um ≠ m := by
        simp only [List.nodup_cons, List.mem_cons, not_or] at a1
        have f1 := mem_kpFoot.2 ⟨k, h1, .inl rfl⟩
        have f2 := mem_kpFoot.2 ⟨k, h1, .inr rfl⟩
        exact ⟨fun e => a1.1.2 (e ▸ f1), fun e => a1.2.1 (e ▸ f1), fun e => a1.1.2 (e ▸ f2), fun e => a1.2.1 (e ▸ f2)⟩
      refine (a7 k h1).off (S := [rb, w.heap.size + 1, m]) ?_ (by simp; omega) (by simp; omega)
      exact Off.trans ((((Off.refl _ w).alloc _).alloc _).setBlock (.inl (by simp)) _) hoff (by simp)
    · simp only [List.mem_singleton] at h1
      subst h1
      refine ⟨hk, #[], 0, [], ?_, Ent.nil, fun n => by simp [mget]⟩
      dsimp only
      exact (((IsM.new w _ _).alloc _).setBlock _ (by omega)).off hoff (by simp; omega)
  · intro p hp'
    rcases List.mem_append.1 hp' with h1 | h1
    · exact a8 p h1
    · simp only [List.mem_singleton] at h1; subst h1; intro n hn'; simp at hn'
  · intro x hx
    simp only [List.mem_cons, List.mem_append, List.not_mem_nil, or_false] at hx ⊢
    rcases hx with h | h | h | h | h
    · exact .inl (.inl h)
    · exact .inl (.inr (.inl h))
    · exact .inl (.inr (.inr h))
    · exact .inr (by omega)
    · exact .inr (by omega)

set_option maxRecDepth 100000 in
set_option maxHeartbeats 1000000 in
theorem begin_any (rb : Nat) (fp : List Nat) (area b : Int) (L : Txns) (w : World) (h : RoomP w rb fp area L) (hbig : tot L ≤ big) :
    Calls Try.prog 21 #[.pointer (some ⟨rb, 0, none⟩), .int .i64 b] w (RoomStep rb fp area (rBegin L b) w) := by
  obtain ⟨m, es, clk, ks, rfl, hat⟩ := h
  have hp : RoomP w rb (rb :: m :: kpFoot ks) area L := ⟨m, es, clk, ks, rfl, hat⟩
  obtain ⟨a1, a2, a3, a4, a5, a6, a7, a8⟩ := hat
  have c := a2.reads
  have hlk := fun W => run_lookup_map (P := Try.prog) (W := W) (clk := clk) Try.underlying86 Try.underlying3 zero90 a4 m b false
  rcases mget_kp a5 b with ⟨e1, e2⟩ | ⟨k, hk, e0, e1, e2⟩
  · have hL : rBegin L b = (0, L ++ [(b, [])]) := by simp [rBegin, e1]
    rw [hL]
    simp only [e2, Option.getD_none] at hlk
    obtain ⟨es', clk', hes, hup⟩ := run_update_map (P := Try.prog) (clk := clk) Try.underlying86 Try.underlying3 a4 m b (.pointer (some ⟨w.heap.size + 1, 0, none⟩))
    have hm := a3.lt
    have hr := a2.lt
    have hrm : m ≠ rb := fun e => by simp [e] at a1
    have hmm := @run_makeMap Try.prog
    have HP := Lib.hid (fun w2 => begin_new_post (w2 := w2) ⟨a1, a2, a3, a4, a5, a6, a7, a8⟩ hbig e1 hes (clk' := clk'))
    have A2 := Lib.hid a2
    have X1 : rb ≠ w.heap.size + 1 := by omega
    have X2 := ((a2.alloc (.map #[] 0)).alloc (.cells #[.int .i64 0, .map (some w.heap.size)] 93)).setBlock (.map es' clk') (Ne.symm hrm)
    have X3 := (IsC.newAt (w := w.alloc (.map #[] 0)) (cs := #[.int .i64 0, .map (some w.heap.size)]) (T := 93) (w.heap.size + 1) (by simp)).setBlock (.map es' clk') (show w.heap.size + 1 ≠ m by omega)
    have HX := Lib.hid (And.intro X1 (And.intro X2 X3))
    clear X1 X2 X3 hm hrm A2
    clear hL e1 e2 a1 a5 a6 a7 a8 a4 hes hp
    go_enter Try.func21, Try.ntmps21
    go_wp2_with fail
    refine (more_any _ _ area (tot L) 0 _ (.map (some m)) (.map (some w.heap.size)) 88 93 _ HX.out.1 HX.out.2.1 HX.out.2.2).mono ?_
    · rintro e w2 ⟨rfl, g1, g2, g3⟩
      have H := Lib.hid (HP.out _ g1 g2 g3)
      clear g1 g2 g3 HP
      go_wp2_with fail
      go_ret
      exact H.out
  · have hL : rBegin L b = (160, L) := by simp [rBegin, e1]
    rw [hL]
    simp only [e2, Option.getD_some] at hlk
    have hp' := Lib.hid (RoomStep.same (n := 160) hp)
    clear hL e0 e1 e2 a1 a5 a6 a7 a8 hp
    go_enter Try.func21, Try.ntmps21
    go_wp2
    go_ret
    exact hp'.out
end Go.Proofs.Ytlhmcbcoaplcaaa
