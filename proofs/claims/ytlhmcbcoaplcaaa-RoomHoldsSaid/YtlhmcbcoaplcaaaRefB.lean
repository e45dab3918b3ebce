/- Kept, Fits, Begin of the document's Room. -/
import Derived.Test.YtlhmcbcoaplcaaaRefQ
set_option linter.unusedVariables false
set_option linter.unusedSimpArgs false
namespace Go.Proofs.Ytlhmcbcoaplcaaa
open Go.ChangeShapes Go.WideShapes Go.ChangeAt Go.RowKit

theorem mget_at {L : Txns} {k : Nat} {p : Int × List Int} (hd : (L.map (·.1)).Nodup) (h : L[k]? = some p) : mget L p.1 = some p.2 := by
  induction L generalizing k with
  | nil => simp at h
  | cons q L ih =>
    simp only [List.map_cons, List.nodup_cons] at hd
    cases k with
    | zero => simp at h; subst h; simp [mget]
    | succ k =>
      have h' : L[k]? = some p := by simpa using h
      have hm := List.mem_of_getElem? h'
      have hne : q.1 ≠ p.1 := fun e => hd.1 (e ▸ List.mem_map.2 ⟨p, hm, rfl⟩)
      simp only [mget, if_neg hne]
      exact ih hd.2 h'
theorem tot_take (L : Txns) (k : Nat) (p : Int × List Int) (h : L[k]? = some p) : tot (L.take (k + 1)) = tot (L.take k) + ksum p.2 := by
  rw [List.take_add_one, h, tot_append]; simp [tot]
theorem tot_take_le (L : Txns) (h : ∀ p ∈ L, good p.2) (k : Nat) : 0 ≤ tot (L.take k) ∧ tot (L.take k) ≤ tot L := by
  refine ⟨tot_nonneg _ (fun p hp => h p (List.mem_of_mem_take hp)), ?_⟩
  have := tot_append (L.take k) (L.drop k)
  rw [List.take_append_drop] at this
  have := tot_nonneg (L.drop k) (fun p hp => h p (List.mem_of_mem_drop hp))
  omega

set_option maxRecDepth 100000 in
set_option maxHeartbeats 1000000 in
theorem keptR_any (qb : Nat) (fp : List Nat) (area : Int) (L : Txns) (n : Nat) (w : World) (h : RefP w qb fp area L) (hw : Wf L n) :
    Calls Try.prog 23 #[.pointer (some ⟨qb, 0, none⟩)] w fun e w' => e = .returned (.int .i64 (tot L)) ∧ w = w' := by
  have HO := Lib.hid (fun b => ofR_any qb fp area b L n w h hw)
  obtain ⟨Lv, ts, rfl, hat⟩ := h
  have a2 := hat.head
  have c := a2.reads
  obtain ⟨ao, cap, rfl, hao⟩ := hat.rows.val
  have hlen : ts.length = L.length := by rw [← hat.list]; simp
  have hln := hw.len
  have hN : ts.length < 4398046511104 := by omega
  have HL := Lib.hid hlen
  have HAT := Lib.hid hat
  have HW := Lib.hid hw
  clear hlen hln hat hw hao
  generalize hNN : ts.length = N at *
  have HN := Lib.hid hNN
  clear hNN
  go_enter Try.func23, Try.ntmps23
  go_wp2_with fail
  go_loop [3, 4] (fun s k => ∃ j : Nat, j ≤ N ∧ k = .int .i64 j ∧ s = .int .i64 (tot (L.take j))) (fun _ k => N - (intOf k).toNat)
  case atStart => exact ⟨0, Nat.zero_le _, rfl, rfl⟩
  case round =>
    obtain ⟨j, hj, rfl, rfl⟩ := hrel
    by_cases hlt : j < N
    · obtain ⟨p, hp⟩ : ∃ p, L[j]? = some p := ⟨L[j]'(by have := HL.out; omega), List.getElem?_eq_getElem _⟩
      obtain ⟨g, off, cap', t, hv, q1, q2, q3, q4, q5, hc1, q6, q7⟩ := HAT.out.view (b := p.1) (u := p.2) (by rw [hp])
      simp only [Value.slice.injEq] at hv
      obtain ⟨rfl, q8, q9⟩ := hv
      clear q1 q2 q3 q4 q5 q6 q7 q8 q9
      have HP := Lib.hid hp
      clear hp
      go_wp2_with fail
      refine (HO.out p.1).mono ?_
      rintro e w1 ⟨rfl, rfl⟩
      have hof : rOf L p.1 = ksum p.2 := by simp [rOf, mget_at HW.out.births HP.out]
      rw [hof]
      clear hof
      go_wp2_with fail
      go_round
      case rel =>
        refine ⟨j + 1, by omega, by go_num, ?_⟩
        have h1 := tot_take L j p HP.out
        have h2 := tot_take_le L HW.out.good (j + 1)
        have h3 := HW.out.big
        have h4 := big_imax
        rw [wadd (by omega) (by omega), h1]
      case measure => simp [intOf]; omega
    · have : j = N := by omega
      subst this
      have he : L.take j = L := List.take_of_length_le (by have := HL.out; omega)
      rw [he]
      clear he
      go_wp2_with fail
      go_ret
      exact ⟨rfl, rfl⟩

set_option maxRecDepth 100000 in
set_option maxHeartbeats 1000000 in
theorem fitsR_any (qb : Nat) (fp : List Nat) (area used more keep : Int) (L : Txns) (n : Nat) (w : World) (h : RefP w qb fp area L) (hw : Wf L n) (ha : area ≤ imax) :
    Calls Try.prog 48 #[.pointer (some ⟨qb, 0, none⟩), .int .i64 used, .int .i64 more, .int .i64 keep] w fun e w' => e = .returned (.bool (rFits area (tot L) used more keep)) ∧ Off [] w w' := by
  have HK := Lib.hid (keptR_any qb fp area L n w h hw)
  obtain ⟨Lv, ts, rfl, hat⟩ := h
  have a2 := hat.head
  have c := a2.reads
  have hk := tot_nonneg L hw.good
  clear hat hw
  generalize tot L = k at *
  have hlen : ∀ (W : World) (b : Nat), (Builtin.len_ #[51] 3 #[.slice (some ⟨b, 0, none⟩) 4 4]).run Try.prog W = .ok (.int .i64 4) W := fun _ _ => by kernel_rfl
  go_enter Try.func48, Try.ntmps48
  go_wp2_with fail
  all_goals (try (refine HK.out.mono ?_; rintro e w1 ⟨rfl, rfl⟩; go_wp2_with fail; go_rounds 5))
  all_goals (go_ret; go_tidy; refine ⟨ret_bool ?_, ?_⟩)
  all_goals first | exact Off.refl _ _ | exact (Off.refl _ _).alloc _ | (unfold rFits)
  · simp; omega
  · simp; omega
  · rw [wsub (by omega) hk ha] at *; simp; omega
  · rw [wsub (a := area) (by omega) hk ha] at *; rw [wsub (a := area - k) (by omega) (by omega) (by unfold imax at *; omega)] at *; simp; omega
  · rw [wsub (a := area) (by omega) hk ha] at *; rw [wsub (a := area - k) (by omega) (by omega) (by unfold imax at *; omega)] at *; rw [wsub (a := area - k - used) (by omega) (by omega) (by unfold imax at *; omega)] at *; simp; omega
  · rw [wsub (a := area) (by omega) hk ha] at *; rw [wsub (a := area - k) (by omega) (by omega) (by unfold imax at *; omega)] at *; rw [wsub (a := area - k - used) (by omega) (by omega) (by unfold imax at *; omega)] at *; simp; omega
  · simp; omega
  · simp; omega

/-- What a method of the document's Room leaves. -/
def RefStep (qb : Nat) (fp : List Nat) (area : Int) (r : Int × Txns) (w : World) (e : Ending) (w' : World) : Prop :=
  e = .returned (.int .i64 r.1) ∧ ∃ fp', RefP w' qb fp' area r.2 ∧ Off fp w w' ∧ ∀ x ∈ fp', x ∈ fp ∨ w.heap.size ≤ x
theorem RefStep.same {qb : Nat} {fp : List Nat} {area : Int} {L : Txns} {w : World} {n : Int} (h : RefP w qb fp area L) : RefStep qb fp area (n, L) w (.returned (.int .i64 n)) w :=
  ⟨rfl, fp, h, Off.refl _ _, fun _ hx => .inl hx⟩

theorem info96 : (Try.prog.info? 96).map (fun i => (i.zero, i.size, i.bytes)) = some (some (.agg #[.int .i64 0, .slice none 0 0]), 2, 32) := by kernel_rfl
theorem info3 : (Try.prog.info? 3).map (fun i => (i.zero, i.size, i.bytes)) = some (some (.int .i64 0), 1, 8) := by kernel_rfl

theorem rtCells_snoc (ts : List Rt) (t : Rt) : rtCells (ts ++ [t]) = rtCells ts ++ [.int .i64 t.birth, t.uv] := by simp [rtCells]

theorem beginR_post {w w1 w2 : World} {qb : Nat} {area b : Int} {L : Txns} {Lv v' : Value} {ts : List Rt} (h : RefAt w qb area L Lv ts) (h1 : Off [] w w1) (hs : w.heap.size ≤ w1.heap.size)
    (ho : Own w2 96 2 v' (ts.length + 1) (rtCells ts ++ [.int .i64 b, .slice none 0 0])) (hoff : Off (blk Lv) w1 w2) (hb : blk v' = blk Lv ∨ blk v' = [w1.heap.size]) :
    RefStep qb (qb :: (blk Lv ++ rtFoot ts)) area (0, L ++ [(b, [])]) w (.returned (.int .i64 0)) (w2.setCell ⟨qb, 1, none⟩ v') := by
  have hlt := RefP.lt ⟨Lv, ts, rfl, h⟩
  obtain ⟨a1, a2, a3, a4, a5⟩ := h
  simp only [List.nodup_cons, List.mem_append, not_or, List.nodup_append] at a1
  obtain ⟨⟨n1, n2⟩, n3, n4, n5⟩ := a1
  have hqlt := a2.lt
  have hq : qb ∉ blk v' := by
    rcases hb with e | e <;> rw [e]
    · exact n1
    · simp; omega
  have hfv : ∀ x ∈ blk v', x ∈ blk Lv ∨ w.heap.size ≤ x := by
    intro x hx
    rcases hb with e | e <;> rw [e] at hx
    · exact .inl hx
    · simp at hx; exact .inr (by omega)
  have a2' := (a2.off h1 (by simp)).off hoff n1
  have hoff' : Off (blk Lv) w w2 := h1.mono (T := blk Lv) (by simp) |>.trans hoff (fun x hx => .inl hx)
  have hoff2 : Off (qb :: (blk Lv ++ rtFoot ts)) w (w2.setCell ⟨qb, 1, none⟩ v') := (hoff'.mono (fun x hx => .inl (by simp [hx]))).setCell (.inl (by simp)) v'
  refine ⟨rfl, _, ⟨v', ts ++ [⟨b, .slice none 0 0, []⟩], rfl, ⟨?_, ?_, ?_, ?_, ?_⟩⟩, hoff2, ?_⟩
  · have e : rtFoot (ts ++ [⟨b, .slice none 0 0, []⟩]) = rtFoot ts := by simp [rtFoot, blk]
    rw [e]
    simp only [List.nodup_cons, List.mem_append, not_or, List.nodup_append]
    refine ⟨⟨hq, n2⟩, ?_, n4, ?_⟩
    · rcases hb with e | e <;> rw [e]
      · exact n3
      · simp
    · intro x hx y hy e
      subst e
      rcases hfv x hx with hx | hx
      · exact n5 x hx x hy rfl
      · have := hlt x (by simp [hy]); omega
  · simpa using a2'.set 1 v'
  · rw [rtCells_snoc, List.length_append]
    exact ho.setCell _ _ hq
  · intro t ht
    rcases List.mem_append.1 ht with ht | ht
    · have hf : ∀ x ∈ blk t.uv, x ∈ rtFoot ts := fun x hx => mem_rtFoot.2 ⟨t, ht, hx⟩
      refine ((a4 t ht).off hoff' (fun x hx hx' => n5 x hx' x (hf x hx) rfl)).setCell _ _ ?_
      intro hx
      exact n2 (hf _ hx)
    · simp only [List.mem_singleton] at ht; subst ht; exact Own.nil _ _ _
  · simp [← a5, rtTx]
  · intro x hx
    have e : rtFoot (ts ++ [⟨b, .slice none 0 0, []⟩]) = rtFoot ts := by simp [rtFoot, blk]
    rw [e] at hx
    simp only [List.mem_cons, List.mem_append] at hx ⊢
    rcases hx with hx | hx | hx
    · exact .inl (.inl hx)
    · rcases hfv x hx with h | h
      · exact .inl (.inr (.inl h))
      · exact .inr h
    · exact .inl (.inr (.inr hx))

set_option maxRecDepth 100000 in
set_option maxHeartbeats 1000000 in
theorem beginR_any (qb : Nat) (fp : List Nat) (area b : Int) (L : Txns) (n : Nat) (w : World) (h : RefP w qb fp area L) (hw : Wf L n) :
    Calls Try.prog 44 #[.pointer (some ⟨qb, 0, none⟩), .int .i64 b] w (RefStep qb fp area (rBegin L b) w) := by
  have HA := Lib.hid (at_any qb fp area b L w h hw.len)
  have HS := Lib.hid (RefStep.same (n := 160) h)
  obtain ⟨Lv, ts, rfl, hat⟩ := h
  have a2 := hat.head
  have c := a2.reads
  rcases pos_spec L b with ⟨h1, h2, _⟩ | ⟨i, u, h1, h2, h3, _⟩
  · have e1 : posI L b = -1 := by simp [posI, h1]
    have e2 : rBegin L b = (0, L ++ [(b, [])]) := by simp [rBegin, h2]
    rw [e1] at HA
    rw [e2]
    have hlen : ts.length = L.length := by rw [← hat.list]; simp
    have hln := hw.len
    have HAT := Lib.hid hat
    have HB := Lib.hid (show (ts.length + 1) * 32 ≤ 140737488355328 by omega)
    have hql := a2.lt
    have hnq : Hid (qb ∉ blk Lv) := by
      have := hat.nodup
      simp only [List.nodup_cons, List.mem_append, not_or] at this
      exact this.1.1
    clear h1 h2 e1 e2 hat hw hlen hln HS
    go_enter Try.func44, Try.ntmps44
    go_wp2_with fail
    refine HA.out.mono ?_
    rintro e w1 ⟨rfl, rfl⟩
    clear HA
    go_wp2_with (at_builtin; refine wp_app rfl _ _ 42 42 rfl rfl (HAT.out.rows.alloc _) Try.underlying42 info96 rfl (by decide) rfl (src_new w #[.int .i64 b, .slice none 0 0] 1 Try.underlying42 (by decide) rfl (by simp [Value.oneCell'])) HB.out ?_)
    intro ao2 cap2 w2 ho hoff hb
    have a2' := (a2.alloc (.cells #[.int .i64 b, .slice none 0 0] 96)).off hoff hnq.out
    have c2 := a2'.reads
    have f2 := a2'.free
    have HP := Lib.hid (beginR_post HAT.out ((Off.refl [] w).alloc _) (by simp) ho hoff (by simpa using hb))
    clear ho hoff hb c a2 HAT
    go_wp2_with fail
    go_ret
    exact HP.out
  · have e1 : posI L b = i := by simp [posI, h1]
    have e2 : rBegin L b = (160, L) := by simp [rBegin, h3]
    rw [e1] at HA
    rw [e2]
    clear h1 h2 h3 hat hw e1 e2
    go_enter Try.func44, Try.ntmps44
    go_wp2_with fail
    refine HA.out.mono ?_
    rintro e w1 ⟨rfl, rfl⟩
    go_wp2_with fail
    go_ret
    exact HS.out
end Go.Proofs.Ytlhmcbcoaplcaaa
