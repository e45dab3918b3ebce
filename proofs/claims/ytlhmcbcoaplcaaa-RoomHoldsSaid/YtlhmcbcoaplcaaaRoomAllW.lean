/- RoomAll: the law's walk: over every area and script each answer of the program's Room is the document's, and just what is left fits. -/
import Derived.Test.YtlhmcbcoaplcaaaStep
import Derived.Test.YtlhmcbcoaplcaaaOpen
import Derived.Deep.LoopGhost
import Derived.Deep.QuietTactic
import Derived.BigQuiet
import Derived.Deep.DeepCutAuto
set_option linter.unusedVariables false
set_option linter.unusedSimpArgs false
namespace Go.Proofs.Ytlhmcbcoaplcaaa
open Go.ChangeShapes Go.WideShapes Go.ChangeAt Go.RowKit

theorem cnt_append (A B : Txns) : cnt (A ++ B) = cnt A + cnt B := by
  induction A with
  | nil => simp [cnt]
  | cons p A ih => simp only [List.cons_append, cnt, ih]; omega
theorem wf_step {L : Txns} {n : Nat} (h : Wf L n) (hs : n + 1 < 4398046511104) (kind b x : Int) : Wf (rStep L kind b x) (n + 1) := by
  obtain ⟨h1, h2, h3, h4⟩ := h
  have same : Wf L (n + 1) := ⟨h1, h2, by omega, hs⟩
  have put : ∀ (u u' : List Int), mget L b = some u → good u' → u'.length ≤ u.length + 1 → Wf (mput L b u') (n + 1) := by
    intro u u' hg hu hl
    obtain ⟨A, B, e1, e2, _, _⟩ := mput_split (v := u') hg
    subst e1
    rw [e2]
    refine ⟨by simpa using h1, ?_, ?_, hs⟩
    · intro p hp
      simp only [List.mem_append, List.mem_cons] at hp
      rcases hp with hp | rfl | hp
      · exact h2 p (by simp [hp])
      · exact hu
      · exact h2 p (by simp [hp])
    · rw [cnt_append] at h3 ⊢
      simp only [cnt] at h3 ⊢
      omega
  unfold rStep
  split
  · unfold rBegin
    split
    · exact same
    · rename_i hg
      have hn := (mget_none L b).1 hg
      refine ⟨?_, ?_, ?_, hs⟩
      · rw [List.map_append]
        refine List.nodup_append.2 ⟨h1, by simp, ?_⟩
        intro a ha c hc e
        simp at hc; subst hc; subst e; exact hn ha
      · intro p hp
        rcases List.mem_append.1 hp with hp | hp
        · exact h2 p hp
        · simp at hp; subst hp; intro y hy; simp at hy
      · rw [cnt_append]; simp [cnt]; omega
  split
  · unfold rUpdate
    split
    · exact same
    · rename_i u hg
      split
      · exact same
      · rename_i hx
        refine put u _ hg ?_ (by simp)
        intro y hy
        rcases List.mem_append.1 hy with hy | hy
        · exact h2 (b, u) (mem_of_mget hg) y hy
        · simp at hy; omega
  split
  · unfold rUndone
    split
    · exact same
    · rename_i u hg
      split
      · refine put u _ hg (fun y hy => h2 (b, u) (mem_of_mget hg) y (List.mem_of_mem_erase hy)) ?_
        have := List.length_erase_le (a := x) (l := u); omega
      · exact same
  split
  · unfold rDrop
    split
    · exact same
    · rename_i u hg
      obtain ⟨A, B, e1, _, e3, _⟩ := mput_split (v := u) hg
      subst e1
      rw [e3]
      refine ⟨?_, fun p hp => h2 p ?_, ?_, hs⟩
      · refine List.Sublist.nodup ?_ h1
        simp only [List.map_append, List.map_cons]
        exact (List.Sublist.refl _).append (List.sublist_cons_self _ _)
      · simp only [List.mem_append, List.mem_cons] at hp ⊢
        rcases hp with hp | hp
        · exact .inl hp
        · exact .inr (.inr hp)
      · rw [cnt_append] at h3 ⊢; simp only [cnt] at h3; omega
  · exact same
theorem wf_empty : Wf [] 0 := ⟨by simp, by simp, by simp [cnt], by omega⟩

/-- The two Rooms, both made since w0, both at L. -/
def Pairs (w0 wr : World) (rb qb : Nat) (area : Int) (L : Txns) : Prop :=
  ∃ fp fq, Both wr rb fp qb fq area L ∧ Off [] w0 wr ∧ (∀ x ∈ fp, w0.heap.size ≤ x) ∧ ∀ x ∈ fq, w0.heap.size ≤ x

theorem Pairs.new {w0 w1 : World} {rb : Nat} {fp : List Nat} {area : Int} (h : RoomP w1 rb fp area []) (ho : Off [] w0 w1) (hn : ∀ x ∈ fp, w0.heap.size ≤ x) :
    Pairs w0 (w1.alloc (.cells #[.int .i64 area, .slice none 0 0] 44)) rb w1.heap.size area [] := by
  have hsz := ho.size
  refine ⟨fp, _, ⟨h.off ((Off.refl [] w1).alloc _) (by simp), ⟨.slice none 0 0, [], rfl, ⟨by simp [blk, rtFoot], IsC.new _ _ _, Own.nil _ _ _, by simp, rfl⟩⟩, ?_⟩, ho.alloc _, hn, ?_⟩
  · intro x hx
    have := h.lt x hx
    simp [blk, rtFoot]; omega
  · intro x hx
    simp [blk, rtFoot] at hx; omega

theorem Pairs.step {w0 w w' : World} {rb qb : Nat} {area : Int} {L' : Txns} {fp fq : List Nat} {e : Ending} (ho : Off [] w0 w) (h1 : ∀ x ∈ fp, w0.heap.size ≤ x) (h2 : ∀ x ∈ fq, w0.heap.size ≤ x) (hs : StepPost rb fp qb fq area L' w e w') :
    e = .returned (.bool true) ∧ Pairs w0 w' rb qb area L' := by
  obtain ⟨rfl, fp', fq', hb, hoff, g1, g2⟩ := hs
  have hsz := ho.size
  refine ⟨rfl, fp', fq', hb, ho.trans hoff (fun x hx => .inr ?_), ?_, ?_⟩
  · rcases List.mem_append.1 hx with hx | hx
    · exact h1 x hx
    · exact h2 x hx
  · intro x hx; rcases g1 x hx with h | h; exact h1 x h; omega
  · intro x hx; rcases g2 x hx with h | h; exact h2 x h; omega

theorem step_p {w0 w : World} {rb qb : Nat} {area : Int} {L : Txns} {n : Nat} (kind b x m : Int) (h : Pairs w0 w rb qb area L) (hw : Wf L n) (ha : area ≤ imax) :
    Calls Try.prog 22 #[.pointer (some ⟨rb, 0, none⟩), .pointer (some ⟨qb, 0, none⟩), .agg #[.int .i64 kind, .int .i64 b, .int .i64 x, .int .i64 m]] w fun e w' => e = .returned (.bool true) ∧ Pairs w0 w' rb qb area (rStep L kind b x) := by
  obtain ⟨fp, fq, hb, ho, h1, h2⟩ := h
  exact (step_any rb fp qb fq area kind b x m L n w hb hw ha).mono fun _ _ hs => Pairs.step ho h1 h2 hs
theorem of_p {w0 w : World} {rb qb : Nat} {area : Int} {L : Txns} (b : Int) (h : Pairs w0 w rb qb area L) :
    Calls Try.prog 24 #[.pointer (some ⟨rb, 0, none⟩), .int .i64 b] w fun e w' => e = .returned (.int .i64 (rOf L b)) ∧ w = w' := by
  obtain ⟨fp, fq, hb, _⟩ := h; exact of_any rb fp area b L w hb.room
theorem ofR_p {w0 w : World} {rb qb : Nat} {area : Int} {L : Txns} {n : Nat} (b : Int) (h : Pairs w0 w rb qb area L) (hw : Wf L n) :
    Calls Try.prog 25 #[.pointer (some ⟨qb, 0, none⟩), .int .i64 b] w fun e w' => e = .returned (.int .i64 (rOf L b)) ∧ w = w' := by
  obtain ⟨fp, fq, hb, _⟩ := h; exact ofR_any qb fq area b L n w hb.ref hw
theorem kept_p {w0 w : World} {rb qb : Nat} {area : Int} {L : Txns} (h : Pairs w0 w rb qb area L) :
    Calls Try.prog 26 #[.pointer (some ⟨rb, 0, none⟩)] w fun e w' => e = .returned (.int .i64 (tot L)) ∧ w = w' := by
  obtain ⟨fp, fq, hb, _⟩ := h; exact kept_any rb fp area L w hb.room
theorem keptR_p {w0 w : World} {rb qb : Nat} {area : Int} {L : Txns} {n : Nat} (h : Pairs w0 w rb qb area L) (hw : Wf L n) :
    Calls Try.prog 23 #[.pointer (some ⟨qb, 0, none⟩)] w fun e w' => e = .returned (.int .i64 (tot L)) ∧ w = w' := by
  obtain ⟨fp, fq, hb, _⟩ := h; exact keptR_any qb fq area L n w hb.ref hw
theorem fits_p {w0 w : World} {rb qb : Nat} {area : Int} {L : Txns} (used more keep : Int) (h : Pairs w0 w rb qb area L) (ha : area ≤ imax) :
    Calls Try.prog 20 #[.pointer (some ⟨rb, 0, none⟩), .int .i64 used, .int .i64 more, .int .i64 keep] w fun e w' => e = .returned (.bool (rFits area (tot L) used more keep)) ∧ w = w' := by
  obtain ⟨fp, fq, hb, _⟩ := h; exact fits_any rb fp area used more keep L w hb.room ha

theorem fits_iff' (area k used more keep : Int) : rFits area k used more keep = true ↔ 0 ≤ used ∧ 0 ≤ more ∧ 0 ≤ keep ∧ k ≤ area ∧ used ≤ area - k ∧ more ≤ area - k - used ∧ keep ≤ area - k - used - more := by
  unfold rFits; simp; omega

theorem quiet_same {P : Program} {f : FuncId} {args : Array Value} {w : World} {n : Nat} {v : Value}
    (h : Calls P f args (w.drewN n) fun e w' => e = .returned v ∧ w.drewN n = w') : Calls P f args (w.drewN n) fun e w'' => e = .returned v ∧ ∃ m, w'' = w.drewN m :=
  h.mono fun _ _ ⟨he, hm⟩ => ⟨he, n, hm.symm⟩
theorem Pairs.off {w0 w w' : World} {rb qb : Nat} {area : Int} {L : Txns} (h : Pairs w0 w rb qb area L) (ho : Off [] w w') : Pairs w0 w' rb qb area L := by
  obtain ⟨fp, fq, hb, h1, h2, h3⟩ := h
  exact ⟨fp, fq, hb.off ho (by simp) (by simp), h1.trans ho (by simp), h2, h3⟩

def AllRel (w0 : World) (rb qb : Nat) (area : Int) (len : Nat) (i : Value) (wr : World) : Prop := ∃ k L, k ≤ len ∧ i = .int .i64 (k : Nat) ∧ Pairs w0 wr rb qb area L ∧ Wf L k

set_option maxRecDepth 100000 in
set_option maxHeartbeats 4000000 in
theorem roomAll_walk (w : World) (area : Int) (ha : InI64 area) (s : Value) (len : Nat) (x : Nat → Nat → Int) (hs : IntRows w 4 s len x) :
    Calls Try.prog 6 #[.int .i64 area, s] w fun e w' => e = .returned (.bool true) ∧ Below w.heap.size w w' := by
  obtain ⟨ao, cap, rfl, hlen, hcell⟩ := hs
  have hln : len < 4398046511104 := by omega
  have HC := Lib.hid hcell
  have HA : Hid (area ≤ imax) := ha.2
  clear hcell ha hlen
  go_enter Try.func6, Try.ntmps6
  go_wp2_with fail
  refine (head_any _).mono ?_
  rintro e w1 ⟨rfl, h1⟩
  go_wp2_with fail
  refine (new_any _ _).mono ?_
  rintro e w2 ⟨rb, fp, rfl, s1, s2, s3⟩
  have hp := Pairs.new s1 (h1.trans s2 (by simp)) (fun y hy => Nat.le_trans h1.size (s3 y hy))
  have HP := Lib.hid hp
  clear hp s1 s2 s3 h1
  go_wp2_with fail
  generalize w2.heap.size = qb at *
  go_loopw [7] (fun i wr => AllRel w rb qb area len i wr) (fun i _ => len - (intOf i).toNat)
  case atStart => exact ⟨0, [], Nat.zero_le _, rfl, HP.out, wf_empty⟩
  case round =>
    obtain ⟨k, L, hk, rfl, hp, hw⟩ := hrel
    have HPR := Lib.hid hp
    have HWF := Lib.hid hw
    clear hp hw
    by_cases hlt : k < len
    · obtain ⟨b, off, rfl, hbl, hx⟩ := HC.out k hlt
      have HO : Hid (Off [] w wr) := by obtain ⟨_, _, _, ho, _⟩ := HPR.out; exact ho
      have hcx : ∀ (W : World), Off [] w W → ∀ j, j < 4 → W.cell? ⟨b, off + (k * 4 + j), none⟩ = some (.int .i64 (x k j)) := by
        intro W ho j hj
        rw [World.cell?_of_block (a := ⟨b, off + (k * 4 + j), none⟩) (ho.old b hbl (by simp))]; exact (hx j hj).1
      have HX := Lib.hid hcx
      have c0 := hcx wr HO.out 0 (by omega)
      have c1 := hcx wr HO.out 1 (by omega)
      have c2 := hcx wr HO.out 2 (by omega)
      have c3 := hcx wr HO.out 3 (by omega)
      clear hcx hx
      simp only [Nat.add_zero, ← Nat.add_assoc] at c0 c1 c2 c3
      generalize hx0 : x k 0 = x0 at *
      generalize hx1 : x k 1 = x1 at *
      generalize hx2 : x k 2 = x2 at *
      generalize hx3 : x k 3 = x3 at *
      clear hx0 hx2 hx3
      have HX1 := Lib.hid hx1
      clear hx1
      go_wp2_with fail
      refine (step_p x0 x1 x2 x3 HPR.out HWF.out HA.out).mono ?_
      rintro e w3 ⟨rfl, hp3⟩
      have HW3 := Lib.hid (wf_step HWF.out (by omega) x0 x1 x2)
      generalize rStep L x0 x1 x2 = L3 at *
      have HP3 := Lib.hid hp3
      have HO3 : Hid (Off [] w w3) := by obtain ⟨_, _, _, ho, _⟩ := hp3; exact ho
      clear hp3 c0 c1 c2 c3
      have d1 := HX.out w3 HO3.out 1 (by omega)
      rw [HX1.out, ← Nat.add_assoc] at d1
      go_wp2_with fail
      refine (keptR_p HP3.out HW3.out).mono ?_
      rintro e w4 ⟨rfl, rfl⟩
      go_upto_region 11 with fail
      have KP3 : Hid (∀ n, Pairs w (w3.drewN n) rb qb area L3) := fun n => HP3.out.off ((Off.refl _ _).drewN n)
      have hlti : (k : Int) < (len : Int) := by omega
      go_quiet ((first | (go_at_call 24; exact quiet_same (of_p _ (KP3.out _))) | (go_at_call 25; exact quiet_same (ofR_p _ (KP3.out _) HW3.out)) | (go_at_call 26; exact quiet_same (kept_p (KP3.out _)))))
      have hK0 := tot_nonneg L3 HW3.out.good
      have hAI : area ≤ 9223372036854775807 := HA.out
      by_cases hA : tot L3 ≤ area
      · have hsub : wrap64 (area - tot L3) = area - tot L3 := by unfold wrap64; omega
        have hsub2 : wrap64 (area - tot L3 - 1) = area - tot L3 - 1 := by unfold wrap64; omega
        have f1 : rFits area (tot L3) (area - tot L3) 0 0 = true := by rw [fits_iff']; omega
        have f2 : rFits area (tot L3) 0 (area - tot L3) 0 = true := by rw [fits_iff']; omega
        have f3 : rFits area (tot L3) 0 0 (area - tot L3) = true := by rw [fits_iff']; omega
        have f4 : rFits area (tot L3) (area - tot L3 - 1) 1 1 = false := by rw [← Bool.not_eq_true, fits_iff']; omega
        clear hK0 hAI
        by_cases hB : tot L3 < area
        all_goals
          go_wp2_with (go_at_call 20; refine (fits_p _ _ _ (KP3.out _) HA.out).mono ?_; rintro e w4 ⟨rfl, rfl⟩)
          go_roundw
          case rel => exact ⟨k + 1, L3, by omega, by go_num, KP3.out _, HW3.out⟩
          case measure => simp [intOf]; omega
      · have f1 : rFits area (tot L3) 0 0 0 = false := by rw [← Bool.not_eq_true, fits_iff']; omega
        have hA' : area < tot L3 := by omega
        clear hK0 hAI hA
        go_wp2_with (go_at_call 20; refine (fits_p _ _ _ (KP3.out _) HA.out).mono ?_; rintro e w4 ⟨rfl, rfl⟩)
        go_roundw
        case rel => exact ⟨k + 1, L3, by omega, by go_num, KP3.out _, HW3.out⟩
        case measure => simp [intOf]; omega
    · have HO : Hid (Off [] w wr) := by obtain ⟨_, _, _, ho, _⟩ := HPR.out; exact ho
      go_wp2_with fail
      go_ret
      exact ⟨rfl, HO.out.below⟩
end Go.Proofs.Ytlhmcbcoaplcaaa
