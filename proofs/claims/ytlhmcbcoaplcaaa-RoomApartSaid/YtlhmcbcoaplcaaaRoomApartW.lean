/- RoomApart: the law's walk: a second Room beside the pair changes nothing of it. -/
import Derived.Test.YtlhmcbcoaplcaaaRoomAllW
set_option linter.unusedVariables false
set_option linter.unusedSimpArgs false
namespace Go.Proofs.Ytlhmcbcoaplcaaa
open Go.ChangeShapes Go.WideShapes Go.ChangeAt Go.RowKit

/-- Three objects made since w0: the pair at L, another Room at M. -/
def Tri (w0 w : World) (rb qb sb : Nat) (area : Int) (L M : Txns) : Prop :=
  ∃ fp fq fs, Both w rb fp qb fq area L ∧ RoomP w sb fs area M ∧ (∀ x ∈ fs, x ∉ fp ∧ x ∉ fq) ∧ Off [] w0 w ∧ (∀ x ∈ fp, w0.heap.size ≤ x) ∧ (∀ x ∈ fq, w0.heap.size ≤ x) ∧ ∀ x ∈ fs, w0.heap.size ≤ x

theorem Tri.pairs {w0 w : World} {rb qb sb : Nat} {area : Int} {L M : Txns} (h : Tri w0 w rb qb sb area L M) : Pairs w0 w rb qb area L := by
  obtain ⟨fp, fq, fs, hb, _, _, ho, h1, h2, _⟩ := h
  exact ⟨fp, fq, hb, ho, h1, h2⟩
theorem Tri.old {w0 w : World} {rb qb sb : Nat} {area : Int} {L M : Txns} (h : Tri w0 w rb qb sb area L M) : Off [] w0 w := by
  obtain ⟨fp, fq, fs, hb, _, _, ho, h1, h2, _⟩ := h; exact ho
theorem Tri.off {w0 w w' : World} {rb qb sb : Nat} {area : Int} {L M : Txns} (h : Tri w0 w rb qb sb area L M) (ho : Off [] w w') : Tri w0 w' rb qb sb area L M := by
  obtain ⟨fp, fq, fs, hb, hs, hd, h0, h1, h2, h3⟩ := h
  exact ⟨fp, fq, fs, hb.off ho (by simp) (by simp), hs.off ho (by simp), hd, h0.trans ho (by simp), h1, h2, h3⟩

theorem Tri.other {w0 w w' : World} {rb qb sb : Nat} {area : Int} {L : Txns} {fp fq fs : List Nat} {r : Int × Txns} {e : Ending} (hb : Both w rb fp qb fq area L) (hd : ∀ x ∈ fs, x ∉ fp ∧ x ∉ fq) (h0 : Off [] w0 w)
    (h1 : ∀ x ∈ fp, w0.heap.size ≤ x) (h2 : ∀ x ∈ fq, w0.heap.size ≤ x) (h3 : ∀ x ∈ fs, w0.heap.size ≤ x) (hs : RoomStep sb fs area r w e w') : e = .returned (.int .i64 r.1) ∧ Tri w0 w' rb qb sb area L r.2 := by
  obtain ⟨rfl, fs', g1, g2, g3⟩ := hs
  have hsz := h0.size
  refine ⟨rfl, fp, fq, fs', hb.off g2 (fun x hx hx' => (hd x hx').1 hx) (fun x hx hx' => (hd x hx').2 hx), g1, ?_, h0.trans g2 (fun x hx => .inr (h3 x hx)), h1, h2, ?_⟩
  · intro x hx
    rcases g3 x hx with h | h
    · exact hd x h
    · exact ⟨fun hx' => by have := hb.room.lt x hx'; omega, fun hx' => by have := hb.ref.lt x hx'; omega⟩
  · intro x hx
    rcases g3 x hx with h | h
    · exact h3 x h
    · omega
theorem Tri.stepped {w0 w w' : World} {rb qb sb : Nat} {area : Int} {L' M : Txns} {fp fq fs : List Nat} {e : Ending} (hm : RoomP w sb fs area M) (hd : ∀ x ∈ fs, x ∉ fp ∧ x ∉ fq) (h0 : Off [] w0 w)
    (h1 : ∀ x ∈ fp, w0.heap.size ≤ x) (h2 : ∀ x ∈ fq, w0.heap.size ≤ x) (h3 : ∀ x ∈ fs, w0.heap.size ≤ x) (hs : StepPost rb fp qb fq area L' w e w') : e = .returned (.bool true) ∧ Tri w0 w' rb qb sb area L' M := by
  obtain ⟨rfl, fp', fq', hb, hoff, g1, g2⟩ := hs
  have hsz := h0.size
  refine ⟨rfl, fp', fq', fs, hb, hm.off hoff (fun x hx hx' => ?_), ?_, h0.trans hoff (fun x hx => .inr ?_), ?_, ?_, h3⟩
  · rcases List.mem_append.1 hx' with h | h
    · exact (hd x hx).1 h
    · exact (hd x hx).2 h
  · intro x hx
    have := hm.lt x hx
    exact ⟨fun hx' => by rcases g1 x hx' with h | h; exact (hd x hx).1 h; omega, fun hx' => by rcases g2 x hx' with h | h; exact (hd x hx).2 h; omega⟩
  · rcases List.mem_append.1 hx with hx | hx
    · exact h1 x hx
    · exact h2 x hx
  · intro x hx; rcases g1 x hx with h | h; exact h1 x h; omega
  · intro x hx; rcases g2 x hx with h | h; exact h2 x h; omega

section
variable {w0 w : World} {rb qb sb : Nat} {area : Int} {L M : Txns} {n : Nat}
theorem begin_t (b : Int) (h : Tri w0 w rb qb sb area L M) (hw : Wf M n) :
    Calls Try.prog 21 #[.pointer (some ⟨sb, 0, none⟩), .int .i64 b] w fun e w' => e = .returned (.int .i64 (rBegin M b).1) ∧ Tri w0 w' rb qb sb area L (rBegin M b).2 := by
  obtain ⟨fp, fq, fs, hb, hs, hd, h0, h1, h2, h3⟩ := h
  exact (begin_any sb fs area b M w hs hw.big).mono fun _ _ h => Tri.other hb hd h0 h1 h2 h3 h
theorem update_t (b x : Int) (h : Tri w0 w rb qb sb area L M) (hw : Wf M n) :
    Calls Try.prog 27 #[.pointer (some ⟨sb, 0, none⟩), .int .i64 b, .int .i64 x] w fun e w' => e = .returned (.int .i64 (rUpdate M b x).1) ∧ Tri w0 w' rb qb sb area L (rUpdate M b x).2 := by
  obtain ⟨fp, fq, fs, hb, hs, hd, h0, h1, h2, h3⟩ := h
  exact (update_any sb fs area b x M w hs hw.big).mono fun _ _ h => Tri.other hb hd h0 h1 h2 h3 h
theorem undone_t (b x : Int) (h : Tri w0 w rb qb sb area L M) (hw : Wf M n) :
    Calls Try.prog 28 #[.pointer (some ⟨sb, 0, none⟩), .int .i64 b, .int .i64 x] w fun e w' => e = .returned (.int .i64 (rUndone M b x).1) ∧ Tri w0 w' rb qb sb area L (rUndone M b x).2 := by
  obtain ⟨fp, fq, fs, hb, hs, hd, h0, h1, h2, h3⟩ := h
  exact (undone_any sb fs area b x M w hs hw.big).mono fun _ _ h => Tri.other hb hd h0 h1 h2 h3 h
theorem drop_t (b : Int) (h : Tri w0 w rb qb sb area L M) (hw : Wf M n) :
    Calls Try.prog 29 #[.pointer (some ⟨sb, 0, none⟩), .int .i64 b] w fun e w' => e = .returned (.int .i64 (rDrop M b).1) ∧ Tri w0 w' rb qb sb area L (rDrop M b).2 := by
  obtain ⟨fp, fq, fs, hb, hs, hd, h0, h1, h2, h3⟩ := h
  exact (drop_any sb fs area b M w hs hw.big).mono fun _ _ h => Tri.other hb hd h0 h1 h2 h3 h
theorem step_t (kind b x m : Int) (h : Tri w0 w rb qb sb area L M) (hw : Wf L n) (ha : area ≤ imax) :
    Calls Try.prog 22 #[.pointer (some ⟨rb, 0, none⟩), .pointer (some ⟨qb, 0, none⟩), .agg #[.int .i64 kind, .int .i64 b, .int .i64 x, .int .i64 m]] w fun e w' => e = .returned (.bool true) ∧ Tri w0 w' rb qb sb area (rStep L kind b x) M := by
  obtain ⟨fp, fq, fs, hb, hs, hd, h0, h1, h2, h3⟩ := h
  exact (step_any rb fp qb fq area kind b x m L n w hb hw ha).mono fun _ _ h => Tri.stepped hs hd h0 h1 h2 h3 h
end

theorem Wf.up {L : Txns} {n : Nat} (h : Wf L n) (hs : n + 1 < 4398046511104) : Wf L (n + 1) := ⟨h.births, h.good, Nat.le_succ_of_le h.cnt, hs⟩

def ApartRel (w0 : World) (rb qb sb : Nat) (area : Int) (len : Nat) (i : Value) (wr : World) : Prop := ∃ k L M, k ≤ len ∧ i = .int .i64 (k : Nat) ∧ Tri w0 wr rb qb sb area L M ∧ Wf L k ∧ Wf M k
def ApartMid (w0 : World) (rb qb sb : Nat) (area : Int) (L : Txns) (k : Nat) (wr : World) : Prop := ∃ M, Tri w0 wr rb qb sb area L M ∧ Wf M (k + 1)

theorem tri_new {w0 w1 w2 : World} {rb sb : Nat} {fp fs : List Nat} {area : Int} (h : RoomP w1 rb fp area []) (ho : Off [] w0 w1) (hn : ∀ x ∈ fp, w0.heap.size ≤ x) (hs : RoomP w2 sb fs area []) (ho2 : Off [] w1 w2) (hn2 : ∀ x ∈ fs, w1.heap.size ≤ x) :
    Tri w0 (w2.alloc (.cells #[.int .i64 area, .slice none 0 0] 44)) rb w2.heap.size sb area [] [] := by
  have hsz := ho.size
  have hsz2 := ho2.size
  have hr2 := h.off ho2 (by simp)
  refine ⟨fp, _, fs, ⟨hr2.off ((Off.refl [] w2).alloc _) (by simp), ⟨.slice none 0 0, [], rfl, ⟨by simp [blk, rtFoot], IsC.new _ _ _, Own.nil _ _ _, by simp, rfl⟩⟩, ?_⟩, hs.off ((Off.refl [] w2).alloc _) (by simp), ?_, (ho.trans ho2 (by simp)).alloc _, hn, ?_, ?_⟩
  · intro x hx
    have := hr2.lt x hx
    simp [blk, rtFoot]; omega
  · intro x hx
    have h1 := hn2 x hx
    have h2 := hs.lt x hx
    exact ⟨fun hx' => by have := h.lt x hx'; omega, by simp [blk, rtFoot]; omega⟩
  · intro x hx
    simp [blk, rtFoot] at hx; omega
  · intro x hx
    have := hn2 x hx; omega

set_option maxRecDepth 100000 in
set_option maxHeartbeats 8000000 in
theorem roomApart_walk (w : World) (area : Int) (ha : InI64 area) (s : Value) (len : Nat) (x : Nat → Nat → Int) (hs : IntRows w 4 s len x) (s2 : Value) (len2 : Nat) (y : Nat → Nat → Int) (hs2 : IntRows w 4 s2 len2 y) :
    Calls Try.prog 9 #[.int .i64 area, s, s2] w fun e w' => e = .returned (.bool true) ∧ Below w.heap.size w w' := by
  obtain ⟨ao, cap, rfl, hlen, hcell⟩ := hs
  obtain ⟨ao2, cap2, rfl, hlen2, hcell2⟩ := hs2
  have hln : len < 4398046511104 := by omega
  have hln2 : len2 < 4398046511104 := by omega
  have HC := Lib.hid hcell
  have HC2 := Lib.hid hcell2
  have HA : Hid (area ≤ imax) := ha.2
  clear hcell ha hlen hcell2 hlen2
  go_enter Try.func9, Try.ntmps9
  go_wp2_with fail
  refine (head_any _).mono ?_
  rintro e w1 ⟨rfl, h1⟩
  go_wp2_with fail
  refine (new_any _ _).mono ?_
  rintro e w2 ⟨rb, fp, rfl, t1, t2, t3⟩
  go_wp2_with fail
  refine (new_any _ _).mono ?_
  rintro e w3 ⟨sb, fs, rfl, t4, t5, t6⟩
  have HP := Lib.hid (tri_new t1 (h1.trans t2 (by simp)) (fun y hy => Nat.le_trans h1.size (t3 y hy)) t4 t5 t6)
  clear t1 t2 t3 t4 t5 t6 h1
  go_wp2_with fail
  generalize w3.heap.size = qb at *
  go_loopw [10] (fun i wr => ApartRel w rb qb sb area (max len len2) i wr) (fun i _ => max len len2 - (intOf i).toNat)
  case atStart => exact ⟨0, [], [], Nat.zero_le _, rfl, HP.out, wf_empty, wf_empty⟩
  case round =>
    obtain ⟨k, L, M, hk, rfl, hp, hw, hwm⟩ := hrel
    have HPR := Lib.hid hp
    have HWF := Lib.hid hw
    have HWM := Lib.hid hwm
    have HOR := Lib.hid hp.old
    clear hp hw hwm
    by_cases hlt : k < len ∨ k < len2
    · have hkb : k + 1 < 4398046511104 := by omega
      have hmx : k < max len len2 := by omega
      by_cases g1 : k < len
      · by_cases g2 : k < len2
        · clear hlt
          go_upto_if 43 with fail
          go_cut [11] (fun s11 wx => ApartMid w rb qb sb area L k wx)
          case first =>
            obtain ⟨b2, off2, hao2, hbl2, hx2⟩ := HC2.out k g2
            obtain rfl := hao2
            have c0 : wr.cell? ⟨b2, off2 + k * 4, none⟩ = some (.int .i64 (y k 0)) := by rw [World.cell?_of_block (a := ⟨b2, off2 + k * 4, none⟩) (HOR.out.old b2 hbl2 (by simp))]; exact (hx2 0 (by omega)).1
            have c1 : wr.cell? ⟨b2, off2 + k * 4 + 1, none⟩ = some (.int .i64 (y k 1)) := by rw [World.cell?_of_block (a := ⟨b2, off2 + k * 4 + 1, none⟩) (HOR.out.old b2 hbl2 (by simp)), Nat.add_assoc]; exact (hx2 1 (by omega)).1
            have c2 : wr.cell? ⟨b2, off2 + k * 4 + 2, none⟩ = some (.int .i64 (y k 2)) := by rw [World.cell?_of_block (a := ⟨b2, off2 + k * 4 + 2, none⟩) (HOR.out.old b2 hbl2 (by simp)), Nat.add_assoc]; exact (hx2 2 (by omega)).1
            have c3 : wr.cell? ⟨b2, off2 + k * 4 + 3, none⟩ = some (.int .i64 (y k 3)) := by rw [World.cell?_of_block (a := ⟨b2, off2 + k * 4 + 3, none⟩) (HOR.out.old b2 hbl2 (by simp)), Nat.add_assoc]; exact (hx2 3 (by omega)).1
            clear hx2
            generalize y k 0 = y0 at *
            generalize y k 1 = y1 at *
            generalize y k 2 = y2 at *
            generalize y k 3 = y3 at *
            have PA := Lib.hid (fun o => HPR.out.off ((Off.refl [] wr).alloc o))
            by_cases k0 : y0 = 0
            · subst k0
              go_wp2_with fail
              refine (begin_t _ (PA.out _) HWM.out).mono ?_
              rintro e w4 ⟨rfl, hp⟩
              have HQ : Hid (ApartMid w rb qb sb area L k w4) := ⟨_, hp, wf_step HWM.out hkb 0 y1 y2⟩
              clear hp
              go_wp2_with fail
              go_meet
              exact HQ.out
            by_cases k1 : y0 = 1
            · subst k1
              go_wp2_with fail
              refine (update_t _ _ (PA.out _) HWM.out).mono ?_
              rintro e w4 ⟨rfl, hp⟩
              have HQ : Hid (ApartMid w rb qb sb area L k w4) := ⟨_, hp, wf_step HWM.out hkb 1 y1 y2⟩
              clear hp
              go_wp2_with fail
              go_meet
              exact HQ.out
            by_cases k2 : y0 = 2
            · subst k2
              go_wp2_with fail
              refine (undone_t _ _ (PA.out _) HWM.out).mono ?_
              rintro e w4 ⟨rfl, hp⟩
              have HQ : Hid (ApartMid w rb qb sb area L k w4) := ⟨_, hp, wf_step HWM.out hkb 2 y1 y2⟩
              clear hp
              go_wp2_with fail
              go_meet
              exact HQ.out
            by_cases k3 : y0 = 3
            · subst k3
              go_wp2_with fail
              refine (drop_t _ (PA.out _) HWM.out).mono ?_
              rintro e w4 ⟨rfl, hp⟩
              have HQ : Hid (ApartMid w rb qb sb area L k w4) := ⟨_, hp, wf_step HWM.out hkb 3 y1 y2⟩
              clear hp
              go_wp2_with fail
              go_meet
              exact HQ.out
            have d0 : (y0 == 0) = false := by simpa using k0
            have d1 : (y0 == 1) = false := by simpa using k1
            have d2 : (y0 == 2) = false := by simpa using k2
            have d3 : (y0 == 3) = false := by simpa using k3
            have HQ : Hid (∀ o, ApartMid w rb qb sb area L k (wr.alloc o)) := fun o => ⟨_, PA.out o, Wf.up HWM.out hkb⟩
            clear k0 k1 k2 k3
            go_wp2_with fail
            go_meet
            exact HQ.out _
          case rest =>
            obtain ⟨M3, hp3, hw3⟩ := hcut
            have HP3 := Lib.hid hp3
            have HW3 := Lib.hid hw3
            have HO3 := Lib.hid hp3.old
            clear hp3 hw3
            obtain ⟨b1, off1, hao1, hbl1, hx1⟩ := HC.out k g1
            obtain rfl := hao1
            have c0 : wc.cell? ⟨b1, off1 + k * 4, none⟩ = some (.int .i64 (x k 0)) := by rw [World.cell?_of_block (a := ⟨b1, off1 + k * 4, none⟩) (HO3.out.old b1 hbl1 (by simp))]; exact (hx1 0 (by omega)).1
            have c1 : wc.cell? ⟨b1, off1 + k * 4 + 1, none⟩ = some (.int .i64 (x k 1)) := by rw [World.cell?_of_block (a := ⟨b1, off1 + k * 4 + 1, none⟩) (HO3.out.old b1 hbl1 (by simp)), Nat.add_assoc]; exact (hx1 1 (by omega)).1
            have c2 : wc.cell? ⟨b1, off1 + k * 4 + 2, none⟩ = some (.int .i64 (x k 2)) := by rw [World.cell?_of_block (a := ⟨b1, off1 + k * 4 + 2, none⟩) (HO3.out.old b1 hbl1 (by simp)), Nat.add_assoc]; exact (hx1 2 (by omega)).1
            have c3 : wc.cell? ⟨b1, off1 + k * 4 + 3, none⟩ = some (.int .i64 (x k 3)) := by rw [World.cell?_of_block (a := ⟨b1, off1 + k * 4 + 3, none⟩) (HO3.out.old b1 hbl1 (by simp)), Nat.add_assoc]; exact (hx1 3 (by omega)).1
            clear hx1
            generalize x k 0 = x0 at *
            generalize x k 1 = x1 at *
            generalize x k 2 = x2 at *
            generalize x k 3 = x3 at *
            go_wp2_with fail
            refine (step_t x0 x1 x2 x3 HP3.out HWF.out HA.out).mono ?_
            rintro e w4 ⟨rfl, hp4⟩
            have HW4 := Lib.hid (wf_step HWF.out hkb x0 x1 x2)
            generalize rStep L x0 x1 x2 = L4 at *
            have HP4 := Lib.hid hp4
            clear hp4 c0 c1 c2 c3
            go_wp2_with fail
            refine (kept_p HP4.out.pairs).mono ?_
            rintro e w5 ⟨rfl, rfl⟩
            go_wp2_with fail
            refine (keptR_p HP4.out.pairs HW4.out).mono ?_
            rintro e w5 ⟨rfl, rfl⟩
            go_wp2_with fail
            go_roundw
            case rel => exact ⟨k + 1, _, M3, by omega, by go_num, HP4.out, HW4.out, HW3.out⟩
            case measure => simp [intOf]; omega
        · clear hlt
          go_upto_if 43 with fail
          go_cut [11] (fun s11 wx => ApartMid w rb qb sb area L k wx)
          case first =>
            have HQ : Hid (ApartMid w rb qb sb area L k wr) := ⟨_, HPR.out, Wf.up HWM.out hkb⟩
            go_wp2_with fail
            go_meet
            exact HQ.out
          case rest =>
            obtain ⟨M3, hp3, hw3⟩ := hcut
            have HP3 := Lib.hid hp3
            have HW3 := Lib.hid hw3
            have HO3 := Lib.hid hp3.old
            clear hp3 hw3
            obtain ⟨b1, off1, hao1, hbl1, hx1⟩ := HC.out k g1
            obtain rfl := hao1
            have c0 : wc.cell? ⟨b1, off1 + k * 4, none⟩ = some (.int .i64 (x k 0)) := by rw [World.cell?_of_block (a := ⟨b1, off1 + k * 4, none⟩) (HO3.out.old b1 hbl1 (by simp))]; exact (hx1 0 (by omega)).1
            have c1 : wc.cell? ⟨b1, off1 + k * 4 + 1, none⟩ = some (.int .i64 (x k 1)) := by rw [World.cell?_of_block (a := ⟨b1, off1 + k * 4 + 1, none⟩) (HO3.out.old b1 hbl1 (by simp)), Nat.add_assoc]; exact (hx1 1 (by omega)).1
            have c2 : wc.cell? ⟨b1, off1 + k * 4 + 2, none⟩ = some (.int .i64 (x k 2)) := by rw [World.cell?_of_block (a := ⟨b1, off1 + k * 4 + 2, none⟩) (HO3.out.old b1 hbl1 (by simp)), Nat.add_assoc]; exact (hx1 2 (by omega)).1
            have c3 : wc.cell? ⟨b1, off1 + k * 4 + 3, none⟩ = some (.int .i64 (x k 3)) := by rw [World.cell?_of_block (a := ⟨b1, off1 + k * 4 + 3, none⟩) (HO3.out.old b1 hbl1 (by simp)), Nat.add_assoc]; exact (hx1 3 (by omega)).1
            clear hx1
            generalize x k 0 = x0 at *
            generalize x k 1 = x1 at *
            generalize x k 2 = x2 at *
            generalize x k 3 = x3 at *
            go_wp2_with fail
            refine (step_t x0 x1 x2 x3 HP3.out HWF.out HA.out).mono ?_
            rintro e w4 ⟨rfl, hp4⟩
            have HW4 := Lib.hid (wf_step HWF.out hkb x0 x1 x2)
            generalize rStep L x0 x1 x2 = L4 at *
            have HP4 := Lib.hid hp4
            clear hp4 c0 c1 c2 c3
            go_wp2_with fail
            refine (kept_p HP4.out.pairs).mono ?_
            rintro e w5 ⟨rfl, rfl⟩
            go_wp2_with fail
            refine (keptR_p HP4.out.pairs HW4.out).mono ?_
            rintro e w5 ⟨rfl, rfl⟩
            go_wp2_with fail
            go_roundw
            case rel => exact ⟨k + 1, _, M3, by omega, by go_num, HP4.out, HW4.out, HW3.out⟩
            case measure => simp [intOf]; omega
      · have g2 : k < len2 := by omega
        clear hlt
        go_upto_if 43 with fail
        go_cut [11] (fun s11 wx => ApartMid w rb qb sb area L k wx)
        case first =>
          obtain ⟨b2, off2, hao2, hbl2, hx2⟩ := HC2.out k g2
          obtain rfl := hao2
          have c0 : wr.cell? ⟨b2, off2 + k * 4, none⟩ = some (.int .i64 (y k 0)) := by rw [World.cell?_of_block (a := ⟨b2, off2 + k * 4, none⟩) (HOR.out.old b2 hbl2 (by simp))]; exact (hx2 0 (by omega)).1
          have c1 : wr.cell? ⟨b2, off2 + k * 4 + 1, none⟩ = some (.int .i64 (y k 1)) := by rw [World.cell?_of_block (a := ⟨b2, off2 + k * 4 + 1, none⟩) (HOR.out.old b2 hbl2 (by simp)), Nat.add_assoc]; exact (hx2 1 (by omega)).1
          have c2 : wr.cell? ⟨b2, off2 + k * 4 + 2, none⟩ = some (.int .i64 (y k 2)) := by rw [World.cell?_of_block (a := ⟨b2, off2 + k * 4 + 2, none⟩) (HOR.out.old b2 hbl2 (by simp)), Nat.add_assoc]; exact (hx2 2 (by omega)).1
          have c3 : wr.cell? ⟨b2, off2 + k * 4 + 3, none⟩ = some (.int .i64 (y k 3)) := by rw [World.cell?_of_block (a := ⟨b2, off2 + k * 4 + 3, none⟩) (HOR.out.old b2 hbl2 (by simp)), Nat.add_assoc]; exact (hx2 3 (by omega)).1
          clear hx2
          generalize y k 0 = y0 at *
          generalize y k 1 = y1 at *
          generalize y k 2 = y2 at *
          generalize y k 3 = y3 at *
          have PA := Lib.hid (fun o => HPR.out.off ((Off.refl [] wr).alloc o))
          by_cases k0 : y0 = 0
          · subst k0
            go_wp2_with fail
            refine (begin_t _ (PA.out _) HWM.out).mono ?_
            rintro e w4 ⟨rfl, hp⟩
            have HQ : Hid (ApartMid w rb qb sb area L k w4) := ⟨_, hp, wf_step HWM.out hkb 0 y1 y2⟩
            clear hp
            go_wp2_with fail
            go_meet
            exact HQ.out
          by_cases k1 : y0 = 1
          · subst k1
            go_wp2_with fail
            refine (update_t _ _ (PA.out _) HWM.out).mono ?_
            rintro e w4 ⟨rfl, hp⟩
            have HQ : Hid (ApartMid w rb qb sb area L k w4) := ⟨_, hp, wf_step HWM.out hkb 1 y1 y2⟩
            clear hp
            go_wp2_with fail
            go_meet
            exact HQ.out
          by_cases k2 : y0 = 2
          · subst k2
            go_wp2_with fail
            refine (undone_t _ _ (PA.out _) HWM.out).mono ?_
            rintro e w4 ⟨rfl, hp⟩
            have HQ : Hid (ApartMid w rb qb sb area L k w4) := ⟨_, hp, wf_step HWM.out hkb 2 y1 y2⟩
            clear hp
            go_wp2_with fail
            go_meet
            exact HQ.out
          by_cases k3 : y0 = 3
          · subst k3
            go_wp2_with fail
            refine (drop_t _ (PA.out _) HWM.out).mono ?_
            rintro e w4 ⟨rfl, hp⟩
            have HQ : Hid (ApartMid w rb qb sb area L k w4) := ⟨_, hp, wf_step HWM.out hkb 3 y1 y2⟩
            clear hp
            go_wp2_with fail
            go_meet
            exact HQ.out
          have d0 : (y0 == 0) = false := by simpa using k0
          have d1 : (y0 == 1) = false := by simpa using k1
          have d2 : (y0 == 2) = false := by simpa using k2
          have d3 : (y0 == 3) = false := by simpa using k3
          have HQ : Hid (∀ o, ApartMid w rb qb sb area L k (wr.alloc o)) := fun o => ⟨_, PA.out o, Wf.up HWM.out hkb⟩
          clear k0 k1 k2 k3
          go_wp2_with fail
          go_meet
          exact HQ.out _
        case rest =>
          obtain ⟨M3, hp3, hw3⟩ := hcut
          have HP3 := Lib.hid hp3
          have HW3 := Lib.hid hw3
          have HO3 := Lib.hid hp3.old
          clear hp3 hw3
          have HW4 := Lib.hid (Wf.up HWF.out hkb)
          have HP4 := HP3
          go_wp2_with fail
          refine (kept_p HP4.out.pairs).mono ?_
          rintro e w5 ⟨rfl, rfl⟩
          go_wp2_with fail
          refine (keptR_p HP4.out.pairs HW4.out).mono ?_
          rintro e w5 ⟨rfl, rfl⟩
          go_wp2_with fail
          go_roundw
          case rel => exact ⟨k + 1, _, M3, by omega, by go_num, HP4.out, HW4.out, HW3.out⟩
          case measure => simp [intOf]; omega
    · have h1 : ¬ k < len := by omega
      have h2 : ¬ k < len2 := by omega
      clear hlt
      go_wp2_with fail
      go_ret
      exact ⟨rfl, HOR.out.below⟩
end Go.Proofs.Ytlhmcbcoaplcaaa
