/- frame: Open of a right frame. -/
import Derived.Test.YtfdgiblkllfpjaaGreatDoorL14
import Derived.Defers
import Derived.Recover
import Derived.Deep.RegionHeld3
set_option linter.unusedVariables false
set_option linter.unusedSimpArgs false
namespace Go.Proofs.YtfdgiblkllfpjaaGreatDoor
open Go.ChangeShapes Go.WideShapes Go.ChangeAt Go.RowKit

/-- A part of a slice with no room behind it. -/
theorem IsB.cutM {w : World} {g off n cap : Nat} {l : List UInt8} (h : IsB w (.slice (some ⟨g, off, none⟩) n cap) l) (i j : Nat) (hij : i < j) (hj : j ≤ l.length) :
    IsB w (.slice (some ⟨g, off + i, none⟩) (j - i) (j - i)) ((l.drop i).take (j - i)) ∧
      (i = 0 → ∀ (W : World) (y z : Int), y = j → z = j → (Instr.slice 22 (.slice (some ⟨g, off, none⟩) n cap) none (some (.int .i64 y)) (some (.int .i64 z))).run Tryz.prog W = .ok (.slice (some ⟨g, off + i, none⟩) (j - i) (j - i)) W) ∧
      ∀ (W : World) (x y z : Int), x = i → y = j → z = j → (Instr.slice 22 (.slice (some ⟨g, off, none⟩) n cap) (some (.int .i64 x)) (some (.int .i64 y)) (some (.int .i64 z))).run Tryz.prog W = .ok (.slice (some ⟨g, off + i, none⟩) (j - i) (j - i)) W := by
  have hn : n = l.length := by obtain ⟨a, c, e⟩ := h.val; injection e
  subst hn
  have hel : Tryz.prog.elem 22 = 5 := by simp [Program.elem, Tryz.underlying22]
  have ht' : Tryz.prog.underlying 22 = some (.slice (Tryz.prog.elem 22)) := by rw [hel]; exact Tryz.underlying22
  have hsz : ∀ W, (sizeOf (Tryz.prog.elem 22)).run Tryz.prog W = .ok 1 W := by
    intro W
    rw [hel]
    have hi := isize5
    cases hq : Tryz.prog.info? 5 with
    | none => rw [hq] at hi; simp at hi
    | some i => rw [hq] at hi; simp at hi; simp [sizeOf, typeInfo, hq, hi]
  rcases h.2 with ⟨e, _⟩ | ⟨g', off', cap', cur, e, hc, hnc, hcm, hcs, htk⟩
  · simp at e
  injection e with e1 _ e3
  injection e1 with e1
  injection e1 with e1 e4 _
  subst e1; subst e4; subst e3
  have hlen : ((l.drop i).take (j - i)).length = j - i := by rw [List.length_take, List.length_drop]; omega
  have hji : j ≠ i := by omega
  refine ⟨?_, fun hi W y z hy hz => ?_, fun W x y z hx hy hz => ?_⟩
  · unfold IsB
    rw [hlen]
    refine ⟨by rw [bytesV_len, hlen, Nat.mul_one], .inr ⟨g, off + i, j - i, cur, rfl, hc, Nat.le_refl _, by omega, by omega, ?_⟩⟩
    have e : bytesV ((l.drop i).take (j - i)) = ((bytesV l).drop i).take (j - i) := by simp [bytesV, List.map_drop, List.map_take]
    have hmin : min (j - i) (l.length * 1 - i) = (j - i) * 1 := by omega
    rw [e, ← htk, List.drop_take, List.drop_drop, List.take_take, hmin]
  · subst hi; subst hy; subst hz
    rw [run_slice_hm (w := W) 22 (some ⟨g, off, none⟩) l.length cap ht' .i64 .i64 (j : Int) (j : Int) (by omega) (by omega) (by omega), hsz]
    have hj0 : j ≠ 0 := by omega
    simp [sliced, hj0, Addr.add_lit]
  · subst hx; subst hy; subst hz
    rw [run_slice_lhm (w := W) 22 (some ⟨g, off, none⟩) l.length cap ht' .i64 .i64 .i64 (i : Int) (j : Int) (j : Int) (by omega) (by omega) (by omega) (by omega), hsz]
    simp [sliced, hji, Addr.add_lit]
def OpenF (w : World) (l : List UInt8) (s : Nat) (e : Ending) (w' : World) : Prop :=
  ∃ ao cap, e = .returned (.tuple #[.slice ao l.length cap, .int .i64 (s : Int), .int .i64 0]) ∧ IsB w' (.slice ao l.length cap) l ∧ Off [] w w' ∧ ∀ x ∈ blk (.slice ao l.length cap), w.heap.size ≤ x
set_option maxRecDepth 100000 in
set_option maxHeartbeats 4000000 in
theorem open222_frame {t : Nat → Nat} (lsn : Nat) (v : Value) (body rest : List UInt8) (w : World) (ht : Tbl t w) (h : IsB w v (frameB t lsn body ++ rest)) (h1 : 1 ≤ body.length) (h2 : body.length ≤ 1024) (h3 : 1 ≤ lsn) (h4 : lsn ≤ 1152921504606846976) (hm : rest.length < 1000000) :
    Calls Tryz.prog 222 #[v, .int .i64 (lsn : Int)] w (OpenF w body (16 + body.length)) := by
  have hL : (frameB t lsn body ++ rest).length = 16 + body.length + rest.length := by rw [List.length_append, frameB_len]
  have hsl := sum_lt ht [frameHead lsn body]
  obtain ⟨vo, cap, rfl⟩ := h.val
  obtain ⟨g, off, rfl⟩ := h.base (by omega)
  obtain ⟨m1, m2, _⟩ := h.cutM 0 (12 + body.length) (by omega) (by omega)
  have e1 : ((frameB t lsn body ++ rest).drop 0).take (12 + body.length - 0) = frameHead lsn body := by
    rw [List.drop_zero, Nat.sub_zero]
    unfold frameB
    rw [List.append_assoc, ← frameHead_len lsn body, List.take_left]
  rw [e1] at m1
  have m2 := m2 rfl
  simp only [Nat.sub_zero, Nat.add_zero] at m1 m2
  obtain ⟨n1, _, n2⟩ := m1.cutM 12 (12 + body.length) (by omega) (by rw [frameHead_len]; omega)
  have e2 : ((frameHead lsn body).drop 12).take (12 + body.length - 12) = body := by
    unfold frameHead
    rw [List.drop_append_of_le_length (by simp only [List.length_append, le_len]; omega), List.drop_of_length_le (by simp only [List.length_append, le_len]; omega), List.nil_append]
    exact List.take_of_length_le (by omega)
  rw [e2, show 12 + body.length - 12 = body.length by omega] at n1
  rw [show 12 + body.length - 12 = body.length by omega] at n2
  obtain ⟨a4, c4, b4, _, _, _, r4, _⟩ := m1.cut 4 (12 + body.length) (by omega) (by rw [frameHead_len]; omega)
  have e3 : ((frameHead lsn body).drop 4).take (12 + body.length - 4) = le 8 lsn ++ body := by
    unfold frameHead
    rw [List.append_assoc, List.drop_left' (le_len _ _)]
    exact List.take_of_length_le (by rw [List.length_append, le_len]; omega)
  rw [e3] at b4
  obtain ⟨a5, c5, b5, _, _, _, r5, _⟩ := h.cut (12 + body.length) (frameB t lsn body ++ rest).length (by omega) (Nat.le_refl _)
  have e4 : ((frameB t lsn body ++ rest).drop (12 + body.length)).take ((frameB t lsn body ++ rest).length - (12 + body.length)) = le 4 (crcSum t [frameHead lsn body]) ++ rest := by
    unfold frameB
    rw [List.append_assoc, List.drop_left' (frameHead_len _ _)]
    exact List.take_of_length_le (by simp only [List.length_append, le_len, frameHead_len]; omega)
  rw [e4] at b5
  rw [hL] at b5 r5
  have hg0 : getN 4 (frameB t lsn body ++ rest) = body.length := by
    unfold getN
    rw [if_neg (by omega)]
    have : (frameB t lsn body ++ rest).take 4 = le 4 body.length := by
      unfold frameB frameHead
      rw [List.append_assoc, List.append_assoc, List.append_assoc, List.take_left' (le_len _ _)]
    rw [this, num8_le _ _ (Nat.lt_of_le_of_lt h2 (by decide))]
  have hg8 : getN 8 (le 8 lsn ++ body) = lsn := by
    unfold getN
    rw [if_neg (by rw [List.length_append, le_len]; omega), List.take_left' (le_len _ _), num8_le _ _ (Nat.lt_of_le_of_lt h4 (by decide))]
  have hg4 : getN 4 (le 4 (crcSum t [frameHead lsn body]) ++ rest) = crcSum t [frameHead lsn body] := by
    unfold getN
    rw [if_neg (by rw [List.length_append, le_len]; omega), List.take_left' (le_len _ _), num8_le _ _ hsl]
  have HG := Lib.hid (get129 _ _ w h (by omega))
  rw [hg0] at HG
  have HG8 := Lib.hid (get128 _ _ w b4 (by rw [List.length_append, le_len]; omega))
  rw [hg8] at HG8
  have HG4 := Lib.hid (get129 _ _ w b5 (by rw [List.length_append, le_len]; omega))
  rw [hg4] at HG4
  have HSU : Hid (∀ W, W = w.alloc (.cells #[.slice (some ⟨g, off, none⟩) (12 + body.length) (12 + body.length)] 22) → Calls Tryz.prog 124 #[.slice (some ⟨w.heap.size, 0, none⟩) 1 1] W fun e w' => e = .returned (.int .u32 (crcSum t [frameHead lsn body] : Nat)) ∧ W = w') := Lib.hid (fun W hW => by
    subst hW
    exact sum124 _ [frameHead lsn body] _ (ht.off ((Off.refl [] w).alloc _) (by simp)) (isRows1 m1) (by simp [frameHead_len]; omega) (by simp))
  have HCL : Hid (∀ W, Off [] w W → Calls Tryz.prog 60 #[.slice (some ⟨g, off + 12, none⟩) body.length body.length] W (FreshB W body)) := Lib.hid (fun W ho => clone60 _ _ W (n1.off ho (by simp)) (by omega))
  have HI : Hid (∀ W, Calls Tryz.prog 122 #[.int .i64 (lsn : Int)] W fun e w' => e = .returned (.bool true) ∧ W = w') := Lib.hid (fun W => by
    have q := isLsn122 (lsn : Int) W
    rw [decide_eq_true (by omega)] at q; exact q)
  obtain ⟨n, hn⟩ : ∃ n, n = body.length := ⟨_, rfl⟩
  obtain ⟨s, hs⟩ : ∃ s, s = 16 + n := ⟨_, rfl⟩
  obtain ⟨q, hq⟩ : ∃ q, q = 12 + n := ⟨_, rfl⟩
  have HS : Hid (∀ W, Calls Tryz.prog 121 #[.int .i64 (n : Int)] W fun e w' => e = .returned (.int .i64 (s : Int)) ∧ W = w') := Lib.hid (fun W => by
    have r := size121 (n : Int) W
    rw [show frameSize (n : Int) = (s : Int) by unfold frameSize; rw [if_neg (by omega)]; omega] at r
    exact r)
  have HSUB : Hid (∀ x : Int, x = (s : Int) - 4 → 0 ≤ x → x ≤ imax → wrap64 ((s : Int) - 4) = (q : Int)) := Lib.hid (fun x hx h0 h9 => by
    have : wrap64 ((s : Int) + (-4)) = (s : Int) + (-4) := wadd (by omega) (by unfold imax at *; omega)
    have e : (s : Int) - 4 = (s : Int) + (-4) := by omega
    rw [e, this]; omega)
  have hsub : wrap64 ((s : Int) - 4) = (q : Int) := HSUB.out _ rfl (by omega) (by unfold imax; omega)
  have HN := Lib.hid (And.intro hn (And.intro hs (And.intro hq (And.intro h1 h2))))
  have hcv : IntKind.u64.wrap (lsn : Int) = (lsn : Int) := by rw [IntKind.wrap_u64]; omega
  have q1 : ∀ W, (Instr.slice 22 (.slice (some ⟨g, off, none⟩) (frameB t lsn body ++ rest).length cap) none (some (.int .i64 (q : Int))) (some (.int .i64 (q : Int)))).run Tryz.prog W = .ok (.slice (some ⟨g, off, none⟩) q q) W := fun W => by
    subst hs; subst hq; subst hn
    exact m2 W _ _ rfl rfl
  have q2 : ∀ W, (Instr.slice 22 (.slice (some ⟨g, off, none⟩) q q) (some (.int .i64 12)) (some (.int .i64 (q : Int))) (some (.int .i64 (q : Int)))).run Tryz.prog W = .ok (.slice (some ⟨g, off + 12, none⟩) n n) W := fun W => by
    subst hs; subst hq; subst hn
    exact n2 W 12 _ _ rfl rfl rfl
  have q4 : ∀ W, (Instr.slice 22 (.slice (some ⟨g, off, none⟩) q q) (some (.int .i64 4)) none none).run Tryz.prog W = .ok (.slice a4 (12 + body.length - 4) c4) W := fun W => by
    subst hs; subst hq; subst hn
    exact r4 (by rw [frameHead_len]) W 4 rfl
  have q5 : ∀ W, (Instr.slice 22 (.slice (some ⟨g, off, none⟩) (frameB t lsn body ++ rest).length cap) (some (.int .i64 (q : Int))) none none).run Tryz.prog W = .ok (.slice a5 (16 + body.length + rest.length - (12 + body.length)) c5) W := fun W => by
    subst hs; subst hq; subst hn
    rw [hL]
    exact r5 rfl W _ rfl
  rw [← hn] at HSU HCL HG
  rw [← hq] at HSU
  obtain ⟨P, hP⟩ : ∃ P, P = OpenF w body (16 + body.length) := ⟨_, rfl⟩
  rw [← hP]
  have HP := Lib.hid hP
  have hsn : (s == 0) = false := by rw [beq_eq_false_iff_ne]; omega
  have hss : ((s : Int) == 0) = false := by rw [beq_eq_false_iff_ne]; omega
  have hlt : ¬ (((frameB t lsn body ++ rest).length : Int) < (s : Int)) := by rw [hL]; omega
  have hnw : wrap64 (n : Int) = (n : Int) := by unfold wrap64; omega
  clear hP h m1 m2 n1 n2 b4 b5 r4 r5 e1 e2 e3 e4 ht hsl hg0 hg8 hg4 hL hn hs hq h1 h2 h3 h4 hm
  generalize (frameB t lsn body ++ rest).length = L at *
  generalize getE 4 (frameB t lsn body ++ rest) = g1 at *
  generalize getE 8 (le 8 lsn ++ body) = g2 at *
  generalize getE 4 (le 4 (crcSum t [frameHead lsn body]) ++ rest) = g3 at *
  generalize 12 + body.length - 4 = z4 at *
  generalize 16 + body.length + rest.length - (12 + body.length) = z5 at *
  generalize crcSum t [frameHead lsn body] = cs at *
  go_enter Tryz.func222, Tryz.ntmps222
  go_wp2_with fail
  refine HG.out.mono ?_
  rintro e w' ⟨rfl, rfl⟩
  go_wp2_with fail
  refine (HS.out _).mono ?_
  rintro e w' ⟨rfl, rfl⟩
  go_wp2_with fail
  refine (HI.out _).mono ?_
  rintro e w' ⟨rfl, rfl⟩
  go_wp2_with fail
  refine HG8.out.mono ?_
  rintro e w' ⟨rfl, rfl⟩
  go_wp2_with fail
  refine HG4.out.mono ?_
  rintro e w' ⟨rfl, rfl⟩
  go_wp2_with fail
  refine (HSU.out _ rfl).mono ?_
  rintro e w' ⟨rfl, rfl⟩
  go_wp2_with fail
  refine (HCL.out _ ((Off.refl [] w).alloc _)).mono ?_
  rintro e w1 ⟨bo, bc, rfl, x1, x2, x3⟩
  have HF : Hid (P (.returned (.tuple #[.slice bo body.length bc, .int .i64 (s : Int), .int .i64 0])) w1) := Lib.hid (by
    rw [HP.out]
    refine ⟨bo, bc, ?_, x1, ((Off.refl [] w).alloc _).trans x2 (by simp), fun z hz => ?_⟩
    · have := HN.out; rw [this.2.1, this.1]
    · have := x3 z hz; simp at this; omega)
  clear x1 x2 x3
  go_wp2_with fail
  first | exact HF.out | (go_ret3; exact HF.out)
end Go.Proofs.YtfdgiblkllfpjaaGreatDoor

/- octet: a Reader whose bytes are there; record: a source's numbers. -/
set_option linter.unusedVariables false
set_option linter.unusedSimpArgs false
namespace Go.Proofs.YtfdgiblkllfpjaaGreatDoor
open Go.ChangeShapes Go.WideShapes Go.ChangeAt Go.RowKit

/-- A Reader lies here, with these bytes left. -/
def Rd (w : World) (z : Nat) (l : List UInt8) : Prop := ∃ ao cap, IsC w z #[.slice ao l.length cap] 261 ∧ IsB w (.slice ao l.length cap) l ∧ z ∉ blk (.slice ao l.length cap)
theorem Rd.off {w w' : World} {z : Nat} {l : List UInt8} (h : Rd w z l) (ho : Off [] w w') : Rd w' z l := by
  obtain ⟨ao, cap, h1, h2, h3⟩ := h
  exact ⟨ao, cap, h1.off ho (by simp), h2.off ho (by simp), h3⟩
theorem Rd.lt {w : World} {z : Nat} {l : List UInt8} (h : Rd w z l) : z < w.heap.size := by
  obtain ⟨ao, cap, h1, _⟩ := h
  exact h1.lt
/-- The first n bytes are taken. -/
theorem Rd.step {w : World} {z : Nat} {l : List UInt8} (h : Rd w z l) (n : Nat) (hn : n ≤ l.length) : ∃ ao cap a1 c1 a2 c2, IsC w z #[.slice ao l.length cap] 261 ∧ IsB w (.slice ao l.length cap) l ∧
    IsB w (.slice a1 n c1) (l.take n) ∧ (∀ W, (Instr.slice 22 (.slice ao l.length cap) none (some (.int .i64 (n : Int))) none).run Tryz.prog W = .ok (.slice a1 n c1) W) ∧
    (∀ W, (Instr.slice 22 (.slice ao l.length cap) (some (.int .i64 (n : Int))) none none).run Tryz.prog W = .ok (.slice a2 (l.length - n) c2) W) ∧
    ∀ W, Off [] w W → Rd (W.setCell ⟨z, 0, none⟩ (.slice a2 (l.length - n) c2)) z (l.drop n) ∧ Off [z] w (W.setCell ⟨z, 0, none⟩ (.slice a2 (l.length - n) c2)) := by
  obtain ⟨ao, cap, h1, h2, h3⟩ := h
  obtain ⟨a1, c1, b1, _, l1, _, _, r1⟩ := h2.cut 0 n (by omega) hn
  obtain ⟨a2, c2, b2, k2, l2, _, r2, _⟩ := h2.cut n l.length hn (Nat.le_refl _)
  rw [List.drop_zero, Nat.sub_zero] at b1
  rw [Nat.sub_zero] at r1
  have e2 : (l.drop n).take (l.length - n) = l.drop n := List.take_of_length_le (by rw [List.length_drop]; exact Nat.le_refl _)
  rw [e2] at b2
  have hdl : (l.drop n).length = l.length - n := List.length_drop
  refine ⟨ao, cap, a1, c1, a2, c2, h1, h2, b1, fun W => r1 rfl W _ rfl, fun W => r2 rfl W _ rfl, fun W hW => ?_⟩
  have ho : Off [z] w (W.setCell ⟨z, 0, none⟩ (.slice a2 (l.length - n) c2)) := (hW.mono (by simp)).setCell (.inl (by simp)) _
  refine ⟨⟨a2, c2, ?_, ?_, ?_⟩, ho⟩
  · have q := (h1.off hW (by simp)).set 0 (.slice a2 (l.length - n) c2)
    rw [hdl]; exact q
  · rw [hdl]
    exact (b2.off hW (by simp)).off (S := [z]) ((Off.refl [z] W).setCell (.inl (by simp)) _) (fun x hx hx' => by simp at hx'; subst hx'; rw [k2] at hx; exact h3 hx)
  · rw [hdl, k2]; exact h3
set_option maxRecDepth 100000 in
set_option maxHeartbeats 2000000 in
theorem row279_one {w : World} {z : Nat} (x : UInt8) (l : List UInt8) (h : Rd w z (x :: l)) (hn : l.length < 1000000) :
    Calls Tryz.prog 279 #[.pointer (some ⟨z, 0, none⟩), .int .i64 1] w fun e w' => ∃ ao cap, e = .returned (.tuple #[.slice ao 1 cap, .int .i64 0]) ∧ IsB w' (.slice ao 1 cap) [x] ∧ Rd w' z l ∧ Off [z] w w' := by
  obtain ⟨ao, cap, a1, c1, a2, c2, h1, h2, h3, h4, h5, h6⟩ := h.step 1 (by simp)
  have hz := h.lt
  simp only [List.take_succ_cons, List.take_zero, List.drop_succ_cons, List.drop_zero] at h3 h6
  have HCL : Hid (Calls Tryz.prog 60 #[.slice a1 1 c1] w (FreshB w [x])) := Lib.hid (clone60 _ _ w h3 (by simp))
  have HE := Lib.hid h6
  have hr := h1.reads
  have hf := h1.free
  have HH := Lib.hid h1
  have h4' : ∀ W, (Instr.slice 22 (.slice ao (x :: l).length cap) none (some (.int .i64 1)) none).run Tryz.prog W = .ok (.slice a1 1 c1) W := h4
  have h5' : ∀ W, (Instr.slice 22 (.slice ao (x :: l).length cap) (some (.int .i64 1)) none none).run Tryz.prog W = .ok (.slice a2 ((x :: l).length - 1) c2) W := h5
  clear h4 h5
  have hlen : (1 : Int) ≤ (((x :: l).length : Nat) : Int) := by simp only [List.length_cons]; omega
  obtain ⟨P, hP⟩ : ∃ P : Ending → World → Prop, P = fun e w' => ∃ ao cap, e = .returned (.tuple #[.slice ao 1 cap, .int .i64 0]) ∧ IsB w' (.slice ao 1 cap) [x] ∧ Rd w' z l ∧ Off [z] w w' := ⟨_, rfl⟩
  rw [← hP]
  have HP := Lib.hid hP
  clear hP h h2 h3 h6
  generalize (x :: l).length = n at *
  go_enter Tryz.func279, Tryz.ntmps279
  go_wp2_with fail
  refine HCL.out.mono ?_
  rintro e w1 ⟨bo, bc, rfl, x1, x2, x3⟩
  have h1' := HH.out.off x2 (by simp)
  have hr1 := h1'.reads
  have hf1 := h1'.free
  clear h1
  have HF : Hid (P (.returned (.tuple #[.slice bo 1 bc, .int .i64 0])) (w1.setCell ⟨z, 0, none⟩ (.slice a2 (n - 1) c2))) := Lib.hid (by
    rw [HP.out]
    obtain ⟨y1, y2⟩ := HE.out w1 x2
    exact ⟨bo, bc, rfl, IsB.off (S := [z]) x1 ((Off.refl [z] w1).setCell (.inl (by simp)) _) (fun b hb hb' => by simp at hb'; subst hb'; have := x3 _ hb; omega), y1, y2⟩)
  rw [show [x].length = 1 from rfl]
  clear x1 x2 x3 HCL
  go_wp2_with fail
  first | exact HF.out | (go_ret2; exact HF.out)
set_option maxRecDepth 100000 in
set_option maxHeartbeats 2000000 in
theorem number272_one {w : World} {z : Nat} (x : UInt8) (l : List UInt8) (h : Rd w z (x :: l)) (hn : l.length < 1000000) :
    Calls Tryz.prog 272 #[.pointer (some ⟨z, 0, none⟩), .int .i64 1] w fun e w' => e = .returned (.tuple #[.int .u64 (x.toNat : Nat), .int .i64 0]) ∧ Rd w' z l ∧ Off [z] w w' := by
  have HR := Lib.hid (row279_one x l h hn)
  clear h
  go_enter Tryz.func272, Tryz.ntmps272
  go_wp2_with fail
  refine HR.out.mono ?_
  rintro e w1 ⟨bo, bc, rfl, x1, x2, x3⟩
  have HL := little196 _ [x] w1 x1 (by simp)
  rw [show num8 [x] = x.toNat by simp [num8]] at HL
  have HL := Lib.hid HL
  have HF := Lib.hid (And.intro x2 x3)
  clear x1 x2 x3
  go_wp2_with fail
  refine HL.out.mono ?_
  rintro e w2 ⟨rfl, rfl⟩
  go_wp2_with fail
  go_ret2
  exact ⟨rfl, HF.out⟩
set_option maxRecDepth 100000 in
set_option maxHeartbeats 2000000 in
theorem number261_one {w : World} {z : Nat} (x : UInt8) (l : List UInt8) (h : Rd w z (x :: l)) (hn : l.length < 1000000) :
    Calls Tryz.prog 261 #[.agg #[.pointer (some ⟨z, 0, none⟩)], .int .i64 1] w fun e w' => e = .returned (.int .i64 (x.toNat : Nat)) ∧ Rd w' z l ∧ Off [z] w w' := by
  have HN := Lib.hid (number272_one x l (h.off ((Off.refl [] w).alloc (.cells #[.pointer (some ⟨z, 0, none⟩)] 294))) hn)
  have hx := x.toNat_lt
  have hw : wrap64 ((x.toNat : Nat) : Int) = ((x.toNat : Nat) : Int) := by unfold wrap64; omega
  have hz := Lib.hid h.lt
  clear h hx
  generalize x.toNat = y at *
  go_enter Tryz.func261, Tryz.ntmps261
  go_wp2_with fail
  refine HN.out.mono ?_
  rintro e w1 ⟨rfl, x1, x2⟩
  have HF : Hid (Rd w1 z l ∧ Off [z] w w1) := Lib.hid ⟨x1, (((Off.refl [] w).alloc _).mono (by simp)).trans x2 (fun b hb => .inl hb)⟩
  clear x1 x2
  go_wp2_with fail
  go_ret
  exact ⟨by show Ending.returned (.int .i64 (wrap64 _)) = _; rw [hw], HF.out⟩
set_option maxRecDepth 100000 in
set_option maxHeartbeats 2000000 in
theorem int165_step {w : World} {z : Nat} (x : Nat) (l : List UInt8) (hx : x ≤ 1152921504606846976) (h : Rd w z (le 8 x ++ l)) (hn : l.length < 1000000) :
    Calls Tryz.prog 165 #[.pointer (some ⟨z, 0, none⟩)] w fun e w' => e = .returned (.tuple #[.int .i64 (x : Nat), .int .i64 0]) ∧ Rd w' z l ∧ Off [z] w w' := by
  have hll : (le 8 x ++ l).length = 8 + l.length := by rw [List.length_append, le_len]
  obtain ⟨ao, cap, a1, c1, a2, c2, h1, h2, h3, h4, h5, h6⟩ := h.step 8 (by rw [hll]; omega)
  rw [List.drop_left' (le_len _ _)] at h6
  have HG := get128 _ _ w h2 (by rw [hll]; omega)
  have e3 : getE 8 (le 8 x ++ l) = 0 := by unfold getE; rw [if_neg (by rw [hll]; omega)]
  have e4 : getN 8 (le 8 x ++ l) = x := by unfold getN; rw [if_neg (by rw [hll]; omega), List.take_left' (le_len _ _), num8_le _ _ (Nat.lt_of_le_of_lt hx (by decide))]
  rw [e3, e4] at HG
  have HG := Lib.hid HG
  have hr := h1.reads
  have hf := h1.free
  have h5' : ∀ W, (Instr.slice 22 (.slice ao (le 8 x ++ l).length cap) (some (.int .i64 8)) none none).run Tryz.prog W = .ok (.slice a2 ((le 8 x ++ l).length - 8) c2) W := h5
  have HE := Lib.hid (h6 w (Off.refl _ _))
  have hxx : ¬ (1152921504606846976 < (x : Int)) := by omega
  have hxw : wrap64 (x : Int) = (x : Int) := by unfold wrap64; omega
  clear h h2 h3 h4 h5 h6 hll e3 e4 hx
  generalize (le 8 x ++ l).length = m at *
  go_enter Tryz.func165, Tryz.ntmps165
  go_wp2_with fail
  refine HG.out.mono ?_
  rintro e w1 ⟨rfl, rfl⟩
  go_wp2_with fail
  go_ret2
  exact ⟨rfl, HE.out⟩
set_option maxRecDepth 100000 in
set_option maxHeartbeats 2000000 in
theorem lsn262 {w : World} {z : Nat} (x : Nat) (l : List UInt8) (hx : x ≤ 1152921504606846976) (h : Rd w z (le 8 x ++ l)) (hn : l.length < 1000000) :
    Calls Tryz.prog 262 #[.agg #[.pointer (some ⟨z, 0, none⟩)]] w fun e w' => e = .returned (.int .i64 (x : Nat)) ∧ Rd w' z l ∧ Off [z] w w' := by
  have HN := Lib.hid (int165_step x l hx (h.off ((Off.refl [] w).alloc (.cells #[.pointer (some ⟨z, 0, none⟩)] 294))) hn)
  clear h hx
  go_enter Tryz.func262, Tryz.ntmps262
  go_wp2_with fail
  refine HN.out.mono ?_
  rintro e w1 ⟨rfl, x1, x2⟩
  have HF : Hid (Rd w1 z l ∧ Off [z] w w1) := Lib.hid ⟨x1, (((Off.refl [] w).alloc _).mono (by simp)).trans x2 (fun b hb => .inl hb)⟩
  clear x1 x2
  go_wp2_with fail
  go_ret
  exact ⟨rfl, HF.out⟩
set_option maxRecDepth 100000 in
set_option maxHeartbeats 2000000 in
theorem end264_nil {w : World} {z : Nat} (h : Rd w z []) : Calls Tryz.prog 264 #[.pointer (some ⟨z, 0, none⟩)] w fun e w' => e = .returned (.int .i64 0) ∧ w = w' := by
  obtain ⟨ao, cap, h1, h2, h3⟩ := h
  rw [List.length_nil] at h1
  have hr := h1.reads
  clear h2 h3
  go_enter Tryz.func264, Tryz.ntmps264
  go_wp2_with fail
  go_ret
  exact ⟨rfl, rfl⟩
end Go.Proofs.YtfdgiblkllfpjaaGreatDoor

/- record: Parse of a begin: its parts. -/
set_option linter.unusedVariables false
set_option linter.unusedSimpArgs false
namespace Go.Proofs.YtfdgiblkllfpjaaGreatDoor
open Go.ChangeShapes Go.WideShapes Go.ChangeAt Go.RowKit

def beginC (x : Int) : Array Value := #[.int .i64 1, .int .i64 0, .int .i64 0, .int .i64 x, .int .i64 0, .int .i64 0, .slice none 0 0, .slice none 0 0, .int .i64 0, .slice none 0 0, .slice none 0 0]
theorem IsB.apart {w : World} {v : Value} {l : List UInt8} (h : IsB w v l) {b : Nat} {cs : Array Value} {T : TypeId} (hc : IsC w b cs T) (hT : T ≠ 5) : b ∉ blk v := by
  intro hz
  rcases h.2 with ⟨rfl, _⟩ | ⟨g, off, cap, cur, rfl, hc', _⟩
  · simp [blk] at hz
  · simp [blk] at hz
    subst hz
    unfold IsC at hc hc'
    rw [hc] at hc'
    simp at hc'
    exact hT hc'.2
set_option maxRecDepth 100000 in
set_option maxHeartbeats 2000000 in
theorem readBegin274 {w : World} {z rb : Nat} (x : UInt8) (l : List UInt8) (h : Rd w z (x :: l)) (hn : l.length < 1000000) (hc : IsC w rb (beginC 0) 42) (hz : rb ≠ z) :
    Calls Tryz.prog 274 #[.agg #[.pointer (some ⟨z, 0, none⟩)], .pointer (some ⟨rb, 0, none⟩)] w fun e w' => e = .returned (.tuple #[]) ∧ Rd w' z l ∧ IsC w' rb (beginC (x.toNat : Nat)) 42 ∧ Off [z, rb] w w' := by
  have HN := Lib.hid (number261_one x l (h.off ((Off.refl [] w).alloc (.cells #[.pointer (some ⟨z, 0, none⟩)] 294))) hn)
  have HC := Lib.hid (And.intro hc hz)
  have HZ := Lib.hid h.lt
  clear h hc hz
  generalize x.toNat = y at *
  go_enter Tryz.func274, Tryz.ntmps274
  go_wp2_with fail
  refine HN.out.mono ?_
  rintro e w1 ⟨rfl, x1, x2⟩
  have ho : Off [z] w w1 := (((Off.refl [] w).alloc _).mono (by simp)).trans x2 (fun b hb => .inl hb)
  have hc1 := HC.out.1.off ho (by simp; exact HC.out.2)
  have c3 := hc1.cell 3
  simp only [beginC, List.getElem?_toArray, List.getElem?_cons_zero, List.getElem?_cons_succ] at c3
  have hf : ∀ o, w1.frozen? ⟨rb, o, none⟩ = false := fun o => hc1.unfrozen o
  have HF : Hid (Rd (w1.setCell ⟨rb, 3, none⟩ (.int .i64 (y : Int))) z l ∧ IsC (w1.setCell ⟨rb, 3, none⟩ (.int .i64 (y : Int))) rb (beginC (y : Int)) 42 ∧ Off [z, rb] w (w1.setCell ⟨rb, 3, none⟩ (.int .i64 (y : Int)))) := Lib.hid (by
    have ho2 : Off [rb] w1 (w1.setCell ⟨rb, 3, none⟩ (.int .i64 (y : Int))) := (Off.refl [rb] w1).setCell (.inl (by simp)) _
    obtain ⟨ao, cap, q1, q2, q3⟩ := x1
    refine ⟨⟨ao, cap, q1.off ho2 (by simp; exact fun e => HC.out.2 e.symm), q2.off ho2 (fun b hb hb' => ?_), q3⟩, hc1.set 3 _, (ho.mono (by simp)).setCell (.inl (by simp)) _⟩
    simp at hb'; subst hb'
    exact q2.apart hc1 (by decide) hb)
  clear x1 x2 hc1
  go_wp2_with fail
  first | exact ⟨rfl, HF.out⟩ | (go_end0; exact ⟨rfl, HF.out⟩)
theorem parse260_idle (p q : Addr) (w : World) :
    CallsD Tryz.prog 260 #[.pointer (some p), .pointer (some q)] .returning w fun e u' w' => e = .returned (.tuple #[]) ∧ u' = .returning ∧ w' = w := by
  refine callsD_of_wpS Tryz.func260 rfl fun c₀ cs hu => ?_
  apply wpS_seq
  apply wpS_region
  simp [wpOpsS, go_sem, recoverD, hu, Tryz.ntmps260, Exit.thenS]
  apply wpS_seq
  apply wpS_region
  simp [wpOpsS, go_sem, recoverD, hu, Exit.thenS]
  refine wpS_cond (t := false) (by simp [Act.eval, Array.replicate]) ?_
  simp only [Bool.false_eq_true, if_false]
  refine wpS_of_wp (wp_skip ?_)
  cases c₀
  simp_all [bodyPostS, results, Tryz.results260]
set_option maxRecDepth 100000 in
set_option maxHeartbeats 2000000 in
theorem readers263 (w : World) : Calls Tryz.prog 263 #[] w fun e w' => ∃ b, e = .returned (.slice (some ⟨b, 0, none⟩) 7 7) ∧ w'.cell? ⟨b, 0, none⟩ = some (.func (.func 274) #[] #[]) ∧ Off [] w w' := by
  go_enter Tryz.func263, Tryz.ntmps263
  go_wp2_with fail
  go_ret
  refine ⟨w.heap.size, rfl, ?_, (Off.refl [] w).alloc _⟩
  simp [go_sem]
end Go.Proofs.YtfdgiblkllfpjaaGreatDoor

/- record: Parse of a begin. -/
set_option linter.unusedVariables false
set_option linter.unusedSimpArgs false
namespace Go.Proofs.YtfdgiblkllfpjaaGreatDoor
open Go.ChangeShapes Go.WideShapes Go.ChangeAt Go.RowKit

theorem IsC.behind {w w' : World} {z : Nat} {cs : Array Value} {T : TypeId} (h : Off [z] (w.alloc (.cells cs T)) w') (hz : z < w.heap.size) : IsC w' w.heap.size cs T := IsC.off (S := [z]) (IsC.new w cs T) h (by simp; omega)
theorem IsC.on {w w' : World} {z b : Nat} {cs : Array Value} {T : TypeId} (h : IsC w b cs T) (ho : Off [z] w w') (hz : z < b) : IsC w' b cs T := h.off ho (by simp; omega)
/-- A region whose orders all come to one frame, but for one number, is left at one place. -/
def MeetN (A : Nat → Act) (Φ : Nat → World → Prop) : Exit → Act → World → Prop
  | .normal, a, w => ∃ n, a = A n ∧ Φ n w
  | _, _, _ => False
theorem region_meetN {P : Program} {id : Nat} {ops : Array Oper} {b : Bool} {Q : Exit → Act → World → Prop} {A : Nat → Act} {Φ : Nat → World → Prop} {a : Act} {w : World} (h : (Code.region id ops b).wp P (MeetN A Φ) a w) (k : ∀ n w, Φ n w → Q .normal (A n) w) : (Code.region id ops b).wp P Q a w :=
  Code.wp_mono (fun e a w h => by cases e <;> first | (obtain ⟨n, rfl, h⟩ := h; exact k n w h) | exact False.elim h) h
theorem gen_world {Q Φ : World → Prop} {U : World} (h : Φ U) (k : ∀ U, Φ U → Q U) : Q U := k U h
theorem Rd.rec {w w' : World} {z b : Nat} {l : List UInt8} {cs : Array Value} {T : TypeId} (h : Rd w z l) (hc : IsC w b cs T) (hT : T ≠ 5) (hz : b ≠ z) (ho : Off [b] w w') : Rd w' z l := by
  obtain ⟨ao, cap, q1, q2, q3⟩ := h
  refine ⟨ao, cap, q1.off ho (by simp; exact fun e => hz e.symm), q2.off ho (fun y hy hy' => ?_), q3⟩
  simp at hy'; subst hy'
  exact q2.apart hc hT hy
def Mid3 (W2 : World) (z rb : Nat) (x : UInt8) (U : World) : Prop := IsC U rb (beginC 0) 42 ∧ Rd U z [x] ∧ Off [z] W2 U ∧ W2.heap.size ≤ rb
theorem mid_store {W2 wc : World} {z rb : Nat} {x : UInt8} (hc : IsC wc rb #[.int .i64 0, .int .i64 0, .int .i64 0, .int .i64 0, .int .i64 0, .int .i64 0, .slice none 0 0, .slice none 0 0, .int .i64 0, .slice none 0 0, .slice none 0 0] 42) (hr : Rd wc z [x]) (ho : Off [z] W2 wc) (hs : W2.heap.size ≤ rb) (hz : z < W2.heap.size) :
    Mid3 W2 z rb x (((((((((((wc.setCell ⟨rb, 0, none⟩ (.int .i64 1)).setCell ⟨rb, 1, none⟩ (.int .i64 0)).setCell ⟨rb, 2, none⟩ (.int .i64 0)).setCell ⟨rb, 3, none⟩ (.int .i64 0)).setCell ⟨rb, 4, none⟩ (.int .i64 0)).setCell ⟨rb, 5, none⟩ (.int .i64 0)).setCell ⟨rb, 6, none⟩ (.slice none 0 0)).setCell ⟨rb, 7, none⟩ (.slice none 0 0)).setCell ⟨rb, 8, none⟩ (.int .i64 0)).setCell ⟨rb, 9, none⟩ (.slice none 0 0)).setCell ⟨rb, 10, none⟩ (.slice none 0 0)) := by
  have h : Off [rb] wc (((((((((((wc.setCell ⟨rb, 0, none⟩ (.int .i64 1)).setCell ⟨rb, 1, none⟩ (.int .i64 0)).setCell ⟨rb, 2, none⟩ (.int .i64 0)).setCell ⟨rb, 3, none⟩ (.int .i64 0)).setCell ⟨rb, 4, none⟩ (.int .i64 0)).setCell ⟨rb, 5, none⟩ (.int .i64 0)).setCell ⟨rb, 6, none⟩ (.slice none 0 0)).setCell ⟨rb, 7, none⟩ (.slice none 0 0)).setCell ⟨rb, 8, none⟩ (.int .i64 0)).setCell ⟨rb, 9, none⟩ (.slice none 0 0)).setCell ⟨rb, 10, none⟩ (.slice none 0 0)) := ((((((((((((Off.refl [rb] wc).setCell (.inl (by simp)) _).setCell (.inl (by simp)) _).setCell (.inl (by simp)) _).setCell (.inl (by simp)) _).setCell (.inl (by simp)) _).setCell (.inl (by simp)) _).setCell (.inl (by simp)) _).setCell (.inl (by simp)) _).setCell (.inl (by simp)) _).setCell (.inl (by simp)) _).setCell (.inl (by simp)) _)
  exact ⟨(((((((((((hc.set 0 _).set 1 _).set 2 _).set 3 _).set 4 _).set 5 _).set 6 _).set 7 _).set 8 _).set 9 _).set 10 _), hr.rec hc (by decide) (by omega) h, ho.trans h (fun b hb => .inr (by simp at hb; omega)), hs⟩
set_option maxHeartbeats 4000000 in
theorem fin_store {wf : World} {A B : Nat} {x : Int} (ha : IsC wf A #[.int .i64 0, .int .i64 0, .int .i64 0, .int .i64 0, .int .i64 0, .int .i64 0, .slice none 0 0, .slice none 0 0, .int .i64 0, .slice none 0 0, .slice none 0 0] 42) (hb : IsC wf B #[.int .i64 0] 24) (hab : A ≠ B) :
    IsC ((((((((((((wf.setCell ⟨A, 0, none⟩ (.int .i64 1)).setCell ⟨A, 1, none⟩ (.int .i64 0)).setCell ⟨A, 2, none⟩ (.int .i64 0)).setCell ⟨A, 3, none⟩ (.int .i64 x)).setCell ⟨A, 4, none⟩ (.int .i64 0)).setCell ⟨A, 5, none⟩ (.int .i64 0)).setCell ⟨A, 6, none⟩ (.slice none 0 0)).setCell ⟨A, 7, none⟩ (.slice none 0 0)).setCell ⟨A, 8, none⟩ (.int .i64 0)).setCell ⟨A, 9, none⟩ (.slice none 0 0)).setCell ⟨A, 10, none⟩ (.slice none 0 0)).setCell ⟨B, 0, none⟩ (.int .i64 0)) A (beginC x) 42 ∧ IsC ((((((((((((wf.setCell ⟨A, 0, none⟩ (.int .i64 1)).setCell ⟨A, 1, none⟩ (.int .i64 0)).setCell ⟨A, 2, none⟩ (.int .i64 0)).setCell ⟨A, 3, none⟩ (.int .i64 x)).setCell ⟨A, 4, none⟩ (.int .i64 0)).setCell ⟨A, 5, none⟩ (.int .i64 0)).setCell ⟨A, 6, none⟩ (.slice none 0 0)).setCell ⟨A, 7, none⟩ (.slice none 0 0)).setCell ⟨A, 8, none⟩ (.int .i64 0)).setCell ⟨A, 9, none⟩ (.slice none 0 0)).setCell ⟨A, 10, none⟩ (.slice none 0 0)).setCell ⟨B, 0, none⟩ (.int .i64 0)) B #[.int .i64 0] 24 ∧ Off [A, B] wf ((((((((((((wf.setCell ⟨A, 0, none⟩ (.int .i64 1)).setCell ⟨A, 1, none⟩ (.int .i64 0)).setCell ⟨A, 2, none⟩ (.int .i64 0)).setCell ⟨A, 3, none⟩ (.int .i64 x)).setCell ⟨A, 4, none⟩ (.int .i64 0)).setCell ⟨A, 5, none⟩ (.int .i64 0)).setCell ⟨A, 6, none⟩ (.slice none 0 0)).setCell ⟨A, 7, none⟩ (.slice none 0 0)).setCell ⟨A, 8, none⟩ (.int .i64 0)).setCell ⟨A, 9, none⟩ (.slice none 0 0)).setCell ⟨A, 10, none⟩ (.slice none 0 0)).setCell ⟨B, 0, none⟩ (.int .i64 0)) := by
  have h1 : Off [A] wf (((((((((((wf.setCell ⟨A, 0, none⟩ (.int .i64 1)).setCell ⟨A, 1, none⟩ (.int .i64 0)).setCell ⟨A, 2, none⟩ (.int .i64 0)).setCell ⟨A, 3, none⟩ (.int .i64 x)).setCell ⟨A, 4, none⟩ (.int .i64 0)).setCell ⟨A, 5, none⟩ (.int .i64 0)).setCell ⟨A, 6, none⟩ (.slice none 0 0)).setCell ⟨A, 7, none⟩ (.slice none 0 0)).setCell ⟨A, 8, none⟩ (.int .i64 0)).setCell ⟨A, 9, none⟩ (.slice none 0 0)).setCell ⟨A, 10, none⟩ (.slice none 0 0)) := ((((((((((((Off.refl [A] wf).setCell (.inl (by simp)) _).setCell (.inl (by simp)) _).setCell (.inl (by simp)) _).setCell (.inl (by simp)) _).setCell (.inl (by simp)) _).setCell (.inl (by simp)) _).setCell (.inl (by simp)) _).setCell (.inl (by simp)) _).setCell (.inl (by simp)) _).setCell (.inl (by simp)) _).setCell (.inl (by simp)) _)
  have h2 : IsC (((((((((((wf.setCell ⟨A, 0, none⟩ (.int .i64 1)).setCell ⟨A, 1, none⟩ (.int .i64 0)).setCell ⟨A, 2, none⟩ (.int .i64 0)).setCell ⟨A, 3, none⟩ (.int .i64 x)).setCell ⟨A, 4, none⟩ (.int .i64 0)).setCell ⟨A, 5, none⟩ (.int .i64 0)).setCell ⟨A, 6, none⟩ (.slice none 0 0)).setCell ⟨A, 7, none⟩ (.slice none 0 0)).setCell ⟨A, 8, none⟩ (.int .i64 0)).setCell ⟨A, 9, none⟩ (.slice none 0 0)).setCell ⟨A, 10, none⟩ (.slice none 0 0)) A (beginC x) 42 := (((((((((((ha.set 0 _).set 1 _).set 2 _).set 3 _).set 4 _).set 5 _).set 6 _).set 7 _).set 8 _).set 9 _).set 10 _)
  generalize (((((((((((wf.setCell ⟨A, 0, none⟩ (.int .i64 1)).setCell ⟨A, 1, none⟩ (.int .i64 0)).setCell ⟨A, 2, none⟩ (.int .i64 0)).setCell ⟨A, 3, none⟩ (.int .i64 x)).setCell ⟨A, 4, none⟩ (.int .i64 0)).setCell ⟨A, 5, none⟩ (.int .i64 0)).setCell ⟨A, 6, none⟩ (.slice none 0 0)).setCell ⟨A, 7, none⟩ (.slice none 0 0)).setCell ⟨A, 8, none⟩ (.int .i64 0)).setCell ⟨A, 9, none⟩ (.slice none 0 0)).setCell ⟨A, 10, none⟩ (.slice none 0 0)) = V at *
  have h3 : Off [B] V (V.setCell ⟨B, 0, none⟩ (.int .i64 0)) := (Off.refl [B] V).setCell (.inl (by simp)) _
  exact ⟨h2.off h3 (by simp; exact hab), (hb.off h1 (by simp; exact fun e => hab e.symm)).set 0 _, (h1.mono (by simp)).trans (h3.mono (T := [A, B]) (fun b hb => .inl (by simp at hb; simp [hb]))) (fun b hb => .inl hb)⟩
theorem begin_parts (x : Nat) : beginB x = UInt8.ofNat 1 :: (le 8 0 ++ (le 8 0 ++ [UInt8.ofNat x])) := by
  unfold beginB
  simp [le]
set_option maxRecDepth 100000 in
set_option maxHeartbeats 4000000 in
theorem parse223_begin (v : Value) (x : Nat) (w : World) (h : IsB w v (beginB x)) (h1 : 1 ≤ x) (h2 : x ≤ 64) :
    Calls Tryz.prog 223 #[v] w fun e w' => e = .returned (.tuple #[beginV (x : Nat), .int .i64 0]) ∧ Off [] w w' := by
  have hmf : ∀ (fn : Fn) (first cap : Array Value) (w : World), (Instr.makeFunc fn first cap).run Tryz.prog w = .ok (.func fn first cap) w := fun _ _ _ _ => rfl
  have HNR : Hid (∀ W, Off [] w W → Calls Tryz.prog 164 #[v] W fun e w' => ∃ z, e = .returned (.pointer (some ⟨z, 0, none⟩)) ∧ Rd w' z (beginB x) ∧ Off [] W w' ∧ W.heap.size ≤ z) := Lib.hid (fun W ho => by
    refine (newReader164 v _ W (h.off ho (by simp)) (by rw [beginB_len]; omega)).mono ?_
    rintro e w' ⟨z, ao, cap, rfl, x1, x2, x3, x4, x5⟩
    exact ⟨z, rfl, ⟨ao, cap, x1, x2, x5⟩, x3, x4⟩)
  obtain ⟨vo, vc, rfl⟩ := h.val
  have HX := Lib.hid (And.intro h1 h2)
  clear h h1 h2
  rw [beginB_len] at HNR ⊢
  go_enter_defers Tryz.func223, Tryz.ntmps223
  go_wp2_with fail
  refine (HNR.out _ (((Off.refl [] w).alloc _).alloc _)).mono ?_
  rintro e w1 ⟨z, rfl, x1, x2, x3⟩
  have HRD := Lib.hid x1
  have HO1 : Hid (Off [] w w1) := Lib.hid ((((Off.refl [] w).alloc _).alloc _).trans x2 (by simp))
  have HZ : Hid (w.heap.size + 2 ≤ z) := Lib.hid (by simpa using x3)
  have IA : Hid (IsC w1 w.heap.size #[.int .i64 0, .int .i64 0, .int .i64 0, .int .i64 0, .int .i64 0, .int .i64 0, .slice none 0 0, .slice none 0 0, .int .i64 0, .slice none 0 0, .slice none 0 0] 42 ∧ IsC w1 (w.heap.size + 1) #[.int .i64 0] 24) := Lib.hid ⟨IsC.off (S := []) ((IsC.new w #[.int .i64 0, .int .i64 0, .int .i64 0, .int .i64 0, .int .i64 0, .int .i64 0, .slice none 0 0, .slice none 0 0, .int .i64 0, .slice none 0 0, .slice none 0 0] 42).alloc (.cells #[.int .i64 0] 24)) x2 (by simp), IsC.off (S := []) (IsC.newAt (w := w.alloc (.cells #[.int .i64 0, .int .i64 0, .int .i64 0, .int .i64 0, .int .i64 0, .int .i64 0, .slice none 0 0, .slice none 0 0, .int .i64 0, .slice none 0 0, .slice none 0 0] 42)) (w.heap.size + 1) (by simp)) x2 (by simp)⟩
  clear x1 x2 x3 HNR
  go_wp2_with fail
  obtain ⟨W2, hW2⟩ : ∃ W2, W2 = w1.alloc (.cells #[.pointer (some ⟨z, 0, none⟩)] 294) := ⟨_, rfl⟩
  rw [← hW2]
  have HO2 : Hid (Off [] w1 W2) := Lib.hid (by rw [hW2]; exact (Off.refl [] w1).alloc _)
  have HR2 : Hid (Rd W2 z (UInt8.ofNat 1 :: (le 8 0 ++ (le 8 0 ++ [UInt8.ofNat x])))) := Lib.hid (by rw [← begin_parts]; exact HRD.out.off HO2.out)
  have HS2 : Hid (W2.cell? ⟨w1.heap.size, 0, none⟩ = some (.pointer (some ⟨z, 0, none⟩)) ∧ w1.heap.size ≠ z ∧ w1.heap.size < W2.heap.size) := Lib.hid ⟨by rw [hW2]; simp [go_sem], fun e => by have := HRD.out.lt; omega, by rw [hW2]; simp⟩
  have HK : Hid (∀ W, Off [z] W2 W → W.cell? ⟨w1.heap.size, 0, none⟩ = some (.pointer (some ⟨z, 0, none⟩))) := Lib.hid (fun W ho => ho.cell HS2.out.1 (by simp; exact HS2.out.2.1))
  have H261 : Hid (∀ W y l, l.length < 1000000 → Rd W z (y :: l) → Calls Tryz.prog 261 #[.agg #[.pointer (some ⟨z, 0, none⟩)], .int .i64 1] W fun e w' => e = .returned (.int .i64 (y.toNat : Nat)) ∧ Rd w' z l ∧ Off [z] W w') := Lib.hid (fun W y l hn h => number261_one y l h hn)
  have H262 : Hid (∀ W l, l.length < 1000000 → Rd W z (le 8 0 ++ l) → Calls Tryz.prog 262 #[.agg #[.pointer (some ⟨z, 0, none⟩)]] W fun e w' => e = .returned (.int .i64 0) ∧ Rd w' z l ∧ Off [z] W w') := Lib.hid (fun W l hn h => lsn262 0 l (by omega) h hn)
  clear hW2
  generalize w1.heap.size = sb at *
  apply region_meetN (Φ := fun rb U => Mid3 W2 z rb (UInt8.ofNat x) U)
  case h =>
    go_region_held3 (fun W => W.cell? ⟨sb, 0, none⟩ = some (.pointer (some ⟨z, 0, none⟩)))
      ((refine HK.out _ ?_; (repeat (first | with_reducible exact Off.refl _ _ | with_reducible exact HOC.out | with_reducible exact HOB.out | with_reducible exact HOA.out | with_reducible refine Off.alloc ?_ _ | with_reducible refine Off.drew ?_ | with_reducible refine Off.setCell ?_ (.inr ?_) _ | with_reducible exact HOC.out.size | with_reducible exact HOB.out.size | with_reducible exact HOA.out.size | exact Nat.le_refl _))))
      (first
      | (go_at_call 261; refine (H261.out _ (UInt8.ofNat 1) (le 8 0 ++ (le 8 0 ++ [UInt8.ofNat x])) (by simp [le_len]) (by first | exact HR2.out.off (Off.refl _ _).drew | exact HR2.out.off ((Off.refl _ _).drew.alloc _))).mono ?_; rintro e wa ⟨rfl, p1, p2⟩; have HRA := Lib.hid p1; have HPA := Lib.hid p2; have HOA : Hid (Off [z] W2 wa) := Lib.hid (by first | exact (Off.refl [z] W2).drew.trans p2 (fun b hb => .inl hb) | exact ((Off.refl [z] W2).drew.alloc _).trans p2 (fun b hb => .inl hb)); (try (have ca : Hid (IsC wa W2.heap.size #[.int .i64 0, .int .i64 0, .int .i64 0, .int .i64 0, .int .i64 0, .int .i64 0, .slice none 0 0, .slice none 0 0, .int .i64 0, .slice none 0 0, .slice none 0 0] 42) := Lib.hid (IsC.behind (w := W2.drew) (cs := #[.int .i64 0, .int .i64 0, .int .i64 0, .int .i64 0, .int .i64 0, .int .i64 0, .slice none 0 0, .slice none 0 0, .int .i64 0, .slice none 0 0, .slice none 0 0]) (T := 42) p2 HR2.out.lt))); clear p1 p2)
      | (go_at_call 262; refine (H262.out _ (le 8 0 ++ [UInt8.ofNat x]) (by simp [le_len]) (by first | exact HRA.out | exact HRA.out.off ((Off.refl _ _).alloc _))).mono ?_; rintro e wb ⟨rfl, p1, p2⟩; have HRB := Lib.hid p1; have HPB := Lib.hid p2; have HOB : Hid (Off [z] W2 wb) := Lib.hid (by first | exact HOA.out.trans p2 (fun b hb => .inl hb) | exact (HOA.out.alloc _).trans p2 (fun b hb => .inl hb)); (first | (have cb := Lib.hid (IsC.behind (w := wa) (cs := #[.int .i64 0, .int .i64 0, .int .i64 0, .int .i64 0, .int .i64 0, .int .i64 0, .slice none 0 0, .slice none 0 0, .int .i64 0, .slice none 0 0, .slice none 0 0]) (T := 42) p2 HRA.out.lt)) | (have cb := Lib.hid (ca.out.on p2 HR2.out.lt)) | skip); clear p1 p2)
      | (go_at_call 262; refine (H262.out _ [UInt8.ofNat x] (by simp [le_len]) (by first | exact HRB.out | exact HRB.out.off ((Off.refl _ _).alloc _))).mono ?_; rintro e wc ⟨rfl, p1, p2⟩; have HRC := Lib.hid p1; have HPC := Lib.hid p2; have HOC : Hid (Off [z] W2 wc) := Lib.hid (by first | exact HOB.out.trans p2 (fun b hb => .inl hb) | exact (HOB.out.alloc _).trans p2 (fun b hb => .inl hb)); (first | (have cc := Lib.hid (IsC.behind (w := wb) (cs := #[.int .i64 0, .int .i64 0, .int .i64 0, .int .i64 0, .int .i64 0, .int .i64 0, .slice none 0 0, .slice none 0 0, .int .i64 0, .slice none 0 0, .slice none 0 0]) (T := 42) p2 HRB.out.lt)) | (have cc := Lib.hid (cb.out.on p2 (by first | exact HRA.out.lt | exact HR2.out.lt))) | skip); (try (have k0 := cc.out.cell 0; have k1 := cc.out.cell 1; have k2 := cc.out.cell 2; have k3 := cc.out.cell 3; have k4 := cc.out.cell 4; have k5 := cc.out.cell 5; have k6 := cc.out.cell 6; have k7 := cc.out.cell 7; have k8 := cc.out.cell 8; have k9 := cc.out.cell 9; have k10 := cc.out.cell 10; have kf : ∀ o, wc.frozen? ⟨_, o, none⟩ = false := fun o => cc.out.unfrozen o; simp only [List.getElem?_toArray, List.getElem?_cons_zero, List.getElem?_cons_succ] at k0 k1 k2 k3 k4 k5 k6 k7 k8 k9 k10)); clear p1 p2))
    all_goals
      first
      | (have hcc : IsC wc wb.heap.size #[.int .i64 0, .int .i64 0, .int .i64 0, .int .i64 0, .int .i64 0, .int .i64 0, .slice none 0 0, .slice none 0 0, .int .i64 0, .slice none 0 0, .slice none 0 0] 42 := cc.out; have hmid := mid_store hcc HRC.out HOC.out HOB.out.size HR2.out.lt; clear hcc; revert hmid; generalize wb.heap.size = rb; intro hmid; exact ⟨rb, rfl, hmid⟩)
      | (have hcc : IsC wc wa.heap.size #[.int .i64 0, .int .i64 0, .int .i64 0, .int .i64 0, .int .i64 0, .int .i64 0, .slice none 0 0, .slice none 0 0, .int .i64 0, .slice none 0 0, .slice none 0 0] 42 := cc.out; have hmid := mid_store hcc HRC.out HOC.out HOA.out.size HR2.out.lt; clear hcc; revert hmid; generalize wa.heap.size = rb; intro hmid; exact ⟨rb, rfl, hmid⟩)
      | (have hcc : IsC wc W2.heap.size #[.int .i64 0, .int .i64 0, .int .i64 0, .int .i64 0, .int .i64 0, .int .i64 0, .slice none 0 0, .slice none 0 0, .int .i64 0, .slice none 0 0, .slice none 0 0] 42 := cc.out; have hmid := mid_store hcc HRC.out HOC.out (Nat.le_refl _) HR2.out.lt; clear hcc; revert hmid; generalize W2.heap.size = rb; intro hmid; exact ⟨rb, rfl, hmid⟩)
      | (have hmid : Mid3 W2 z wc.heap.size (UInt8.ofNat x) (wc.alloc (.cells (beginC 0) 42)) := ⟨IsC.new _ _ _, HRC.out.off ((Off.refl _ _).alloc _), HOC.out.alloc _, HOC.out.size⟩; revert hmid; unfold beginC; generalize wc.heap.size = rb; intro hmid; exact ⟨rb, rfl, hmid⟩)
  case k =>
    intro rb U hU
    obtain ⟨u1, u2, u3, u4⟩ := hU
    have HU := Lib.hid (And.intro u1 (And.intro u2 (And.intro u3 u4)))
    have k0 := u1.cell 0
    have k1 := u1.cell 1
    have k2 := u1.cell 2
    have k3 := u1.cell 3
    have k4 := u1.cell 4
    have k5 := u1.cell 5
    have k6 := u1.cell 6
    have k7 := u1.cell 7
    have k8 := u1.cell 8
    have k9 := u1.cell 9
    have k10 := u1.cell 10
    simp only [beginC, List.getElem?_toArray, List.getElem?_cons_zero, List.getElem?_cons_succ] at k0 k1 k2 k3 k4 k5 k6 k7 k8 k9 k10
    have kf : ∀ o, U.frozen? ⟨rb, o, none⟩ = false := fun o => u1.unfrozen o
    have ks := HK.out _ u3
    have HKS : Hid (∀ W, Off [] U W → W.cell? ⟨sb, 0, none⟩ = some (.pointer (some ⟨z, 0, none⟩)) ∧ W.cell? ⟨rb, 0, none⟩ = some (.int .i64 1)) := Lib.hid (fun W ho => ⟨ho.cell (HK.out _ HU.out.2.2.1) (by simp), by rw [(HU.out.1.off ho (by simp)).cell]; rfl⟩)
    have HRZ : Hid (rb ≠ z) := Lib.hid (fun e => by have := HR2.out.lt; have := HU.out.2.2.2; omega)
    have H274 : Hid (∀ W, Off [] U W → Calls Tryz.prog 274 #[.agg #[.pointer (some ⟨z, 0, none⟩)], .pointer (some ⟨rb, 0, none⟩)] W fun e w' => e = .returned (.tuple #[]) ∧ Rd w' z [] ∧ IsC w' rb (beginC ((UInt8.ofNat x).toNat : Nat)) 42 ∧ Off [z, rb] W w') := Lib.hid (fun W ho => readBegin274 _ [] (HU.out.2.1.off ho) (by simp) (HU.out.1.off ho (by simp)) HRZ.out)
    clear u1 u2 u3 u4
    go_wp2_with fail
    clear k1 k2 k3 k4 k5 k6 k7 k8 k9 k10
    have kz := (HKS.out U (Off.refl _ _)).1
    have hw0 : IntKind.i64.wrap 0 = 0 := by decide
    apply region_meetN (Φ := fun _ we => Rd we z [] ∧ IsC we rb (beginC ((UInt8.ofNat x).toNat : Nat)) 42 ∧ ∃ wd, Off [] U wd ∧ Off [z, rb] wd we)
    case h =>
      go_region_law (first
        | (go_simp; go_at_call 263; refine (readers263 _).mono ?_; rintro e wd ⟨qb, rfl, q1, q2⟩; have HOD : Hid (Off [] U wd) := Lib.hid (by first | exact (Off.refl [] U).trans q2 (by simp) | exact (Off.refl [] U).drew.trans q2 (by simp) | exact ((Off.refl [] U).drewN _).trans q2 (by simp)); obtain ⟨kd1, kd2⟩ := HKS.out _ HOD.out; clear q2)
        | (go_simp; go_at_call 274; refine (H274.out _ (by first | exact HOD.out | exact HOD.out.drew | exact HOD.out.drewN _)).mono ?_; rintro e we ⟨rfl, q4, q5, q6⟩; have HE := Lib.hid (And.intro q4 (And.intro q5 q6)); have HKE : Hid (we.cell? ⟨sb, 0, none⟩ = some (.pointer (some ⟨z, 0, none⟩)) ∧ we.cell? ⟨rb, 0, none⟩ = some (.int .i64 1)) := Lib.hid ⟨q6.cell (HKS.out _ (by first | exact HOD.out | exact HOD.out.drew | exact HOD.out.drewN _)).1 (by simp; exact ⟨HS2.out.2.1, fun e => by have := HS2.out.2.2; have := HU.out.2.2.2; omega⟩), by rw [q5.cell]; rfl⟩; clear q4 q5 q6))
      all_goals exact ⟨qb, rfl, HE.out.1, HE.out.2.1, wd, HOD.out, HE.out.2.2⟩
    case k =>
      rintro n6 we ⟨e1, e2, wd, e3, e4⟩
      have hxx : (UInt8.ofNat x).toNat = x := by rw [UInt8.toNat_ofNat']; have := HX.out; omega
      rw [hxx] at e2
      have HW := Lib.hid (And.intro e1 (And.intro e2 (And.intro e3 e4)))
      have ho2 : Off [z] W2 we := (HU.out.2.2.1.trans e3 (by simp)).trans e4 (fun b hb => by
        simp at hb
        rcases hb with rfl | rfl
        · exact .inl (by simp)
        · exact .inr HU.out.2.2.2)
      have HO := Lib.hid ho2
      have jz := HK.out _ ho2
      have j0 := e2.cell 0
      have j1 := e2.cell 1
      have j2 := e2.cell 2
      have j3 := e2.cell 3
      have j4 := e2.cell 4
      have j5 := e2.cell 5
      have j6 := e2.cell 6
      have j7 := e2.cell 7
      have j8 := e2.cell 8
      have j9 := e2.cell 9
      have j10 := e2.cell 10
      simp only [beginC, List.getElem?_toArray, List.getElem?_cons_zero, List.getElem?_cons_succ] at j0 j1 j2 j3 j4 j5 j6 j7 j8 j9 j10
      have HEN := Lib.hid (end264_nil e1)
      have HRG := Lib.hid (right113_begin (x : Int) (by have := HX.out; omega) (by have := HX.out; omega) we)
      unfold beginV at HRG
      clear ho2 e1 e2 e3 e4 k0 kf ks kz hw0
      go_wp2_with fail
      refine HEN.out.mono ?_
      rintro e w' ⟨rfl, rfl⟩
      go_wp2_with fail
      refine HRG.out.mono ?_
      rintro e wf ⟨rfl, hof⟩
      have hw1 : Off [z] w1 wf := ((HO2.out.mono (by simp)).trans HO.out (fun b hb => .inl hb)).trans hof (by simp)
      have er := HW.out.2.1.off hof (by simp)
      have ea := IA.out.1.off hw1 (by simp; have := HZ.out; omega)
      have eb := IA.out.2.off hw1 (by simp; have := HZ.out; omega)
      have HEA := Lib.hid (And.intro ea (And.intro eb hw1))
      have m0 := er.cell 0
      have n0 := ea.cell 0
      have m1 := er.cell 1
      have n1 := ea.cell 1
      have m2 := er.cell 2
      have n2 := ea.cell 2
      have m3 := er.cell 3
      have n3 := ea.cell 3
      have m4 := er.cell 4
      have n4 := ea.cell 4
      have m5 := er.cell 5
      have n5 := ea.cell 5
      have m6 := er.cell 6
      have n6 := ea.cell 6
      have m7 := er.cell 7
      have n7 := ea.cell 7
      have m8 := er.cell 8
      have n8 := ea.cell 8
      have m9 := er.cell 9
      have n9 := ea.cell 9
      have m10 := er.cell 10
      have n10 := ea.cell 10
      have nb := eb.cell 0
      simp only [beginC, List.getElem?_toArray, List.getElem?_cons_zero, List.getElem?_cons_succ] at m0 n0 m1 n1 m2 n2 m3 n3 m4 n4 m5 n5 m6 n6 m7 n7 m8 n8 m9 n9 m10 n10 nb
      have fa : ∀ o, wf.frozen? ⟨w.heap.size, o, none⟩ = false := fun o => ea.unfrozen o
      have fb : ∀ o, wf.frozen? ⟨w.heap.size + 1, o, none⟩ = false := fun o => eb.unfrozen o
      clear hof hw1 er ea eb jz j0 j1 j2 j3 j4 j5 j6 j7 j8 j9 j10
      go_wp2_with fail
      refine gen_world (Φ := fun V => IsC V w.heap.size (beginC (x : Int)) 42 ∧ IsC V (w.heap.size + 1) #[.int .i64 0] 24 ∧ Off [w.heap.size, w.heap.size + 1] wf V) (fin_store HEA.out.1 HEA.out.2.1 (by omega)) ?_
      clear m0 n0 m1 n1 m2 n2 m3 n3 m4 n4 m5 n5 m6 n6 m7 n7 m8 n8 m9 n9 m10 n10 nb fa fb
      rintro V ⟨v1, v2, v3⟩
      have m0 := v1.cell 0
      have m1 := v1.cell 1
      have m2 := v1.cell 2
      have m3 := v1.cell 3
      have m4 := v1.cell 4
      have m5 := v1.cell 5
      have m6 := v1.cell 6
      have m7 := v1.cell 7
      have m8 := v1.cell 8
      have m9 := v1.cell 9
      have m10 := v1.cell 10
      have nb := v2.cell 0
      simp only [beginC, List.getElem?_toArray, List.getElem?_cons_zero, List.getElem?_cons_succ] at m0 m1 m2 m3 m4 m5 m6 m7 m8 m9 m10 nb
      refine leaves_cons (f := 260) (args := #[.pointer (some ⟨w.heap.size, 0, none⟩), .pointer (some ⟨w.heap.size + 1, 0, none⟩)]) (by simp) (by simp [go_sem]) ?_
      refine (parse260_idle ⟨w.heap.size, 0, none⟩ ⟨w.heap.size + 1, 0, none⟩ _).mono ?_
      rintro e u' w'' ⟨rfl, rfl, rfl⟩
      have hof : Off [] w w'' := (HO1.out.trans HEA.out.2.2 (fun b hb => .inr (by simp at hb; have := HZ.out; omega))).trans v3 (fun b hb => .inr (by simp at hb; omega))
      have HOF := Lib.hid hof
      simp only [Leaves, settle, results, Tryz.results223]
      simp [go_sem, m0, m1, m2, m3, m4, m5, m6, m7, m8, m9, m10, nb]
      exact ⟨rfl, HOF.out⟩
end Go.Proofs.YtfdgiblkllfpjaaGreatDoor

/- scan: next: a right frame at a place; a log's end. -/
set_option linter.unusedVariables false
set_option linter.unusedSimpArgs false
namespace Go.Proofs.YtfdgiblkllfpjaaGreatDoor
open Go.ChangeShapes Go.WideShapes Go.ChangeAt Go.RowKit

/-- What is found of a begin. -/
def foundC (lsn x : Int) : Array Value := #[.int .i64 lsn, .int .i64 34, .int .i64 1, .int .i64 0, .int .i64 0, .int .i64 x, .int .i64 0, .int .i64 0, .slice none 0 0, .slice none 0 0, .int .i64 0, .slice none 0 0, .slice none 0 0]
set_option maxRecDepth 100000 in
set_option maxHeartbeats 4000000 in
theorem next170_frame {t : Nat → Nat} (v : Value) (pre rest : List UInt8) (base x : Nat) (w : World) (ht : Tbl t w) (h : IsB w v (pre ++ (frameB t (base + pre.length + 1) (beginB x) ++ rest))) (h1 : 1 ≤ x) (h2 : x ≤ 64) (hb : base ≤ 1152921504606715904) (hp : pre.length + rest.length < 100000) :
    Calls Tryz.prog 170 #[v, .int .i64 (base : Int), .int .i64 (pre.length : Nat)] w fun e w' => e = .returned (.tuple #[.agg (foundC ((base + pre.length + 1 : Nat) : Int) (x : Int)), .bool true]) ∧ Off [] w w' := by
  have hfl : (frameB t (base + pre.length + 1) (beginB x)).length = 34 := by rw [frameB_len, beginB_len]
  have hL : (pre ++ (frameB t (base + pre.length + 1) (beginB x) ++ rest)).length = pre.length + (34 + rest.length) := by rw [List.length_append, List.length_append, hfl]
  obtain ⟨vo, vc, rfl⟩ := h.val
  obtain ⟨a2, c2, b2, _, _, _, r2, _⟩ := h.cut pre.length _ (by rw [hL]; omega) (Nat.le_refl _)
  have e2 : ((pre ++ (frameB t (base + pre.length + 1) (beginB x) ++ rest)).drop pre.length).take ((pre ++ (frameB t (base + pre.length + 1) (beginB x) ++ rest)).length - pre.length) = frameB t (base + pre.length + 1) (beginB x) ++ rest := by
    rw [List.drop_left]
    exact List.take_of_length_le (by rw [hL, List.length_append, hfl]; omega)
  rw [e2] at b2
  have q2 : ∀ W, (Instr.slice 22 (.slice vo (pre ++ (frameB t (base + pre.length + 1) (beginB x) ++ rest)).length vc) (some (.int .i64 (pre.length : Nat))) none none).run Tryz.prog W = .ok (.slice a2 ((pre ++ (frameB t (base + pre.length + 1) (beginB x) ++ rest)).length - pre.length) c2) W := fun W => r2 rfl W _ rfl
  have HB2 := Lib.hid b2
  have HT := Lib.hid ht
  obtain ⟨lsn, hl⟩ : ∃ lsn, lsn = base + pre.length + 1 := ⟨_, rfl⟩
  have HO : Hid (∀ W, Off [] w W → Calls Tryz.prog 222 #[.slice a2 ((pre ++ (frameB t (base + pre.length + 1) (beginB x) ++ rest)).length - pre.length) c2, .int .i64 (lsn : Int)] W (OpenF W (beginB x) 34)) := Lib.hid (fun W ho => by
    have q := open222_frame (base + pre.length + 1) _ (beginB x) rest W (HT.out.off ho (by simp)) (HB2.out.off ho (by simp)) (by rw [beginB_len]; omega) (by rw [beginB_len]; omega) (by omega) (by omega) (by omega)
    rw [beginB_len] at q
    rw [hl]; exact q)
  have HP : Hid (∀ W v, IsB W v (beginB x) → Calls Tryz.prog 223 #[v] W fun e w' => e = .returned (.tuple #[beginV (x : Nat), .int .i64 0]) ∧ Off [] W w') := Lib.hid (fun W v hh => parse223_begin v x W hh h1 h2)
  have hl34 := beginB_len x
  have w0 : wrap64 ((base : Int) + ((pre.length : Nat) : Int)) = ((base + pre.length : Nat) : Int) := by unfold wrap64; omega
  have w1 : wrap64 (((base + pre.length : Nat) : Int) + 1) = (lsn : Int) := by clear w0; rw [hl]; unfold wrap64; omega
  generalize (pre ++ (frameB t (base + pre.length + 1) (beginB x) ++ rest)).length = L at *
  rw [← hl]
  clear h b2 r2 e2 ht hfl hL hl h1 h2 hb hp HB2
  unfold OpenF at HO
  rw [hl34] at HO
  clear hl34
  generalize base + pre.length = bp at *
  generalize L - pre.length = Lp at *
  generalize pre.length = pl at *
  obtain ⟨P, hP⟩ : ∃ P : Ending → World → Prop, P = fun e w' => e = .returned (.tuple #[.agg (foundC (lsn : Int) (x : Int)), .bool true]) ∧ Off [] w w' := ⟨_, rfl⟩
  rw [← hP]
  have HPP := Lib.hid hP
  clear hP
  unfold beginV at HP
  go_enter Tryz.func170, Tryz.ntmps170
  go_wp2_with fail
  simp only [w0, w1]
  clear w0 w1
  refine (HO.out _ ((Off.refl [] w).alloc _)).mono ?_
  rintro e w1' ⟨bo, bc, rfl, x1, x2, x3⟩
  have HP1 := Lib.hid (HP.out w1' _ x1)
  have hi := IsC.off (S := []) (IsC.new w found0 122) x2 (by simp)
  have HOW := Lib.hid (And.intro hi (((Off.refl [] w).alloc (.cells found0 122)).trans x2 (by simp)))
  clear x1 x2 x3 hi HO HP
  go_wp2_with fail
  refine HP1.out.mono ?_
  rintro e w2 ⟨rfl, ho2⟩
  have hi := HOW.out.1.off ho2 (by simp)
  have ho := HOW.out.2.trans ho2 (by simp)
  have HI := Lib.hid (And.intro hi ho)
  clear ho2 HP1 HOW hi ho
  go_upto_region 6 with fail
  refine gen_world (Φ := fun V => IsC V w.heap.size found0 122 ∧ IsC V w2.heap.size (beginC (x : Int)) 42 ∧ Off [] w V) ⟨HI.out.1.alloc _, IsC.new _ _ _, HI.out.2.alloc _⟩ ?_
  rintro V ⟨v1, v2, v3⟩
  have HFIN : Hid (∀ W, Off [w.heap.size] V W → Off [] w W) := Lib.hid (fun W h => v3.trans h (fun z hz => .inr (by simp at hz; omega)))
  have k0 := v1.cell 0
  have k1 := v1.cell 1
  have k2 := v1.cell 2
  have k3 := v1.cell 3
  have k4 := v1.cell 4
  have k5 := v1.cell 5
  have k6 := v1.cell 6
  have k7 := v1.cell 7
  have k8 := v1.cell 8
  have k9 := v1.cell 9
  have k10 := v1.cell 10
  have k11 := v1.cell 11
  have k12 := v1.cell 12
  have l0 := v2.cell 0
  have l1 := v2.cell 1
  have l2 := v2.cell 2
  have l3 := v2.cell 3
  have l4 := v2.cell 4
  have l5 := v2.cell 5
  have l6 := v2.cell 6
  have l7 := v2.cell 7
  have l8 := v2.cell 8
  have l9 := v2.cell 9
  have l10 := v2.cell 10
  have kf : ∀ o, V.frozen? ⟨w.heap.size, o, none⟩ = false := fun o => v1.unfrozen o
  simp only [found0, beginC, List.getElem?_toArray, List.getElem?_cons_zero, List.getElem?_cons_succ] at k0 k1 k2 k3 k4 k5 k6 k7 k8 k9 k10 k11 k12 l0 l1 l2 l3 l4 l5 l6 l7 l8 l9 l10
  clear v1 v2 v3 HI
  generalize w.heap.size = rb at *
  generalize w2.heap.size = nb at *
  go_wp2_with fail
  refine bodyPost_ret (v := .tuple #[.agg (foundC (lsn : Int) (x : Int)), .bool true]) (by unfold foundC; rw [results_cell_tmp rfl]; go_simp; try rfl) rfl ?_
  rw [HPP.out]
  refine ⟨rfl, HFIN.out _ ?_⟩
  iterate 13 refine Off.setCell ?_ (.inl (by simp)) _
  exact Off.refl _ _
set_option maxRecDepth 100000 in
set_option maxHeartbeats 2000000 in
theorem next170_end (v : Value) (l : List UInt8) (base : Nat) (w : World) (h : IsB w v l) (h2 : base + l.length < 1152921504606846976) :
    Calls Tryz.prog 170 #[v, .int .i64 (base : Int), .int .i64 (l.length : Nat)] w fun e w' => e = .returned (.tuple #[.agg found0, .bool false]) ∧ Off [] w w' := by
  obtain ⟨vo, vc, rfl⟩ := h.val
  obtain ⟨a2, c2, b2, _, l2, _, r2, _⟩ := h.cut l.length l.length (Nat.le_refl _) (Nat.le_refl _)
  rw [Nat.sub_self] at b2 r2
  rw [List.take_zero] at b2
  have q2 : ∀ W, (Instr.slice 22 (.slice vo l.length vc) (some (.int .i64 (l.length : Nat))) none none).run Tryz.prog W = .ok (.slice a2 0 c2) W := fun W => r2 rfl W _ rfl
  have HO : Hid (∀ W, Off [] w W → Calls Tryz.prog 222 #[.slice a2 0 c2, .int .i64 ((base + l.length + 1 : Nat) : Int)] W fun e w' => e = .returned (.tuple #[.slice none 0 0, .int .i64 0, .int .i64 80]) ∧ Off [] W w') := Lib.hid (fun W ho => open222_nil _ (base + l.length + 1) W (b2.off ho (by simp)) (by omega) (by omega))
  obtain ⟨lsn, hl⟩ : ∃ lsn, lsn = base + l.length + 1 := ⟨_, rfl⟩
  obtain ⟨bp, hbp⟩ : ∃ bp, bp = base + l.length := ⟨_, rfl⟩
  rw [← hl] at HO
  have w0 : wrap64 ((base : Int) + ((l.length : Nat) : Int)) = (bp : Int) := by rw [hbp]; unfold wrap64; omega
  have w1 : wrap64 ((bp : Int) + 1) = (lsn : Int) := by clear w0; rw [hl, hbp]; unfold wrap64; omega
  clear h b2 r2 l2 h2 hl hbp
  generalize l.length = pl at *
  go_enter Tryz.func170, Tryz.ntmps170
  go_wp2_with fail
  simp only [w0, w1]
  clear w0 w1
  refine (HO.out _ ((Off.refl [] w).alloc _)).mono ?_
  rintro e w1 ⟨rfl, ho1⟩
  have hi := IsC.off (S := []) (IsC.new w found0 122) ho1 (by simp)
  have HOW := Lib.hid (((Off.refl [] w).alloc (.cells found0 122)).trans ho1 (by simp))
  have HI := Lib.hid hi
  clear ho1
  have hf : ∀ o, w1.frozen? ⟨w.heap.size, o, none⟩ = false := fun o => hi.unfrozen o
  have k0 := hi.cell 0
  have k1 := hi.cell 1
  have k2 := hi.cell 2
  have k3 := hi.cell 3
  have k4 := hi.cell 4
  have k5 := hi.cell 5
  have k6 := hi.cell 6
  have k7 := hi.cell 7
  have k8 := hi.cell 8
  have k9 := hi.cell 9
  have k10 := hi.cell 10
  have k11 := hi.cell 11
  have k12 := hi.cell 12
  simp only [found0, List.getElem?_toArray, List.getElem?_cons_zero, List.getElem?_cons_succ] at k0 k1 k2 k3 k4 k5 k6 k7 k8 k9 k10 k11 k12
  clear hi
  have HFIN : Hid (∀ W, Off [w.heap.size] w1 W → Off [] w W) := Lib.hid (fun W ho => HOW.out.trans ho (fun z hz => .inr (by simp at hz; omega)))
  generalize w.heap.size = rb at *
  go_wp2_with fail
  refine bodyPost_ret (v := .tuple #[.agg found0, .bool false]) (by rw [results_cell_tmp rfl]; go_simp; try rfl) rfl ?_
  refine ⟨rfl, HFIN.out _ ?_⟩
  iterate 13 refine Off.setCell ?_ (.inl (by simp)) _
  exact Off.refl _ _
end Go.Proofs.YtfdgiblkllfpjaaGreatDoor
