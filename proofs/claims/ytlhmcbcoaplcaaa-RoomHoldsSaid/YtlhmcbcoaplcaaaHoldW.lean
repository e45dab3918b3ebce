/- RoomHolds: the law's walk. -/
import Derived.Test.YtlhmcbcoaplcaaaHoldV
import Derived.Deep.CutBlock
set_option linter.unusedVariables false
set_option linter.unusedSimpArgs false
namespace Go.Proofs.Ytlhmcbcoaplcaaa
open Go.ChangeShapes Go.WideShapes Go.ChangeAt Go.RowKit

set_option maxRecDepth 100000 in
set_option maxHeartbeats 8000000 in
theorem roomHolds_walk (w : World) (area : Int) (ha : InI64 area) (s : Value) (len : Nat) (x : Nat → Nat → Int) (hs : IntRows w 3 s len x) :
    Calls Try.prog 8 #[.int .i64 area, s] w fun e w' => e = .returned (.bool true) ∧ Below w.heap.size w w' := by
  obtain ⟨ao, cap, rfl, hlen, hcell⟩ := hs
  have hln : len < 140737488355328 := by omega
  have HC := Lib.hid hcell
  clear hcell ha hlen
  go_enter Try.func8, Try.ntmps8
  go_wp2_with fail
  refine (head_any _).mono ?_
  rintro e w1 ⟨rfl, h1⟩
  have HAM := Lib.hid (area_mid w1 area)
  go_upto_if 21 with fail
  go_cut [0] (fun a wx => AreaMid w1 a wx)
  case first =>
    by_cases hneg : area.tmod 100000 < 0
    · have H := Lib.hid (HAM.out.2 hneg)
      go_wp2_with fail
      go_meet
      exact H.out
    · have H := Lib.hid (HAM.out.1 (by omega))
      go_wp2_with fail
      go_meet
      exact H.out
  case rest =>
    obtain ⟨A, rfl, hA0, hA1, rfl⟩ := hcut
    clear HAM
    go_wp2_with fail
    refine (new_any _ _).mono ?_
    rintro e w2 ⟨rb, fp, rfl, s1, s2, s3⟩
    go_wp2_with fail
    have HP : Hid (∀ a1 a2, a1 = Obj.cells (sl8 fun _ => .slice none 0 0) 54 → a2 = Obj.cells (is8 fun _ => none) 55 → HoldAt w ((w2.alloc a1).alloc a2) rb A [] (fun _ => none) w2.heap.size (w2.heap.size + 1) (fun _ => .slice none 0 0)) := by
      rintro _ _ rfl rfl
      exact hold_new s1 (h1.trans s2 (by simp)) (fun y hy => Nat.le_trans h1.size (s3 y hy))
    have HP2 := Lib.hid (HP.out _ _ rfl rfl)
    clear HP s1 s2 s3 h1
    simp only [sl8, is8, Option.isSome_none] at HP2
    have HAI : Hid (A ≤ imax) := by show A ≤ 9223372036854775807; omega
    have HB0 := Lib.hid (Books.new A hA0).fix
    go_loopw [6, 9, 10, 11, 12, 13] (fun u i _ _ _ _ wr => HoldRel w rb A w2.heap.size (w2.heap.size + 1) len u i wr) (fun _ i _ _ _ _ _ => len - (intOf i).toNat)
    case atStart => exact ⟨0, [], _, _, 0, Nat.zero_le _, rfl, rfl, HP2.out, HB0.out hA1⟩
    case round =>
      generalize w2.heap.size + 1 = cb at *
      generalize w2.heap.size = ab at *
      obtain ⟨k, L, o, vs, used, hk, rfl, rfl, hp, hbk⟩ := hrel
      have HPR := Lib.hid hp
      have HBK := Lib.hid hbk
      have HOR := Lib.hid hp.old
      clear hp hbk HP2 HB0
      by_cases hlt : k < len
      · obtain ⟨b1, off1, hao1, hbl1, hx1⟩ := HC.out k hlt
        obtain rfl := hao1
        have c0 : wr.cell? ⟨b1, off1 + k * 3, none⟩ = some (.int .i64 (x k 0)) := by rw [World.cell?_of_block (a := ⟨b1, off1 + k * 3, none⟩) (HOR.out.old b1 hbl1 (by simp))]; exact (hx1 0 (by omega)).1
        have c1 : wr.cell? ⟨b1, off1 + k * 3 + 1, none⟩ = some (.int .i64 (x k 1)) := by rw [World.cell?_of_block (a := ⟨b1, off1 + k * 3 + 1, none⟩) (HOR.out.old b1 hbl1 (by simp)), Nat.add_assoc]; exact (hx1 1 (by omega)).1
        have c2 : wr.cell? ⟨b1, off1 + k * 3 + 2, none⟩ = some (.int .i64 (x k 2)) := by rw [World.cell?_of_block (a := ⟨b1, off1 + k * 3 + 2, none⟩) (HOR.out.old b1 hbl1 (by simp)), Nat.add_assoc]; exact (hx1 2 (by omega)).1
        clear hx1
        generalize x k 0 = x0 at *
        generalize x k 1 = x1 at *
        generalize x k 2 = x2 at *
        go_upto_region 15 with fail
        go_quiet (fail)
        obtain ⟨nb, hnb, hnbe⟩ := mask7 x1
        obtain ⟨n15, hn15, hn15e⟩ := mask15 x2
        rw [hnbe, hn15e]
        have hn : wrap64 (1 + (n15 : Int)) = 1 + (n15 : Int) := by unfold wrap64; omega
        rw [hn]
        obtain ⟨n, hne⟩ : ∃ n : Int, n = 1 + (n15 : Int) := ⟨_, rfl⟩
        rw [← hne]
        have hn1 : 1 ≤ n := by omega
        have hn2 : n ≤ 16 := by omega
        clear hn hne hn15e hnbe hn15 c1 c2
        have PB0 := HPR.out.off ((Off.refl [] _).drewN nq)
        have c0' : (wr.drewN nq).cell? ⟨b1, off1 + k * 3, none⟩ = some (.int .i64 x0) := c0
        obtain ⟨bao, bcap, hvb, hst⟩ := PB0.stackAt hnb
        have hMs := HBK.out.small nb
        obtain ⟨hsl, hslf⟩ := PB0.slAt hnb
        obtain ⟨his, hisf⟩ := PB0.isAt hnb
        rw [hvb] at hsl
        have PB := Lib.hid PB0
        have HVB := Lib.hid hvb
        have HST := Lib.hid hst
        clear PB0 c0 hvb hst HPR
        generalize wr.drewN nq = wB at *
        obtain ⟨M, hM⟩ : ∃ M, (stack o nb).length = M := ⟨_, rfl⟩
        rw [hM] at hsl hMs HVB
        have HM := Lib.hid hM
        clear hM
        obtain ⟨kd, hkd, hkde⟩ := mask3 x0
        go_upto_block 2 with fail
        try rw [hkde]
        clear hkde c0'
        go_cut [6, 11, 13] (fun u _ _ wx => HoldMid w rb A ab cb u wx)
        case first =>
          rcases (show kd = 0 ∨ kd = 1 ∨ kd = 2 ∨ kd = 3 by omega) with rfl | rfl | rfl | rfl
          · as_aux_lemma =>
            have HF7 : Hid (∀ W, Calls Try.prog 17 #[.int .i64 7, .int .i64 nb, .int .i64 n] W fun e w' => e = .returned (.int .i64 (35 + 26 * (nb : Int) + 9 * n)) ∧ W = w') := fun W => by have h := frame_prog 7 nb n W; rw [frame7 _ _ (by omega) (by omega) (by omega) (by omega)] at h; exact h
            have HF1 : Hid (∀ W, Calls Try.prog 17 #[.int .i64 1, .int .i64 0, .int .i64 0] W fun e w' => e = .returned (.int .i64 34) ∧ W = w') := fun W => by have h := frame_prog 1 0 0 W; rw [frame1] at h; exact h
            cases ho : o nb with
            | some s =>
              rw [ho] at his
              simp only [Option.isSome_some] at his
              clear ho
              have HT := Lib.hid (HBK.out.low)
              have hlo := HT.out
              have hft := HBK.out.fits
              have htn := tot_nonneg _ HBK.out.wf.good
              have v1 : wrap64 (used + 35) = used + 35 := by unfold wrap64; omega
              have v2 : wrap64 (26 * (nb : Int)) = 26 * (nb : Int) := by unfold wrap64; omega
              have v3 : wrap64 (used + 35 + 26 * (nb : Int)) = used + 35 + 26 * (nb : Int) := by unfold wrap64; omega
              have v4 : wrap64 (9 * n) = 9 * n := by unfold wrap64; omega
              have v5 : wrap64 (used + 35 + 26 * (nb : Int) + 9 * n) = used + 35 + 26 * (nb : Int) + 9 * n := by unfold wrap64; omega
              clear hlo hft htn
              by_cases hf : rFits A (tot (L)) (used) (35 + 26 * (nb : Int) + 9 * n) 0 = true
              · have HF : Hid (Calls Try.prog 20 #[.pointer (some ⟨rb, 0, none⟩), .int .i64 (used), .int .i64 (35 + 26 * (nb : Int) + 9 * n), .int .i64 (0)] wB fun e w' => e = .returned (.bool true) ∧ wB = w') := by have h := fits_h (used) (35 + 26 * (nb : Int) + 9 * n) 0 PB.out HAI.out; rw [hf] at h; exact h
                have hx := (fits_iff' _ _ _ _ _).1 hf
                have H : Hid (HoldMid w rb A ab cb (.int .i64 (used + 35 + 26 * (nb : Int) + 9 * n)) wB) := by
                  refine ⟨L, o, vs, _, rfl, PB.out, ?_⟩
                  have hm := HBK.out.more (35 + 26 * (nb : Int) + 9 * n) (by omega) (by omega)
                  rw [show used + 35 + 26 * (nb : Int) + 9 * n = used + (35 + 26 * (nb : Int) + 9 * n) by omega]
                  exact hm.fix hA1
                clear hx hf
                go_wp2_with fail
                refine (HF7.out _).mono ?_
                rintro e w5 ⟨rfl, rfl⟩
                go_wp2_with fail
                refine HF.out.mono ?_
                rintro e w5 ⟨rfl, rfl⟩
                go_wp2_with fail
                go_meet
                first | exact H.out | (rw [v5]; exact H.out)
              · have hf2 := Bool.eq_false_iff.2 hf
                have HF : Hid (Calls Try.prog 20 #[.pointer (some ⟨rb, 0, none⟩), .int .i64 (used), .int .i64 (35 + 26 * (nb : Int) + 9 * n), .int .i64 (0)] wB fun e w' => e = .returned (.bool false) ∧ wB = w') := by have h := fits_h (used) (35 + 26 * (nb : Int) + 9 * n) 0 PB.out HAI.out; rw [hf2] at h; exact h
                have H : Hid (HoldMid w rb A ab cb (.int .i64 (used)) wB) := ⟨L, o, vs, _, rfl, PB.out, HBK.out.fix hA1⟩
                clear hf hf2
                go_wp2_with fail
                refine (HF7.out _).mono ?_
                rintro e w5 ⟨rfl, rfl⟩
                go_wp2_with fail
                refine HF.out.mono ?_
                rintro e w5 ⟨rfl, rfl⟩
                go_wp2_with fail
                go_meet
                exact H.out
            | none =>
              rw [ho] at his
              simp only [Option.isSome_none] at his
              by_cases hg : rFits A (tot L) used 34 99 = true
              · have HG : Hid (Calls Try.prog 20 #[.pointer (some ⟨rb, 0, none⟩), .int .i64 (used), .int .i64 (34), .int .i64 (99)] wB fun e w' => e = .returned (.bool true) ∧ wB = w') := by have h := fits_h used 34 99 PB.out HAI.out; rw [hg] at h; exact h
                have hx := (fits_iff' _ _ _ _ _).1 hg
                obtain ⟨e1, hb2⟩ := HBK.out.begin (by decide) hnb ho (by omega)
                have HB2 := Lib.hid hb2
                have hsa := stack_none ho
                have P2 := Lib.hid (PB.out.flag hnb (some []) (by rw [hsa]; rfl) rfl)
                have HBG : Hid (Calls Try.prog 21 #[.pointer (some ⟨rb, 0, none⟩), .int .i64 nb] (wB.setCell ⟨cb, nb, none⟩ (.bool true)) fun e w' => e = .returned (.int .i64 0) ∧ HoldAt w w' rb A (L ++ [((nb : Int), [])]) (upd o nb (some [])) ab cb vs) := by
                  have h := begin_h (nb : Int) P2.out HBK.out.wf; rw [e1] at h; exact h
                have hlo := HBK.out.low
                have hft := HBK.out.fits
                have htn := tot_nonneg _ HBK.out.wf.good
                have v0 : wrap64 (used + 34) = used + 34 := by unfold wrap64; omega
                clear hb2 hx e1 hsa hlo hft htn P2 ho hg
                go_wp2_with fail
                refine (HF1.out _).mono ?_
                rintro e w4 ⟨rfl, rfl⟩
                go_wp2_with fail
                refine HG.out.mono ?_
                rintro e w4 ⟨rfl, rfl⟩
                go_wp2_with fail
                refine HBG.out.mono ?_
                rintro e w4 ⟨rfl, h4⟩
                have P4 := Lib.hid h4
                clear h4
                have HT := Lib.hid (HB2.out.low)
                have hlo := HT.out
                have hft := HB2.out.fits
                have htn := tot_nonneg _ HB2.out.wf.good
                have v1 : wrap64 (used + 34 + 35) = used + 34 + 35 := by unfold wrap64; omega
                have v2 : wrap64 (26 * (nb : Int)) = 26 * (nb : Int) := by unfold wrap64; omega
                have v3 : wrap64 (used + 34 + 35 + 26 * (nb : Int)) = used + 34 + 35 + 26 * (nb : Int) := by unfold wrap64; omega
                have v4 : wrap64 (9 * n) = 9 * n := by unfold wrap64; omega
                have v5 : wrap64 (used + 34 + 35 + 26 * (nb : Int) + 9 * n) = used + 34 + 35 + 26 * (nb : Int) + 9 * n := by unfold wrap64; omega
                clear hlo hft htn
                by_cases hf : rFits A (tot (L ++ [((nb : Int), [])])) (used + 34) (35 + 26 * (nb : Int) + 9 * n) 0 = true
                · have HF : Hid (Calls Try.prog 20 #[.pointer (some ⟨rb, 0, none⟩), .int .i64 (used + 34), .int .i64 (35 + 26 * (nb : Int) + 9 * n), .int .i64 (0)] w4 fun e w' => e = .returned (.bool true) ∧ w4 = w') := by have h := fits_h (used + 34) (35 + 26 * (nb : Int) + 9 * n) 0 P4.out HAI.out; rw [hf] at h; exact h
                  have hx := (fits_iff' _ _ _ _ _).1 hf
                  have H : Hid (HoldMid w rb A ab cb (.int .i64 (used + 34 + 35 + 26 * (nb : Int) + 9 * n)) w4) := by
                    refine ⟨L ++ [((nb : Int), [])], upd o nb (some []), vs, _, rfl, P4.out, ?_⟩
                    have hm := HB2.out.more (35 + 26 * (nb : Int) + 9 * n) (by omega) (by omega)
                    rw [show used + 34 + 35 + 26 * (nb : Int) + 9 * n = used + 34 + (35 + 26 * (nb : Int) + 9 * n) by omega]
                    exact hm.fix hA1
                  clear hx hf
                  go_wp2_with fail
                  refine (HF7.out _).mono ?_
                  rintro e w5 ⟨rfl, rfl⟩
                  go_wp2_with fail
                  refine HF.out.mono ?_
                  rintro e w5 ⟨rfl, rfl⟩
                  go_wp2_with fail
                  go_meet
                  first | exact H.out | (rw [v5]; exact H.out)
                · have hf2 := Bool.eq_false_iff.2 hf
                  have HF : Hid (Calls Try.prog 20 #[.pointer (some ⟨rb, 0, none⟩), .int .i64 (used + 34), .int .i64 (35 + 26 * (nb : Int) + 9 * n), .int .i64 (0)] w4 fun e w' => e = .returned (.bool false) ∧ w4 = w') := by have h := fits_h (used + 34) (35 + 26 * (nb : Int) + 9 * n) 0 P4.out HAI.out; rw [hf2] at h; exact h
                  have H : Hid (HoldMid w rb A ab cb (.int .i64 (used + 34)) w4) := ⟨L ++ [((nb : Int), [])], upd o nb (some []), vs, _, rfl, P4.out, HB2.out.fix hA1⟩
                  clear hf hf2
                  go_wp2_with fail
                  refine (HF7.out _).mono ?_
                  rintro e w5 ⟨rfl, rfl⟩
                  go_wp2_with fail
                  refine HF.out.mono ?_
                  rintro e w5 ⟨rfl, rfl⟩
                  go_wp2_with fail
                  go_meet
                  exact H.out
              · have hg2 := Bool.eq_false_iff.2 hg
                have HG : Hid (Calls Try.prog 20 #[.pointer (some ⟨rb, 0, none⟩), .int .i64 (used), .int .i64 (34), .int .i64 (99)] wB fun e w' => e = .returned (.bool false) ∧ wB = w') := by have h := fits_h used 34 99 PB.out HAI.out; rw [hg2] at h; exact h
                clear hg hg2 ho
                go_wp2_with fail
                refine (HF1.out _).mono ?_
                rintro e w4 ⟨rfl, rfl⟩
                go_wp2_with fail
                refine HG.out.mono ?_
                rintro e w4 ⟨rfl, rfl⟩
                have HT := Lib.hid (HBK.out.low)
                have hlo := HT.out
                have hft := HBK.out.fits
                have htn := tot_nonneg _ HBK.out.wf.good
                have v1 : wrap64 (used + 35) = used + 35 := by unfold wrap64; omega
                have v2 : wrap64 (26 * (nb : Int)) = 26 * (nb : Int) := by unfold wrap64; omega
                have v3 : wrap64 (used + 35 + 26 * (nb : Int)) = used + 35 + 26 * (nb : Int) := by unfold wrap64; omega
                have v4 : wrap64 (9 * n) = 9 * n := by unfold wrap64; omega
                have v5 : wrap64 (used + 35 + 26 * (nb : Int) + 9 * n) = used + 35 + 26 * (nb : Int) + 9 * n := by unfold wrap64; omega
                clear hlo hft htn
                by_cases hf : rFits A (tot (L)) (used) (35 + 26 * (nb : Int) + 9 * n) 0 = true
                · have HF : Hid (Calls Try.prog 20 #[.pointer (some ⟨rb, 0, none⟩), .int .i64 (used), .int .i64 (35 + 26 * (nb : Int) + 9 * n), .int .i64 (0)] wB fun e w' => e = .returned (.bool true) ∧ wB = w') := by have h := fits_h (used) (35 + 26 * (nb : Int) + 9 * n) 0 PB.out HAI.out; rw [hf] at h; exact h
                  have hx := (fits_iff' _ _ _ _ _).1 hf
                  have H : Hid (HoldMid w rb A ab cb (.int .i64 (used + 35 + 26 * (nb : Int) + 9 * n)) wB) := by
                    refine ⟨L, o, vs, _, rfl, PB.out, ?_⟩
                    have hm := HBK.out.more (35 + 26 * (nb : Int) + 9 * n) (by omega) (by omega)
                    rw [show used + 35 + 26 * (nb : Int) + 9 * n = used + (35 + 26 * (nb : Int) + 9 * n) by omega]
                    exact hm.fix hA1
                  clear hx hf
                  go_wp2_with fail
                  refine (HF7.out _).mono ?_
                  rintro e w5 ⟨rfl, rfl⟩
                  go_wp2_with fail
                  refine HF.out.mono ?_
                  rintro e w5 ⟨rfl, rfl⟩
                  go_wp2_with fail
                  go_meet
                  first | exact H.out | (rw [v5]; exact H.out)
                · have hf2 := Bool.eq_false_iff.2 hf
                  have HF : Hid (Calls Try.prog 20 #[.pointer (some ⟨rb, 0, none⟩), .int .i64 (used), .int .i64 (35 + 26 * (nb : Int) + 9 * n), .int .i64 (0)] wB fun e w' => e = .returned (.bool false) ∧ wB = w') := by have h := fits_h (used) (35 + 26 * (nb : Int) + 9 * n) 0 PB.out HAI.out; rw [hf2] at h; exact h
                  have H : Hid (HoldMid w rb A ab cb (.int .i64 (used)) wB) := ⟨L, o, vs, _, rfl, PB.out, HBK.out.fix hA1⟩
                  clear hf hf2
                  go_wp2_with fail
                  refine (HF7.out _).mono ?_
                  rintro e w5 ⟨rfl, rfl⟩
                  go_wp2_with fail
                  refine HF.out.mono ?_
                  rintro e w5 ⟨rfl, rfl⟩
                  go_wp2_with fail
                  go_meet
                  exact H.out
          · as_aux_lemma =>
            cases ho : o nb with
            | none =>
              rw [ho] at his
              simp only [Option.isSome_none] at his
              clear ho
              have H : Hid (HoldMid w rb A ab cb (.int .i64 used) wB) := ⟨L, o, vs, used, rfl, PB.out, HBK.out⟩
              go_wp2_with fail
              go_meet
              exact H.out
            | some s =>
              rw [ho] at his
              simp only [Option.isSome_some] at his
              have HF2 : Hid (∀ W, Calls Try.prog 17 #[.int .i64 2, .int .i64 n, .int .i64 0] W fun e w' => e = .returned (.int .i64 (38 + 2 * n)) ∧ W = w') := fun W => by have h := frame_prog 2 n 0 W; rw [frame2 _ (by omega) (by omega)] at h; exact h
              have HF3 : Hid (∀ W, Calls Try.prog 17 #[.int .i64 3, .int .i64 n, .int .i64 0] W fun e w' => e = .returned (.int .i64 (46 + n)) ∧ W = w') := fun W => by have h := frame_prog 3 n 0 W; rw [frameV3 _ (by omega) (by omega)] at h; exact h
              by_cases hg : rFits A (tot L) used (38 + 2 * n) (46 + n) = true
              · have HG : Hid (Calls Try.prog 20 #[.pointer (some ⟨rb, 0, none⟩), .int .i64 (used), .int .i64 (38 + 2 * n), .int .i64 (46 + n)] wB fun e w' => e = .returned (.bool true) ∧ wB = w') := by have h := fits_h used (38 + 2 * n) (46 + n) PB.out HAI.out; rw [hg] at h; exact h
                have hx := (fits_iff' _ _ _ _ _).1 hg
                obtain ⟨L2, e1, hb2⟩ := HBK.out.update (by decide) hnb ho ⟨hn1, hn2⟩ (by omega)
                have hsa := stack_some ho
                have hlo := HBK.out.low
                have hft := HBK.out.fits
                have htn := tot_nonneg _ HBK.out.wf.good
                have v0 : wrap64 (used + 38) = used + 38 := by unfold wrap64; omega
                have v1 : wrap64 (2 * n) = 2 * n := by unfold wrap64; omega
                have v2 : wrap64 (used + 38 + 2 * n) = used + 38 + 2 * n := by unfold wrap64; omega
                have hio : (o nb).isSome = true := by rw [ho]; rfl
                have HSM : Hid (s.length = M) := by rw [← hsa]; exact HM.out
                have HB2 := Lib.hid hb2
                have HE1 := Lib.hid e1
                have HIO := Lib.hid hio
                have HOWN : Hid (Own wB 3 1 (.slice bao M bcap) M (ints s)) := by have h := PB.out.own hnb; rw [HVB.out, hsa, HSM.out] at h; exact h
                have HBD := Lib.hid (show (M + 1) * 8 ≤ 140737488355328 by omega)
                clear hb2 hx e1 hsa hlo hft htn hio ho hg
                go_wp2_with fail
                refine (HF2.out _).mono ?_
                rintro e w4 ⟨rfl, rfl⟩
                go_wp2_with fail
                refine (HF3.out _).mono ?_
                rintro e w4 ⟨rfl, rfl⟩
                go_wp2_with fail
                refine HG.out.mono ?_
                rintro e w4 ⟨rfl, rfl⟩
                go_wp2_with (at_builtin; refine wp_app rfl _ _ 51 51 rfl rfl (HOWN.out.alloc _) Try.underlying51 info3 rfl (by decide) rfl (src_new wB #[.int .i64 n] 1 Try.underlying51 (by decide) rfl (by simp [Value.oneCell'])) HBD.out ?_)
                intro ao5 cap5 w5 ho5 hoff5 hb5
                have PB5 := PB.out.off ((Off.refl [] wB).alloc (.cells #[.int .i64 n] 3))
                have hoff6 : Off (blk (vs nb)) (wB.alloc (.cells #[.int .i64 n] 3)) w5 := by rw [HVB.out]; exact hoff5
                obtain ⟨c5, f5⟩ := PB5.after hnb hoff6
                rw [HVB.out] at c5
                have P6 := Lib.hid (PB5.put hnb HIO.out (app_own HSM.out ho5) hoff6 (by
                  intro y hy
                  rw [HVB.out]
                  rcases hb5 with e | e <;> rw [e] at hy
                  · exact .inl hy
                  · simp at hy; exact .inr (by simp; omega)))
                have HU : Hid (Calls Try.prog 27 #[.pointer (some ⟨rb, 0, none⟩), .int .i64 nb, .int .i64 n] (w5.setCell ⟨ab, nb, none⟩ (.slice ao5 (M + 1) cap5)) fun e w' => e = .returned (.int .i64 0) ∧ HoldAt w w' rb A L2 (upd o nb (some (s ++ [n]))) ab cb (upd vs nb (.slice ao5 (M + 1) cap5))) := by
                  have h := update_h (nb : Int) n P6.out HBK.out.wf; rw [HE1.out] at h; exact h
                clear PB5 hoff6 ho5 hoff5 hb5 P6
                go_wp2_with fail
                refine HU.out.mono ?_
                rintro e w6 ⟨rfl, h6⟩
                have H : Hid (HoldMid w rb A ab cb (.int .i64 (used + 38 + 2 * n)) w6) := ⟨_, _, _, _, rfl, h6, HB2.out.fix hA1⟩
                clear h6
                go_wp2_with fail
                go_meet
                exact H.out
              · have hg2 := Bool.eq_false_iff.2 hg
                have HG : Hid (Calls Try.prog 20 #[.pointer (some ⟨rb, 0, none⟩), .int .i64 (used), .int .i64 (38 + 2 * n), .int .i64 (46 + n)] wB fun e w' => e = .returned (.bool false) ∧ wB = w') := by have h := fits_h used (38 + 2 * n) (46 + n) PB.out HAI.out; rw [hg2] at h; exact h
                have H : Hid (HoldMid w rb A ab cb (.int .i64 used) wB) := ⟨L, o, vs, used, rfl, PB.out, HBK.out⟩
                clear hg hg2 ho
                go_wp2_with fail
                refine (HF2.out _).mono ?_
                rintro e w4 ⟨rfl, rfl⟩
                go_wp2_with fail
                refine (HF3.out _).mono ?_
                rintro e w4 ⟨rfl, rfl⟩
                go_wp2_with fail
                refine HG.out.mono ?_
                rintro e w4 ⟨rfl, rfl⟩
                go_wp2_with fail
                go_meet
                exact H.out
          · as_aux_lemma =>
            by_cases hM0 : M = 0
            · subst hM0
              have H : Hid (HoldMid w rb A ab cb (.int .i64 used) wB) := ⟨L, o, vs, used, rfl, PB.out, HBK.out⟩
              go_wp2_with fail
              go_meet
              exact H.out
            · obtain ⟨m, rfl⟩ : ∃ m, M = m + 1 := ⟨M - 1, by omega⟩
              clear hM0
              cases ho : o nb with
              | none => exact absurd HM.out (by rw [stack_none ho]; simp)
              | some s =>
                have hsa := stack_some ho
                have HSM : Hid (s.length = m + 1) := by rw [← hsa]; exact HM.out
                obtain ⟨y, hy⟩ : ∃ y, s[m]? = some y := ⟨s[m]'(by rw [HSM.out]; omega), List.getElem?_eq_getElem _⟩
                have hspl : s = s.take m ++ [y] := by
                  have h1 := List.take_append_drop m s
                  have h2 : s.drop m = [y] := by
                    obtain ⟨hlt', hyy⟩ := List.getElem?_eq_some_iff.1 hy
                    rw [List.drop_eq_getElem_cons hlt', hyy, List.drop_of_length_le (by rw [HSM.out]; omega)]
                  rw [h2] at h1; exact h1.symm
                obtain ⟨g, off, hao2, hcy⟩ := HST.out m y (by rw [hsa]; exact hy)
                obtain rfl := hao2
                have ho' := ho
                rw [hspl] at ho'
                obtain ⟨L2, e1, hb2⟩ := HBK.out.undo (by decide) hnb ho'
                have hgy := (HBK.out.good ho).1 y (List.mem_of_getElem? hy)
                have HOWN : Own wB 3 1 (.slice (some ⟨g, off, none⟩) (m + 1) bcap) (m + 1) (ints s) := by have h := PB.out.own hnb; rw [HVB.out, hsa, HSM.out] at h; exact h
                obtain ⟨ao1, cap1, ho1, hbk1, run1⟩ := cut_take HOWN HSM.out (Nat.le_succ m)
                have hlt1 : (s.take m).length = m := by rw [List.length_take, HSM.out]; omega
                have P6 := PB.out.put hnb (by rw [ho]; rfl) (s := s.take m) (by rw [hlt1]; exact ho1) (Off.refl _ _) (fun z hz => .inl (by rw [hbk1] at hz; rw [HVB.out]; exact hz))
                have HU : Hid (Calls Try.prog 28 #[.pointer (some ⟨rb, 0, none⟩), .int .i64 nb, .int .i64 y] (wB.setCell ⟨ab, nb, none⟩ (.slice ao1 m cap1)) fun e w' => e = .returned (.int .i64 0) ∧ HoldAt w w' rb A L2 (upd o nb (some (s.take m))) ab cb (upd vs nb (.slice ao1 m cap1))) := by
                  have h := undone_h (nb : Int) y P6 HBK.out.wf; rw [e1] at h; exact h
                have HB2 := Lib.hid hb2
                have hlo := HBK.out.low
                have hft := HBK.out.fits
                have htn := tot_nonneg _ HBK.out.wf.good
                have v0 : wrap64 (used + 46) = used + 46 := by unfold wrap64; omega
                have v1 : wrap64 (used + 46 + y) = used + 46 + y := by unfold wrap64; omega
                have v2 : wrap64 (((m + 1 : Nat) : Int) - 1) = (m : Int) := by unfold wrap64; omega
                have v3 : ((m + 1 : Nat) : Int) - 1 = (m : Int) := by omega
                have v4 : IntKind.i64.wrap (m : Int) = (m : Int) := IntWalk.i64_in _ (by omega)
                have v5 : ((0 : Int) < ((m + 1 : Nat) : Int)) := by omega
                clear ho' ho hsa hspl hy e1 hgy HOWN ho1 hbk1 hlt1 P6 hb2 hlo hft htn
                go_wp2_with fail
                refine HU.out.mono ?_
                rintro e w6 ⟨rfl, h6⟩
                have H : Hid (HoldMid w rb A ab cb (.int .i64 (used + 46 + y)) w6) := ⟨_, _, _, _, rfl, h6, HB2.out.fix hA1⟩
                clear h6
                go_wp2_with fail
                go_meet
                exact H.out
          · as_aux_lemma =>
            cases ho : o nb with
            | none =>
              rw [ho] at his
              simp only [Option.isSome_none] at his
              clear ho
              have H : Hid (HoldMid w rb A ab cb (.int .i64 used) wB) := ⟨L, o, vs, used, rfl, PB.out, HBK.out⟩
              go_wp2_with fail
              go_meet
              exact H.out
            | some s =>
              rw [ho] at his
              simp only [Option.isSome_some] at his
              have hsa := stack_some ho
              have HSM : Hid (s.length = M) := by rw [← hsa]; exact HM.out
              have HST2 : Hid (∀ (j : Nat) (v : Int), s[j]? = some v → ∃ g off, bao = some ⟨g, off, none⟩ ∧ wB.cell? ⟨g, off + j, none⟩ = some (.int .i64 v)) := by rw [← hsa]; exact HST.out
              have HGD := Lib.hid (HBK.out.good ho).1
              obtain ⟨e1, hb2⟩ := HBK.out.drop (by decide) hnb ho
              have HB2 := Lib.hid hb2
              have P5 := PB.out.put hnb (by rw [ho]; rfl) (s := []) (Own.nil wB 3 1) (Off.refl _ _) (fun z hz => by simp [blk] at hz)
              have P6 := P5.flag hnb none (by simp [stack, upd_same]) rfl
              have eo : upd (upd o nb (some [])) nb none = upd o nb none := by funext j; by_cases hj : j = nb <;> simp [upd, hj]
              rw [eo] at P6
              have HU : Hid (Calls Try.prog 29 #[.pointer (some ⟨rb, 0, none⟩), .int .i64 nb] ((wB.setCell ⟨ab, nb, none⟩ (.slice none 0 0)).setCell ⟨cb, nb, none⟩ (.bool false)) fun e w' => e = .returned (.int .i64 0) ∧ HoldAt w w' rb A (mdel L nb) (upd o nb none) ab cb (upd vs nb (.slice none 0 0))) := by
                have h := drop_h (nb : Int) P6 HBK.out.wf; rw [e1] at h; exact h
              have HKS : Hid (0 ≤ used ∧ used + ksum s ≤ A) := ⟨HBK.out.low, by have := HB2.out.fits; have := tot_nonneg _ HB2.out.wf.good; omega⟩
              have hsp := (PB.out.slAt hnb)
              have cis : ∀ v, (wB.setCell ⟨ab, nb, none⟩ v).cell? ⟨cb, nb, none⟩ = some (.bool true) ∧ (wB.setCell ⟨ab, nb, none⟩ v).frozen? ⟨cb, nb, none⟩ = false := fun v => by
                obtain ⟨fp', hF⟩ := PB.out
                have q := hF.is.setCell (k := ab) nb v (Ne.symm hF.ne)
                refine ⟨by rw [q.cell, is8_get o hnb, ho]; rfl, q.unfrozen nb⟩
              have c7 := (cis (.slice none 0 0)).1
              have f7 := (cis (.slice none 0 0)).2
              clear ho hsa e1 hb2 P5 P6 eo cis hsp
              go_wp2_with fail
              go_loop [6, 13] (fun u i => ∃ j : Nat, j ≤ M ∧ i = .int .i64 j ∧ u = .int .i64 (used + (ksum (s.drop j) - 99))) (fun _ i => (intOf i).toNat)
              case atStart => exact ⟨M, Nat.le_refl _, rfl, by rw [List.drop_of_length_le (by rw [HSM.out]; exact Nat.le_refl _)]; simp [ksum]⟩
              case round =>
                obtain ⟨j, hj, rfl, rfl⟩ := hrel
                by_cases hj0 : j = 0
                · subst hj0
                  have e99 : used + (ksum (s.drop 0) - 99) = used + ksum s - 99 := by rw [List.drop_zero]; omega
                  rw [e99]
                  have hks := HKS.out
                  have hks2 := ksum_pos s HGD.out
                  have v1 : wrap64 (used + ksum s - 99 + 99) = used + ksum s := by unfold wrap64; omega
                  have v2 : wrap64 (used + ksum s) = used + ksum s := by unfold wrap64; omega
                  clear hks hks2 e99
                  generalize ksum s = ks at *
                  go_wp2_with fail
                  refine HU.out.mono ?_
                  rintro e w6 ⟨rfl, h6⟩
                  have H : Hid (HoldMid w rb A ab cb (.int .i64 (used + ks)) w6) := ⟨_, _, _, _, rfl, h6, HB2.out.fix hA1⟩
                  clear h6
                  go_wp2_with fail
                  go_meet
                  first | exact H.out | (rw [v2]; exact H.out)
                · obtain ⟨m, rfl⟩ : ∃ m, j = m + 1 := ⟨j - 1, by omega⟩
                  clear hj0
                  obtain ⟨y, hy⟩ : ∃ y, s[m]? = some y := ⟨s[m]'(by rw [HSM.out]; omega), List.getElem?_eq_getElem _⟩
                  obtain ⟨g, off, hao2, hcy⟩ := HST2.out m y hy
                  obtain rfl := hao2
                  have hgy := HGD.out y (List.mem_of_getElem? hy)
                  have hkd := ksum_drop hy
                  have hk1 := ksum_pos _ (good_drop HGD.out (m + 1))
                  have hk2 := ksum_drop_le HGD.out m
                  have hks := HKS.out
                  have HKD := Lib.hid hkd
                  generalize hq : ksum (s.drop (m + 1)) = q at *
                  have v0 : wrap64 (used + (q - 99) + 46) = used + (q - 99) + 46 := by unfold wrap64; omega
                  have v1 : wrap64 (used + (q - 99) + 46 + y) = used + (q - 99) + 46 + y := by unfold wrap64; omega
                  have v2 : wrap64 (((m + 1 : Nat) : Int) - 1) = (m : Int) := by unfold wrap64; omega
                  have v3 : ((m + 1 : Nat) : Int) - 1 = (m : Int) := by omega
                  have v5 : ((0 : Int) < ((m + 1 : Nat) : Int)) := by omega
                  clear hy hgy hkd hk1 hk2 hks hq
                  go_wp2_with fail
                  go_round
                  case rel => exact ⟨m, by omega, by go_num, by rw [HKD.out]; go_num⟩
                  case measure => simp [intOf]
        case rest =>
          obtain ⟨L2, o2, vs2, u2, rfl, hp2, hb2⟩ := hcut
          have P2 := Lib.hid hp2
          have HB2 := Lib.hid hb2
          have hfi := hb2.fits
          have hlo := hb2.low
          have htn := tot_nonneg _ hb2.wf.good
          have HF : Hid (Calls Try.prog 20 #[.pointer (some ⟨rb, 0, none⟩), .int .i64 u2, .int .i64 0, .int .i64 0] wc fun e w' => e = .returned (.bool true) ∧ wc = w') := by
            have h := fits_h u2 0 0 P2.out HAI.out
            rw [(fits_iff' A (tot L2) u2 0 0).2 (by omega)] at h; exact h
          clear hp2 hb2 hfi hlo htn
          go_wp2_with fail
          refine HF.out.mono ?_
          rintro e w5 ⟨rfl, rfl⟩
          have hfi := HB2.out.fits
          have hlo := HB2.out.low
          have htn := tot_nonneg _ HB2.out.wf.good
          have v1 : wrap64 (u2 + tot L2) = u2 + tot L2 := by unfold wrap64; omega
          have HK := Lib.hid (kept_h P2.out)
          generalize tot L2 = t2 at *
          clear htn
          go_wp2_with fail
          refine HK.out.mono ?_
          rintro e w5 ⟨rfl, rfl⟩
          go_wp2_with fail
          go_roundw
          case rel => exact ⟨k + 1, L2, o2, vs2, u2, by omega, rfl, by go_num, P2.out, HB2.out⟩
          case measure => simp [intOf]; omega
      · have HT : Hid (used + sumB o 8 ≤ A) := by
          have h1 := HBK.out.fits
          have h2 := HBK.out.sum
          show used + sumB o 8 ≤ A
          omega
        clear HC
        as_aux_lemma =>
        go_wp2_with fail
        go_loop [6, 14, 15] (fun u b _ => ∃ nb : Nat, nb ≤ 8 ∧ b = .int .i64 nb ∧ u = .int .i64 (used + sumB o nb)) (fun _ b _ => 8 - (intOf b).toNat)
        case atStart => exact ⟨0, by omega, rfl, by simp [sumB]⟩
        case round =>
          obtain ⟨nb, hnb, rfl, rfl⟩ := hrel
          by_cases h8 : nb < 8
          · obtain ⟨bao, bcap, hvb, hst⟩ := HPR.out.stackAt h8
            obtain ⟨hsl, hslf⟩ := HPR.out.slAt h8
            obtain ⟨his, hisf⟩ := HPR.out.isAt h8
            have hMs := HBK.out.small nb
            rw [hvb] at hsl
            obtain ⟨hgd, hu0, hu1, hnx⟩ := HBK.out.next h8
            have HST := Lib.hid hst
            have HGD := Lib.hid hgd
            have HU := Lib.hid (And.intro hu0 hu1)
            have HNX := Lib.hid hnx
            clear hst hgd hu0 hu1 hnx hvb
            generalize stack o nb = S at *
            generalize used + sumB o nb = U at *
            generalize hM : S.length = M at *
            have HM := Lib.hid hM
            clear hM
            go_wp2_with fail
            go_loop [6, 15] (fun u i => ∃ j : Nat, j ≤ M ∧ i = .int .i64 j ∧ u = .int .i64 (U + (ksum (S.drop j) - 99))) (fun _ i => (intOf i).toNat)
            case atStart => exact ⟨M, Nat.le_refl _, rfl, by rw [List.drop_of_length_le (by rw [HM.out]; exact Nat.le_refl _)]; simp [ksum]⟩
            case round =>
              obtain ⟨j, hj, rfl, rfl⟩ := hrel
              by_cases hj0 : j = 0
              · subst hj0
                rw [List.drop_zero]
                rcases HNX.out with ⟨ho, hq⟩ | ⟨s, ho, hq, hq2⟩
                · rw [ho] at his
                  simp only [Option.isSome_none] at his
                  have HQ := Lib.hid hq
                  clear hq ho
                  generalize U + (ksum S - 99) = V at *
                  go_wp2_with fail
                  go_round
                  case rel => exact ⟨nb + 1, by omega, by go_num, by rw [HQ.out]⟩
                  case measure => simp [intOf]; omega
                · rw [ho] at his
                  simp only [Option.isSome_some] at his
                  have HQ := Lib.hid hq
                  have hks := ksum_pos _ HGD.out
                  have hu := HU.out
                  have v1 : wrap64 (U + (ksum S - 99) + 99) = U + (ksum S - 99) + 99 := by unfold wrap64; omega
                  clear hq ho hq2 hks hu
                  generalize U + (ksum S - 99) = V at *
                  go_wp2_with fail
                  go_round
                  case rel => exact ⟨nb + 1, by omega, by go_num, by rw [← HQ.out]; first | rfl | rw [v1]⟩
                  case measure => simp [intOf]; omega
              · obtain ⟨m, rfl⟩ : ∃ m, j = m + 1 := ⟨j - 1, by omega⟩
                clear hj0
                obtain ⟨y, hy⟩ : ∃ y, S[m]? = some y := ⟨S[m]'(by rw [HM.out]; omega), List.getElem?_eq_getElem _⟩
                obtain ⟨g, off, hao2, hcy⟩ := HST.out m y hy
                obtain rfl := hao2
                have hgy := HGD.out y (List.mem_of_getElem? hy)
                have hkd := ksum_drop hy
                have hk1 := ksum_pos _ (good_drop HGD.out (m + 1))
                have hk2 := ksum_drop_le HGD.out m
                have hks := HU.out
                have HKD := Lib.hid hkd
                generalize hq : ksum (S.drop (m + 1)) = q at *
                have v0 : wrap64 (U + (q - 99) + 46) = U + (q - 99) + 46 := by unfold wrap64; omega
                have v1 : wrap64 (U + (q - 99) + 46 + y) = U + (q - 99) + 46 + y := by unfold wrap64; omega
                have v2 : wrap64 (((m + 1 : Nat) : Int) - 1) = (m : Int) := by unfold wrap64; omega
                have v3 : ((m + 1 : Nat) : Int) - 1 = (m : Int) := by omega
                have v5 : ((0 : Int) < ((m + 1 : Nat) : Int)) := by omega
                clear hy hgy hkd hk1 hk2 hks hq
                go_wp2_with fail
                go_round
                case rel => exact ⟨m, by omega, by go_num, by rw [HKD.out]; go_num⟩
                case measure => simp [intOf]
          · obtain rfl : nb = 8 := by omega
            have ht := HT.out
            generalize used + sumB o 8 = V at *
            go_wp2_with fail
            go_ret
            exact ⟨ret_bool (by simp [ht]), HOR.out.below⟩
end Go.Proofs.Ytlhmcbcoaplcaaa
