/- PoolKeeps: the walk. -/
import Derived.Test.YtfdgiblkllfpjaaGreatDoorK13
set_option linter.unusedVariables false
set_option linter.unusedSimpArgs false
namespace Go.Proofs.YtfdgiblkllfpjaaGreatDoor
open Go.ChangeShapes Go.WideShapes Go.ChangeAt Go.RowKit

set_option maxRecDepth 100000 in
set_option maxHeartbeats 16000000 in
theorem keeps_walk {t : Nat → Nat} {w : World} {vb v1 : Value} {bl : List UInt8} (ht : Tbl t w) (hb : ReadB w vb bl) (hm : bl.length ≤ 140737488355328) : Calls Tryz.prog 3 #[vb, v1] w fun e w' => e = .returned (.bool true) ∧ Off [] w w' := by
  obtain ⟨bo, bc, rfl⟩ := hb.val
  obtain ⟨P, hP⟩ : ∃ P : Ending → World → Prop, P = fun e w' => e = .returned (.bool true) ∧ Off [] w w' := ⟨_, rfl⟩
  rw [← hP]
  have HP := Lib.hid hP
  have HT := Lib.hid ht
  have HFT : Hid (∀ W, Off [] w W → Calls Tryz.prog 15 #[.slice bo bl.length bc, .int .i64 1] W (FreshB W (fitB bl))) := Lib.hid (fun W ho => fitted15 (hb.off ho) hm)
  have HAL : Hid (∀ W, Off [] w W → Calls Tryz.prog 10 #[] W fun e w' => e = .returned (.bool true) ∧ Off [] W w') := Lib.hid (fun W ho => alive10 (ht.off ho (by simp)))
  have hfl := fitB_len bl
  have HFL := Lib.hid hfl
  clear hP ht hb hm hfl
  generalize hf : fitB bl = f at *
  clear hf
  generalize bl.length = bn at *
  go_enter Tryz.func3, Tryz.ntmps3
  go_wp2_with fail
  refine (new8_sh2 w).mono ?_
  rintro e w1 ⟨d, D, rfl, hd1, ho1, hD1⟩
  have HD1 := Lib.hid (And.intro hd1 (And.intro ho1 hD1))
  clear hd1 ho1 hD1
  go_wp2_with (go_at_call 9; refine (num9 _ _).mono ?_; rintro e w' ⟨rfl, rfl⟩)
  refine (HAL.out w1 HD1.out.2.1).mono ?_
  rintro e wa ⟨rfl, hoa⟩
  have HDA : Hid (DiskR wa d (newDisk sh2) D ∧ Off [] w wa ∧ (∀ z ∈ D, w.heap.size ≤ z) ∧ ∀ z ∈ D, z < wa.heap.size) := Lib.hid ⟨HD1.out.1.off hoa (by simp), HD1.out.2.1.trans hoa (by simp), HD1.out.2.2, fun z hz => Nat.lt_of_lt_of_le (HD1.out.1.lt z hz) hoa.size⟩
  have HOP : Hid (Calls Tryz.prog 11 #[.pointer (some ⟨d, 0, none⟩), .int .i64 0] wa (OpenPost d D (newDisk sh2) 0 wa)) := Lib.hid (open11_nil HDA.out.1 (by decide) rfl rfl 0 (by omega))
  clear hoa HD1 HAL
  go_wp2_with (go_at_call 9; refine (num9 _ _).mono ?_; rintro e w' ⟨rfl, rfl⟩)
  refine HOP.out.mono ?_
  rintro e w2 ⟨g, L, rfl, hl2, hk2, hL2⟩
  have HL2 := Lib.hid (And.intro hl2 (And.intro hk2 hL2))
  clear hl2 hk2 hL2 HOP
  go_wp2_with (go_at_call 9; refine (num9 _ _).mono ?_; rintro e w' ⟨rfl, rfl⟩)
  refine (new12 d g 2 (by omega) (by omega) w2).mono ?_
  rintro e w3 ⟨p, Q, rfl, hp3, ho3, hQ3⟩
  have HW3 : Hid (Since w d g p (newDisk sh2).act (newLog 0) ⟨2, [], false⟩ ⟨D, L, Q⟩ w3) := Lib.hid (by
    have a1 := HDA.out
    have a2 := HL2.out
    have s1 := a1.2.1.size
    have s2 := a2.2.1.2.size
    obtain ⟨x1, x2⟩ := Whole.start (w := w) (w1 := wa) (w2 := w2) (w3 := w3) a2.2.1.1 (fun z hz => ⟨a1.2.2.1 z hz, a1.2.2.2 z hz⟩) a2.1 (fun z hz => ⟨a2.2.2 z hz, a2.1.lt z hz⟩) s1 hp3 ho3 hQ3 s2
    exact ⟨x1, x2, (a1.2.1.trans (a2.2.1.2) (fun z hz => .inr (a1.2.2.1 z hz))).trans ho3 (by simp)⟩)
  clear hp3 ho3 hQ3 HDA HL2
  have hap : Calls Tryz.prog 13 #[.pointer (some ⟨g, 0, none⟩), beginV 9] w3 (AppPost t g d L (newLog 0) sh2.log 9 w3) := by
    obtain ⟨z0, z1, z2, z3⟩ := HW3.out.zero HT.out
    exact append13 z0 HW3.out.1.1 rfl 9 (by omega) (by omega) (by simp [newLog]) z2
  unfold beginV at hap
  have HAP := Lib.hid hap
  clear hap
  go_wp2_with (go_at_call 9; refine (num9 _ _).mono ?_; rintro e w' ⟨rfl, rfl⟩)
  refine HAP.out.mono ?_
  rintro e w4 (⟨_, rfl, hs4⟩ | ⟨hbad, _⟩)
  rotate_left
  · exact absurd hbad (by decide)
  have hfin : (((newLog 0).fin : Nat) : Int) = 1 := rfl
  rw [hfin]
  obtain ⟨D4, L4, hW4, hA4, _⟩ := HW3.out.1.deskAt (HW3.out.1.1.log hs4)
  have HW4 := Lib.hid (HW3.out.step hW4 hA4)
  clear hs4 hW4 hA4 HAP hfin HW3
  go_wp2_with fail
  refine (HFT.out w4 HW4.out.2.2).mono ?_
  rintro e w5 ⟨fo, fc, rfl, x1, x2, x3⟩
  have HK5 := Lib.hid (Kept.new HW4.out x1 x3)
  have HW5 := Lib.hid (HW4.out.quiet x2)
  clear x1 x2 x3 HW4
  rw [HFL.out] at HK5 ⊢
  have HLE := Lib.hid (lent14 HK5.out.1 HFL.out)
  go_wp2_with fail
  refine HLE.out.mono ?_
  rintro e w6 ⟨mo, mc, rfl, x1, x2, x3⟩
  have HM6 := Lib.hid (Kept.new HW5.out x1 x3)
  have HW6 := Lib.hid (HW5.out.quiet x2)
  clear x1 x2 x3 HW5 HLE HK5
  rw [lentB_len HFL.out] at HM6 ⊢
  have HPIN : Hid (Calls Tryz.prog 16 #[.pointer (some ⟨p, 0, none⟩), .int .i64 1, .int .i64 0] w6 (PinPost d g p ⟨D4, L4, Q⟩ dmK (lmK t) (PoolM.add ⟨2, [], false⟩ ⟨1, zA, 1, 0⟩) zA w6)) := Lib.hid (by
    obtain ⟨z0, z1, z2, z3⟩ := HW6.out.zero HT.out
    exact pin16_room z0 HW6.out.1 z1 rfl (by decide) (DiskM.act_fit (newDisk_fit sh2)) 1 (by decide) rfl (by decide) zA (by exact blankG_at sh2 1 (by decide)) 0 (check_zeros t 1 1 (by omega) (by omega) (by omega)) rfl 0)
  go_wp2_with fail
  refine HPIN.out.mono ?_
  rintro e w7 ⟨F7, ao, cap, rfl, hW7, hA7, _, _⟩
  have HW7 := Lib.hid (HW6.out.step hW7 hA7)
  have HM7 := Lib.hid (HM6.out.step hA7)
  clear hW7 hA7 HPIN HW6 HM6
  obtain ⟨mo2, mc2, y1, y2, y3, _, _, y5⟩ := HM7.out.1.cut 0 40 (by omega) (by rw [lentB_len HFL.out]; omega)
  simp only [List.drop_zero, Nat.sub_zero] at y1 y2 y3 y5
  have HR2 := Lib.hid (y5 trivial)
  have q2 : ∀ W, (Instr.slice 22 (.slice mo 160 mc) none (some (.int .i64 40)) none).run Tryz.prog W = .ok (.slice mo2 40 mc2) W := fun W => HR2.out W 40 rfl
  have e40 : (lentB f).take 40 = f := by unfold lentB; rw [List.take_append_of_le_length (by rw [HFL.out]; omega), List.take_of_length_le (by rw [HFL.out]; omega)]
  rw [e40] at y1
  have HCH : Hid (Calls Tryz.prog 17 #[.pointer (some ⟨p, 0, none⟩), .int .i64 1, .slice mo2 40 mc2, .int .i64 1] w7 (OkPost d g p F7 dmK (lmK t) (pmK t f 1) 0 w7)) := Lib.hid (by
    obtain ⟨z0, z1, z2, z3⟩ := HW7.out.zero HT.out
    have hl : (lmK t).fin = 35 := by
      have : (frameB t (newLog 0).fin (beginB 9)).length = 34 := by rw [frameB_len, beginB_len]
      show 0 + (0 + (frameB t (newLog 0).fin (beginB 9)).length) + 1 = 35; rw [this]
    exact change17 z0 HW7.out.1 z2 rfl 1 (by omega) ⟨1, zA, 1, 0⟩ rfl (by show 0 < 1; omega) _ f y1 (fun z hz hz' => (HM7.out.2 z (by rw [← y2]; exact hz)).2 (by simp [hz'])) (by rw [HFL.out]; unfold zA; rw [List.length_replicate]) (by rw [HFL.out, slots40]; omega) 1 (by show (pageLsn zA).getD 0 < 1; rw [show pageLsn zA = some 0 from lsn_zeros 1 (by omega) (by omega)]; decide) (by rw [hl]; omega))
  clear y1 y2 y3 y5 HR2 e40
  go_wp2_with fail
  refine HCH.out.mono ?_
  rintro e w8 ⟨rfl, F8, hW8, hA8⟩
  have HW8 := Lib.hid (HW7.out.step hW8 hA8)
  have HM8 := Lib.hid (HM7.out.step hA8)
  clear hW8 hA8 HCH HW7 HM7 q2
  go_wp2_with fail
  refine (HFT.out w8 HW8.out.2.2).mono ?_
  rintro e w9 ⟨fo2, fc2, rfl, x1, x2, x3⟩
  have HK9 := Lib.hid (Kept.new HW8.out x1 x3)
  have HW9 := Lib.hid (HW8.out.quiet x2)
  have HM9 := Lib.hid (HM8.out.quiet x2)
  clear x1 x2 x3 HW8 HM8
  rw [HFL.out] at HK9 ⊢
  have HST : Hid (Calls Tryz.prog 18 #[.slice fo2 40 fc2, .int .i64 1, .int .i64 1] w9 (StampPost w9 (pgK t f))) := Lib.hid (by
    exact stamp18 _ f 1 1 (by omega) (by omega) w9 (HW9.out.zero HT.out).1 HK9.out.1 (by rw [HFL.out, slots40]; omega))
  go_wp2_with fail
  refine HST.out.mono ?_
  rintro e wA ⟨so, sc, rfl, x1, x2, x3⟩
  have HSA := Lib.hid (Kept.new HW9.out x1 x3)
  have HSM : Hid (∀ z ∈ blk (.slice so (pgK t f).length sc), z ∉ blk (.slice mo 160 mc)) := Lib.hid (fun z hz hz' => by have := x3 z hz; have := HM9.out.1.lt z hz'; omega)
  have HWA := Lib.hid (HW9.out.quiet x2)
  have HMA := Lib.hid (HM9.out.quiet x2)
  clear x1 x2 x3 HW9 HM9 HK9 HST
  rw [pgK_len HFL.out] at HSA HSM ⊢
  go_wp2_with (go_at_call 9; refine (num9 _ _).mono ?_; rintro e w' ⟨rfl, rfl⟩)
  refine (HFT.out wA HWA.out.2.2).mono ?_
  rintro e wB ⟨fo3, fc3, rfl, x1, x2, x3⟩
  have HFB := Lib.hid x1
  have HWB := Lib.hid (HWA.out.quiet x2)
  have HMB := Lib.hid (HMA.out.quiet x2)
  have HSB := Lib.hid (HSA.out.quiet x2)
  clear x1 x2 x3 HWA HMA HSA
  rw [HFL.out] at HFB ⊢
  have HWH : Hid (Calls Tryz.prog 19 #[.slice mo 160 mc, .slice fo3 40 fc3] wB fun e w' => e = .returned (.bool true) ∧ Off [] wB w') := Lib.hid (whole19 HMB.out.1 HFB.out HFL.out)
  go_wp2_with fail
  refine HWH.out.mono ?_
  rintro e wC ⟨rfl, x2⟩
  have HWC := Lib.hid (HWB.out.quiet x2)
  have HMC := Lib.hid (HMB.out.quiet x2)
  have HSC := Lib.hid (HSB.out.quiet x2)
  clear x2 HWB HMB HSB HWH HFB HFT
  obtain ⟨mb, moff, rfl⟩ := HMC.out.1.base (by rw [lentB_len HFL.out]; omega)
  go_wp2_with fail
  go_loopw [17] (fun i wr => ∃ (k : Nat) (l' : List UInt8), k ≤ 160 ∧ i = .int .i64 (k : Int) ∧ l'.length = 160 ∧ IsB wr (.slice (some ⟨mb, moff, none⟩) 160 mc) l' ∧ Off [mb] wC wr) (fun i _ => 160 - (intOf i).toNat)
  case atStart => exact ⟨0, _, by omega, rfl, lentB_len HFL.out, HMC.out.1, Off.refl _ _⟩
  case round =>
    obtain ⟨k, l', hk, rfl, hl', hb', ho'⟩ := hrel
    have HI := Lib.hid (And.intro hl' (And.intro hb' ho'))
    clear hl' hb' ho'
    by_cases h160 : k < 160
    · obtain ⟨bo', c2⟩ : ∃ bo : Int, wr.cell? ⟨mb, moff + k, none⟩ = some (.int .u8 bo) := ⟨_, HI.out.2.1.cell k (by rw [HI.out.1]; exact h160)⟩
      have cf := fun o => HI.out.2.1.free o
      have HN : Hid ((l'.set k 153).length = 160 ∧ IsB (wr.setCell ⟨mb, moff + k, none⟩ (.int .u8 153)) (.slice (some ⟨mb, moff, none⟩) 160 mc) (l'.set k 153) ∧ Off [mb] wC (wr.setCell ⟨mb, moff + k, none⟩ (.int .u8 153))) := Lib.hid ⟨by rw [List.length_set]; exact HI.out.1, HI.out.2.1.put k 153, HI.out.2.2.setCell (.inl (by simp)) _⟩
      go_wp2_with fail
      go_roundw
      case rel => exact ⟨k + 1, _, by omega, by go_num, HN.out.1, HN.out.2.1, HN.out.2.2⟩
      case measure => simp [intOf]; omega
    · have HWD := Lib.hid (HWC.out.write HI.out.2.2 (fun z hz => by simp at hz; rw [hz]; exact HMC.out.2 mb (by simp [blk])))
      have HSD := Lib.hid (HSC.out.write HI.out.2.2 (fun z hz hz' => HSM.out z hz (by simp at hz'; simp [blk, hz'])))
      clear HI HWC HSC HMC
      go_wp2_with fail
      generalize wr = wD at *
      have HPI1 : Hid (Calls Tryz.prog 16 #[.pointer (some ⟨p, 0, none⟩), .int .i64 1, .int .i64 0] wD (PinPost d g p F8 dmK (lmK t) (pmK t f 2) (pgK t f) wD)) := Lib.hid (by
        exact pin16_held HWD.out.1 rfl 1 (by decide) ⟨1, pgK t f, 1, 1⟩ rfl (by show (pgK t f).length < 1000000; rw [pgK_len HFL.out]; omega) (by show 1 < 4000000000000000000; omega) 0)
      have hsml : ∀ k, ∀ y ∈ (pmK t f k).held, y.b.length < 1000000 := fun k y hy => by simp [pmK] at hy; subst hy; show (pgK t f).length < _; rw [pgK_len HFL.out]; omega
      have HSML := Lib.hid hsml
      clear hsml
      refine HPI1.out.mono ?_
      rintro e wE ⟨FE, uo, uc, rfl, y1, y2, y3, y4⟩
      have HU := Lib.hid (show Kept w wE FE (.slice uo (pgK t f).length uc) (pgK t f) from ⟨y3, fun z hz => ⟨Nat.le_trans HWD.out.2.2.size (y4 z hz).1, (y4 z hz).2⟩⟩)
      have HUB : Hid (∀ z ∈ blk (.slice uo (pgK t f).length uc), z ∉ blk (.slice so 40 sc)) := Lib.hid (fun z hz hz' => by have := (y4 z hz).1; have := HSD.out.1.lt z hz'; omega)
      have HWE := Lib.hid (HWD.out.step y1 y2)
      have HSE := Lib.hid (HSD.out.step y2)
      clear y1 y2 y3 y4 HPI1 HWD HSD
      rw [pgK_len HFL.out] at HU HUB ⊢
      have HLO : Hid (Calls Tryz.prog 20 #[.pointer (some ⟨p, 0, none⟩), .int .i64 1] wE (LookPost (some (pgK t f)) wE)) := Lib.hid (look_since HWE.out (n := 1) (f := ⟨1, pgK t f, 2, 1⟩) rfl (HSML.out 2))
      go_wp2_with fail
      refine HLO.out.mono ?_
      rintro e wF ⟨vo, vc, rfl, y1, y2, y3⟩
      have HV := Lib.hid (Kept.new HWE.out y1 y3)
      have HVB : Hid (∀ z ∈ blk (.slice vo (pgK t f).length vc), z ∉ blk (.slice so 40 sc) ++ blk (.slice uo 40 uc)) := Lib.hid (fun z hz hz' => by
        have := y3 z hz
        rcases List.mem_append.1 hz' with q | q
        · have := HSE.out.1.lt z q; omega
        · have := HU.out.1.lt z q; omega)
      have HWF := Lib.hid (HWE.out.quiet y2)
      have HSF := Lib.hid (HSE.out.quiet y2)
      have HUF := Lib.hid (HU.out.quiet y2)
      clear y1 y2 y3 HLO HWE HSE HU
      rw [pgK_len HFL.out] at HV HVB ⊢
      go_wp2_with fail
      have HPI2 : Hid (Calls Tryz.prog 16 #[.pointer (some ⟨p, 0, none⟩), .int .i64 1, .int .i64 0] wF (PinPost d g p FE dmK (lmK t) (pmK t f 3) (pgK t f) wF)) := Lib.hid (by
        exact pin16_held HWF.out.1 rfl 1 (by decide) ⟨1, pgK t f, 2, 1⟩ rfl (by show (pgK t f).length < 1000000; rw [pgK_len HFL.out]; omega) (by show 2 < 4000000000000000000; omega) 0)
      refine HPI2.out.mono ?_
      rintro e wG ⟨FG, xo, xc, rfl, y1, y2, y3, y4⟩
      have HX := Lib.hid (show Kept w wG FG (.slice xo (pgK t f).length xc) (pgK t f) from ⟨y3, fun z hz => ⟨Nat.le_trans HWF.out.2.2.size (y4 z hz).1, (y4 z hz).2⟩⟩)
      have HXB : Hid (∀ z ∈ blk (.slice xo (pgK t f).length xc), z ∉ blk (.slice so 40 sc) ++ blk (.slice uo 40 uc) ++ blk (.slice vo 40 vc)) := Lib.hid (fun z hz hz' => by
        have := (y4 z hz).1
        simp only [List.mem_append] at hz'
        rcases hz' with (q | q) | q
        · have := HSF.out.1.lt z q; omega
        · have := HUF.out.1.lt z q; omega
        · have := HV.out.1.lt z q; omega)
      have HWG := Lib.hid (HWF.out.step y1 y2)
      have HSG := Lib.hid (HSF.out.step y2)
      have HUG := Lib.hid (HUF.out.step y2)
      have HVG := Lib.hid (HV.out.step y2)
      clear y1 y2 y3 y4 HPI2 HWF HSF HUF HV
      rw [pgK_len HFL.out] at HX HXB ⊢
      have HLO : Hid (Calls Tryz.prog 20 #[.pointer (some ⟨p, 0, none⟩), .int .i64 1] wG (LookPost (some (pgK t f)) wG)) := Lib.hid (look_since HWG.out (n := 1) (f := ⟨1, pgK t f, 3, 1⟩) rfl (HSML.out 3))
      go_wp2_with fail
      refine HLO.out.mono ?_
      rintro e wH ⟨yo, yc, rfl, y1, y2, y3⟩
      have HY := Lib.hid (Kept.new HWG.out y1 y3)
      have HYB : Hid (∀ z ∈ blk (.slice yo (pgK t f).length yc), z ∉ blk (.slice so 40 sc) ++ blk (.slice uo 40 uc) ++ blk (.slice vo 40 vc) ++ blk (.slice xo 40 xc)) := Lib.hid (fun z hz hz' => by
        have := y3 z hz
        simp only [List.mem_append] at hz'
        rcases hz' with ((q | q) | q) | q
        · have := HSG.out.1.lt z q; omega
        · have := HUG.out.1.lt z q; omega
        · have := HVG.out.1.lt z q; omega
        · have := HX.out.1.lt z q; omega)
      have HWH := Lib.hid (HWG.out.quiet y2)
      have HSH := Lib.hid (HSG.out.quiet y2)
      rw [pgK_len HFL.out] at HY HYB
      have H4 : Hid (Four w wH FG (blk (.slice so 40 sc)) [.slice uo 40 uc, .slice vo 40 vc, .slice xo 40 xc, .slice yo 40 yc] [pgK t f, pgK t f, pgK t f, pgK t f]) := Lib.hid (four_of (HUG.out.quiet y2) (HVG.out.quiet y2) (HX.out.quiet y2) HY.out HUB.out HVB.out HXB.out HYB.out)
      clear y1 y2 y3 HLO HWG HSG HUG HVG HX HY HUB HVB HXB HYB
      rw [pgK_len HFL.out]
      go_wp2_with fail
      obtain ⟨W0, hW0⟩ : ∃ W0, W0 = wH.alloc (.cells #[.slice uo 40 uc, .slice vo 40 vc, .slice xo 40 xc, .slice yo 40 yc] 22) := ⟨_, rfl⟩
      rw [← hW0]
      have oH0 : Off [] wH W0 := by rw [hW0]; exact (Off.refl [] wH).alloc _
      have HAB : Hid (IsC W0 wH.heap.size #[.slice uo 40 uc, .slice vo 40 vc, .slice xo 40 xc, .slice yo 40 yc] 22) := Lib.hid (by rw [hW0]; exact IsC.new _ _ _)
      have HF0 := Lib.hid (H4.out.off oH0 (by simp))
      have HW0 := Lib.hid (HWH.out.quiet oH0)
      have HS0 := Lib.hid (HSH.out.quiet oH0)
      have HABN : Hid (w.heap.size ≤ wH.heap.size ∧ wH.heap.size ∉ FG.d ++ FG.l ++ FG.p ∧ wH.heap.size ∉ blk (.slice so 40 sc) ∧ wH.heap.size ∉ [Value.slice uo 40 uc, .slice vo 40 vc, .slice xo 40 xc, .slice yo 40 yc].flatMap blk) := Lib.hid ⟨HWH.out.2.2.size, fun hz => by have := HWH.out.1.lt _ hz; omega, fun hz => by have := HSH.out.1.lt _ hz; omega, fun hz => by have := H4.out.items.lt _ hz; omega⟩
      have HVS : Hid (∀ W, IsC W wH.heap.size #[.slice uo 40 uc, .slice vo 40 vc, .slice xo 40 xc, .slice yo 40 yc] 22 → ∀ k x, [Value.slice uo 40 uc, .slice vo 40 vc, .slice xo 40 xc, .slice yo 40 yc][k]? = some x → W.cell? ⟨wH.heap.size, k, none⟩ = some x) := Lib.hid (fun W h k x hx => by rw [h.cell, List.getElem?_toArray]; exact hx)
      clear oH0 hW0 H4 HWH HSH
      generalize hvs : [Value.slice uo 40 uc, .slice vo 40 vc, .slice xo 40 xc, .slice yo 40 yc] = vs at *
      clear hvs
      generalize wH.heap.size = AB at *
      have hlS := pgK_len (t := t) HFL.out
      have HLS := Lib.hid hlS
      clear hlS
      generalize hSg : pgK t f = S at *
      have HSG := Lib.hid hSg
      clear hSg
      obtain ⟨sb, soff, rfl⟩ := HS0.out.1.base (by rw [HLS.out]; omega)
      go_loopw [28] (fun i wr => ∃ k : Nat, k ≤ 4 ∧ i = .int .i64 (k : Int) ∧ Off [] W0 wr) (fun i _ => 4 - (intOf i).toNat)
      case atStart => exact ⟨0, by omega, rfl, Off.refl _ _⟩
      case round =>
        obtain ⟨j, hj, rfl, hoj⟩ := hrel
        have HOJ := Lib.hid hoj
        clear hoj
        by_cases hj4 : j < 4
        · have hgj : [S, S, S, S][j]? = some S := by
            match j, hj4 with
            | 0, _ => rfl
            | 1, _ => rfl
            | 2, _ => rfl
            | 3, _ => rfl
          obtain ⟨xb, xoff, xcc, hx1, hx2⟩ := (HF0.out.off HOJ.out (by simp)).at (fun l hl => by simp at hl; rw [hl]; exact HLS.out) hgj
          have c1 := HVS.out wr (HAB.out.off HOJ.out (by simp)) j _ hx1
          have hcv1 : ∀ n, (convert 22 9 (.slice (some ⟨xb, xoff, none⟩) 40 xcc)).run Tryz.prog (wr.drewN n) = .ok (.string (strB S)) (wr.drewN n) := fun n => (hx2.off ((Off.refl [] wr).drewN n) (by simp)).str
          have hcv2 : ∀ n, (convert 22 9 (.slice (some ⟨sb, soff, none⟩) 40 sc)).run Tryz.prog (wr.drewN n) = .ok (.string (strB S)) (wr.drewN n) := fun n => ((HS0.out.1.off HOJ.out (by simp)).off ((Off.refl [] wr).drewN n) (by simp)).str
          have hji : (j : Int) < 4 := by omega
          clear hx1 hx2 hgj
          go_wp2_with fail
          go_quiet (fail)
          have HON := Lib.hid (HOJ.out.drewN nq)
          clear hcv1 hcv2
          go_wp2_with fail
          go_roundw
          case rel => exact ⟨j + 1, by omega, by go_num, HON.out⟩
          case measure => simp [intOf]; omega
        · have HF1 := Lib.hid (HF0.out.off HOJ.out (by simp))
          have HW1 := Lib.hid (HW0.out.quiet HOJ.out)
          have HS1 := Lib.hid (HS0.out.quiet HOJ.out)
          have HAB1 := Lib.hid (HAB.out.off HOJ.out (by simp))
          clear HF0 HW0 HS0 HAB HOJ
          obtain ⟨W1, rfl⟩ : ∃ W1 : World, W1 = wr := ⟨_, rfl⟩
          go_wp2_with fail
          go_loopw [29, 30] (fun i _ wr => ∃ k : Nat, k ≤ 4 ∧ i = .int .i64 (k : Int) ∧ Four w wr FG (blk (.slice (some ⟨sb, soff, none⟩) 40 sc)) vs (mk4 S k) ∧ Off (vs.flatMap blk) W1 wr) (fun i _ _ => 4 - (intOf i).toNat)
          case atStart => exact ⟨0, by omega, rfl, HF1.out, Off.refl _ _⟩
          case round =>
            obtain ⟨k3, hk3, rfl, hf3, ho3⟩ := hrel
            have HI3 := Lib.hid (And.intro hf3 ho3)
            clear hf3 ho3
            by_cases hk4 : k3 < 4
            · obtain ⟨xb, xoff, xcc, hx1, _⟩ := HI3.out.1.at (mk4_len HLS.out k3) (mk4_at S hk4)
              have HX1 := Lib.hid hx1
              have hki : (k3 : Int) < 4 := by omega
              have hkw : IntKind.u8.wrap ((k3 : Int) + 1) = (k3 : Int) + 1 := by rw [IntKind.wrap_u8]; omega
              clear hx1
              obtain ⟨W3, rfl⟩ : ∃ W3 : World, W3 = wr := ⟨_, rfl⟩
              go_wp2_with fail
              go_loopw [30] (fun i wr => ∃ n : Nat, n ≤ 40 ∧ i = .int .i64 (n : Int) ∧ Four w wr FG (blk (.slice (some ⟨sb, soff, none⟩) 40 sc)) vs ((mk4 S k3).set k3 (markB n k3 ++ S.drop n)) ∧ Off (vs.flatMap blk) W1 wr) (fun i _ => 40 - (intOf i).toNat)
              case atStart => exact ⟨0, by omega, rfl, by
                have e : (mk4 S k3).set k3 (markB 0 k3 ++ S.drop 0) = mk4 S k3 := mk4_same S hk4
                rw [e]; exact HI3.out.1, HI3.out.2⟩
              case round =>
                obtain ⟨n, hn, rfl, hf4, ho4⟩ := hrel
                have HI4 := Lib.hid (And.intro hf4 ho4)
                clear hf4 ho4
                have hcab := HVS.out wr (HAB1.out.off HI4.out.2 (fun hz => HABN.out.2.2.2 hz)) k3 _ HX1.out
                by_cases hn40 : n < 40
                · have hgk : ((mk4 S k3).set k3 (markB n k3 ++ S.drop n))[k3]? = some (markB n k3 ++ S.drop n) := List.getElem?_set_self (by show k3 < 4; exact hk4)
                  have hlk : (markB n k3 ++ S.drop n).length = 40 := by unfold markB; rw [List.length_append, List.length_replicate, List.length_drop, HLS.out]; omega
                  obtain ⟨x, hx, hbx⟩ := HI4.out.1.items.2 k3 _ hgk
                  rw [HX1.out] at hx
                  injection hx with hx
                  subst hx
                  obtain ⟨bo', c2⟩ : ∃ bo : Int, wr.cell? ⟨xb, xoff + n, none⟩ = some (.int .u8 bo) := ⟨_, hbx.cell n (by rw [hlk]; exact hn40)⟩
                  have cf := fun o => hbx.free o
                  have hput := HI4.out.1.put HX1.out hgk n (UInt8.ofNat (k3 + 1))
                  rw [mark_step HLS.out k3 hn40, List.set_set, mark_val hk4] at hput
                  have HPUT := Lib.hid (And.intro hput.1 (HI4.out.2.setCell (p := ⟨xb, xoff + n, none⟩) (.inl hput.2) (.int .u8 ((k3 : Int) + 1))))
                  clear hput hbx hgk hlk
                  go_wp2_with fail
                  go_roundw
                  case rel => exact ⟨n + 1, by omega, by go_num, HPUT.out.1, HPUT.out.2⟩
                  case measure => simp [intOf]; omega
                · have hn2 : n = 40 := by omega
                  subst hn2
                  have HN3 : Hid (Four w wr FG (blk (.slice (some ⟨sb, soff, none⟩) 40 sc)) vs (mk4 S (k3 + 1)) ∧ Off (vs.flatMap blk) W1 wr) := Lib.hid ⟨by
                    have q := HI4.out.1
                    rw [List.drop_of_length_le (by rw [HLS.out]; omega), List.append_nil, mk4_set S hk4] at q
                    exact q, HI4.out.2⟩
                  clear HI4
                  go_wp2_with fail
                  go_roundw
                  case rel => exact ⟨k3 + 1, by omega, by go_num, HN3.out.1, HN3.out.2⟩
                  case measure => simp [intOf]; omega
            · have hk34 : k3 = 4 := by omega
              subst hk34
              obtain ⟨W5, rfl⟩ : ∃ W5 : World, W5 = wr := ⟨_, rfl⟩
              have HW5 := Lib.hid (HW1.out.write HI3.out.2 (fun z hz => ⟨(HI3.out.1.apart z hz).1, (HI3.out.1.apart z hz).2.1⟩))
              have HS5 := Lib.hid (HS1.out.write HI3.out.2 (fun z hz hz' => (HI3.out.1.apart z hz').2.2 hz))
              have HAB5 := Lib.hid (HAB1.out.off HI3.out.2 (fun hz => HABN.out.2.2.2 hz))
              have HF5 := Lib.hid HI3.out.1
              have HLT := Lib.hid HI3.out.1.items.lt
              clear HW1 HS1 HAB1 HI3 HF1
              go_wp2_with fail
              go_loopw [31, 27] (fun i mv wr => ∃ k : Nat, k ≤ 4 ∧ i = .int .i64 (k : Int) ∧ Grow4 w W5 FG (blk (.slice (some ⟨sb, soff, none⟩) 40 sc)) vs S k mv wr) (fun i _ _ => 4 - (intOf i).toNat)
              case atStart => exact ⟨0, by omega, rfl, [], rfl, HF5.out, MoreAt.nil _ _, Off.refl _ _⟩
              case round =>
                obtain ⟨k5, hk5, rfl, ms, hms, hf5, hm5, ho5⟩ := hrel
                by_cases h54 : k5 < 4
                · obtain ⟨xb, xoff, xcc, hx1, hx2⟩ := hf5.at (mk4_len HLS.out 4) (mk4_end S h54)
                  have hcab := HVS.out wr (HAB5.out.off ho5 (fun hz => HABN.out.2.2.2 hz)) k5 _ hx1
                  have HGR := Lib.hid (grown_mark hx2 h54)
                  have hkw : IntKind.u8.wrap ((k5 : Int) + 1) = (k5 : Int) + 1 := by rw [IntKind.wrap_u8]; omega
                  have hki : (k5 : Int) < 4 := by omega
                  have HST := Lib.hid (fun co cc w1 => Grow4.step (w1 := w1) (co := co) (cc := cc) hms hf5 hm5 ho5 HLT.out h54 hx1)
                  clear hx1 hx2 hf5 hm5 ho5 hms HF5 HW5 HS5
                  go_wp2_with fail
                  refine HGR.out.mono ?_
                  rintro e w1 ⟨co, cc, rfl, g1, g2, g3, g4⟩
                  obtain ⟨r1, r2⟩ := HST.out co cc w1 g1 g2 g3 g4
                  have HOA := Lib.hid (r1.alloc (.cells #[.slice co 120 cc] 22))
                  have HSR := Lib.hid (src_new (P := Tryz.prog) w1 (t := 52) (e := 22) (e' := 22) (sz := 1) #[.slice co 120 cc] 1 Tryz.underlying52 (by decide) rfl (by simp [Value.oneCell']))
                  have HBD := Lib.hid (show (k5 + 1) * 24 ≤ 140737488355328 by omega)
                  have HR2 := Lib.hid r2
                  clear r1 r2 g1 g2 g3 g4 HST HGR
                  go_wp2_with (at_builtin; go_loud (refine wp_app rfl _ _ 52 52 rfl rfl HOA.out Tryz.underlying52 iinfo22 rfl (by decide) rfl HSR.out HBD.out ?_))
                  intro ao cap w3 q1 q2 q3
                  have HN := Lib.hid (HR2.out ao cap w3 q1 q2 q3)
                  clear q1 q2 q3 HR2 HOA HSR HBD
                  go_wp2_with fail
                  refine ⟨?_, ?measure⟩
                  (repeat apply Exists.intro)
                  refine ⟨?rel, rfl⟩
                  case rel => exact ⟨k5 + 1, by omega, by go_num, HN.out⟩
                  case measure => simp [intOf]; omega
                · have hk54 : k5 = 4 := by omega
                  subst hk54
                  obtain ⟨W6, rfl⟩ : ∃ W6 : World, W6 = wr := ⟨_, rfl⟩
                  have HW6 := Lib.hid (HW5.out.write ho5 (fun z hz => ⟨(hf5.apart z hz).1, (hf5.apart z hz).2.1⟩))
                  have HS6 := Lib.hid (HS5.out.write ho5 (fun z hz hz' => (hf5.apart z hz').2.2 hz))
                  have HAB6 := Lib.hid (HAB5.out.off ho5 (fun hz => HABN.out.2.2.2 hz))
                  have HF6 := Lib.hid hf5
                  obtain ⟨pb, poff, pc, rfl, hmo⟩ := hm5.all hms
                  have HMO := Lib.hid hmo
                  clear hmo hm5 hms hf5 ho5 HW5 HS5 HAB5 HF5 HLT
                  go_wp2_with fail
                  go_loopw [32] (fun i wr => ∃ k : Nat, k ≤ 4 ∧ i = .int .i64 (k : Int) ∧ wr = W6) (fun i _ => 4 - (intOf i).toNat)
                  case atStart => exact ⟨0, by omega, rfl, rfl⟩
                  case round =>
                    obtain ⟨k6, hk6, rfl, rfl⟩ := hrel
                    by_cases h64 : k6 < 4
                    · obtain ⟨xb, xoff, xcc, hx1, hx2⟩ := HF6.out.at (mk4_len HLS.out 4) (mk4_end S h64)
                      have hcab := HVS.out wr HAB6.out k6 _ hx1
                      obtain ⟨zo, zn, zc, hz1, hz2⟩ := HMO.out k6 h64
                      have HU1 := Lib.hid (full_mark hx2 (by omega) h64)
                      have HU2 := Lib.hid (full_mark hz2 (by omega) h64)
                      have hkw : IntKind.u8.wrap ((k6 : Int) + 1) = (k6 : Int) + 1 := by rw [IntKind.wrap_u8]; omega
                      have hki : (k6 : Int) < 4 := by omega
                      clear hx1 hx2 hz2 HF6 HW6 HS6
                      go_wp2_with fail
                      refine HU1.out.mono ?_
                      rintro e w' ⟨rfl, rfl⟩
                      go_wp2_with fail
                      refine HU2.out.mono ?_
                      rintro e w' ⟨rfl, rfl⟩
                      go_wp2_with fail
                      refine ⟨?_, ?measure⟩
                      (repeat apply Exists.intro)
                      refine ⟨?rel, rfl⟩
                      case rel => exact ⟨k6 + 1, by omega, by go_num, trivial⟩
                      case measure => simp [intOf]; omega
                    · clear HF6 HMO HAB6 HVS HABN
                      have HLO : Hid (Calls Tryz.prog 20 #[.pointer (some ⟨p, 0, none⟩), .int .i64 1] wr (LookPost (some S) wr)) := Lib.hid (by
                        have q := look_since HW6.out (n := 1) (f := ⟨1, pgK t f, 3, 1⟩) rfl (HSML.out 3)
                        have q2 : Calls Tryz.prog 20 #[.pointer (some ⟨p, 0, none⟩), .int .i64 1] wr (LookPost (some (pgK t f)) wr) := q
                        rw [HSG.out] at q2; exact q2)
                      go_wp2_with fail
                      refine HLO.out.mono ?_
                      rintro e W7 ⟨eo, ec, rfl, y1, y2, y3⟩
                      rw [HLS.out] at y1 y3 ⊢
                      have HW7 := Lib.hid (HW6.out.quiet y2)
                      have HS7 := Lib.hid (HS6.out.quiet y2)
                      have hcv1 : (convert 22 9 (.slice eo 40 ec)).run Tryz.prog W7 = .ok (.string (strB S)) W7 := y1.str
                      have hcv2 : (convert 22 9 (.slice (some ⟨sb, soff, none⟩) 40 sc)).run Tryz.prog W7 = .ok (.string (strB S)) W7 := HS7.out.1.str
                      obtain ⟨dmf, lmf, pmf, hce, hst, hac, hrd, hsh⟩ := keepsEnd t HFL.out
                      rw [HSG.out] at hrd
                      have HCL : Hid (Calls Tryz.prog 23 #[.pointer (some ⟨p, 0, none⟩), .int .i64 1] W7 (WPost d g p FG (dmf, lmf, pmf, 0) W7)) := Lib.hid (by
                        obtain ⟨hT7, z1, z2, z3⟩ := HW7.out.zero HT.out
                        rw [← hce]
                        exact clean23 hT7 HW7.out.1 ⟨z1, z2⟩ rfl (k := 100) (by omega) (deskK t) (poolK HT.out HFL.out 3) 1 (by decide))
                      have HE := Lib.hid (And.intro hst (And.intro hac (And.intro hrd hsh)))
                      clear hce hst hac hrd hsh y1 y2 y3 HLO HW6 HS6
                      go_wp2_with (go_at_call 9; refine (num9 _ _).mono ?_; rintro e w' ⟨rfl, rfl⟩)
                      refine HCL.out.mono ?_
                      rintro e W8 ⟨rfl, F8', hW8, hA8⟩
                      have HW8 := Lib.hid (HW7.out.step hW8 hA8)
                      have HS8 := Lib.hid (HS7.out.step hA8)
                      have HRD := Lib.hid (readPage24 hW8.1.1 (by rw [HE.out.2.1]; omega) 1 (by rw [HE.out.2.2.2]; decide) S HE.out.2.2.1 (by rw [HLS.out]; omega))
                      clear hW8 hA8 HCL HW7 HS7 hcv1 hcv2
                      go_wp2_with (go_at_call 9; refine (num9 _ _).mono ?_; rintro e w' ⟨rfl, rfl⟩)
                      refine HRD.out.mono ?_
                      rintro e W9 ⟨hk9, (⟨hbad, _⟩ | ⟨_, ro, rc, rfl, r1, r2⟩)⟩
                      · exact absurd hbad (by rw [HE.out.1]; decide)
                      rw [HLS.out] at r1 r2 ⊢
                      have hcv1 : (convert 22 9 (.slice ro 40 rc)).run Tryz.prog W9 = .ok (.string (strB S)) W9 := r1.str
                      have hcv2 : (convert 22 9 (.slice (some ⟨sb, soff, none⟩) 40 sc)).run Tryz.prog W9 = .ok (.string (strB S)) W9 := (HS8.out.1.off hk9.2 (fun z hz hz' => (HS8.out.2 z hz).2 (by simp [hz']))).str
                      have HOF := Lib.hid (HW8.out.2.2.trans hk9.2 (fun z hz => .inr (HW8.out.2.1 z (by simp [hz]))))
                      clear hk9 r1 r2 HRD HW8 HS8
                      go_wp2_with (go_at_call 9; refine (num9 _ _).mono ?_; rintro e w' ⟨rfl, rfl⟩)
                      rw [HP.out]
                      exact ⟨rfl, HOF.out⟩
end Go.Proofs.YtfdgiblkllfpjaaGreatDoor
