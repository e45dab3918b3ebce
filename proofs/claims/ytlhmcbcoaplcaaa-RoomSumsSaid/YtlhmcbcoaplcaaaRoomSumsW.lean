/- RoomSums: the law's walk: what is kept is the plain sum. -/
import Derived.Test.YtlhmcbcoaplcaaaRoomSumsV
import Derived.Deep.CutBlock
import Derived.Deep.RegionHeld3
set_option linter.unusedVariables false
set_option linter.unusedSimpArgs false
namespace Go.Proofs.Ytlhmcbcoaplcaaa
open Go.ChangeShapes Go.WideShapes Go.ChangeAt Go.RowKit

set_option maxRecDepth 100000 in
set_option maxHeartbeats 8000000 in
theorem roomSums_walk (w : World) (area : Int) (ha : InI64 area) (s : Value) (len : Nat) (x : Nat → Nat → Int) (hs : IntRows w 4 s len x) :
    Calls Try.prog 7 #[.int .i64 area, s] w fun e w' => e = .returned (.bool true) ∧ Below w.heap.size w w' := by
  obtain ⟨ao, cap, rfl, hlen, hcell⟩ := hs
  have hln : len < 4398046511104 := by omega
  have HC := Lib.hid hcell
  clear hcell ha hlen
  go_enter Try.func7, Try.ntmps7
  go_wp2_with fail
  refine (head_any _).mono ?_
  rintro e w1 ⟨rfl, h1⟩
  go_wp2_with fail
  refine (new_any _ _).mono ?_
  rintro e w2 ⟨rb, fp, rfl, s1, s2, s3⟩
  have HP : Hid (SumAt w w2 rb area [] (births []) (keeps []) (.slice none 0 0) (.slice none 0 0)) := ⟨fp, s1, Own.nil _ _ _, Own.nil _ _ _, h1.trans s2 (by simp), fun y hy => Nat.le_trans h1.size (s3 y hy), by simp [blk], by simp [blk], by simp [blk], by simp [blk]⟩
  clear s1 s2 s3 h1
  go_wp2_with fail
  go_loopw [6, 7, 8] (fun bv kv i wr => SumRel w rb area len bv kv i wr) (fun _ _ i _ => len - (intOf i).toNat)
  case atStart => exact ⟨0, [], Nat.zero_le _, rfl, HP.out, wf_empty⟩
  case round =>
    obtain ⟨k, L, hk, rfl, hp, hw⟩ := hrel
    have HPR := Lib.hid hp
    have HWF := Lib.hid hw
    have HOR := Lib.hid hp.old
    clear hp hw HP
    by_cases hlt : k < len
    · obtain ⟨b1, off1, hao1, hbl1, hx1⟩ := HC.out k hlt
      obtain rfl := hao1
      have c0 : wr.cell? ⟨b1, off1 + k * 4, none⟩ = some (.int .i64 (x k 0)) := by rw [World.cell?_of_block (a := ⟨b1, off1 + k * 4, none⟩) (HOR.out.old b1 hbl1 (by simp))]; exact (hx1 0 (by omega)).1
      have c1 : wr.cell? ⟨b1, off1 + k * 4 + 1, none⟩ = some (.int .i64 (x k 1)) := by rw [World.cell?_of_block (a := ⟨b1, off1 + k * 4 + 1, none⟩) (HOR.out.old b1 hbl1 (by simp)), Nat.add_assoc]; exact (hx1 1 (by omega)).1
      have c2 : wr.cell? ⟨b1, off1 + k * 4 + 2, none⟩ = some (.int .i64 (x k 2)) := by rw [World.cell?_of_block (a := ⟨b1, off1 + k * 4 + 2, none⟩) (HOR.out.old b1 hbl1 (by simp)), Nat.add_assoc]; exact (hx1 2 (by omega)).1
      have c3 : wr.cell? ⟨b1, off1 + k * 4 + 3, none⟩ = some (.int .i64 (x k 3)) := by rw [World.cell?_of_block (a := ⟨b1, off1 + k * 4 + 3, none⟩) (HOR.out.old b1 hbl1 (by simp)), Nat.add_assoc]; exact (hx1 3 (by omega)).1
      clear hx1
      generalize x k 0 = x0 at *
      generalize x k 1 = b at *
      generalize x k 2 = x2 at *
      generalize x k 3 = x3 at *
      have PA := Lib.hid (HPR.out.op #[.int .i64 x0, .int .i64 b, .int .i64 x2, .int .i64 x3])
      go_wp2_with fail
      generalize wr.alloc (.cells #[.int .i64 x0, .int .i64 b, .int .i64 x2, .int .i64 x3] 47) = wA at *
      generalize wr.heap.size = ob at *
      clear c0 c1 c2 c3 hbl1
      have qA := PA.out.isC
      have rA := qA.reads
      refine (of_m b PA.out).mono ?_
      rintro e w3 ⟨rfl, rfl⟩
      go_wp2_with fail
      refine (kept_m PA.out).mono ?_
      rintro e w3 ⟨rfl, rfl⟩
      have hNb : L.length < 4398046511104 := HWF.out.len
      obtain ⟨bao, bcap, kao, kcap, hbv, hkv⟩ := PA.out.shape
      rw [births_len] at hbv
      rw [keeps_len] at hkv
      subst hbv; subst hkv
      clear HPR
      generalize hNN : L.length = N at *
      have HNN := Lib.hid hNN
      clear hNN
      go_wp2_with fail
      go_loopw [12, 13] (fun p i wx => PosRel wA L b p i wx) (fun _ i _ => N - (intOf i).toNat)
      case atStart => exact ⟨0, 0, Nat.zero_le _, rfl, rfl, rfl⟩
      case round =>
        obtain ⟨n, j, hj, rfl, rfl, rfl⟩ := hrel
        rw [HNN.out] at hj
        have HJ := Lib.hid (fun p hp => pos_take HWF.out.births (b := b) (j := j) (p := p) hp)
        by_cases hjn : j < N
        · obtain ⟨p, hp⟩ : ∃ p, L[j]? = some p := ⟨L[j]'(by rw [HNN.out]; exact hjn), List.getElem?_eq_getElem _⟩
          obtain ⟨g, off, rfl, hc1⟩ := PA.out.birthAt (keeps_get hp).1
          have hJ := HJ.out p hp
          have HP2 := Lib.hid hp
          have d2 : wA.cell? ⟨ob, 1, none⟩ = some (.int .i64 b) := (qA.cell 1).trans rfl
          clear hp
          generalize p.1 = pb at *
          go_upto_region 16 with fail
          go_quiet (fail)
          by_cases hpb : pb = b
          · have dd : (pb == b) = true := by simpa using hpb
            rw [if_pos hpb] at hJ
            have HJ2 := Lib.hid hJ
            clear hJ hpb
            go_wp2_with fail
            go_roundw
            case rel => exact ⟨_, j + 1, by rw [HNN.out]; exact hjn, by rw [HJ2.out], by go_num, rfl⟩
            case measure => simp [intOf]; omega
          · have dd : (pb == b) = false := by simpa using hpb
            rw [if_neg hpb] at hJ
            have HJ2 := Lib.hid hJ
            clear hJ hpb
            go_wp2_with fail
            go_roundw
            case rel => exact ⟨_, j + 1, by rw [HNN.out]; exact hjn, by rw [HJ2.out], by go_num, rfl⟩
            case measure => simp [intOf]; omega
        · have hLj : L.take j = L := List.take_of_length_le (by rw [HNN.out]; omega)
          have HLJ := Lib.hid hLj
          rw [hLj]
          have PB := Lib.hid (PA.out.off ((Off.refl [] _).drewN n))
          clear hLj PA rA HJ
          have qB : IsC (wA.drewN n) ob _ 47 := PB.out.isC
          clear qA
          generalize wA.drewN n = wB at *
          have rB := qB.reads
          generalize hPP : posI L b = P at *
          have HPP := Lib.hid hPP
          clear hPP
          go_upto_block 4 with fail
          go_cut [6, 7, 14] (fun bv kv e wx => SumMid w rb area L k ob #[.int .i64 x0, .int .i64 b, .int .i64 x2, .int .i64 x3] bv kv e wx)
          case first =>
            have HLB : Hid ((births L).length = N) := by rw [births_len]; exact HNN.out
            have HLK : Hid ((keeps L).length = N) := by rw [keeps_len]; exact HNN.out
            have HBD := Lib.hid (show (N + 1) * 8 ≤ 140737488355328 by omega)
            have hkb : k + 1 < 4398046511104 := by omega
            by_cases k0 : x0 = 0
            · subst k0
              as_aux_lemma =>
              rcases pos_spec L b with ⟨p1, p2, p3⟩ | ⟨i, u, p1, p2, p3, p4⟩
              · obtain rfl : P = -1 := by rw [← HPP.out]; simp [posI, p1]
                clear p3
                have e2 : rBegin L b = (0, L ++ [(b, [])]) := by simp [rBegin, p2]
                have HB : Hid (Calls Try.prog 21 #[.pointer (some ⟨rb, 0, none⟩), .int .i64 b] wB fun e w' => e = .returned (.int .i64 0) ∧ SumOp w w' rb area (L ++ [(b, [])]) (births L) (keeps L) (.slice bao N bcap) (.slice kao N kcap) ob #[.int .i64 0, .int .i64 b, .int .i64 x2, .int .i64 x3]) := by have h := begin_m b PB.out HWF.out; rw [e2] at h; exact h
                have hW2 : Wf (rBegin L b).2 (k + 1) := wf_step HWF.out hkb 0 b x2
                rw [e2] at hW2
                have HW2 := Lib.hid hW2
                clear e2 p1 p2 hW2
                go_wp2_with fail
                refine HB.out.mono ?_
                rintro e w4 ⟨rfl, h4⟩
                have q4 := h4.isC
                have P4 := Lib.hid h4
                clear h4
                go_wp2_with (at_builtin; refine wp_app rfl _ _ 51 51 rfl rfl ((own_at HLB.out P4.out.ownB).alloc _) Try.underlying51 info3 rfl (by decide) rfl (src_new w4 #[.int .i64 b] 1 Try.underlying51 (by decide) rfl (by simp [Value.oneCell'])) HBD.out ?_)
                intro ao5 cap5 w5 ho5 hoff5 hb5
                have h5 : SumOp w w5 rb area (L ++ [(b, [])]) (births L ++ [b]) (keeps L) (.slice ao5 (N + 1) cap5) (.slice kao N kcap) ob #[.int .i64 0, .int .i64 b, .int .i64 x2, .int .i64 x3] := by
                  refine (P4.out.off ((Off.refl [] _).alloc _)).setB (app_own (HLB.out) ho5) hoff5 ?_
                  intro y hy
                  rcases hb5 with e | e <;> rw [e] at hy
                  · exact .inl hy
                  · simp at hy; exact .inr (by simp; omega)
                have P5 := Lib.hid h5
                have q5 := h5.isC
                clear h5 ho5 hoff5 hb5 P4
                go_wp2_with (at_builtin; refine wp_app rfl _ _ 51 51 rfl rfl ((own_at HLK.out P5.out.ownK).alloc _) Try.underlying51 info3 rfl (by decide) rfl (src_new w5 #[.int .i64 99] 1 Try.underlying51 (by decide) rfl (by simp [Value.oneCell'])) HBD.out ?_)
                intro ao6 cap6 w6 ho6 hoff6 hb6
                have H : Hid (SumMid w rb area L k ob #[.int .i64 0, .int .i64 b, .int .i64 x2, .int .i64 x3] (.slice ao5 (N + 1) cap5) (.slice ao6 (N + 1) cap6) (.int .i64 0) w6) := by
                  refine ⟨L ++ [(b, [])], 0, rfl, .inl rfl, ?_, HW2.out⟩
                  have e3 : births (L ++ [(b, [])]) = births L ++ [b] := by simp [births]
                  have e4 : keeps (L ++ [(b, [])]) = keeps L ++ [99] := by simp [keeps, ksum]
                  rw [e3, e4]
                  refine (P5.out.off ((Off.refl [] _).alloc _)).setK (app_own (HLK.out) ho6) hoff6 ?_
                  intro y hy
                  rcases hb6 with e | e <;> rw [e] at hy
                  · exact .inl hy
                  · simp at hy; exact .inr (by simp; omega)
                clear ho6 hoff6 hb6
                go_wp2_with fail
                go_meet
                exact H.out
              · obtain rfl : P = i := by rw [← HPP.out]; simp [posI, p1]
                have hiN : i < N := by rw [← HNN.out]; exact (List.getElem?_eq_some_iff.1 p2).1
                have hi0 : ¬ ((i : Int) < 0) := by omega
                have e2 : rBegin L b = (160, L) := by simp [rBegin, p3]
                have HB : Hid (Calls Try.prog 21 #[.pointer (some ⟨rb, 0, none⟩), .int .i64 b] wB fun e w' => e = .returned (.int .i64 160) ∧ SumOp w w' rb area (L) (births L) (keeps L) (.slice bao N bcap) (.slice kao N kcap) ob #[.int .i64 0, .int .i64 b, .int .i64 x2, .int .i64 x3]) := by have h := begin_m b PB.out HWF.out; rw [e2] at h; exact h
                clear e2 p1 p2 p3 p4
                go_wp2_with fail
                refine HB.out.mono ?_
                rintro e w4 ⟨rfl, h4⟩
                have q4 := h4.isC
                have H : Hid (SumMid w rb area L k ob #[.int .i64 0, .int .i64 b, .int .i64 x2, .int .i64 x3] (.slice bao N bcap) (.slice kao N kcap) (.int .i64 160) w4) := ⟨L, 160, rfl, .inr rfl, h4, wf_up HWF.out hkb⟩
                clear h4
                go_wp2_with fail
                go_meet
                exact H.out
            by_cases k1 : x0 = 1
            · subst k1
              as_aux_lemma =>
              rcases pos_spec L b with ⟨p1, p2, p3⟩ | ⟨i, u, p1, p2, p3, p4⟩
              · obtain rfl : P = -1 := by rw [← HPP.out]; simp [posI, p1]
                clear p3
                have e2 : rUpdate L b x2 = (160, L) := by simp [rUpdate, p2]
                have HB : Hid (Calls Try.prog 27 #[.pointer (some ⟨rb, 0, none⟩), .int .i64 b, .int .i64 x2] wB fun e w' => e = .returned (.int .i64 160) ∧ SumOp w w' rb area (L) (births L) (keeps L) (.slice bao N bcap) (.slice kao N kcap) ob #[.int .i64 1, .int .i64 b, .int .i64 x2, .int .i64 x3]) := by have h := update_m b x2 PB.out HWF.out; rw [e2] at h; exact h
                clear e2 p1 p2
                go_wp2_with fail
                refine HB.out.mono ?_
                rintro e w4 ⟨rfl, h4⟩
                have q4 := h4.isC
                have H : Hid (SumMid w rb area L k ob #[.int .i64 1, .int .i64 b, .int .i64 x2, .int .i64 x3] (.slice bao N bcap) (.slice kao N kcap) (.int .i64 160) w4) := ⟨L, 160, rfl, .inr rfl, h4, wf_up HWF.out hkb⟩
                clear h4
                go_wp2_with fail
                go_meet
                exact H.out
              · obtain rfl : P = i := by rw [← HPP.out]; simp [posI, p1]
                have hiN : i < N := by rw [← HNN.out]; exact (List.getElem?_eq_some_iff.1 p2).1
                have hi0 : ¬ ((i : Int) < 0) := by omega
                by_cases hx : x2 < 1 ∨ 65535 < x2
                · have e2 : rUpdate L b x2 = (30, L) := by simp only [rUpdate, p3, if_pos hx]
                  have HB : Hid (Calls Try.prog 27 #[.pointer (some ⟨rb, 0, none⟩), .int .i64 b, .int .i64 x2] wB fun e w' => e = .returned (.int .i64 30) ∧ SumOp w w' rb area (L) (births L) (keeps L) (.slice bao N bcap) (.slice kao N kcap) ob #[.int .i64 1, .int .i64 b, .int .i64 x2, .int .i64 x3]) := by have h := update_m b x2 PB.out HWF.out; rw [e2] at h; exact h
                  clear e2 p1 p2 p3 p4
                  rcases hx with hx | hx
                  all_goals
                    go_wp2_with fail
                    refine HB.out.mono ?_
                    rintro e w4 ⟨rfl, h4⟩
                    have q4 := h4.isC
                    have H : Hid (SumMid w rb area L k ob #[.int .i64 1, .int .i64 b, .int .i64 x2, .int .i64 x3] (.slice bao N bcap) (.slice kao N kcap) (.int .i64 30) w4) := ⟨L, 30, rfl, .inr rfl, h4, wf_up HWF.out hkb⟩
                    clear h4
                    go_wp2_with fail
                    go_meet
                    exact H.out
                · have e2 : rUpdate L b x2 = (0, mput L b (u ++ [x2])) := by simp only [rUpdate, p3, if_neg hx]
                  have HB : Hid (Calls Try.prog 27 #[.pointer (some ⟨rb, 0, none⟩), .int .i64 b, .int .i64 x2] wB fun e w' => e = .returned (.int .i64 0) ∧ SumOp w w' rb area (mput L b (u ++ [x2])) (births L) (keeps L) (.slice bao N bcap) (.slice kao N kcap) ob #[.int .i64 1, .int .i64 b, .int .i64 x2, .int .i64 x3]) := by have h := update_m b x2 PB.out HWF.out; rw [e2] at h; exact h
                  have hW2 : Wf (rUpdate L b x2).2 (k + 1) := wf_step HWF.out hkb 1 b x2
                  rw [e2] at hW2
                  have HW2 := Lib.hid hW2
                  clear e2 p1 p3 hW2
                  have hx1 : ¬ x2 < 1 := by omega
                  have hx2 : ¬ 65535 < x2 := by omega
                  go_wp2_with fail
                  refine HB.out.mono ?_
                  rintro e w4 ⟨rfl, h4⟩
                  have q4 := h4.isC
                  have P4 := Lib.hid h4
                  clear h4
                  obtain ⟨kg, koff, hka, kc, kf⟩ := P4.out.keptAt (keeps_get p2).2
                  obtain rfl := hka
                  have hku := ksum_pos u (HWF.out.good (b, u) (List.mem_of_getElem? p2))
                  have hkt := ksum_le_tot (p := (b, u)) HWF.out.good (List.mem_of_getElem? p2)
                  have hbg := HWF.out.big
                  have hu := HWF.out.good (b, u) (List.mem_of_getElem? p2)
                  simp only [big_eq] at hkt hbg
                  have w1 : wrap64 (ksum u + 46) = ksum u + 46 := by unfold wrap64; omega
                  have w2 : wrap64 (ksum u + 46 + x2) = ksum u + 46 + x2 := by unfold wrap64; omega
                  have H : Hid (∀ W, Off [] w4 W → SumMid w rb area L k ob #[.int .i64 1, .int .i64 b, .int .i64 x2, .int .i64 x3] (.slice bao N bcap) (.slice (some ⟨kg, koff, none⟩) N kcap) (.int .i64 0) (W.setCell ⟨kg, koff + i, none⟩ (.int .i64 (ksum u + 46 + x2)))) := by
                    intro W ho
                    refine ⟨mput L b (u ++ [x2]), 0, rfl, .inl rfl, ?_, HW2.out⟩
                    obtain ⟨e3, e4⟩ := keeps_mput (u' := u ++ [x2]) p2 p4
                    rw [e3, e4, ksum_snoc, ← Int.add_assoc]
                    exact (P4.out.off ho).storeK HLK.out i _
                  clear p2 p4 hku hkt hbg hu P4 HB hx
                  generalize ksum u = ku at *
                  go_upto_region 31 with fail
                  go_region
                  all_goals
                    go_wp2_with fail
                    go_meet
                    exact H.out _ (Off.drew (Off.refl [] _))
            by_cases k2 : x0 = 2
            · subst k2
              as_aux_lemma =>
              rcases pos_spec L b with ⟨p1, p2, p3⟩ | ⟨i, u, p1, p2, p3, p4⟩
              · obtain rfl : P = -1 := by rw [← HPP.out]; simp [posI, p1]
                clear p3
                have e2 : rUndone L b x2 = (160, L) := by simp [rUndone, p2]
                have HB : Hid (Calls Try.prog 28 #[.pointer (some ⟨rb, 0, none⟩), .int .i64 b, .int .i64 x2] wB fun e w' => e = .returned (.int .i64 160) ∧ SumOp w w' rb area (L) (births L) (keeps L) (.slice bao N bcap) (.slice kao N kcap) ob #[.int .i64 2, .int .i64 b, .int .i64 x2, .int .i64 x3]) := by have h := undone_m b x2 PB.out HWF.out; rw [e2] at h; exact h
                clear e2 p1 p2
                go_wp2_with fail
                refine HB.out.mono ?_
                rintro e w4 ⟨rfl, h4⟩
                have q4 := h4.isC
                have H : Hid (SumMid w rb area L k ob #[.int .i64 2, .int .i64 b, .int .i64 x2, .int .i64 x3] (.slice bao N bcap) (.slice kao N kcap) (.int .i64 160) w4) := ⟨L, 160, rfl, .inr rfl, h4, wf_up HWF.out hkb⟩
                clear h4
                have H2 : Hid (∀ n, SumMid w rb area L k ob #[.int .i64 2, .int .i64 b, .int .i64 x2, .int .i64 x3] (.slice bao N bcap) (.slice kao N kcap) (.int .i64 160) (w4.drewN n)) := fun n => by obtain ⟨L', ev, g1, g2, g3, g4⟩ := H.out; exact ⟨L', ev, g1, g2, g3.off ((Off.refl _ _).drewN n), g4⟩
                go_upto_region 34 with fail
                go_quiet (fail)
                go_wp2_with fail
                go_meet
                exact H2.out _
              · obtain rfl : P = i := by rw [← HPP.out]; simp [posI, p1]
                have hiN : i < N := by rw [← HNN.out]; exact (List.getElem?_eq_some_iff.1 p2).1
                have hi0 : ¬ ((i : Int) < 0) := by omega
                by_cases hx : x2 ∈ u
                · have e2 : rUndone L b x2 = (0, mput L b (u.erase x2)) := by simp only [rUndone, p3, if_pos hx]
                  have HB : Hid (Calls Try.prog 28 #[.pointer (some ⟨rb, 0, none⟩), .int .i64 b, .int .i64 x2] wB fun e w' => e = .returned (.int .i64 0) ∧ SumOp w w' rb area (mput L b (u.erase x2)) (births L) (keeps L) (.slice bao N bcap) (.slice kao N kcap) ob #[.int .i64 2, .int .i64 b, .int .i64 x2, .int .i64 x3]) := by have h := undone_m b x2 PB.out HWF.out; rw [e2] at h; exact h
                  have hW2 : Wf (rUndone L b x2).2 (k + 1) := wf_step HWF.out hkb 2 b x2
                  rw [e2] at hW2
                  have HW2 := Lib.hid hW2
                  clear e2 p1 p3 hW2
                  go_wp2_with fail
                  refine HB.out.mono ?_
                  rintro e w4 ⟨rfl, h4⟩
                  have q4 := h4.isC
                  have P4 := Lib.hid h4
                  clear h4
                  obtain ⟨kg, koff, hka, kc, kf⟩ := P4.out.keptAt (keeps_get p2).2
                  obtain rfl := hka
                  have hku := ksum_pos u (HWF.out.good (b, u) (List.mem_of_getElem? p2))
                  have hkt := ksum_le_tot (p := (b, u)) HWF.out.good (List.mem_of_getElem? p2)
                  have hbg := HWF.out.big
                  have hu := HWF.out.good (b, u) (List.mem_of_getElem? p2)
                  have hes := ksum_erase u x2 hx
                  have hke := ksum_pos (u.erase x2) (fun y hy => hu y (List.mem_of_mem_erase hy))
                  have hxx := hu x2 hx
                  simp only [big_eq] at hkt hbg
                  have w1 : wrap64 (ksum u - 46) = ksum u - 46 := by unfold wrap64; omega
                  have w2 : wrap64 (ksum u - 46 - x2) = ksum u - 46 - x2 := by unfold wrap64; omega
                  have d3 : ¬ (ksum u - 46 - x2 < 99) := by omega
                  have d4 : decide ((i : Int) < 0) = false := by simp
                  have d5 : decide (ksum u - 46 - x2 < 99) = false := by simpa using d3
                  have H : Hid (∀ W, Off [] w4 W → SumMid w rb area L k ob #[.int .i64 2, .int .i64 b, .int .i64 x2, .int .i64 x3] (.slice bao N bcap) (.slice (some ⟨kg, koff, none⟩) N kcap) (.int .i64 0) (W.setCell ⟨kg, koff + i, none⟩ (.int .i64 (ksum u - 46 - x2)))) := by
                    intro W ho
                    refine ⟨mput L b (u.erase x2), 0, rfl, .inl rfl, ?_, HW2.out⟩
                    obtain ⟨e3, e4⟩ := keeps_mput (u' := u.erase x2) p2 p4
                    rw [e3, e4, hes, show ksum u - (46 + x2) = ksum u - 46 - x2 by omega]
                    exact (P4.out.off ho).storeK HLK.out i _
                  have HF : Hid (∀ n, (w4.drewN n).frozen? ⟨kg, koff + i, none⟩ = false) := fun _ => kf
                  clear p2 p4 hku hkt hbg hu P4 HB hx hes hke hxx
                  generalize ksum u = ku at *
                  go_upto_region 34 with fail
                  go_quiet (fail)
                  go_upto_region 37 with fail
                  go_region
                  all_goals
                    go_wp2_with fail
                    go_meet
                    exact H.out _ (Off.drew (Off.drewN (Off.refl [] _) _))
                · have e2 : rUndone L b x2 = (30, L) := by simp only [rUndone, p3, if_neg hx]
                  have HB : Hid (Calls Try.prog 28 #[.pointer (some ⟨rb, 0, none⟩), .int .i64 b, .int .i64 x2] wB fun e w' => e = .returned (.int .i64 30) ∧ SumOp w w' rb area (L) (births L) (keeps L) (.slice bao N bcap) (.slice kao N kcap) ob #[.int .i64 2, .int .i64 b, .int .i64 x2, .int .i64 x3]) := by have h := undone_m b x2 PB.out HWF.out; rw [e2] at h; exact h
                  clear e2 p1 p2 p3 p4
                  go_wp2_with fail
                  refine HB.out.mono ?_
                  rintro e w4 ⟨rfl, h4⟩
                  have q4 := h4.isC
                  have H : Hid (SumMid w rb area L k ob #[.int .i64 2, .int .i64 b, .int .i64 x2, .int .i64 x3] (.slice bao N bcap) (.slice kao N kcap) (.int .i64 30) w4) := ⟨L, 30, rfl, .inr rfl, h4, wf_up HWF.out hkb⟩
                  clear h4
                  have H2 : Hid (∀ n, SumMid w rb area L k ob #[.int .i64 2, .int .i64 b, .int .i64 x2, .int .i64 x3] (.slice bao N bcap) (.slice kao N kcap) (.int .i64 30) (w4.drewN n)) := fun n => by obtain ⟨L', ev, g1, g2, g3, g4⟩ := H.out; exact ⟨L', ev, g1, g2, g3.off ((Off.refl _ _).drewN n), g4⟩
                  go_upto_region 34 with fail
                  go_quiet (fail)
                  go_wp2_with fail
                  go_meet
                  exact H2.out _
            by_cases k3 : x0 = 3
            · subst k3
              as_aux_lemma =>
              rcases pos_spec L b with ⟨p1, p2, p3⟩ | ⟨i, u, p1, p2, p3, p4⟩
              · obtain rfl : P = -1 := by rw [← HPP.out]; simp [posI, p1]
                clear p3
                have e2 : rDrop L b = (160, L) := by simp [rDrop, p2]
                have HB : Hid (Calls Try.prog 29 #[.pointer (some ⟨rb, 0, none⟩), .int .i64 b] wB fun e w' => e = .returned (.int .i64 160) ∧ SumOp w w' rb area (L) (births L) (keeps L) (.slice bao N bcap) (.slice kao N kcap) ob #[.int .i64 3, .int .i64 b, .int .i64 x2, .int .i64 x3]) := by have h := drop_m b PB.out HWF.out; rw [e2] at h; exact h
                clear e2 p1 p2
                go_wp2_with fail
                refine HB.out.mono ?_
                rintro e w4 ⟨rfl, h4⟩
                have q4 := h4.isC
                have H : Hid (SumMid w rb area L k ob #[.int .i64 3, .int .i64 b, .int .i64 x2, .int .i64 x3] (.slice bao N bcap) (.slice kao N kcap) (.int .i64 160) w4) := ⟨L, 160, rfl, .inr rfl, h4, wf_up HWF.out hkb⟩
                clear h4
                go_wp2_with fail
                go_meet
                exact H.out
              · obtain rfl : P = i := by rw [← HPP.out]; simp [posI, p1]
                have hiN : i < N := by rw [← HNN.out]; exact (List.getElem?_eq_some_iff.1 p2).1
                have hi0 : ¬ ((i : Int) < 0) := by omega
                have e2 : rDrop L b = (0, mdel L b) := by simp only [rDrop, p3]
                have HB : Hid (Calls Try.prog 29 #[.pointer (some ⟨rb, 0, none⟩), .int .i64 b] wB fun e w' => e = .returned (.int .i64 0) ∧ SumOp w w' rb area (mdel L b) (births L) (keeps L) (.slice bao N bcap) (.slice kao N kcap) ob #[.int .i64 3, .int .i64 b, .int .i64 x2, .int .i64 x3]) := by have h := drop_m b PB.out HWF.out; rw [e2] at h; exact h
                have hW2 : Wf (rDrop L b).2 (k + 1) := wf_step HWF.out hkb 3 b x2
                rw [e2] at hW2
                have HW2 := Lib.hid hW2
                clear e2 p1 p3 hW2
                go_wp2_with fail
                refine HB.out.mono ?_
                rintro e w4 ⟨rfl, h4⟩
                have q4 := h4.isC
                have P4 := Lib.hid h4
                clear h4
                obtain ⟨b1a, b1c, b2a, b2c, ob1, ob2, bb1, bb2, bf1, bf2⟩ := own_cuts (own_at HLB.out P4.out.ownB) HLB.out i hiN
                obtain ⟨k1a, k1c, k2a, k2c, ok1, ok2, kb1, kb2, kf1, kf2⟩ := own_cuts (own_at HLK.out P4.out.ownK) HLK.out i hiN
                have hwr : IntKind.i64.wrap ((i : Int) + 1) = (i : Int) + 1 := IntWalk.i64_in _ (by omega)
                have HBD2 := Lib.hid (show (i + (N - (i + 1))) * 8 ≤ 140737488355328 by have := HBD.out; omega)
                have HO := Lib.hid (And.intro ob1 (And.intro ob2 (And.intro ok1 ok2)))
                have HBB := Lib.hid (And.intro bb1 (And.intro bb2 (And.intro kb1 kb2)))
                have HAP := Lib.hid P4.out.apart
                have HE : Hid (births (mdel L b) = (births L).take i ++ (births L).drop (i + 1) ∧ keeps (mdel L b) = (keeps L).take i ++ (keeps L).drop (i + 1)) := keeps_mdel p2 p4
                clear ob1 ob2 ok1 ok2 bb1 bb2 kb1 kb2 p2 p4 HB
                go_upto_region 43 with fail
                have HWB : ∀ w2, Off (blk (.slice kao N kcap)) w4.drew w2 → Own w2 3 1 (.slice b1a i b1c) i (ints ((births L).take i)) ∧ Src Try.prog 1 51 (.slice b2a (N - (i + 1)) b2c) (N - (i + 1)) (ints ((births L).drop (i + 1))) w2 := by
                  intro w2 ho
                  refine ⟨HO.out.1.drew.off ho ?_, (HO.out.2.1.drew.off ho ?_).src (t := 51) Try.underlying51 (fun u hu => ints_one _ u hu)⟩
                  · intro y hy; rw [HBB.out.1] at hy; exact (HAP.out.1 y hy).1
                  · intro y hy; rw [HBB.out.2.1] at hy; exact (HAP.out.1 y hy).1
                have HWK : ∀ w2, Off (blk (.slice bao N bcap)) w4.drew w2 → Own w2 3 1 (.slice k1a i k1c) i (ints ((keeps L).take i)) ∧ Src Try.prog 1 51 (.slice k2a (N - (i + 1)) k2c) (N - (i + 1)) (ints ((keeps L).drop (i + 1))) w2 := by
                  intro w2 ho
                  refine ⟨HO.out.2.2.1.drew.off ho ?_, (HO.out.2.2.2.drew.off ho ?_).src (t := 51) Try.underlying51 (fun u hu => ints_one _ u hu)⟩
                  · intro y hy hy'; rw [HBB.out.2.2.1] at hy; exact (HAP.out.1 y hy').1 hy
                  · intro y hy hy'; rw [HBB.out.2.2.2] at hy; exact (HAP.out.1 y hy').1 hy
                have XB := Lib.hid HWB
                have XK := Lib.hid HWK
                have HB1 := Lib.hid HBB.out.1
                have HK1 := Lib.hid HBB.out.2.2.1
                clear HWB HWK HBB HO
                go_region_held3 (fun _ => True) (exact trivial) (first
                  | (refine step_app (v := .slice b1a i b1c) rfl _ _ 51 51 rfl rfl (XB.out _ (Off.refl _ _)).1 Try.underlying51 info3 rfl (by decide) rfl (XB.out _ (Off.refl _ _)).2 HBD2.out ?_; intro aoB capB wB2 hoB hoffB hbB; rw [HB1.out] at hoffB hbB)
                  | (refine step_app (v := .slice b1a i b1c) rfl _ _ 51 51 rfl rfl (XB.out _ hoffK).1 Try.underlying51 info3 rfl (by decide) rfl (XB.out _ hoffK).2 HBD2.out ?_; intro aoB capB wB2 hoB hoffB hbB; rw [HB1.out] at hoffB hbB)
                  | (refine step_app (v := .slice k1a i k1c) rfl _ _ 51 51 rfl rfl (XK.out _ (Off.refl _ _)).1 Try.underlying51 info3 rfl (by decide) rfl (XK.out _ (Off.refl _ _)).2 HBD2.out ?_; intro aoK capK wK2 hoK hoffK hbK; rw [HK1.out] at hoffK hbK)
                  | (refine step_app (v := .slice k1a i k1c) rfl _ _ 51 51 rfl rfl (XK.out _ hoffB).1 Try.underlying51 info3 rfl (by decide) rfl (XK.out _ hoffB).2 HBD2.out ?_; intro aoK capK wK2 hoK hoffK hbK; rw [HK1.out] at hoffK hbK))
                have H : Hid (SumMid w rb area L k ob #[.int .i64 3, .int .i64 b, .int .i64 x2, .int .i64 x3] (.slice aoB (i + (N - (i + 1))) capB) (.slice aoK (i + (N - (i + 1))) capK) (.int .i64 0) wK2) := by
                  refine ⟨mdel L b, 0, rfl, .inl rfl, ?_, HW2.out⟩
                  rw [HE.out.1, HE.out.2]
                  refine ((P4.out.off ((Off.refl [] _).drew)).setB (cut_own HLB.out hiN hoB) hoffB ?_).setK (cut_own HLK.out hiN hoK) hoffK ?_
                  · intro y hy
                    rcases hbB with e | e <;> rw [e] at hy
                    · exact .inl hy
                    · simp at hy; exact .inr (by simp; omega)
                  · intro y hy
                    rcases hbK with e | e <;> rw [e] at hy
                    · exact .inl hy
                    · simp at hy; exact .inr (by omega)
                clear hoB hoffB hbB hoK hoffK hbK
                go_wp2_with fail
                go_meet
                exact H.out
            have d0 : (x0 == 0) = false := by simpa using k0
            have d1 : (x0 == 1) = false := by simpa using k1
            have d2 : (x0 == 2) = false := by simpa using k2
            have d3 : (x0 == 3) = false := by simpa using k3
            have H : Hid (SumMid w rb area L k ob #[.int .i64 x0, .int .i64 b, .int .i64 x2, .int .i64 x3] (.slice bao N bcap) (.slice kao N kcap) (.int .i64 0) wB) := ⟨L, 0, rfl, .inl rfl, PB.out, wf_up HWF.out hkb⟩
            clear k0 k1 k2 k3
            go_wp2_with fail
            go_meet
            exact H.out
          case rest =>
            obtain ⟨L2, ev, rfl, hev, hp2, hw2⟩ := hcut
            have q2 := hp2.isC
            obtain ⟨b2ao, b2cap, k2ao, k2cap, hbv, hkv⟩ := hp2.shape
            rw [births_len] at hbv
            rw [keeps_len] at hkv
            subst hbv; subst hkv
            have PC := Lib.hid (fun n => hp2.off ((Off.refl [] wc).drewN n))
            have PC0 := Lib.hid hp2
            have HW2 := Lib.hid hw2
            have hNb2 := hw2.len
            have HTB := Lib.hid hw2.big
            clear hp2 hw2
            generalize hN2 : L2.length = N2 at *
            have HN2 := Lib.hid hN2
            clear hN2
            as_aux_lemma =>
            by_cases hz : ev = 0
            all_goals
              first
              | (subst hz; clear hev; go_wp2_with fail)
              | (obtain rfl := hev.resolve_left hz; have dz : (ev != 0) = true := (by simpa using hz); clear hev; go_wp2_with ((first | (go_at_call 24; refine (of_m b PC0.out).mono ?_; rintro e w5 ⟨rfl, rfl⟩) | (go_at_call 26; refine (kept_m PC0.out).mono ?_; rintro e w5 ⟨rfl, rfl⟩))))
              go_loopw [15, 16] (fun s i wx => AddRel wc L2 s i wx) (fun _ i _ => N2 - (intOf i).toNat)
              case atStart => exact ⟨0, 0, Nat.zero_le _, rfl, rfl, rfl⟩
              case round =>
                obtain ⟨n, j, hj, rfl, rfl, rfl⟩ := hrel
                rw [HN2.out] at hj
                by_cases hjn : j < N2
                · obtain ⟨p, hp⟩ : ∃ p, L2[j]? = some p := ⟨L2[j]'(by rw [HN2.out]; exact hjn), List.getElem?_eq_getElem _⟩
                  obtain ⟨g, off, hg, hc1⟩ := (PC.out 0).birthAt (keeps_get hp).1
                  obtain rfl := hg
                  obtain ⟨g2, off2, hg2, hc2, hf2⟩ := (PC.out 0).keptAt (keeps_get hp).2
                  obtain rfl := hg2
                  have hc1' : wc.cell? ⟨g, off + j, none⟩ = some (.int .i64 p.1) := hc1
                  have hc2' : wc.cell? ⟨g2, off2 + j, none⟩ = some (.int .i64 (ksum p.2)) := hc2
                  have HO : Hid (∀ m, Calls Try.prog 24 #[.pointer (some ⟨rb, 0, none⟩), .int .i64 p.1] (wc.drewN m) fun e w' => e = .returned (.int .i64 (ksum p.2)) ∧ wc.drewN m = w') := fun m => by
                    have h := of_m p.1 (PC.out m)
                    rw [of_get HW2.out.births hp] at h
                    exact h
                  have ht0 := tot_take_le L2 HW2.out.good j
                  have ht1 := tot_take_le L2 HW2.out.good (j + 1)
                  have htt := tot_take L2 j p hp
                  have hbg := HTB.out
                  simp only [big_eq] at hbg
                  have hadd : wrap64 (tot (L2.take j) + ksum p.2) = tot (L2.take j) + ksum p.2 := by unfold wrap64; omega
                  have HTT := Lib.hid htt
                  clear hc1 hc2 hf2 hp ht0 ht1 htt hbg
                  generalize tot (L2.take j) = tj at *
                  generalize p.1 = pb at *
                  generalize ksum p.2 = pk at *
                  go_upto_region 50 with fail
                  go_quiet ((go_at_call 24; exact quiet_plus (HO.out _)))
                  go_wp2_with fail
                  go_roundw
                  case rel => exact ⟨_, j + 1, by rw [HN2.out]; exact hjn, by rw [HTT.out]; rw [hadd], by go_num, rfl⟩
                  case measure => simp [intOf]; omega
                · have HLJ := Lib.hid (show L2.take j = L2 from List.take_of_length_le (by rw [HN2.out]; omega))
                  rw [HLJ.out]
                  go_wp2_with fail
                  refine (kept_m (PC.out n)).mono ?_
                  rintro e w5 ⟨rfl, rfl⟩
                  go_wp2_with fail
                  go_roundw
                  case rel => exact ⟨k + 1, L2, by omega, by go_num, (PC.out n).at_, HW2.out⟩
                  case measure => simp [intOf]; omega
    · go_wp2_with fail
      go_ret
      exact ⟨rfl, HOR.out.below⟩
end Go.Proofs.Ytlhmcbcoaplcaaa
