/- TableHolds: the walk. -/
import Derived.Test.YtlhmcbcoaplcaaaHolB
set_option linter.unusedVariables false
set_option linter.unusedSimpArgs false
namespace Go.Proofs.Ytlhmcbcoaplcaaa
open Go.ChangeShapes Go.WideShapes Go.ChangeAt Go.RowKit

theorem StepRows.off {w w' : World} {v : Value} {l : List St} (h : StepRows w v l) (ho : Off [] w w') : StepRows w' v l := by
  obtain ⟨ao, cap, e, hl, hc⟩ := h
  refine ⟨ao, cap, e, hl, fun i t ht => ?_⟩
  obtain ⟨b, off, e2, hb, q⟩ := hc i t ht
  refine ⟨b, off, e2, Nat.lt_of_lt_of_le hb ho.size, fun j hj => ?_⟩
  rw [World.cell?_of_block (a := ⟨b, off + (i * 8 + j), none⟩) (ho.old b hb (by simp))]; exact q j hj

set_option maxRecDepth 100000 in
set_option maxHeartbeats 16000000 in
theorem tableHolds_walk (w : World) (a : Int) (ha : InI64 a) (v : Value) (l : List St) (h : StepRows w v l) (r : Rw) :
    Calls Try.prog 11 #[.int .i64 a, v, ragg r] w fun e w' => e = .returned (.bool true) ∧ Below w.heap.size w w' := by
  obtain ⟨rb, ri, rs, rl, rn⟩ := r
  have hvv : ∃ ao cap, v = .slice ao l.length cap := by obtain ⟨ao, cap, rfl, _⟩ := h; exact ⟨ao, cap, rfl⟩
  obtain ⟨sao, scap, rfl⟩ := hvv
  have o0 := (Off.refl [] w).alloc (.cells #[.int .i64 rb, .int .i64 ri, .int .i64 rs, .int .i64 rl, .int .i64 rn] 70)
  have HPL := Lib.hid (played34 (w.alloc (.cells #[.int .i64 rb, .int .i64 ri, .int .i64 rs, .int .i64 rl, .int .i64 rn] 70)) a ha _ l (h.off o0))
  have HBX := Lib.hid (IsC.new w #[.int .i64 rb, .int .i64 ri, .int .i64 rs, .int .i64 rl, .int .i64 rn] 70)
  have HO0 := Lib.hid o0
  clear h o0
  generalize l.length = sn at *
  unfold ragg
  simp only
  go_enter Try.func11, Try.ntmps11
  go_wp2_with fail
  refine HPL.out.mono ?_
  rintro e w1 ⟨tb, lo, lc, M, rfl, fp, L, ht, hown, hperm, ho, hfp, hlv⟩
  have h8 : L.length ≤ 8 := ht.births.2.2.1
  have hmost : L.length ≤ (1 + a % 8).toNat := ht.births.2.2.2
  obtain ⟨mo, hmo⟩ : ∃ mo : Nat, mo = (1 + a % 8).toNat := ⟨_, rfl⟩
  obtain ⟨z1, z2⟩ := into_lt a
  have HI37 : Hid (∀ W, Calls Try.prog 37 #[.int .i64 a, .int .i64 8] W fun e w' => e = .returned (.int .i64 (a % 8)) ∧ W = w') := fun W => into37 a W ha
  generalize a % 8 = z at *
  have HMO : Hid ((mo : Int) = 1 + z) := Lib.hid (by omega)
  have hzN : (L.length : Int) ≤ 1 + z := by omega
  rw [← hmo] at ht
  clear hmo hmost
  obtain ⟨I, hinv⟩ := ht.inv
  have hNM : M.length = L.length := hperm.length_eq.symm
  have HT := Lib.hid ht
  have HOWN := Lib.hid hown
  have HINV := Lib.hid hinv
  have HPM := Lib.hid hperm
  have HO := Lib.hid (HO0.out.trans ho (by simp))
  have HBX1 := Lib.hid (IsC.off (S := []) HBX.out ho (by simp))
  have HFP : Hid (∀ z ∈ fp, w.heap.size ≤ z) := Lib.hid (fun z hz => Nat.le_trans HO0.out.size (hfp z hz).1)
  have HRXL : Hid (∀ z ∈ fp, z ≠ w.heap.size) := Lib.hid (fun z hz e => by have := (hfp z hz).1; simp only [World.size_alloc] at this; omega)
  have HK := Lib.hid (known32 w1)
  clear ht hown hperm ho hfp hlv HPL HBX HO0 hinv
  rw [hNM]
  obtain ⟨N, hN⟩ : ∃ N, N = L.length := ⟨_, rfl⟩
  have HN := Lib.hid hN
  have HNM := Lib.hid hNM
  rw [← hN] at h8 hzN ⊢
  clear hN hNM
  obtain ⟨rx, hrx⟩ : ∃ rx, rx = w.heap.size := ⟨_, rfl⟩
  have HRX := Lib.hid hrx
  rw [← hrx] at HBX1 HRXL ⊢
  clear hrx
  go_wp2_with fail
  refine HK.out.mono ?_
  rintro e w3 ⟨rfl, o3⟩
  have ht3 := HT.out.off o3 (by simp)
  have HR := Lib.hid (rows35 ht3)
  rw [← HN.out] at HR
  have HT3 := Lib.hid ht3
  have HLT := Lib.hid ht3.lt
  have HL3 := Lib.hid (HOWN.out.off o3 (by simp))
  have HX3 := Lib.hid (IsC.off (S := []) HBX1.out o3 (by simp))
  have HO3 := Lib.hid (HO.out.trans o3 (by simp))
  clear ht3 o3 HT HOWN HBX1 HO HK
  go_wp2_with fail
  refine HR.out.mono ?_
  rintro e w4 ⟨ro, rc, rfl, hr, hro, hrf⟩
  have ht4 := HT3.out.off hro (by simp)
  have HT4 := Lib.hid ht4
  have HL4 := Lib.hid (HL3.out.off hro (by simp))
  have HX4 := Lib.hid (IsC.off (S := []) HX3.out hro (by simp))
  have HO4 := Lib.hid (HO3.out.trans hro (by simp))
  have HR4 := Lib.hid hr
  have HRF := Lib.hid hrf
  have HCT := Lib.hid (count36 ht4)
  rw [← HN.out] at HCT
  clear hr hrf hro ht4 HT3 HL3 HX3 HO3 HR
  go_wp2_with fail
  refine HCT.out.mono ?_
  rintro e w4' ⟨rfl, rfl⟩
  go_wp2_with fail
  refine (HI37.out _).mono ?_
  rintro e w4' ⟨rfl, rfl⟩
  go_wp2_with fail
  clear HCT
  have HJ37 := HI37
  clear HI37
  go_loopw [10, 11, 12, 13, 14, 15, 16, 17] (fun fr i _ _ _ _ _ _ wr => ∃ k : Nat, k ≤ N ∧ i = .int .i64 (k : Nat) ∧ fr = .bool (freshB ⟨rb, ri, rs, rl, rn⟩ (L.take k)) ∧ Off [] w4 wr) (fun _ i _ _ _ _ _ _ _ => N - (intOf i).toNat)
  case atStart => exact ⟨0, Nat.zero_le _, rfl, rfl, Off.refl _ _⟩
  case round =>
    obtain ⟨k, hk, rfl, rfl, hof⟩ := hrel
    by_cases hlt : k < N
    · obtain ⟨g, off, ⟨xb, xi, xs, xl, xn⟩, rfl, hx, g0, g1, g2, g3, g4⟩ := own_cells (HR4.out.off hof (by simp)) HN.out.symm hlt
      have HX := Lib.hid hx
      have HOF := Lib.hid hof
      obtain ⟨fr, hfr⟩ : ∃ fr, fr = freshB ⟨rb, ri, rs, rl, rn⟩ (L.take k) := ⟨_, rfl⟩
      have HFR := Lib.hid hfr
      rw [← hfr]
      simp only at g0 g1 g2 g3 g4
      clear hx hof hfr
      rcases k with _ | j
      · rw [show (((0 : Nat)) : Int) = 0 from rfl]
        simp only [Nat.zero_mul, Nat.add_zero] at g0 g1 g2 g3 g4
        go_wp2_with fail
        go_quiet (fail)
        go_wp2_with fail
        go_loopw [12, 13] (fun th m wx => ∃ j : Nat, j ≤ N ∧ m = .int .i64 (j : Nat) ∧ th = .bool (thereB M ⟨xb, xi, xs, xl, xn⟩ j) ∧ Off [] w4 wx) (fun _ m _ => N - (intOf m).toNat)
        case atStart => exact ⟨0, Nat.zero_le _, rfl, by simp [thereB], HOF.out.drewN _⟩
        case round =>
          obtain ⟨q, hq, rfl, rfl, hof⟩ := hrel
          by_cases hltq : q < N
          · as_aux_lemma =>
            have hl4 := HL4.out.off hof (by simp)
            rw [HNM.out, ← HN.out] at hl4
            obtain ⟨gm, offm, ⟨pb, pi, ps, pl, pn⟩, rfl, hp, p0, p1, p2, p3, p4⟩ := own_cells hl4 (HNM.out.trans HN.out.symm) hltq
            clear hl4
            obtain ⟨gx, offx, ⟨_, _, _, _, _⟩, he, hx, y0, y1, y2, y3, y4⟩ := own_cells (HR4.out.off hof (by simp)) HN.out.symm hlt
            rw [HX.out] at hx
            simp only [Option.some.injEq, Rw.mk.injEq] at hx
            obtain ⟨rfl, rfl, rfl, rfl, rfl⟩ := hx
            simp only [Option.some.injEq, Addr.mk.injEq, and_true] at he
            obtain ⟨rfl, rfl⟩ := he
            obtain ⟨gz, offz, ⟨zb, zi, zs, zl, zn⟩, he, hz, _, v1, _, _, _⟩ := own_cells (HR4.out.off hof (by simp)) HN.out.symm hltq
            simp only [Option.some.injEq, Addr.mk.injEq, and_true] at he
            obtain ⟨rfl, rfl⟩ := he
            have HZ := Lib.hid hz
            have HSU := Lib.hid (thereB_succ M ⟨xb, xi, xs, xl, xn⟩ q _ hp)
            have HOQ := Lib.hid hof
            simp only at p0 p1 p2 p3 p4 y0 y1 y2 y3 y4 v1
            try simp only [Nat.zero_mul, Nat.add_zero] at y0 y1 y2 y3 y4
            generalize thereB M ⟨xb, xi, xs, xl, xn⟩ q = th at *
            clear hp hz hof
            cases th
            · by_cases hpx : (⟨pb, pi, ps, pl, pn⟩ : Rw) = ⟨xb, xi, xs, xl, xn⟩
              · simp only [Rw.mk.injEq] at hpx
                obtain ⟨rfl, rfl, rfl, rfl, rfl⟩ := hpx
                go_wp2_with fail
                go_quiet (fail)
                by_cases hqk : q = 0
                · have hqb : ((q : Int) != 0) = false := by rw [hqk]; simp
                  go_wp2_with fail
                  go_quiet (fail)
                  go_wp2_with fail
                  go_roundw
                  case rel => exact ⟨q + 1, by omega, by go_num, by rw [HSU.out]; simp, by first | exact HOQ.out.drewN _ | exact (HOQ.out.drewN _).drewN _⟩
                  case measure => simp [intOf]; omega
                · have hqb : ((q : Int) != 0) = true := by simp; omega
                  have hzx := id_ne HINV.out HX.out HZ.out hqk
                  have hzb : (zi == pi) = false := by simpa using hzx
                  have hzd : decide (zi = pi) = false := by simpa using hzx
                  clear hzx
                  go_wp2_with fail
                  go_quiet (fail)
                  go_wp2_with fail
                  go_roundw
                  case rel => exact ⟨q + 1, by omega, by go_num, by rw [HSU.out]; simp, by first | exact HOQ.out.drewN _ | exact (HOQ.out.drewN _).drewN _⟩
                  case measure => simp [intOf]; omega
              · have REQ := run_neq_row hpx
                go_wp2_with fail
                go_quiet (fail)
                clear REQ
                by_cases hqk : q = 0
                · have hqb : ((q : Int) != 0) = false := by rw [hqk]; simp
                  go_wp2_with fail
                  go_quiet (fail)
                  go_wp2_with fail
                  go_roundw
                  case rel => exact ⟨q + 1, by omega, by go_num, by rw [HSU.out]; simp [hpx], by first | exact HOQ.out.drewN _ | exact (HOQ.out.drewN _).drewN _⟩
                  case measure => simp [intOf]; omega
                · have hqb : ((q : Int) != 0) = true := by simp; omega
                  have hzx := id_ne HINV.out HX.out HZ.out hqk
                  have hzb : (zi == xi) = false := by simpa using hzx
                  have hzd : decide (zi = xi) = false := by simpa using hzx
                  clear hzx
                  go_wp2_with fail
                  go_quiet (fail)
                  go_wp2_with fail
                  go_roundw
                  case rel => exact ⟨q + 1, by omega, by go_num, by rw [HSU.out]; simp [hpx], by first | exact HOQ.out.drewN _ | exact (HOQ.out.drewN _).drewN _⟩
                  case measure => simp [intOf]; omega
            · go_wp2_with fail
              go_quiet (fail)
              by_cases hqk : q = 0
              · have hqb : ((q : Int) != 0) = false := by rw [hqk]; simp
                go_wp2_with fail
                go_quiet (fail)
                go_wp2_with fail
                go_roundw
                case rel => exact ⟨q + 1, by omega, by go_num, by rw [HSU.out]; simp, by first | exact HOQ.out.drewN _ | exact (HOQ.out.drewN _).drewN _⟩
                case measure => simp [intOf]; omega
              · have hqb : ((q : Int) != 0) = true := by simp; omega
                have hzx := id_ne HINV.out HX.out HZ.out hqk
                have hzb : (zi == xi) = false := by simpa using hzx
                have hzd : decide (zi = xi) = false := by simpa using hzx
                clear hzx
                go_wp2_with fail
                go_quiet (fail)
                go_wp2_with fail
                go_roundw
                case rel => exact ⟨q + 1, by omega, by go_num, by rw [HSU.out]; simp, by first | exact HOQ.out.drewN _ | exact (HOQ.out.drewN _).drewN _⟩
                case measure => simp [intOf]; omega
          · as_aux_lemma =>
            have hqN : N = q := by omega
            subst hqN
            have hth : thereB M ⟨xb, xi, xs, xl, xn⟩ N = true := by
              have q1 := thereB_all M L HPM.out ⟨xb, xi, xs, xl, xn⟩ (List.mem_of_getElem? HX.out)
              rw [HNM.out, ← HN.out] at q1; exact q1
            rw [hth]
            have htq := HT4.out.off hof (by simp)
            have HG := Lib.hid (get38 htq xb)
            rw [getL_mem HINV.out (List.mem_of_getElem? HX.out)] at HG
            simp only [Option.getD_some, Option.isSome_some] at HG
            unfold ragg at HG
            simp only at HG
            obtain ⟨gx, offx, ⟨_, _, _, _, _⟩, he, hx, y0, y1, y2, y3, y4⟩ := own_cells (HR4.out.off hof (by simp)) HN.out.symm hlt
            rw [HX.out] at hx
            simp only [Option.some.injEq, Rw.mk.injEq] at hx
            obtain ⟨rfl, rfl, rfl, rfl, rfl⟩ := hx
            simp only [Option.some.injEq, Addr.mk.injEq, and_true] at he
            obtain ⟨rfl, rfl⟩ := he
            simp only at y0 y1 y2 y3 y4
            try simp only [Nat.zero_mul, Nat.add_zero] at y0 y1 y2 y3 y4
            have HOQ := Lib.hid hof
            clear hth htq hof
            go_wp2_with fail
            refine HG.out.mono ?_
            rintro e w5 ⟨rfl, ho5⟩
            have ho5a := ho5.trans ((Off.refl [] w5).alloc (.cells #[.int .i64 xb, .int .i64 xi, .int .i64 xs, .int .i64 xl, .int .i64 xn] 70)) (by simp)
            have HO5 := Lib.hid (HOQ.out.trans ho5a (by simp))
            have ht5 := HT4.out.off HO5.out (by simp)
            have HID := Lib.hid (byId39 ht5 xi)
            rw [idL_mem HINV.out (List.mem_of_getElem? HX.out)] at HID
            simp only [Option.getD_some, Option.isSome_some] at HID
            unfold ragg at HID
            simp only at HID
            have HBA := Lib.hid (IsC.new w5 #[.int .i64 xb, .int .i64 xi, .int .i64 xs, .int .i64 xl, .int .i64 xn] 70)
            obtain ⟨gx, offx, ⟨_, _, _, _, _⟩, he, hx, f0, f1, f2, f3, f4⟩ := own_cells (HR4.out.off HO5.out (by simp)) HN.out.symm hlt
            rw [HX.out] at hx
            simp only [Option.some.injEq, Rw.mk.injEq] at hx
            obtain ⟨rfl, rfl, rfl, rfl, rfl⟩ := hx
            simp only [Option.some.injEq, Addr.mk.injEq, and_true] at he
            obtain ⟨rfl, rfl⟩ := he
            simp only at f1
            try simp only [Nat.zero_mul, Nat.add_zero] at f1
            clear ho5 ho5a ht5 HG y0 y1 y2 y3 y4 f0 f2 f3 f4
            go_wp2_with fail
            refine HID.out.mono ?_
            rintro e w6 ⟨rfl, ho6⟩
            have ho6a := ho6.trans ((Off.refl [] w6).alloc (.cells #[.int .i64 xb, .int .i64 xi, .int .i64 xs, .int .i64 xl, .int .i64 xn] 70)) (by simp)
            have HO6 := Lib.hid (HO5.out.trans ho6a (by simp))
            have hba := IsC.off (S := []) HBA.out ho6a (by simp)
            have hbb := IsC.new w6 #[.int .i64 xb, .int .i64 xi, .int .i64 xs, .int .i64 xl, .int .i64 xn] 70
            have hbr := IsC.off (S := []) HX4.out HO6.out (by simp)
            obtain ⟨gx, offx, ⟨_, _, _, _, _⟩, he, hx, y0, y1, y2, y3, y4⟩ := own_cells (HR4.out.off HO6.out (by simp)) HN.out.symm hlt
            rw [HX.out] at hx
            simp only [Option.some.injEq, Rw.mk.injEq] at hx
            obtain ⟨rfl, rfl, rfl, rfl, rfl⟩ := hx
            simp only [Option.some.injEq, Addr.mk.injEq, and_true] at he
            obtain ⟨rfl, rfl⟩ := he
            simp only at y0 y1 y2 y3 y4
            try simp only [Nat.zero_mul, Nat.add_zero] at y0 y1 y2 y3 y4
            have a0 := hba.cell 0
            have a1 := hba.cell 1
            have a2 := hba.cell 2
            have a3 := hba.cell 3
            have a4 := hba.cell 4
            have b0 := hbb.cell 0
            have b1 := hbb.cell 1
            have b2 := hbb.cell 2
            have b3 := hbb.cell 3
            have b4 := hbb.cell 4
            have r0 := hbr.cell 0
            have r1 := hbr.cell 1
            simp only [List.getElem?_toArray, List.getElem?_cons_zero, List.getElem?_cons_succ] at a0 a1 a2 a3 a4 b0 b1 b2 b3 b4 r0 r1
            clear hba hbb hbr ho6 ho6a HBA f1 HID HOQ
            go_wp2_with fail
            go_quiet (fail)
            clear a0 a1 a2 a3 a4 b0 b1 b2 b3 b4
            cases fr
            · have HFN : Hid (freshB ⟨rb, ri, rs, rl, rn⟩ (L.take (0 + 1)) = false) := Lib.hid (by rw [freshB_succ _ _ _ _ HX.out, ← HFR.out]; simp)
              go_wp2_with fail
              go_quiet (fail)
              go_wp2_with fail
              go_roundw
              case rel => exact ⟨0 + 1, by omega, by go_num, by rw [HFN.out], by first | exact HO6.out.drewN _ | exact (HO6.out.drewN _).drewN _⟩
              case measure => simp [intOf]; omega
            · by_cases hxr : xb = rb
              · have HFN : Hid (freshB ⟨rb, ri, rs, rl, rn⟩ (L.take (0 + 1)) = false) := Lib.hid (by rw [freshB_succ _ _ _ _ HX.out, ← HFR.out]; simp [hxr])
                have hb1 : (xb != rb) = false := by simp [hxr]
                have hd1 : decide (xb = rb) = true := by simp [hxr]
                clear hxr
                go_wp2_with fail
                go_quiet (fail)
                go_wp2_with fail
                go_roundw
                case rel => exact ⟨0 + 1, by omega, by go_num, by rw [HFN.out], by first | exact HO6.out.drewN _ | exact (HO6.out.drewN _).drewN _⟩
                case measure => simp [intOf]; omega
              · by_cases hxi : xi = ri
                · have HFN : Hid (freshB ⟨rb, ri, rs, rl, rn⟩ (L.take (0 + 1)) = false) := Lib.hid (by rw [freshB_succ _ _ _ _ HX.out, ← HFR.out]; simp [hxi])
                  have hb1 : (xb != rb) = true := by simp [hxr]
                  have hb2 : (xi != ri) = false := by simp [hxi]
                  have hd1 : decide (xb = rb) = false := by simp [hxr]
                  have hd2 : decide (xi = ri) = true := by simp [hxi]
                  clear hxr hxi
                  go_wp2_with fail
                  go_quiet (fail)
                  go_wp2_with fail
                  go_roundw
                  case rel => exact ⟨0 + 1, by omega, by go_num, by rw [HFN.out], by first | exact HO6.out.drewN _ | exact (HO6.out.drewN _).drewN _⟩
                  case measure => simp [intOf]; omega
                · have HFN : Hid (freshB ⟨rb, ri, rs, rl, rn⟩ (L.take (0 + 1)) = true) := Lib.hid (by rw [freshB_succ _ _ _ _ HX.out, ← HFR.out]; simp [hxr, hxi])
                  have hb1 : (xb != rb) = true := by simp [hxr]
                  have hb2 : (xi != ri) = true := by simp [hxi]
                  clear hxr hxi
                  go_wp2_with fail
                  go_quiet (fail)
                  go_wp2_with fail
                  go_roundw
                  case rel => exact ⟨0 + 1, by omega, by go_num, by rw [HFN.out], by first | exact HO6.out.drewN _ | exact (HO6.out.drewN _).drewN _⟩
                  case measure => simp [intOf]; omega
      · rw [show (((j + 1 : Nat)) : Int) = (j : Int) + 1 from rfl]
        obtain ⟨g', off', ⟨yb, yi, ys, yl, yn⟩, he, hy, f0, _, _, _, _⟩ := own_cells (HR4.out.off HOF.out (by simp)) HN.out.symm (show j < N by omega)
        have hyx := birth_lt HINV.out.srt HX.out hy
        simp only at hyx f0
        have hyd : decide (xb ≤ yb) = false := by simp; omega
        simp only [Option.some.injEq, Addr.mk.injEq, and_true] at he
        obtain ⟨rfl, rfl⟩ := he
        clear hy
        go_wp2_with fail
        go_quiet (fail)
        go_wp2_with fail
        go_loopw [12, 13] (fun th m wx => ∃ j : Nat, j ≤ N ∧ m = .int .i64 (j : Nat) ∧ th = .bool (thereB M ⟨xb, xi, xs, xl, xn⟩ j) ∧ Off [] w4 wx) (fun _ m _ => N - (intOf m).toNat)
        case atStart => exact ⟨0, Nat.zero_le _, rfl, by simp [thereB], HOF.out.drewN _⟩
        case round =>
          obtain ⟨q, hq, rfl, rfl, hof⟩ := hrel
          by_cases hltq : q < N
          · as_aux_lemma =>
            have hl4 := HL4.out.off hof (by simp)
            rw [HNM.out, ← HN.out] at hl4
            obtain ⟨gm, offm, ⟨pb, pi, ps, pl, pn⟩, rfl, hp, p0, p1, p2, p3, p4⟩ := own_cells hl4 (HNM.out.trans HN.out.symm) hltq
            clear hl4
            obtain ⟨gx, offx, ⟨_, _, _, _, _⟩, he, hx, y0, y1, y2, y3, y4⟩ := own_cells (HR4.out.off hof (by simp)) HN.out.symm hlt
            rw [HX.out] at hx
            simp only [Option.some.injEq, Rw.mk.injEq] at hx
            obtain ⟨rfl, rfl, rfl, rfl, rfl⟩ := hx
            simp only [Option.some.injEq, Addr.mk.injEq, and_true] at he
            obtain ⟨rfl, rfl⟩ := he
            obtain ⟨gz, offz, ⟨zb, zi, zs, zl, zn⟩, he, hz, _, v1, _, _, _⟩ := own_cells (HR4.out.off hof (by simp)) HN.out.symm hltq
            simp only [Option.some.injEq, Addr.mk.injEq, and_true] at he
            obtain ⟨rfl, rfl⟩ := he
            have HZ := Lib.hid hz
            have HSU := Lib.hid (thereB_succ M ⟨xb, xi, xs, xl, xn⟩ q _ hp)
            have HOQ := Lib.hid hof
            simp only at p0 p1 p2 p3 p4 y0 y1 y2 y3 y4 v1
            try simp only [Nat.zero_mul, Nat.add_zero] at y0 y1 y2 y3 y4
            generalize thereB M ⟨xb, xi, xs, xl, xn⟩ q = th at *
            clear hp hz hof
            cases th
            · by_cases hpx : (⟨pb, pi, ps, pl, pn⟩ : Rw) = ⟨xb, xi, xs, xl, xn⟩
              · simp only [Rw.mk.injEq] at hpx
                obtain ⟨rfl, rfl, rfl, rfl, rfl⟩ := hpx
                go_wp2_with fail
                go_quiet (fail)
                by_cases hqk : q = (j + 1)
                · have hqb : ((q : Int) != ((j : Int) + 1)) = false := by rw [hqk]; simp
                  go_wp2_with fail
                  go_quiet (fail)
                  go_wp2_with fail
                  go_roundw
                  case rel => exact ⟨q + 1, by omega, by go_num, by rw [HSU.out]; simp, by first | exact HOQ.out.drewN _ | exact (HOQ.out.drewN _).drewN _⟩
                  case measure => simp [intOf]; omega
                · have hqb : ((q : Int) != ((j : Int) + 1)) = true := by simp; omega
                  have hzx := id_ne HINV.out HX.out HZ.out hqk
                  have hzb : (zi == pi) = false := by simpa using hzx
                  have hzd : decide (zi = pi) = false := by simpa using hzx
                  clear hzx
                  go_wp2_with fail
                  go_quiet (fail)
                  go_wp2_with fail
                  go_roundw
                  case rel => exact ⟨q + 1, by omega, by go_num, by rw [HSU.out]; simp, by first | exact HOQ.out.drewN _ | exact (HOQ.out.drewN _).drewN _⟩
                  case measure => simp [intOf]; omega
              · have REQ := run_neq_row hpx
                go_wp2_with fail
                go_quiet (fail)
                clear REQ
                by_cases hqk : q = (j + 1)
                · have hqb : ((q : Int) != ((j : Int) + 1)) = false := by rw [hqk]; simp
                  go_wp2_with fail
                  go_quiet (fail)
                  go_wp2_with fail
                  go_roundw
                  case rel => exact ⟨q + 1, by omega, by go_num, by rw [HSU.out]; simp [hpx], by first | exact HOQ.out.drewN _ | exact (HOQ.out.drewN _).drewN _⟩
                  case measure => simp [intOf]; omega
                · have hqb : ((q : Int) != ((j : Int) + 1)) = true := by simp; omega
                  have hzx := id_ne HINV.out HX.out HZ.out hqk
                  have hzb : (zi == xi) = false := by simpa using hzx
                  have hzd : decide (zi = xi) = false := by simpa using hzx
                  clear hzx
                  go_wp2_with fail
                  go_quiet (fail)
                  go_wp2_with fail
                  go_roundw
                  case rel => exact ⟨q + 1, by omega, by go_num, by rw [HSU.out]; simp [hpx], by first | exact HOQ.out.drewN _ | exact (HOQ.out.drewN _).drewN _⟩
                  case measure => simp [intOf]; omega
            · go_wp2_with fail
              go_quiet (fail)
              by_cases hqk : q = (j + 1)
              · have hqb : ((q : Int) != ((j : Int) + 1)) = false := by rw [hqk]; simp
                go_wp2_with fail
                go_quiet (fail)
                go_wp2_with fail
                go_roundw
                case rel => exact ⟨q + 1, by omega, by go_num, by rw [HSU.out]; simp, by first | exact HOQ.out.drewN _ | exact (HOQ.out.drewN _).drewN _⟩
                case measure => simp [intOf]; omega
              · have hqb : ((q : Int) != ((j : Int) + 1)) = true := by simp; omega
                have hzx := id_ne HINV.out HX.out HZ.out hqk
                have hzb : (zi == xi) = false := by simpa using hzx
                have hzd : decide (zi = xi) = false := by simpa using hzx
                clear hzx
                go_wp2_with fail
                go_quiet (fail)
                go_wp2_with fail
                go_roundw
                case rel => exact ⟨q + 1, by omega, by go_num, by rw [HSU.out]; simp, by first | exact HOQ.out.drewN _ | exact (HOQ.out.drewN _).drewN _⟩
                case measure => simp [intOf]; omega
          · as_aux_lemma =>
            have hqN : N = q := by omega
            subst hqN
            have hth : thereB M ⟨xb, xi, xs, xl, xn⟩ N = true := by
              have q1 := thereB_all M L HPM.out ⟨xb, xi, xs, xl, xn⟩ (List.mem_of_getElem? HX.out)
              rw [HNM.out, ← HN.out] at q1; exact q1
            rw [hth]
            have htq := HT4.out.off hof (by simp)
            have HG := Lib.hid (get38 htq xb)
            rw [getL_mem HINV.out (List.mem_of_getElem? HX.out)] at HG
            simp only [Option.getD_some, Option.isSome_some] at HG
            unfold ragg at HG
            simp only at HG
            obtain ⟨gx, offx, ⟨_, _, _, _, _⟩, he, hx, y0, y1, y2, y3, y4⟩ := own_cells (HR4.out.off hof (by simp)) HN.out.symm hlt
            rw [HX.out] at hx
            simp only [Option.some.injEq, Rw.mk.injEq] at hx
            obtain ⟨rfl, rfl, rfl, rfl, rfl⟩ := hx
            simp only [Option.some.injEq, Addr.mk.injEq, and_true] at he
            obtain ⟨rfl, rfl⟩ := he
            simp only at y0 y1 y2 y3 y4
            try simp only [Nat.zero_mul, Nat.add_zero] at y0 y1 y2 y3 y4
            have HOQ := Lib.hid hof
            clear hth htq hof
            go_wp2_with fail
            refine HG.out.mono ?_
            rintro e w5 ⟨rfl, ho5⟩
            have ho5a := ho5.trans ((Off.refl [] w5).alloc (.cells #[.int .i64 xb, .int .i64 xi, .int .i64 xs, .int .i64 xl, .int .i64 xn] 70)) (by simp)
            have HO5 := Lib.hid (HOQ.out.trans ho5a (by simp))
            have ht5 := HT4.out.off HO5.out (by simp)
            have HID := Lib.hid (byId39 ht5 xi)
            rw [idL_mem HINV.out (List.mem_of_getElem? HX.out)] at HID
            simp only [Option.getD_some, Option.isSome_some] at HID
            unfold ragg at HID
            simp only at HID
            have HBA := Lib.hid (IsC.new w5 #[.int .i64 xb, .int .i64 xi, .int .i64 xs, .int .i64 xl, .int .i64 xn] 70)
            obtain ⟨gx, offx, ⟨_, _, _, _, _⟩, he, hx, f0, f1, f2, f3, f4⟩ := own_cells (HR4.out.off HO5.out (by simp)) HN.out.symm hlt
            rw [HX.out] at hx
            simp only [Option.some.injEq, Rw.mk.injEq] at hx
            obtain ⟨rfl, rfl, rfl, rfl, rfl⟩ := hx
            simp only [Option.some.injEq, Addr.mk.injEq, and_true] at he
            obtain ⟨rfl, rfl⟩ := he
            simp only at f1
            try simp only [Nat.zero_mul, Nat.add_zero] at f1
            clear ho5 ho5a ht5 HG y0 y1 y2 y3 y4 f0 f2 f3 f4
            go_wp2_with fail
            refine HID.out.mono ?_
            rintro e w6 ⟨rfl, ho6⟩
            have ho6a := ho6.trans ((Off.refl [] w6).alloc (.cells #[.int .i64 xb, .int .i64 xi, .int .i64 xs, .int .i64 xl, .int .i64 xn] 70)) (by simp)
            have HO6 := Lib.hid (HO5.out.trans ho6a (by simp))
            have hba := IsC.off (S := []) HBA.out ho6a (by simp)
            have hbb := IsC.new w6 #[.int .i64 xb, .int .i64 xi, .int .i64 xs, .int .i64 xl, .int .i64 xn] 70
            have hbr := IsC.off (S := []) HX4.out HO6.out (by simp)
            obtain ⟨gx, offx, ⟨_, _, _, _, _⟩, he, hx, y0, y1, y2, y3, y4⟩ := own_cells (HR4.out.off HO6.out (by simp)) HN.out.symm hlt
            rw [HX.out] at hx
            simp only [Option.some.injEq, Rw.mk.injEq] at hx
            obtain ⟨rfl, rfl, rfl, rfl, rfl⟩ := hx
            simp only [Option.some.injEq, Addr.mk.injEq, and_true] at he
            obtain ⟨rfl, rfl⟩ := he
            simp only at y0 y1 y2 y3 y4
            try simp only [Nat.zero_mul, Nat.add_zero] at y0 y1 y2 y3 y4
            have a0 := hba.cell 0
            have a1 := hba.cell 1
            have a2 := hba.cell 2
            have a3 := hba.cell 3
            have a4 := hba.cell 4
            have b0 := hbb.cell 0
            have b1 := hbb.cell 1
            have b2 := hbb.cell 2
            have b3 := hbb.cell 3
            have b4 := hbb.cell 4
            have r0 := hbr.cell 0
            have r1 := hbr.cell 1
            simp only [List.getElem?_toArray, List.getElem?_cons_zero, List.getElem?_cons_succ] at a0 a1 a2 a3 a4 b0 b1 b2 b3 b4 r0 r1
            clear hba hbb hbr ho6 ho6a HBA f1 HID HOQ
            go_wp2_with fail
            go_quiet (fail)
            clear a0 a1 a2 a3 a4 b0 b1 b2 b3 b4
            cases fr
            · have HFN : Hid (freshB ⟨rb, ri, rs, rl, rn⟩ (L.take ((j + 1) + 1)) = false) := Lib.hid (by rw [freshB_succ _ _ _ _ HX.out, ← HFR.out]; simp)
              go_wp2_with fail
              go_quiet (fail)
              go_wp2_with fail
              go_roundw
              case rel => exact ⟨(j + 1) + 1, by omega, by go_num, by rw [HFN.out], by first | exact HO6.out.drewN _ | exact (HO6.out.drewN _).drewN _⟩
              case measure => simp [intOf]; omega
            · by_cases hxr : xb = rb
              · have HFN : Hid (freshB ⟨rb, ri, rs, rl, rn⟩ (L.take ((j + 1) + 1)) = false) := Lib.hid (by rw [freshB_succ _ _ _ _ HX.out, ← HFR.out]; simp [hxr])
                have hb1 : (xb != rb) = false := by simp [hxr]
                have hd1 : decide (xb = rb) = true := by simp [hxr]
                clear hxr
                go_wp2_with fail
                go_quiet (fail)
                go_wp2_with fail
                go_roundw
                case rel => exact ⟨(j + 1) + 1, by omega, by go_num, by rw [HFN.out], by first | exact HO6.out.drewN _ | exact (HO6.out.drewN _).drewN _⟩
                case measure => simp [intOf]; omega
              · by_cases hxi : xi = ri
                · have HFN : Hid (freshB ⟨rb, ri, rs, rl, rn⟩ (L.take ((j + 1) + 1)) = false) := Lib.hid (by rw [freshB_succ _ _ _ _ HX.out, ← HFR.out]; simp [hxi])
                  have hb1 : (xb != rb) = true := by simp [hxr]
                  have hb2 : (xi != ri) = false := by simp [hxi]
                  have hd1 : decide (xb = rb) = false := by simp [hxr]
                  have hd2 : decide (xi = ri) = true := by simp [hxi]
                  clear hxr hxi
                  go_wp2_with fail
                  go_quiet (fail)
                  go_wp2_with fail
                  go_roundw
                  case rel => exact ⟨(j + 1) + 1, by omega, by go_num, by rw [HFN.out], by first | exact HO6.out.drewN _ | exact (HO6.out.drewN _).drewN _⟩
                  case measure => simp [intOf]; omega
                · have HFN : Hid (freshB ⟨rb, ri, rs, rl, rn⟩ (L.take ((j + 1) + 1)) = true) := Lib.hid (by rw [freshB_succ _ _ _ _ HX.out, ← HFR.out]; simp [hxr, hxi])
                  have hb1 : (xb != rb) = true := by simp [hxr]
                  have hb2 : (xi != ri) = true := by simp [hxi]
                  clear hxr hxi
                  go_wp2_with fail
                  go_quiet (fail)
                  go_wp2_with fail
                  go_roundw
                  case rel => exact ⟨(j + 1) + 1, by omega, by go_num, by rw [HFN.out], by first | exact HO6.out.drewN _ | exact (HO6.out.drewN _).drewN _⟩
                  case measure => simp [intOf]; omega
    · have hkN : N = k := by omega
      subst hkN
      obtain ⟨W5, hW5⟩ : ∃ W, W = wr := ⟨_, rfl⟩
      subst hW5
      obtain ⟨fr, hfr⟩ : ∃ fr, fr = freshB ⟨rb, ri, rs, rl, rn⟩ (L.take N) := ⟨_, rfl⟩
      rw [← hfr]
      rw [List.take_of_length_le (by rw [← HN.out]; exact Nat.le_refl _)] at hfr
      have HFR := Lib.hid hfr
      have hbr := IsC.off (S := []) HX4.out hof (by simp)
      have HBR := Lib.hid hbr
      have HOF := Lib.hid hof
      have HR5 := Lib.hid (HR4.out.off hof (by simp))
      have ht5 := HT4.out.off hof (by simp)
      have HPUT := Lib.hid (put40 ht5 ⟨rb, ri, rs, rl, rn⟩)
      have r0 := hbr.cell 0
      have r1 := hbr.cell 1
      have r2 := hbr.cell 2
      have r3 := hbr.cell 3
      have r4 := hbr.cell 4
      simp only [List.getElem?_toArray, List.getElem?_cons_zero, List.getElem?_cons_succ] at r0 r1 r2 r3 r4
      unfold PutEnd ragg at HPUT
      simp only at HPUT
      clear hfr hbr hof ht5
      generalize (Value.agg #[Value.int IntKind.i64 rb, Value.int IntKind.i64 ri, Value.int IntKind.i64 rs, Value.int IntKind.i64 rl, Value.int IntKind.i64 rn]) = rv
      go_upto_region 25 with fail
      go_cut [18] (fun s18 wx => s18 = .bool (rightR ⟨rb, ri, rs, rl, rn⟩) ∧ W5 = wx)
      case first =>
        clear hlt hk h8 hzN z1 z2 HPUT HR5 HBR HOF HFR HR4 HX4 HT4 HL4 HO4 HMO HINV HPM HN HNM HRF HFP HLT HRX HRXL HJ37
        by_cases c8 : 1 ≤ rb
        · by_cases c7 : rb ≤ 1152921504606846976
          · by_cases c6 : 1 ≤ ri
            · by_cases c5 : ri ≤ 64
              · by_cases s1 : rs = 1
                · subst s1
                  by_cases c3 : rb ≤ rl
                  · by_cases c2 : rl ≤ 1152921504606846976
                    · by_cases n0 : rn = 0
                      · subst n0
                        as_aux_lemma =>
                        go_wp2_with fail
                        go_meet
                        go_tidy
                        refine ⟨congrArg Value.bool (rightR_mk _ _ _ _ _ _ ?_), rfl⟩
                        first | omega | (simp; omega) | simp
                      · by_cases n1 : rb < rn
                        · by_cases n2 : rn ≤ rl
                          · as_aux_lemma =>
                            go_wp2_with fail
                            go_meet
                            go_tidy
                            refine ⟨congrArg Value.bool (rightR_mk _ _ _ _ _ _ ?_), rfl⟩
                            first | omega | (simp; omega) | simp
                          · as_aux_lemma =>
                            go_wp2_with fail
                            go_meet
                            go_tidy
                            refine ⟨congrArg Value.bool (rightR_mk _ _ _ _ _ _ ?_), rfl⟩
                            first | omega | (simp; omega) | simp
                        · as_aux_lemma =>
                          go_wp2_with fail
                          go_meet
                          go_tidy
                          refine ⟨congrArg Value.bool (rightR_mk _ _ _ _ _ _ ?_), rfl⟩
                          first | omega | (simp; omega) | simp
                    · as_aux_lemma =>
                      go_wp2_with fail
                      go_meet
                      go_tidy
                      refine ⟨congrArg Value.bool (rightR_mk _ _ _ _ _ _ ?_), rfl⟩
                      first | omega | (simp; omega) | simp
                  · as_aux_lemma =>
                    go_wp2_with fail
                    go_meet
                    go_tidy
                    refine ⟨congrArg Value.bool (rightR_mk _ _ _ _ _ _ ?_), rfl⟩
                    first | omega | (simp; omega) | simp
                · by_cases s2 : rs = 2
                  · subst s2
                    by_cases c3 : rb ≤ rl
                    · by_cases c2 : rl ≤ 1152921504606846976
                      · by_cases n0 : rn = 0
                        · subst n0
                          as_aux_lemma =>
                          go_wp2_with fail
                          go_meet
                          go_tidy
                          refine ⟨congrArg Value.bool (rightR_mk _ _ _ _ _ _ ?_), rfl⟩
                          first | omega | (simp; omega) | simp
                        · by_cases n1 : rb < rn
                          · by_cases n2 : rn ≤ rl
                            · as_aux_lemma =>
                              go_wp2_with fail
                              go_meet
                              go_tidy
                              refine ⟨congrArg Value.bool (rightR_mk _ _ _ _ _ _ ?_), rfl⟩
                              first | omega | (simp; omega) | simp
                            · as_aux_lemma =>
                              go_wp2_with fail
                              go_meet
                              go_tidy
                              refine ⟨congrArg Value.bool (rightR_mk _ _ _ _ _ _ ?_), rfl⟩
                              first | omega | (simp; omega) | simp
                          · as_aux_lemma =>
                            go_wp2_with fail
                            go_meet
                            go_tidy
                            refine ⟨congrArg Value.bool (rightR_mk _ _ _ _ _ _ ?_), rfl⟩
                            first | omega | (simp; omega) | simp
                      · as_aux_lemma =>
                        go_wp2_with fail
                        go_meet
                        go_tidy
                        refine ⟨congrArg Value.bool (rightR_mk _ _ _ _ _ _ ?_), rfl⟩
                        first | omega | (simp; omega) | simp
                    · as_aux_lemma =>
                      go_wp2_with fail
                      go_meet
                      go_tidy
                      refine ⟨congrArg Value.bool (rightR_mk _ _ _ _ _ _ ?_), rfl⟩
                      first | omega | (simp; omega) | simp
                  · as_aux_lemma =>
                    go_wp2_with fail
                    go_meet
                    go_tidy
                    refine ⟨congrArg Value.bool (rightR_mk _ _ _ _ _ _ ?_), rfl⟩
                    first | omega | (simp; omega) | simp
              · as_aux_lemma =>
                go_wp2_with fail
                go_meet
                go_tidy
                refine ⟨congrArg Value.bool (rightR_mk _ _ _ _ _ _ ?_), rfl⟩
                first | omega | (simp; omega) | simp
            · as_aux_lemma =>
              go_wp2_with fail
              go_meet
              go_tidy
              refine ⟨congrArg Value.bool (rightR_mk _ _ _ _ _ _ ?_), rfl⟩
              first | omega | (simp; omega) | simp
          · as_aux_lemma =>
            go_wp2_with fail
            go_meet
            go_tidy
            refine ⟨congrArg Value.bool (rightR_mk _ _ _ _ _ _ ?_), rfl⟩
            first | omega | (simp; omega) | simp
        · as_aux_lemma =>
          go_wp2_with fail
          go_meet
          go_tidy
          refine ⟨congrArg Value.bool (rightR_mk _ _ _ _ _ _ ?_), rfl⟩
          first | omega | (simp; omega) | simp
      case rest =>
        as_aux_lemma =>
        obtain ⟨rfl, rfl⟩ := hcut
        have HPOST : Hid (∀ w6, TabStep tb fp mo L W5 w6 → (∀ W, Off [] w6 W → Calls Try.prog 35 #[.pointer (some ⟨tb, 0, none⟩)] W (Fresh W N (rows L))) ∧ Own w6 70 5 (.slice ro N rc) N (rows L) ∧ Off [] w w6) := Lib.hid (fun w6 hs => by
          obtain ⟨fp', q1, q2, q3⟩ := hs
          refine ⟨fun W hW => ?_, HR5.out.off q2 (fun z hz hz' => by have := HRF.out z hz; have := HLT.out z hz'; omega), ?_⟩
          · have q := rows35 (q1.off hW (by simp))
            rw [← HN.out] at q; exact q
          · exact (HO4.out.trans HOF.out (by simp)).trans q2 (fun z hz => .inr (HFP.out z hz)))
        have HSAME : Hid (∀ W o c o' c', Own W 70 5 (.slice o N c) N (rows L) → Own W 70 5 (.slice o' N c') N (rows L) → Calls Try.prog 41 #[.slice o N c, .slice o' N c'] W fun e w' => e = .returned (.bool true) ∧ Off [] W w') := Lib.hid (fun W o c o' c' h1 h2 => same41 _ _ L W (by rw [← HN.out]; exact h1) (by rw [← HN.out]; exact h2) (by rw [← HN.out]; omega))
        have HI37 : Hid (∀ W, Calls Try.prog 37 #[.int .i64 a, .int .i64 8] W fun e w' => e = .returned (.int .i64 z) ∧ W = w') := HJ37
        unfold putL at HPUT
        rw [put_says mo L _ (by have := HMO.out; have := HN.out; omega), ← HFR.out] at HPUT
        cases hright : rightR ⟨rb, ri, rs, rl, rn⟩ with
        | false =>
          rw [hright] at HPUT
          rw [if_pos rfl] at HPUT
          rw [if_neg (by decide)] at HPUT
          clear hright
          go_wp2_with fail
          refine HPUT.out.mono ?_
          rintro e w6 ⟨rfl, hs⟩
          obtain ⟨p1, p2, p3⟩ := HPOST.out w6 hs
          have HP1 := Lib.hid p1
          have HP2 := Lib.hid p2
          have HP3 := Lib.hid p3
          clear hs p1 p2 p3 HPUT HPOST
          go_wp2_with fail
          refine (HP1.out _ (Off.refl _ _)).mono ?_
          rintro e w7 ⟨no, nc, rfl, hn, hno, hnf⟩
          have HSM := Lib.hid (HSAME.out w7 _ _ _ _ hn (HP2.out.off hno (by simp)))
          have HO7 := Lib.hid (HP3.out.trans hno (by simp))
          clear hn hno hnf HP1 HP2 HP3 HSAME
          go_wp2_with fail
          refine HSM.out.mono ?_
          rintro e w8 ⟨rfl, ho8⟩
          have HEND := Lib.hid ((HO7.out.trans ho8 (by simp)).below)
          clear ho8 HSM
          go_wp2_with fail
          go_ret
          exact ⟨rfl, HEND.out⟩
        | true =>
          rw [hright] at HPUT
          rw [if_neg (by decide)] at HPUT
          have hrt := hright
          clear hright
          have HRT := Lib.hid hrt
          clear hrt
          cases fr
          · rw [if_pos rfl, if_neg (by decide)] at HPUT
            go_wp2_with fail
            refine HPUT.out.mono ?_
            rintro e w6 ⟨rfl, hs⟩
            obtain ⟨p1, p2, p3⟩ := HPOST.out w6 hs
            have HP1 := Lib.hid p1
            have HP2 := Lib.hid p2
            have HP3 := Lib.hid p3
            clear hs p1 p2 p3 HPUT HPOST
            go_wp2_with fail
            refine (HP1.out _ (Off.refl _ _)).mono ?_
            rintro e w7 ⟨no, nc, rfl, hn, hno, hnf⟩
            have HSM := Lib.hid (HSAME.out w7 _ _ _ _ hn (HP2.out.off hno (by simp)))
            have HO7 := Lib.hid (HP3.out.trans hno (by simp))
            clear hn hno hnf HP1 HP2 HP3 HSAME
            go_wp2_with fail
            refine HSM.out.mono ?_
            rintro e w8 ⟨rfl, ho8⟩
            have HEND := Lib.hid ((HO7.out.trans ho8 (by simp)).below)
            clear ho8 HSM
            go_wp2_with fail
            go_ret
            exact ⟨rfl, HEND.out⟩
          · rw [if_neg (by decide)] at HPUT
            by_cases hfull : L.length = mo
            · rw [if_pos hfull, if_neg (by decide)] at HPUT
              have hNz : (N : Int) = 1 + z := by have := HN.out; have := HMO.out; omega
              clear hfull
              go_wp2_with fail
              refine HPUT.out.mono ?_
              rintro e w6 ⟨rfl, hs⟩
              obtain ⟨p1, p2, p3⟩ := HPOST.out w6 hs
              have HP1 := Lib.hid p1
              have HP2 := Lib.hid p2
              have HP3 := Lib.hid p3
              clear hs p1 p2 p3 HPUT HPOST
              go_wp2_with fail
              refine (HP1.out _ (Off.refl _ _)).mono ?_
              rintro e w7 ⟨no, nc, rfl, hn, hno, hnf⟩
              have HSM := Lib.hid (HSAME.out w7 _ _ _ _ hn (HP2.out.off hno (by simp)))
              have HO7 := Lib.hid (HP3.out.trans hno (by simp))
              clear hn hno hnf HP1 HP2 HP3 HSAME
              go_wp2_with fail
              refine (HI37.out _).mono ?_
              rintro e w7' ⟨rfl, rfl⟩
              go_wp2_with fail
              refine HSM.out.mono ?_
              rintro e w8 ⟨rfl, ho8⟩
              have HEND := Lib.hid ((HO7.out.trans ho8 (by simp)).below)
              clear ho8 HSM
              go_wp2_with fail
              go_ret
              exact ⟨rfl, HEND.out⟩
            · rw [if_neg hfull, if_pos rfl] at HPUT
              have hNz : (N : Int) < 1 + z := by have := HN.out; have := HMO.out; omega
              have hput : putCode mo L ⟨rb, ri, rs, rl, rn⟩ = 0 := by
                rw [put_says mo L _ (by have := HMO.out; have := HN.out; omega), if_neg (by rw [HRT.out]; decide), ← HFR.out, if_neg (by decide), if_neg hfull]
              have hL' : insB Rw.birth L ⟨rb, ri, rs, rl, rn⟩ = putL mo L ⟨rb, ri, rs, rl, rn⟩ := by unfold putL; rw [if_pos hput]
              rw [hL'] at HPUT
              have HPC := Lib.hid hput
              clear hfull hput hL' HPOST HSAME
              go_wp2_with fail
              refine HPUT.out.mono ?_
              rintro e w6 ⟨rfl, fp6, q1, q2, q3⟩
              obtain ⟨I6, hi6⟩ := q1.inv
              obtain ⟨hg6, hl6⟩ := put_get HPC.out hi6
              have HR6 := Lib.hid (rows35 q1)
              rw [hl6, ← HN.out] at HR6
              have HT6 := Lib.hid q1
              have HG6 := Lib.hid hg6
              have HB6 : Hid (IsC w6 rx #[.int .i64 rb, .int .i64 ri, .int .i64 rs, .int .i64 rl, .int .i64 rn] 70) := Lib.hid (IsC.off HBR.out q2 (fun hz => by
                have h1 := HFP.out _ hz; have := HRXL.out _ hz; exact this rfl))
              have HO6 : Hid (Off [] w w6) := Lib.hid ((HO4.out.trans HOF.out (by simp)).trans q2 (fun z hz => .inr (HFP.out z hz)))
              clear q1 q2 q3 hi6 hg6 hl6 HPUT HBR
              go_wp2_with fail
              refine HR6.out.mono ?_
              rintro e w7 ⟨no, nc, rfl, hn, hno, hnf⟩
              have hbr := IsC.off (S := []) HB6.out hno (by simp)
              have HB7 := Lib.hid hbr
              have HO7 := Lib.hid (HO6.out.trans hno (by simp))
              have HG := Lib.hid (get38 (HT6.out.off hno (by simp)) rb)
              rw [HG6.out] at HG
              simp only [Option.getD_some, Option.isSome_some] at HG
              unfold ragg at HG
              simp only at HG
              have r0 := hbr.cell 0
              simp only [List.getElem?_toArray, List.getElem?_cons_zero, List.getElem?_cons_succ] at r0
              clear hbr hn hno hnf HR6 HT6 HB6 HO6 HG6
              go_wp2_with fail
              refine (HI37.out _).mono ?_
              rintro e w7' ⟨rfl, rfl⟩
              go_wp2_with fail
              refine HG.out.mono ?_
              rintro e w8 ⟨rfl, ho8⟩
              have ho8a := ho8.trans ((Off.refl [] w8).alloc (.cells #[.int .i64 rb, .int .i64 ri, .int .i64 rs, .int .i64 rl, .int .i64 rn] 70)) (by simp)
              have hbr := IsC.off (S := []) HB7.out ho8a (by simp)
              have hbb := IsC.new w8 #[.int .i64 rb, .int .i64 ri, .int .i64 rs, .int .i64 rl, .int .i64 rn] 70
              have HEND := Lib.hid ((HO7.out.trans ho8a (by simp)).below)
              have b0 := hbb.cell 0
              have b1 := hbb.cell 1
              have b2 := hbb.cell 2
              have b3 := hbb.cell 3
              have b4 := hbb.cell 4
              have s0 := hbr.cell 0
              have s1 := hbr.cell 1
              have s2 := hbr.cell 2
              have s3 := hbr.cell 3
              have s4 := hbr.cell 4
              simp only [List.getElem?_toArray, List.getElem?_cons_zero, List.getElem?_cons_succ] at b0 b1 b2 b3 b4 s0 s1 s2 s3 s4
              clear hbr hbb ho8 ho8a HB7 HO7 HG r0
              go_wp2_with fail
              go_ret
              exact ⟨rfl, HEND.out⟩
end Go.Proofs.Ytlhmcbcoaplcaaa
