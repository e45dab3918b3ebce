/- TableFresh: the walk. -/
import Derived.Test.YtlhmcbcoaplcaaaFreA
set_option linter.unusedVariables false
set_option linter.unusedSimpArgs false
namespace Go.Proofs.Ytlhmcbcoaplcaaa
open Go.ChangeShapes Go.WideShapes Go.ChangeAt Go.RowKit

set_option maxRecDepth 100000 in
set_option maxHeartbeats 16000000 in
theorem tableFresh_walk (w : World) (a : Int) (ha : InI64 a) (v : Value) (l : List St) (h : StepRows w v l) :
    Calls Try.prog 13 #[.int .i64 a, v] w fun e w' => e = .returned (.bool true) ∧ Below w.heap.size w w' := by
  have HPL := Lib.hid (played34 w a ha v l h)
  have hvv : ∃ ao cap, v = .slice ao l.length cap := by obtain ⟨ao, cap, rfl, _⟩ := h; exact ⟨ao, cap, rfl⟩
  obtain ⟨sao, scap, rfl⟩ := hvv
  clear h
  generalize l.length = sn at *
  go_enter Try.func13, Try.ntmps13
  go_wp2_with fail
  refine HPL.out.mono ?_
  rintro e w1 ⟨tb, pao, pcap, M, rfl, fp, L, ht, hown, hperm, ho, hfp, hlv⟩
  generalize (1 + a % 8).toNat = mo at *
  have h8 : L.length ≤ 8 := ht.births.2.2.1
  have HT := Lib.hid ht
  have HO := Lib.hid ho
  have ho1 := ho
  have HK := Lib.hid (known32 w1)
  clear ht hown hperm ho hfp hlv HPL
  generalize M.length = PN at *
  go_wp2_with fail
  refine HK.out.mono ?_
  rintro e w3 ⟨rfl, o3⟩
  have ht3 := HT.out.off o3 (by simp)
  have HT3 := Lib.hid ht3
  have HLT := Lib.hid ht3.lt
  have HS3 : Hid (w.heap.size ≤ w3.heap.size) := Lib.hid (by have := ho1.size; have := o3.size; omega)
  have HR := Lib.hid (rows35 ht3)
  have HO3 := Lib.hid (HO.out.trans o3 (by simp))
  clear o3 ht3 HT HO HK ho1
  obtain ⟨N, hN⟩ : ∃ N, N = L.length := ⟨_, rfl⟩
  have HN := Lib.hid hN
  rw [← hN] at HR h8
  clear hN
  go_wp2_with fail
  refine HR.out.mono ?_
  rintro e w4 ⟨ao, ca, rfl, hr, hro, hrf⟩
  have ht4 := HT3.out.off hro (by simp)
  have HR4 := Lib.hid (rows35 ht4)
  rw [← HN.out] at HR4
  have HA := Lib.hid hr
  have HAF := Lib.hid hrf
  have HT4 := Lib.hid ht4
  have HS4 := Lib.hid hro.size
  have HO4 := Lib.hid (HO3.out.trans hro (by simp))
  clear ht4 hr hrf hro HR HT3 HO3
  go_wp2_with fail
  refine HR4.out.mono ?_
  rintro e w5 ⟨bo, cb, rfl, hr, hro, hrf⟩
  have HA5 := Lib.hid (HA.out.off hro (by simp))
  have HB5 := Lib.hid hr
  have HAB : Hid (∀ z ∈ blk (.slice ao N ca), z ∉ blk (.slice bo N cb)) := Lib.hid (fun z hz hz' => by have := HA.out.lt z hz; have := hrf z hz'; omega)
  have HBF : Hid (∀ z ∈ blk (.slice bo N cb), w3.heap.size ≤ z) := Lib.hid (fun z hz => by have := hrf z hz; have := HS4.out; omega)
  have HT5 := Lib.hid (HT4.out.off hro (by simp))
  have HO5 := Lib.hid (HO4.out.trans hro (by simp))
  clear hr hrf hro HR4 HT4 HO4 HA
  have HEMP := Lib.hid (show Own (w5.alloc (.cells #[] 70)) 70 5 (.slice (some ⟨w5.heap.size, 0, none⟩) 0 0) 0 [] from Own.new w5 70 5 #[] 0 (by decide) rfl)
  have HSRC := Lib.hid ((HA5.out.alloc (.cells #[] 70)).src (P := Try.prog) (t := 23) (e' := 70) Try.underlying23 (rows_one _))
  have HBD := Lib.hid (show (0 + N) * 40 ≤ 140737488355328 by omega)
  go_wp2_with (at_builtin; go_loud (refine wp_app2 rfl _ _ 23 23 rfl rfl HEMP.out Try.underlying23 iinfo70 rfl (by decide) rfl HSRC.out HBD.out ?_))
  intro wo cw w6 q1 q2
  have ho5 : Off [] w5 w6 := by
    rcases q2 with ⟨_, _, ho⟩ | ⟨ho, _⟩
    · exact ((Off.refl [] w5).alloc _).trans ho (fun z hz => .inr (by simp [blk] at hz; omega))
    · exact ((Off.refl [] w5).alloc _).trans ho (by simp)
  have hwf : ∀ z ∈ blk (.slice wo N cw), w5.heap.size ≤ z := by
    intro z hz
    rcases q2 with ⟨h1, _, ho⟩ | ⟨ho, hb⟩
    · rw [h1] at hz; simp [blk] at hz; omega
    · rw [hb] at hz; simp at hz; omega
  have HC6 := Lib.hid q1
  have HCF := Lib.hid hwf
  have HA6 := Lib.hid (HA5.out.off ho5 (by simp))
  have hb6 := HB5.out.off ho5 (by simp)
  have HB6 := Lib.hid hb6
  have HT6 := Lib.hid (HT5.out.off ho5 (by simp))
  have HO6 := Lib.hid (HO5.out.trans ho5 (by simp))
  have HS6 : Hid (Calls Try.prog 41 #[.slice bo N cb, .slice wo N cw] w6 fun e w' => e = .returned (.bool true) ∧ Off [] w6 w') := by
    refine same41 _ _ L w6 ?_ ?_ (by have := HN.out; omega)
    · rw [← HN.out]; exact hb6
    · rw [← HN.out]; exact q1
  have HAL := Lib.hid HA5.out.lt
  have HBL := Lib.hid HB5.out.lt
  have HT5L : Hid (∀ z ∈ fp, z < w3.heap.size ∧ z ∉ blk (.slice ao N ca) ∧ z ∉ blk (.slice bo N cb)) := Lib.hid (fun z hz => ⟨HLT.out z hz, fun hz' => by have := HAF.out z hz'; have := HLT.out z hz; omega, fun hz' => by have := HBF.out z hz'; have := HLT.out z hz; omega⟩)
  have HWD : Hid (∀ z ∈ blk (.slice wo N cw), z ∉ blk (.slice ao N ca) ∧ z ∉ blk (.slice bo N cb)) := Lib.hid (fun z hz => ⟨fun hz' => by have := HCF.out z hz; have := HAL.out z hz'; omega, fun hz' => by have := HCF.out z hz; have := HBL.out z hz'; omega⟩)
  have HSZ : Hid (w.heap.size ≤ w3.heap.size) := HS3
  clear ho5 hwf hb6 q1 q2 HEMP HSRC HBD HA5 HB5 HT5 HO5 HCF HAL HBL HS3
  go_wp2_with fail
  refine HS6.out.mono ?_
  rintro e w7 ⟨rfl, ho7⟩
  have HA7 := Lib.hid (HA6.out.off ho7 (by simp))
  have HB7 := Lib.hid (HB6.out.off ho7 (by simp))
  have HC7 := Lib.hid (HC6.out.off ho7 (by simp))
  have HT7 := Lib.hid (HT6.out.off ho7 (by simp))
  have HO7 := Lib.hid (HO6.out.trans ho7 (by simp))
  clear ho7 HA6 HB6 HC6 HT6 HO6 HS6
  go_wp2_with fail
  go_loopw [10] (fun i wr => MarkIn w7 ao N ca ⟨0, -1, 0, 0, 0⟩ L i wr) (fun i _ => N - (intOf i).toNat)
  case atStart => exact ⟨0, Nat.zero_le _, rfl, HA7.out, Off.refl _ _⟩
  case round =>
    obtain ⟨k, hk, rfl, hown, hof⟩ := hrel
    by_cases hlt : k < N
    · obtain ⟨g, off, x, rfl, hx, g0, g1, g2, g3, g4⟩ := own_cells hown (marked_len _ _ _ (by rw [← HN.out]; exact hk) |>.trans HN.out.symm) hlt
      have hgf := own_unfrozen hown
      have HST := Lib.hid (MarkIn.store HN.out.symm hlt hown hof)
      clear hown hof hx
      go_wp2_with fail
      go_roundw
      case rel => exact HST.out
      case measure => simp [intOf]; omega
    · have hkk : N = k := by omega
      subst hkk
      obtain ⟨W8, hW8⟩ : ∃ W, W = wr := ⟨_, rfl⟩
      subst hW8
      have hown8 : Own W8 70 5 (.slice ao N ca) N (rows (List.replicate N ⟨0, -1, 0, 0, 0⟩)) := by
        have e := marked_all ⟨0, -1, 0, 0, 0⟩ L
        rw [← HN.out] at e; rw [e] at hown; exact hown
      have HA8 := Lib.hid hown8
      have HB8 := Lib.hid (HB7.out.off hof (fun z hz hz' => HAB.out z hz' hz))
      have HC8 := Lib.hid (HC7.out.off hof (fun z hz => (HWD.out z hz).1))
      have HT8 := Lib.hid (HT7.out.off hof (fun z hz => (HT5L.out z hz).2.1))
      have HO8 : Hid (Off [] w W8) := Lib.hid (HO7.out.trans hof (fun z hz => .inr (by have := HAF.out z hz; have := HSZ.out; omega)))
      clear hown8 hown hof HA7 HB7 HC7 HT7 HO7
      go_wp2_with fail
      go_loopw [11] (fun i wx => MarkIn W8 bo N cb ⟨0, -2, 0, 0, 0⟩ L i wx) (fun i _ => N - (intOf i).toNat)
      case atStart => exact ⟨0, Nat.zero_le _, rfl, HB8.out, Off.refl _ _⟩
      case round =>
        obtain ⟨k2, hk2, rfl, hown, hof⟩ := hrel
        by_cases hlt : k2 < N
        · obtain ⟨g, off, x, rfl, hx, g0, g1, g2, g3, g4⟩ := own_cells hown (marked_len _ _ _ (by rw [← HN.out]; exact hk2) |>.trans HN.out.symm) hlt
          have hgf := own_unfrozen hown
          have HST := Lib.hid (MarkIn.store HN.out.symm hlt hown hof)
          clear hown hof hx
          go_wp2_with fail
          go_roundw
          case rel => exact HST.out
          case measure => simp [intOf]; omega
        · have hkk : N = k2 := by omega
          subst hkk
          obtain ⟨W9, hW9⟩ : ∃ W, W = wr := ⟨_, rfl⟩
          subst hW9
          have hown8 : Own W9 70 5 (.slice bo N cb) N (rows (List.replicate N ⟨0, -2, 0, 0, 0⟩)) := by
            have e := marked_all ⟨0, -2, 0, 0, 0⟩ L
            rw [← HN.out] at e; rw [e] at hown; exact hown
          have HBO := Lib.hid (Both.start (HA8.out.off hof (fun z hz => HAB.out z hz)) hown8 HAB.out)
          have HC9 := Lib.hid (HC8.out.off hof (fun z hz => (HWD.out z hz).2))
          have HT9 := Lib.hid (HT8.out.off hof (fun z hz => (HT5L.out z hz).2.2))
          have HO9 : Hid (Off [] w W9) := Lib.hid (HO8.out.trans hof (fun z hz => .inr (by have := HBF.out z hz; have := HSZ.out; omega)))
          clear hown8 hown hof HA8 HB8 HC8 HT8 HO8
          go_wp2_with fail
          go_loopw [12, 13, 14] (fun c d i wx => ∃ (k : Nat) (co eo : Option Addr) (cc ec : Nat), k ≤ 40 ∧ i = .int .i64 (k : Nat) ∧ c = .slice co (N + k) cc ∧ d = .slice eo (N + k) ec ∧ Both W9 wx ao ca bo cb N ⟨0, -1, 0, 0, 0⟩ ⟨0, -2, 0, 0, 0⟩ k k co cc eo ec) (fun _ _ i _ => 40 - (intOf i).toNat)
          case atStart => exact ⟨0, ao, bo, ca, cb, by omega, rfl, rfl, rfl, HBO.out⟩
          case round =>
            obtain ⟨k3, co, eo, cc, ec, hk3, rfl, rfl, rfl, hbo⟩ := hrel
            by_cases hlt : k3 < 40
            · have hb0 := hbo.off ((Off.refl [] wr).alloc (.cells #[.int .i64 0, .int .i64 (-1), .int .i64 0, .int .i64 0, .int .i64 0] 70))
              have HOA := Lib.hid hb0.1.2.1
              have HB0 := Lib.hid hb0
              have HSRC := Lib.hid (src_new (P := Try.prog) wr (t := 23) (e := 70) (e' := 70) (sz := 5) #[.int .i64 0, .int .i64 (-1), .int .i64 0, .int .i64 0, .int .i64 0] 1 Try.underlying23 (by decide) rfl (by simp [Value.oneCell']))
              have HBD := Lib.hid (show (N + k3 + 1) * 40 ≤ 140737488355328 by omega)
              clear hb0 hbo HBO
              go_wp2_with (at_builtin; go_loud (refine wp_app2 rfl _ _ 23 23 rfl rfl HOA.out Try.underlying23 iinfo70 rfl (by decide) rfl HSRC.out HBD.out ?_))
              intro co' cc' wa q1 q2
              have hb1 := ((HB0.out.first q1 q2)).off ((Off.refl [] wa).alloc (.cells #[.int .i64 0, .int .i64 (-2), .int .i64 0, .int .i64 0, .int .i64 0] 70))
              have HOA1 := Lib.hid hb1.2.1.2.1
              have HB1 := Lib.hid hb1
              have HSRC1 := Lib.hid (src_new (P := Try.prog) wa (t := 23) (e := 70) (e' := 70) (sz := 5) #[.int .i64 0, .int .i64 (-2), .int .i64 0, .int .i64 0, .int .i64 0] 1 Try.underlying23 (by decide) rfl (by simp [Value.oneCell']))
              clear hb1 q1 q2 HB0 HOA HSRC
              go_wp2_with (at_builtin; go_loud (refine wp_app2 rfl _ _ 23 23 rfl rfl HOA1.out Try.underlying23 iinfo70 rfl (by decide) rfl HSRC1.out HBD.out ?_))
              intro eo' ec' wb q1 q2
              have HB2 := Lib.hid (HB1.out.second q1 q2)
              clear q1 q2 HB1 HOA1 HSRC1
              go_wp2_with fail
              go_roundw
              case rel => exact ⟨k3 + 1, co', eo', cc', ec', by omega, by go_num, by rw [Nat.add_assoc], by rw [Nat.add_assoc], HB2.out⟩
              case measure => simp [intOf]; omega
            · have hkk : k3 = 40 := by omega
              subst hkk
              obtain ⟨W10, hW10⟩ : ∃ W, W = wr := ⟨_, rfl⟩
              subst hW10
              obtain ⟨⟨p1, p2, _, _⟩, ⟨p3, p4, _, _⟩, _, _, pof⟩ := hbo
              have HQ1 := Lib.hid p1
              have HQ2 := Lib.hid p2
              have HQ3 := Lib.hid p3
              have HQ4 := Lib.hid p4
              have HC10 := Lib.hid (HC9.out.off pof (fun z hz hz' => by rcases List.mem_append.1 hz' with q | q; exact (HWD.out z hz).1 q; exact (HWD.out z hz).2 q))
              have ht10 := (HT9.out.off pof (fun z hz hz' => by rcases List.mem_append.1 hz' with q | q; exact (HT5L.out z hz).2.1 q; exact (HT5L.out z hz).2.2 q))
              have HT10 := Lib.hid ht10
              have HO10 : Hid (Off [] w W10) := Lib.hid (HO9.out.trans pof (fun z hz => .inr (by
                have := HSZ.out
                rcases List.mem_append.1 hz with q | q
                · have := HAF.out z q; omega
                · have := HBF.out z q; omega)))
              have HRT := Lib.hid (rows35 ht10)
              rw [← HN.out] at HRT
              clear p1 p2 p3 p4 pof ht10 HBO HC9 HT9 HO9
              go_wp2_with fail
              go_loopw [15] (fun i wx => ∃ k : Nat, k ≤ N + 40 ∧ i = .int .i64 (k : Nat) ∧ wx = W10) (fun i _ => N + 40 - (intOf i).toNat)
              case atStart => exact ⟨0, by omega, rfl, rfl⟩
              case round =>
                obtain ⟨k4, hk4, rfl, hwx⟩ := hrel
                subst hwx
                by_cases hlt4 : k4 < N + 40
                · obtain ⟨g, off, x, rfl, hx, _, g1, _, _, _⟩ := own_cells HQ2.out (List.length_replicate ..) hlt4
                  obtain ⟨g', off', x', rfl, hx', _, g1', _, _, _⟩ := own_cells HQ4.out (List.length_replicate ..) hlt4
                  have e1 : x = ⟨0, -1, 0, 0, 0⟩ := by rw [List.getElem?_replicate, if_pos hlt4] at hx; exact (Option.some.inj hx).symm
                  have e2 : x' = ⟨0, -2, 0, 0, 0⟩ := by rw [List.getElem?_replicate, if_pos hlt4] at hx'; exact (Option.some.inj hx').symm
                  subst e1; subst e2
                  simp only at g1 g1'
                  by_cases hin : k4 < N
                  · obtain ⟨h, ogg, y, rfl, hy, _, f1, _, _, _⟩ := own_cells HQ1.out (List.length_replicate ..) hin
                    obtain ⟨h', ogg', y', rfl, hy', _, f1', _, _, _⟩ := own_cells HQ3.out (List.length_replicate ..) hin
                    have e1 : y = ⟨0, -1, 0, 0, 0⟩ := by rw [List.getElem?_replicate, if_pos hin] at hy; exact (Option.some.inj hy).symm
                    have e2 : y' = ⟨0, -2, 0, 0, 0⟩ := by rw [List.getElem?_replicate, if_pos hin] at hy'; exact (Option.some.inj hy').symm
                    subst e1; subst e2
                    simp only at f1 f1'
                    clear hx hx' hy hy'
                    go_wp2_with fail
                    go_roundw
                    case rel => exact ⟨k4 + 1, by omega, by go_num, trivial⟩
                    case measure => simp [intOf]; omega
                  · clear hx hx'
                    go_wp2_with fail
                    go_roundw
                    case rel => exact ⟨k4 + 1, by omega, by go_num, trivial⟩
                    case measure => simp [intOf]; omega
                · go_wp2_with fail
                  refine HRT.out.mono ?_
                  rintro e w11 ⟨ro, rcap, rfl, hr, hro, hrf⟩
                  have HS11 : Hid (Calls Try.prog 41 #[.slice ro N rcap, .slice wo N cw] w11 fun e w' => e = .returned (.bool true) ∧ Off [] w11 w') := by
                    refine same41 _ _ L w11 ?_ ?_ (by have := HN.out; omega)
                    · rw [← HN.out]; exact hr
                    · rw [← HN.out]; exact HC10.out.off hro (by simp)
                  have HT11 := Lib.hid (HT10.out.off hro (by simp))
                  have HO11 := Lib.hid (HO10.out.trans hro (by simp))
                  clear hr hro hrf HRT HQ1 HQ2 HQ3 HQ4
                  go_wp2_with fail
                  refine HS11.out.mono ?_
                  rintro e w12 ⟨rfl, ho12⟩
                  have HCT := Lib.hid (count36 (HT11.out.off ho12 (by simp)))
                  rw [← HN.out] at HCT
                  have HEND := Lib.hid ((HO11.out.trans ho12 (by simp)).below)
                  clear ho12 HS11
                  go_wp2_with fail
                  refine HCT.out.mono ?_
                  rintro e w13 ⟨rfl, rfl⟩
                  go_wp2_with fail
                  go_ret
                  exact ⟨rfl, HEND.out⟩
end Go.Proofs.Ytlhmcbcoaplcaaa
