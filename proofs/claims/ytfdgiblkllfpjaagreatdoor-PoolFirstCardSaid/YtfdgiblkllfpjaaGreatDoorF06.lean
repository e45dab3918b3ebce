/- PoolFirst: does of a turn that pins a page. -/
import Derived.Test.YtfdgiblkllfpjaaGreatDoorF05
set_option linter.unusedVariables false
set_option linter.unusedSimpArgs false
namespace Go.Proofs.YtfdgiblkllfpjaaGreatDoor
open Go.ChangeShapes Go.WideShapes Go.ChangeAt Go.RowKit

theorem RunF.push {w0 w7 : World} {r d g p N : Nat} {t : Nat → Nat} {cur cur' : Nat → List UInt8} {K M : Nat} {c : Nat → Nat} {was : List (List (List UInt8))} {F7 : Fp3} {rf : List Nat} {a : Nat} {S : List UInt8} (hL : FW w0 d g p t N cur' (fun n => if n = a then wfOf was a ++ [S] else wfOf was n) K c F7 w7) (hR : RunR w7 r d g p N was false rf) (hrf : ∀ z ∈ rf, w0.heap.size ≤ z ∧ z ∉ F7.d ++ F7.l ++ F7.p) (hC : Cur N cur M was) (ha : a < N) (hcur : cur' a = S ∧ ∀ n, n ≠ a → cur' n = cur n) :
    ∃ l wb woff wc xo xc, was[a]? = some (l ++ [cur a]) ∧ l.length ≤ M ∧ w7.cell? ⟨r, 4, none⟩ = some (.slice (some ⟨wb, woff, none⟩) was.length wc) ∧ w7.cell? ⟨wb, woff + a, none⟩ = some (.slice xo (l.length + 1) xc) ∧ (∀ o, w7.frozen? ⟨wb, o, none⟩ = false) ∧ Own w7 9 1 (.slice xo (l.length + 1) xc) (l.length + 1) (strsV (l ++ [cur a])) ∧ was.length = N ∧ r ≠ wb ∧
      ∀ ao cap W2, Own W2 9 1 (.slice ao (l.length + 1 + 1) cap) (l.length + 1 + 1) (strsV (l ++ [cur a]) ++ [.string (strB S)]) → Off (blk (.slice xo (l.length + 1) xc)) w7 W2 → (blk (.slice ao (l.length + 1 + 1) cap) = blk (.slice xo (l.length + 1) xc) ∨ ∀ z ∈ blk (.slice ao (l.length + 1 + 1) cap), w7.heap.size ≤ z) →
        W2.cell? ⟨wb, woff + a, none⟩ = some (.slice xo (l.length + 1) xc) ∧ (∀ o, W2.frozen? ⟨wb, o, none⟩ = false) ∧ W2.cell? ⟨r, 4, none⟩ = some (.slice (some ⟨wb, woff, none⟩) was.length wc) ∧
          (∃ rf8, RunF w0 r d g p t N cur' K (M + 1) c (was.set a ((l ++ [cur a]) ++ [S])) F7 rf8 (W2.setCell ⟨wb, woff + a, none⟩ (.slice ao (l.length + 1 + 1) cap))) ∧ Off rf w7 (W2.setCell ⟨wb, woff + a, none⟩ (.slice ao (l.length + 1 + 1) cap)) := by
  have hlt := hR.lt
  obtain ⟨wv, fw, i1, i2, rfl, i3, i4⟩ := hR
  obtain ⟨l, hl, hlm⟩ := hC a ha
  obtain ⟨wb, woff, wc, x, rfl, e1, e2, e3, e4, e5, e6⟩ := i2.at hl
  obtain ⟨xo, xc, rfl, _⟩ := Own.val e2
  have hll : (l ++ [cur a]).length = l.length + 1 := by simp
  unfold StrsAt at e2
  rw [hll] at e1 e2 e4 e5
  obtain ⟨n1, n2⟩ := List.nodup_cons.1 i3
  refine ⟨l, wb, woff, wc, xo, xc, hl, hlm, by rw [i1.cell]; rfl, e1, e3, e2, i4, fun e => n1 (e ▸ e6), fun ao cap W2 o1 o2 o3 => ?_⟩
  have hrx : r ∉ blk (.slice xo (l.length + 1) xc) := fun hz => n1 (e5 r hz)
  have j1 := i1.off o2 hrx
  refine ⟨by rw [World.cell?_of_block (a := ⟨wb, woff + a, none⟩) (o2.old wb (i2.lt wb e6) e4)]; exact e1, fun o => ?_, by rw [j1.cell]; rfl, ?_⟩
  · have q := o2.old wb (i2.lt wb e6) e4
    have q2 := e3 o
    unfold World.frozen? at q2 ⊢
    rw [q]; exact q2
  have o1' : Own W2 9 1 (.slice ao ((l ++ [cur a]).length + 1) cap) ((l ++ [cur a]).length + 1) (strsV (l ++ [cur a]) ++ [.string (strB S)]) := by rw [hll]; exact o1
  obtain ⟨fp', p1, p2, p3⟩ := i2.push hl (x := .slice xo (l.length + 1) xc) e1 S o1' o2 (by rw [hll]; exact o3)
  rw [hll] at p1 p2
  have hrfp : r ∉ fp' := fun hz => by
    rcases p3 r hz with q | q
    · exact n1 q
    · have := i1.lt; omega
  have hFlt := hL.since.2
  have p2' : Off (r :: fw) w7 (W2.setCell ⟨wb, woff + a, none⟩ (.slice ao (l.length + 1 + 1) cap)) := p2.mono (fun z hz => .inl (by simp [hz]))
  refine ⟨⟨r :: fp', (hL.write p2' hrf).more (fun n x hx => ?_), ⟨.slice (some ⟨wb, woff, none⟩) was.length wc, fp', i1.off p2 n1, ?_, rfl, List.nodup_cons.2 ⟨hrfp, ?_⟩, by rw [List.length_set]; exact i4⟩, fun z hz => ?_, fun n hn => ?_⟩, p2'⟩
  · have hlt := (List.getElem?_eq_some_iff.1 hl).1
    by_cases e : n = a
    · subst e
      simp only [if_true] at hx
      unfold wfOf at hx ⊢
      rw [List.getElem?_set_self hlt]
      rw [hl] at hx; exact hx
    · rw [if_neg e] at hx
      unfold wfOf at hx ⊢
      rw [List.getElem?_set_ne (Ne.symm e)]; exact hx
  · exact p1
  · obtain ⟨_, _, _, _, _, q⟩ := p1; exact q
  · rcases List.mem_cons.1 hz with e | e
    · rw [e]; exact hrf r (by simp)
    · rcases p3 z e with q | q
      · exact hrf z (by simp [q])
      · exact ⟨by have := hL.since.1.size; omega, fun hz' => by have := (hFlt z hz').2; omega⟩
  · by_cases e : n = a
    · subst e
      refine ⟨l ++ [cur n], ?_, by rw [hll]; omega⟩
      rw [List.getElem?_set_self (List.getElem?_eq_some_iff.1 hl).1, hcur.1]
    · obtain ⟨l', h1, h2⟩ := hC n hn
      exact ⟨l', by rw [List.getElem?_set_ne (Ne.symm e), hcur.2 n e]; exact h1, by omega⟩
theorem RunF.lastAt {w0 w : World} {r d g p N : Nat} {t : Nat → Nat} {cur : Nat → List UInt8} {K M : Nat} {c : Nat → Nat} {was : List (List (List UInt8))} {F : Fp3} {rf : List Nat} (h : RunF w0 r d g p t N cur K M c was F rf w) (hM : M < 4000000000000) {a : Nat} (ha : a < N) :
    Calls Tryz.prog 34 #[.pointer (some ⟨r, 0, none⟩), .int .i64 (a : Nat)] w fun e w' => e = .returned (.string (strB (cur a))) ∧ Off [] w w' := by
  obtain ⟨l, h1, h2⟩ := h.2.2.2 a ha
  exact last34 h.2.1 h1 (by omega)
set_option maxRecDepth 100000 in
set_option maxHeartbeats 16000000 in
theorem doesF_pin {w0 w : World} {r d g p N : Nat} {t : Nat → Nat} {cur : Nat → List UInt8} {K M : Nat} {was : List (List (List UInt8))} {F : Fp3} {rf : List Nat} (ht : Tbl t w0) (h : RunF w0 r d g p t N cur K M (fun _ => 0) was F rf w) (hK : K + 200 < 400000000000000000) (hM : M < 3000000000000) (hN : 1 ≤ N ∧ N ≤ 15) (kd tn pk : Int) (bo : Option Addr) (bc : Nat) (bl : List UInt8) (hbl : bl.length ≤ 140737488355328) (hb : ReadB w0 (.slice bo bl.length bc) bl) (hk : kd = 3 ∨ kd = 1 ∨ kd = 2) :
    Calls Tryz.prog 74 #[.pointer (some ⟨r, 0, none⟩), turnV kd tn pk (.slice bo bl.length bc)] w (DoesF w0 r d g p t N (K + 100) (M + 1)) := by
  have HH := Lib.hid h
  have HT := Lib.hid ht
  obtain ⟨a, ha, ha'⟩ := emod_natN tn hN.1
  have HRE : Hid (∀ W, Calls Tryz.prog 25 #[.int .i64 tn, .int .i64 (N : Int)] W fun e w' => e = .returned (.int .i64 (a : Int)) ∧ W = w') := Lib.hid (fun W => by rw [← ha]; exact rest25 tn N (by omega) (by omega) W)
  have HFT : Hid (∀ W, Off [] w0 W → Calls Tryz.prog 15 #[.slice bo bl.length bc, .int .i64 1] W (FreshB W (fitB bl))) := Lib.hid (fun W ho => fitted15 (hb.off ho) hbl)
  obtain ⟨P, hP⟩ : ∃ P, P = DoesF w0 r d g p t N (K + 100) (M + 1) := ⟨_, rfl⟩
  rw [← hP]
  have HFIN : Hid (∀ cur was K' M' F' rf' W, K' ≤ K + 100 → M' ≤ M + 1 → RunF w0 r d g p t N cur K' M' (fun _ => 0) was F' rf' W → P (.returned (.bool true)) W) := Lib.hid (fun cur was K' M' F' rf' W hk' hm' hh => by
    rw [hP]
    exact ⟨rfl, was, F', rf', .inl ⟨cur, hh.mono hk' (by omega) hm' (fun _ _ => rfl)⟩⟩)
  have HDIE : Hid (∀ F' W, RunX w0 r d g p t N false was F' rf W → P (.returned (.bool true)) (W.setCell ⟨r, 5, none⟩ (.bool true))) := Lib.hid (fun F' W hh => by
    rw [hP]
    exact ⟨rfl, was, F', rf, .inr hh.die⟩)
  have HRD := Lib.hid hb
  clear hP h ht ha hb hbl
  have HA := Lib.hid (And.intro ha' (And.intro hK (And.intro hM hN)))
  clear ha' hK hM hN
  generalize hbn : bl.length = bn at *
  clear hbn
  unfold turnV
  go_enter Tryz.func74, Tryz.ntmps74
  go_upto_region 1 with fail
  refine gen_world (Φ := fun V => IsC V w.heap.size #[.int .i64 kd, .int .i64 tn, .int .i64 pk, .slice bo bn bc] 143 ∧ RunF w0 r d g p t N cur K M (fun _ => 0) was F rf V ∧ (∀ z ∈ F.d ++ F.l ++ F.p, z ≠ w.heap.size) ∧ (∀ z ∈ rf, z ≠ w.heap.size) ∧ Off [] w V) ⟨IsC.new _ _ _, HH.out.quiet ((Off.refl [] w).alloc _), fun z hz e => by have := (HH.out.1.since.2 z hz).2; omega, fun z hz e => by have := HH.out.2.1.lt z hz; omega, (Off.refl [] w).alloc _⟩ ?_
  rintro V ⟨v1, v2, v3, v4, v5⟩
  have HV := Lib.hid (And.intro v1 (And.intro v2 (And.intro v3 (And.intro v4 v5))))
  obtain ⟨c0, c1, c2, c3, c5⟩ := v2.cells
  have b0 := v1.cell 0
  have b1 := v1.cell 1
  have b2 := v1.cell 2
  simp only [List.getElem?_toArray, List.getElem?_cons_zero, List.getElem?_cons_succ] at b0 b1 b2
  clear v1 v2 v3 v4 v5
  have HTB : Hid (∀ z ∈ F.d ++ F.l ++ F.p, z < w.heap.size) := Lib.hid (fun z hz => (HH.out.1.since.2 z hz).2)
  go_wp2_with fail
  go_quiet ((go_at_call 25; exact Calls.quiet_of_same ((HRE.out _).mono (fun e w' hh => ⟨hh.1, hh.2.symm⟩))))
  have HPI : Hid (∀ W, Off [] (V.drewN nq) W → Calls Tryz.prog 16 #[.pointer (some ⟨p, 0, none⟩), .int .i64 (a : Int), .int .i64 pk] W fun e w' => ∃ ao rn cap er F1, e = .returned (.tuple #[.slice ao rn cap, .int .i64 er]) ∧ Acc3 F W F1 w' ∧ ((er = 0 ∧ rn = 40 ∧ FW w0 d g p t N cur (wfOf was) (K + 7) (bump (fun _ => 0) a) F1 w' ∧ IsB w' (.slice ao 40 cap) (cur a) ∧ ∀ z ∈ blk (.slice ao 40 cap), W.heap.size ≤ z ∧ z ∉ F1.d ++ F1.l ++ F1.p) ∨ (er = 1 ∧ XW w0 d g p t N (wfOf was) F1 w'))) := Lib.hid (fun W ho => by
    refine (((HV.out.2.1.quiet ((Off.refl [] V).drewN nq)).1.quiet ho).pin HT.out (fun _ _ => rfl) (by have := HA.out; omega) a HA.out.1 pk).mono ?_
    rintro e w' (⟨F1, ao, cap, rfl, hL, hA, hB, hF⟩ | ⟨rfl, F1, hL, hA⟩)
    · exact ⟨ao, 40, cap, 0, F1, rfl, hA, .inl ⟨rfl, rfl, hL, hB, hF⟩⟩
    · exact ⟨none, 0, 0, 1, F1, rfl, hA, .inr ⟨rfl, hL⟩⟩)
  have HKS : Hid (∀ W, Off (F.d ++ F.l ++ F.p) (V.drewN nq) W → W.cell? ⟨r, 2, none⟩ = some (.pointer (some ⟨p, 0, none⟩)) ∧ W.cell? ⟨w.heap.size, 2, none⟩ = some (.int .i64 pk)) := Lib.hid (fun W ho => by
    have hq := HV.out.2.1.quiet ((Off.refl [] V).drewN nq)
    have hq2 := hq
    obtain ⟨wv, fw, _, _, rfl, _⟩ := hq.2.1
    exact ⟨ho.cell hq2.cells.2.2.1 (hq2.2.2.1 r (by simp)).2, ho.cell (by rw [(HV.out.1.off ((Off.refl [] V).drewN nq) (by simp)).cell]; rfl) (fun hz => HV.out.2.2.1 _ hz rfl)⟩)
  rcases hk with rfl | hk
  · go_wp2_with fail
    go_region_held3 (fun W => W.cell? ⟨r, 2, none⟩ = some (.pointer (some ⟨p, 0, none⟩)) ∧ W.cell? ⟨w.heap.size, 2, none⟩ = some (.int .i64 pk))
      (first | exact HKS.out _ (Off.refl _ _) | exact HKS.out _ (Off.refl _ _).drew | exact HKS.out _ HOL.out | fail)
      (first
      | (go_at_call 16; refine (HPI.out _ (by first | exact Off.refl _ _ | exact (Off.refl _ _).drew)).mono ?_; rintro e w1 ⟨ao, rn, cap, er, F1, rfl, hA, hor⟩; have HOR0 := Lib.hid hor; have HLA0 := Lib.hid hA; have HOL : Hid (Off (F.d ++ F.l ++ F.p) (V.drewN nq) w1) := Lib.hid (by first | exact hA.1 | exact ((Off.refl _ _).drew).trans hA.1 (fun z hz => .inl hz)); clear hor hA))
    rcases HOR0.out with ⟨rfl, rfl, hL0, hB0, hF0⟩ | ⟨rfl, hL0⟩
    rotate_left
    · have hx := (HV.out.2.1.quiet (((Off.refl [] V).drewN nq).drew)).dies hL0 HLA0.out
      obtain ⟨_, _, x5, xf⟩ := hx.cells
      have HF := Lib.hid (HDIE.out _ w1 hx)
      clear HLA0 HOR0 HPI HKS hL0 hx c0 c1 c2 c3 c5 b0 b1 b2
      go_wp2_with (go_at_call 9; refine (num9 _ _).mono ?_; rintro e w' ⟨rfl, rfl⟩)
      first | exact HF.out | (go_ret; exact HF.out)
    have HLA := Lib.hid (And.intro hL0 (And.intro HLA0.out (And.intro hB0 hF0)))
    clear hL0 hB0 hF0 HOR0
    have HW1 : Hid (RunF w0 r d g p t N cur (K + 7) M (bump (fun _ => 0) a) was F1 rf w1) := Lib.hid ((HV.out.2.1.quiet (((Off.refl [] V).drewN nq).drew)).step HLA.out.1 HLA.out.2.1)
    go_wp2_with (go_at_call 9; refine (num9 _ _).mono ?_; rintro e w' ⟨rfl, rfl⟩)
    have HBX : Hid (IsC w1 w.heap.size #[.int .i64 3, .int .i64 tn, .int .i64 pk, .slice bo bn bc] 143) := Lib.hid ((HV.out.1.off (((Off.refl [] V).drewN nq).drew) (by simp)).off HLA.out.2.1.1 (fun hz => HV.out.2.2.1 _ hz rfl))
    have HCV : Hid (∀ W, Off [] w1 W → (convert 22 9 (.slice ao 40 cap)).run Tryz.prog W = .ok (.string (strB (cur a))) W) := Lib.hid (fun W ho => (HLA.out.2.2.1.off ho (by simp)).str)
    have HLS : Hid (∀ W, Off [] w1 W → Calls Tryz.prog 34 #[.pointer (some ⟨r, 0, none⟩), .int .i64 (a : Nat)] W fun e w' => e = .returned (.string (strB (cur a))) ∧ Off [] W w') := Lib.hid (fun W ho => (HW1.out.quiet ho).lastAt (by have := HA.out; omega) HA.out.1)
    go_region_held3 (fun W => (convert 22 9 (.slice ao 40 cap)).run Tryz.prog W = .ok (.string (strB (cur a))) W)
      (first | exact HCV.out _ (Off.refl _ _) | exact HCV.out _ (Off.refl _ _).drew | exact HCV.out _ HO2.out | fail)
      (first
      | (go_at_call 34; refine (HLS.out _ (by first | exact Off.refl _ _ | exact (Off.refl _ _).drew)).mono ?_; rintro e w2 ⟨rfl, ho2⟩; have HO2 : Hid (Off [] w1 w2) := Lib.hid (by first | exact ho2 | exact ((Off.refl _ _).drew).trans ho2 (by simp)); clear ho2))
    have hx2 := HBX.out.off HO2.out (by simp)
    have d0 := hx2.cell 0
    simp only [List.getElem?_toArray, List.getElem?_cons_zero] at d0
    have HW2 := Lib.hid (HW1.out.quiet HO2.out)
    obtain ⟨f0, f1, f2, f3, f5⟩ := HW2.out.cells
    have HUN := Lib.hid (HW2.out.1.unpin a HA.out.1 (by unfold bump; rw [if_pos rfl]; omega))
    clear hx2 HCV HLS HLA HPI HKS c0 c1 c2 c3 c5 b0 b1 b2
    go_wp2_with fail
    refine HUN.out.mono ?_
    rintro e w3 ⟨rfl, F3, hL3, hA3⟩
    have HF := Lib.hid (HFIN.out _ _ _ _ _ _ w3 (Nat.le_add_right _ 93) (by omega) ((HW2.out.step hL3 hA3).mono (K' := K + 7) (Nat.le_refl _) (by have := HA.out; omega) (Nat.le_refl _) (fun n _ => by unfold drop1 bump; split <;> rfl)))
    clear hL3 hA3 HUN f0 f1 f2 f3 f5 d0
    go_wp2_with (go_at_call 9; refine (num9 _ _).mono ?_; rintro e w' ⟨rfl, rfl⟩)
    first | exact HF.out | (go_ret; exact HF.out)
  · rcases hk with rfl | rfl
    all_goals
      go_wp2_with fail
      go_region_held3 (fun W => W.cell? ⟨r, 2, none⟩ = some (.pointer (some ⟨p, 0, none⟩)) ∧ W.cell? ⟨w.heap.size, 2, none⟩ = some (.int .i64 pk))
        (first | exact HKS.out _ (Off.refl _ _) | exact HKS.out _ (Off.refl _ _).drew | exact HKS.out _ HOL.out | fail)
        (first
        | (go_at_call 16; refine (HPI.out _ (by first | exact Off.refl _ _ | exact (Off.refl _ _).drew)).mono ?_; rintro e w1 ⟨ao, rn, cap, er, F1, rfl, hA, hor⟩; have HOR0 := Lib.hid hor; have HLA0 := Lib.hid hA; have HOL : Hid (Off (F.d ++ F.l ++ F.p) (V.drewN nq) w1) := Lib.hid (by first | exact hA.1 | exact ((Off.refl _ _).drew).trans hA.1 (fun z hz => .inl hz)); clear hor hA))
      rcases HOR0.out with ⟨rfl, rfl, hL0, hB0, hF0⟩ | ⟨rfl, hL0⟩
      rotate_left
      · have hx := (HV.out.2.1.quiet (((Off.refl [] V).drewN nq).drew)).dies hL0 HLA0.out
        obtain ⟨_, _, x5, xf⟩ := hx.cells
        have HF := Lib.hid (HDIE.out _ w1 hx)
        clear HLA0 HOR0 HPI HKS hL0 hx c0 c1 c2 c3 c5 b0 b1 b2
        go_wp2_with (go_at_call 9; refine (num9 _ _).mono ?_; rintro e w' ⟨rfl, rfl⟩)
        first | exact HF.out | (go_ret; exact HF.out)
      have HLA := Lib.hid (And.intro hL0 (And.intro HLA0.out (And.intro hB0 hF0)))
      clear hL0 hB0 hF0 HOR0
      have HW1 : Hid (RunF w0 r d g p t N cur (K + 7) M (bump (fun _ => 0) a) was F1 rf w1) := Lib.hid ((HV.out.2.1.quiet (((Off.refl [] V).drewN nq).drew)).step HLA.out.1 HLA.out.2.1)
      go_wp2_with (go_at_call 9; refine (num9 _ _).mono ?_; rintro e w' ⟨rfl, rfl⟩)
      have hbx := (HV.out.1.off (((Off.refl [] V).drewN nq).drew) (by simp)).off HLA.out.2.1.1 (fun hz => HV.out.2.2.1 _ hz rfl)
      have HBX := Lib.hid hbx
      clear hbx
      have HCV : Hid (∀ W, Off [] w1 W → (convert 22 9 (.slice ao 40 cap)).run Tryz.prog W = .ok (.string (strB (cur a))) W) := Lib.hid (fun W ho => (HLA.out.2.2.1.off ho (by simp)).str)
      have HLS : Hid (∀ W, Off [] w1 W → Calls Tryz.prog 34 #[.pointer (some ⟨r, 0, none⟩), .int .i64 (a : Nat)] W fun e w' => e = .returned (.string (strB (cur a))) ∧ Off [] W w') := Lib.hid (fun W ho => (HW1.out.quiet ho).lastAt (by have := HA.out; omega) HA.out.1)
      go_region_held3 (fun W => (convert 22 9 (.slice ao 40 cap)).run Tryz.prog W = .ok (.string (strB (cur a))) W)
        (first | exact HCV.out _ (Off.refl _ _) | exact HCV.out _ (Off.refl _ _).drew | exact HCV.out _ HO2.out | fail)
        (first
        | (go_at_call 34; refine (HLS.out _ (by first | exact Off.refl _ _ | exact (Off.refl _ _).drew)).mono ?_; rintro e w2 ⟨rfl, ho2⟩; have HO2 : Hid (Off [] w1 w2) := Lib.hid (by first | exact ho2 | exact ((Off.refl _ _).drew).trans ho2 (by simp)); clear ho2))
      have hx2 := HBX.out.off HO2.out (by simp)
      have d0 := hx2.cell 0
      have d2 := hx2.cell 2
      simp only [List.getElem?_toArray, List.getElem?_cons_zero, List.getElem?_cons_succ] at d0 d2
      have HX2 := Lib.hid hx2
      have HW2 := Lib.hid (HW1.out.quiet HO2.out)
      obtain ⟨f0, f1, f2, f3, f5⟩ := HW2.out.cells
      obtain ⟨x0, hx0, hx0'⟩ := emod_natN pk (N := 64) (by omega)
      have HR64 : Hid (∀ W, Calls Tryz.prog 25 #[.int .i64 pk, .int .i64 64] W fun e w' => e = .returned (.int .i64 (x0 : Int)) ∧ W = w') := Lib.hid (fun W => by
        have q := rest25 pk 64 (by decide) (by decide) W
        rw [show pk.emod 64 = (x0 : Int) from hx0] at q; exact q)
      obtain ⟨x, hx⟩ : ∃ x, x = x0 + 1 := ⟨_, rfl⟩
      have HXB : Hid (1 ≤ x ∧ x ≤ 64) := Lib.hid ⟨by omega, by omega⟩
      have hxw : IntKind.i64.wrap (1 + (x0 : Int)) = (x : Int) := by rw [IntKind.wrap_i64]; omega
      have HAP : Hid (∀ W, Off [] w2 W → Calls Tryz.prog 13 #[.pointer (some ⟨g, 0, none⟩), beginV (x : Nat)] W fun e w' => ∃ lsn er F', e = .returned (.tuple #[.int .i64 (lsn : Nat), .int .i64 er]) ∧ Acc3 F1 W F' w' ∧ ((er = 0 ∧ 1 ≤ lsn ∧ lsn ≤ 65537 ∧ FWL w0 d g p t N cur (wfOf was) (K + 7) (bump (fun _ => 0) a) F' lsn w') ∨ (er = 63 ∧ FW w0 d g p t N cur (wfOf was) (K + 7) (bump (fun _ => 0) a) F' w'))) := Lib.hid (fun W ho => by
        refine ((HW2.out.quiet ho).1.append HT.out x HXB.out.1 HXB.out.2).mono ?_
        rintro e w' (⟨lsn, F', q1, q2, rfl, q3, q4⟩ | ⟨rfl, F', q3, q4⟩)
        · exact ⟨lsn, 0, F', rfl, q4, .inl ⟨rfl, q1, q2, q3⟩⟩
        · exact ⟨0, 63, F', rfl, q4, .inr ⟨rfl, q3⟩⟩)
      unfold beginV at HAP
      have HKS2 : Hid (∀ W, Off (F1.d ++ F1.l ++ F1.p) w2 W → W.cell? ⟨r, 1, none⟩ = some (.pointer (some ⟨g, 0, none⟩)) ∧ W.cell? ⟨w.heap.size, 2, none⟩ = some (.int .i64 pk)) := Lib.hid (fun W ho => by
        have hq2 := HW2.out
        obtain ⟨wv, fw, _, _, rfl, _⟩ := HW2.out.2.1
        exact ⟨ho.cell hq2.cells.2.1 (hq2.2.2.1 r (by simp)).2, ho.cell (by rw [HX2.out.cell]; rfl) (fun hz => HLA.out.2.1.beside (S := [w.heap.size]) (fun z hz' => by simp at hz'; subst hz'; exact ⟨(HV.out.1.off (((Off.refl [] V).drewN nq).drew) (by simp)).lt, fun hz2 => HV.out.2.2.1 _ hz2 rfl⟩) w.heap.size (by simp) hz)⟩)
      clear hx2 HCV HLS HPI HKS c0 c1 c2 c3 c5 b0 b1 b2 hx0 hx0' hx
      go_wp2_with fail
      go_region_held3 (fun W => W.cell? ⟨r, 1, none⟩ = some (.pointer (some ⟨g, 0, none⟩)) ∧ W.cell? ⟨w.heap.size, 2, none⟩ = some (.int .i64 pk))
        (first | exact HKS2.out _ (Off.refl _ _) | exact HKS2.out _ (Off.refl _ _).drew | exact HKS2.out _ HOL3.out | fail)
        (first
        | (go_at_call 25; refine (HR64.out _).mono ?_; rintro e wx ⟨rfl, rfl⟩)
        | (go_at_call 13; refine (HAP.out _ (by first | exact Off.refl _ _ | exact (Off.refl _ _).drew)).mono ?_; rintro e w3 ⟨lsn, er, F3, rfl, hA3, hor⟩; have HOR := Lib.hid hor; have HA3 := Lib.hid hA3; have HOL3 : Hid (Off (F1.d ++ F1.l ++ F1.p) w2 w3) := Lib.hid (by first | exact hA3.1 | exact ((Off.refl _ _).drew).trans hA3.1 (fun z hz => .inl hz)); clear hor hA3))
      have HW2D := Lib.hid (HW2.out.quiet ((Off.refl [] w2).drew))
      have hbx3 := HX2.out.off HOL3.out (fun hz => HLA.out.2.1.beside (S := [w.heap.size]) (fun z hz' => by simp at hz'; subst hz'; exact ⟨(HV.out.1.off (((Off.refl [] V).drewN nq).drew) (by simp)).lt, fun hz2 => HV.out.2.2.1 _ hz2 rfl⟩) w.heap.size (by simp) hz)
      have HB3 := Lib.hid hbx3
      clear hbx3 f0 f1 f2 f3 f5 d0 d2 HAP HKS2 HR64
      rcases HOR.out with ⟨rfl, hl1, hl2, hL⟩ | ⟨rfl, hL⟩
      · have HW3 := Lib.hid (HW2D.out.step hL.fw HA3.out)
        have HL3 := Lib.hid hL
        have HLN : Hid (1 ≤ lsn ∧ lsn ≤ 65537) := Lib.hid ⟨hl1, hl2⟩
        obtain ⟨f0, f1, f2, f3, f5⟩ := HW3.out.cells
        have d3 := HB3.out.cell 3
        simp only [List.getElem?_toArray, List.getElem?_cons_zero, List.getElem?_cons_succ] at d3
        have HFT3 : Hid (∀ W, Off [] w3 W → Calls Tryz.prog 15 #[.slice bo bn bc, .int .i64 1] W (FreshB W (fitB bl))) := Lib.hid (fun W ho => HFT.out W (HW3.out.off0.trans ho (by simp)))
        clear hL hl1 hl2
        go_wp2_with (go_at_call 9; refine (num9 _ _).mono ?_; rintro e w' ⟨rfl, rfl⟩)
        refine (HFT3.out _ (Off.refl _ _)).mono ?_
        rintro e w4 ⟨vo4, vc4, rfl, x1, x2, x3⟩
        rw [fitB_len] at x1 x3 ⊢
        have HST : Hid (Calls Tryz.prog 18 #[.slice vo4 40 vc4, .int .i64 (a : Int), .int .i64 (lsn : Int)] w4 (StampPost w4 (stampB t (fitB bl) a lsn))) := Lib.hid (stamp18 _ (fitB bl) a lsn (by have := HA.out; omega) (by have := HLN.out; omega) w4 ((HT.out.off (HW3.out.off0.trans x2 (by simp)) (by simp))) x1 (by rw [fitB_len, slots40]; omega))
        have HX4 := Lib.hid x2
        obtain ⟨S, hS⟩ : ∃ S, S = stampB t (fitB bl) a lsn := ⟨_, rfl⟩
        have HSL : Hid (S.length = 40) := Lib.hid (by rw [hS, stampB_len _ _ _ _ (by rw [fitB_len]; omega), fitB_len])
        have HSE := Lib.hid hS
        rw [← hS] at HST
        clear x1 x2 x3 hS
        go_wp2_with fail
        refine HST.out.mono ?_
        rintro e w5 ⟨co, cc, rfl, y1, y2, y3⟩
        rw [HSL.out] at y1 y3 ⊢
        have HC5 : Hid (IsB w5 (.slice co 40 cc) S ∧ Off [] w3 w5 ∧ ∀ z ∈ blk (.slice co 40 cc), w3.heap.size ≤ z) := Lib.hid ⟨y1, HX4.out.trans y2 (by simp), fun z hz => by have := y3 z hz; have := HX4.out.size; omega⟩
        have HL5 := Lib.hid (HL3.out.quiet HC5.out.2.1)
        have HCH : Hid (∀ W v, Off [] w5 W → IsB W v (fitB bl) → (∀ z ∈ blk v, w5.heap.size ≤ z) → Calls Tryz.prog 17 #[.pointer (some ⟨p, 0, none⟩), .int .i64 (a : Int), v, .int .i64 (lsn : Nat)] W (fun e w' => e = .returned (.int .i64 0) ∧ FStep w0 d g p t N (fun n => if n = a then S else cur n) (fun n => if n = a then wfOf was a ++ [S] else wfOf was n) (K + 7) (bump (fun _ => 0) a) F3 W w')) := Lib.hid (fun W v ho hb hv => by
          rw [HSE.out]
          exact (HL5.out.quiet ho).change HT.out HLN.out.1 a HA.out.1 (by unfold bump; rw [if_pos rfl]; omega) v (fitB bl) hb (fitB_len bl) (fun z hz hz' => by
            have := hv z hz
            have := (HL5.out.fw.since.2 z (by simp [hz'])).2
            omega) (fun n x hx => by
            by_cases e : n = a
            · subst e; simp only [if_true]; exact List.mem_append.2 (.inl hx)
            · rw [if_neg e]; exact hx) (by simp only [if_true]; exact List.mem_append.2 (.inr (by simp))))
        have HKS5 : Hid (∀ W, Off (F3.d ++ F3.l ++ F3.p) w5 W → W.cell? ⟨r, 2, none⟩ = some (.pointer (some ⟨p, 0, none⟩)) ∧ W.cell? ⟨w.heap.size, 3, none⟩ = some (.slice bo bn bc)) := Lib.hid (fun W ho => by
          have hq2 := HW3.out.quiet HC5.out.2.1
          have hr := hq2.2.2.1
          obtain ⟨wv, fw, _, _, rfl, _⟩ := HW3.out.2.1
          refine ⟨ho.cell hq2.cells.2.2.1 (hr r (by simp)).2, ho.cell (by rw [(HB3.out.off HC5.out.2.1 (by simp)).cell]; rfl) (fun hz => ?_)⟩
          have h1 := HLA.out.2.1.beside (S := [w.heap.size]) (fun z hz' => by simp at hz'; subst hz'; exact ⟨(HV.out.1.off (((Off.refl [] V).drewN nq).drew) (by simp)).lt, fun hz2 => HV.out.2.2.1 _ hz2 rfl⟩)
          exact HA3.out.beside (S := [w.heap.size]) (fun z hz' => by simp at hz'; subst hz'; exact ⟨(HX2.out.off ((Off.refl [] w2).drew) (by simp)).lt, h1 _ (by simp)⟩) w.heap.size (by simp) hz)
        clear y1 y2 y3 HST f0 f1 f2 f3 f5 d3
        go_wp2_with fail
        have HFT5 : Hid (∀ W, Off [] w5 W → Calls Tryz.prog 15 #[.slice bo bn bc, .int .i64 1] W fun e w' => ∃ ao cap, e = .returned (.slice ao 40 cap) ∧ IsB w' (.slice ao 40 cap) (fitB bl) ∧ Off [] W w' ∧ ∀ z ∈ blk (.slice ao 40 cap), W.heap.size ≤ z) := Lib.hid (fun W ho => by
          refine (HFT3.out W (HC5.out.2.1.trans ho (by simp))).mono ?_
          rintro e w' ⟨ao, cap, rfl, p1, p2, p3⟩
          rw [fitB_len] at p1 p3 ⊢
          exact ⟨ao, cap, rfl, p1, p2, p3⟩)
        go_region_held3 (fun W => W.cell? ⟨r, 2, none⟩ = some (.pointer (some ⟨p, 0, none⟩)) ∧ W.cell? ⟨w.heap.size, 3, none⟩ = some (.slice bo bn bc))
          (first | exact HKS5.out _ (Off.refl _ _) | exact HKS5.out _ (Off.refl _ _).drew | exact HKS5.out _ HO7.out | exact HKS5.out _ (HO6.out.mono (by simp)) | fail)
          (first
          | (go_at_call 9; refine (num9 _ _).mono ?_; rintro e wx ⟨rfl, rfl⟩)
          | (go_at_call 15; refine (HFT5.out _ (by first | exact Off.refl _ _ | exact (Off.refl _ _).drew)).mono ?_; rintro e w6 ⟨vo6, vc6, rfl, p1, p2, p3⟩; have HB6 := Lib.hid (And.intro p1 p3); have HO6 : Hid (Off [] w5 w6) := Lib.hid (by first | exact p2 | exact ((Off.refl _ _).drew).trans p2 (by simp)); clear p1 p2 p3)
          | (go_at_call 17; refine (HCH.out _ _ HO6.out HB6.out.1 (fun z hz => HB6.out.2 z hz)).mono ?_; rintro e w7 ⟨rfl, F7, hL7, hA7⟩; have HL7 := Lib.hid (And.intro hL7 hA7); have HO7 : Hid (Off (F3.d ++ F3.l ++ F3.p) w5 w7) := Lib.hid ((HO6.out.mono (by simp)).trans hA7.1 (fun z hz => .inl hz)); clear hL7 hA7))
        have HR7 : Hid (RunR w7 r d g p N was false rf) := Lib.hid ((HW3.out.2.1.off HC5.out.2.1 (by simp)).off HO7.out (fun z hz => (HW3.out.2.2.1 z hz).2))
        have HRF7 : Hid (∀ z ∈ rf, w0.heap.size ≤ z ∧ z ∉ F7.d ++ F7.l ++ F7.p) := Lib.hid (fun z hz => ⟨(HW3.out.2.2.1 z hz).1, HL7.out.2.beside (S := rf) (fun z hz => ⟨((HW3.out.2.1.off HC5.out.2.1 (by simp)).off HO6.out (by simp)).lt z hz, (HW3.out.2.2.1 z hz).2⟩) z hz⟩)
        have hpu := RunF.push (cur := cur) HL7.out.1 HR7.out HRF7.out HW3.out.2.2.2 HA.out.1 (S := S) ⟨by simp, fun n hn => by simp [hn]⟩
        have HCO : Hid (IsB w7 (.slice co 40 cc) S) := Lib.hid (HC5.out.1.off HO7.out (fun z hz hz' => by have := HC5.out.2.2 z hz; have := (HW3.out.1.since.2 z hz').2; omega))
        obtain ⟨l, wb, woff, wc, xo, xc, hl, hlm, r4, e1, e3, own7, hwl, hrw, hpush⟩ := hpu
        have HPU := Lib.hid hpush
        have hcv : (convert 22 9 (.slice co 40 cc)).run Tryz.prog w7.drew = .ok (.string (strB S)) w7.drew := (HCO.out.off (S := []) (Off.refl _ _).drew (by simp)).str
        have HOWN : Hid (∀ U, Off [] w7 U → Own U 9 1 (.slice xo (l.length + 1) xc) (l.length + 1) (strsV (l ++ [cur a]))) := Lib.hid (fun U ho => Own.off own7 ho (by simp))
        have HSR1 : Hid (Src Tryz.prog 1 140 (.slice (some ⟨w7.heap.size, 0, none⟩) 1 1) 1 [.string (strB S)] (w7.drew.alloc (.cells #[.string (strB S)] 9))) := Lib.hid (src_new (P := Tryz.prog) w7.drew (t := 140) (e := 9) (e' := 9) (sz := 1) #[.string (strB S)] 1 Tryz.underlying140 (by decide) rfl (by simp [Value.oneCell']))
        have HSR2 : Hid (Src Tryz.prog 1 140 (.slice (some ⟨w7.heap.size, 0, none⟩) 1 1) 1 [.string (strB S)] (w7.alloc (.cells #[.string (strB S)] 9)).drew) := Lib.hid ((Own.off (Own.new w7 9 1 #[.string (strB S)] 1 (by decide) rfl) (S := []) (Off.refl _ _).drew (by simp)).src Tryz.underlying140 (by simp [Value.oneCell']))
        have HBD : Hid ((l.length + 1 + 1) * 16 ≤ 140737488355328) := Lib.hid (by have := HA.out; omega)
        have ba1 : (0 : Int) ≤ (a : Int) := by omega
        have ba2 : (a : Int) < ((was.length : Nat) : Int) := by have := HA.out; omega
        obtain ⟨c0, c1, c2, c3, c5⟩ := (show RunR w7 r d g p N was false rf from HR7.out).cells0
        have HRW := Lib.hid hrw
        have e1d := ((Off.refl [] w7).drew).cell e1 (by simp)
        have e1a := ((Off.refl [] w7).alloc (.cells #[.string (strB S)] 9)).cell e1 (by simp)
        have e1b := (((Off.refl [] w7).drew).alloc (.cells #[.string (strB S)] 9)).cell e1 (by simp)
        have e1c := (((Off.refl [] w7).alloc (.cells #[.string (strB S)] 9)).drew).cell e1 (by simp)
        have r4d := ((Off.refl [] w7).drew).cell r4 (by simp)
        have r4a := ((Off.refl [] w7).alloc (.cells #[.string (strB S)] 9)).cell r4 (by simp)
        have r4b := (((Off.refl [] w7).drew).alloc (.cells #[.string (strB S)] 9)).cell r4 (by simp)
        have r4c := (((Off.refl [] w7).alloc (.cells #[.string (strB S)] 9)).drew).cell r4 (by simp)
        have hcv0 : (convert 22 9 (.slice co 40 cc)).run Tryz.prog w7 = .ok (.string (strB S)) w7 := (HCO.out).str
        clear hl hlm own7 hwl hrw hpush
        go_wp2_with (go_at_call 9; refine (num9 _ _).mono ?_; rintro e w' ⟨rfl, rfl⟩)
        have HKS7 : Hid (∀ W, Off [] w7 W → W.cell? ⟨r, 4, none⟩ = some (.slice (some ⟨wb, woff, none⟩) was.length wc)) := Lib.hid (fun W ho => ho.cell r4 (by simp))
        apply region_meetV (Φ := fun _ W => (∃ rf8, RunF w0 r d g p t N (fun n => if n = a then S else cur n) (K + 7) (M + 1) (bump (fun _ => 0) a) (was.set a ((l ++ [cur a]) ++ [S])) F7 rf8 W) ∧ Off rf w7 W)
        case h =>
          go_region_law (first | (go_must (refine step_app rfl _ _ 140 140 rfl rfl (HOWN.out _ (by first | exact ((Off.refl _ _).drew.alloc _) | exact ((Off.refl _ _).alloc _).drew)) Tryz.underlying140 iinfo9 rfl (by decide) rfl (by first | exact HSR1.out | exact HSR2.out) HBD.out ?_; intro ao8 cap8 W2 q1 q2 q3; have HOF8 := Lib.hid ((Off.mono (T := blk (.slice xo (l.length + 1) xc)) (S := []) (a := w7) (by first | exact ((Off.refl _ _).drew.alloc _) | exact ((Off.refl _ _).alloc _).drew) (by simp)).trans q2 (fun z hz => .inl hz)); obtain ⟨z1, z2, z3, z4, z5⟩ := HPU.out ao8 cap8 W2 q1 HOF8.out (q3.imp_right fun q z hz => by rw [q] at hz; rw [List.mem_singleton.1 hz]; exact Off.size (S := []) (by first | exact ((Off.refl _ _).drew.alloc _) | exact ((Off.refl _ _).alloc _).drew)); have HP8 := Lib.hid (And.intro z4 z5); clear q1 q2 q3 z4 z5)) | fail)
          all_goals
            have hp8 := HP8.out
            revert hp8
            generalize W2.setCell ⟨wb, woff + a, none⟩ (.slice ao8 (l.length + 1 + 1) cap8) = U
            generalize (Value.slice ao8 (l.length + 1 + 1) cap8) = v
            intro hp8
            exact ⟨v, rfl, hp8⟩
        case k =>
          intro v8 w8 h8
          obtain ⟨⟨rf8, h8a⟩, h8b⟩ := h8
          have HW8 := Lib.hid h8a
          have HC8 : Hid (IsB w8 (.slice co 40 cc) S) := Lib.hid (HCO.out.off h8b (fun z hz hz' => by have := HC5.out.2.2 z hz; have := HW3.out.2.1.lt z hz'; omega))
          have HLK := Lib.hid (HW8.out.1.look a HA.out.1 (by unfold bump; rw [if_pos rfl]; omega))
          clear h8a h8b c0 c1 c2 c3 c5 r4 e1 e3 e1d e1a hcv HPU HOWN HSR1 HSR2 HBD HKS7
          obtain ⟨f0, f1, f2, f3, f5⟩ := HW8.out.cells
          go_wp2_with fail
          refine HLK.out.mono ?_
          rintro e w9 ⟨ao9, cap9, rfl, l1, l2⟩
          have HCV9 : Hid (∀ W, Off [] w9 W → (convert 22 9 (.slice ao9 40 cap9)).run Tryz.prog W = .ok (.string (strB S)) W ∧ (convert 22 9 (.slice co 40 cc)).run Tryz.prog W = .ok (.string (strB S)) W) := Lib.hid (fun W ho => by
            refine ⟨?_, ((HC8.out.off l2 (by simp)).off ho (by simp)).str⟩
            have q := (l1.off ho (by simp)).str
            simp only [if_true] at q
            exact q)
          have HW9 := Lib.hid (HW8.out.quiet l2)
          obtain ⟨hv1, hv2⟩ := HCV9.out _ (Off.refl _ _)
          obtain ⟨hv3, hv4⟩ := HCV9.out _ (Off.refl _ _).drew
          clear l1 l2 HLK HC8 f0 f1 f2 f3 f5
          obtain ⟨f0, f1, f2, f3, f5⟩ := HW9.out.cells
          have HUN := Lib.hid (HW9.out.1.unpin a HA.out.1 (by unfold bump; rw [if_pos rfl]; omega))
          go_wp2_with fail
          refine HUN.out.mono ?_
          rintro e wA ⟨rfl, FA, hLA, hAA⟩
          have HF := Lib.hid (HFIN.out _ _ _ _ _ _ wA (Nat.le_add_right _ 93) (Nat.le_refl _) ((HW9.out.step hLA hAA).mono (K' := K + 7) (Nat.le_refl _) (by have := HA.out; omega) (Nat.le_refl _) (fun n _ => by unfold drop1 bump; split <;> rfl)))
          clear hLA hAA HUN f0 f1 f2 f3 f5 hv1 hv2 hv3 hv4
          go_wp2_with (go_at_call 9; refine (num9 _ _).mono ?_; rintro e w' ⟨rfl, rfl⟩)
          first | exact HF.out | (go_ret; exact HF.out)
      · have HW3 := Lib.hid (HW2D.out.step hL HA3.out)
        obtain ⟨f0, f1, f2, f3, f5⟩ := HW3.out.cells
        have HUN := Lib.hid (HW3.out.1.unpin a HA.out.1 (by unfold bump; rw [if_pos rfl]; omega))
        clear hL
        go_wp2_with (go_at_call 9; refine (num9 _ _).mono ?_; rintro e w' ⟨rfl, rfl⟩)
        refine HUN.out.mono ?_
        rintro e w4 ⟨rfl, F4, hL4, hA4⟩
        have HF := Lib.hid (HFIN.out _ _ _ _ _ _ w4 (Nat.le_add_right _ 93) (by omega) ((HW3.out.step hL4 hA4).mono (K' := K + 7) (Nat.le_refl _) (by have := HA.out; omega) (Nat.le_refl _) (fun n _ => by unfold drop1 bump; split <;> rfl)))
        clear hL4 hA4 HUN f0 f1 f2 f3 f5
        go_wp2_with (go_at_call 9; refine (num9 _ _).mono ?_; rintro e w' ⟨rfl, rfl⟩)
        first | exact HF.out | (go_ret; exact HF.out)
end Go.Proofs.YtfdgiblkllfpjaaGreatDoor

/- PoolFirst: any turn; all turns, up to the disk's death; the first state. -/
set_option linter.unusedVariables false
set_option linter.unusedSimpArgs false
namespace Go.Proofs.YtfdgiblkllfpjaaGreatDoor
open Go.ChangeShapes Go.WideShapes Go.ChangeAt Go.RowKit

theorem doesF {w0 w : World} {r d g p N : Nat} {t : Nat → Nat} {cur : Nat → List UInt8} {K M : Nat} {was : List (List (List UInt8))} {F : Fp3} {rf : List Nat} (ht : Tbl t w0) (h : RunF w0 r d g p t N cur K M (fun _ => 0) was F rf w) (hK : K + 200 < 400000000000000000) (hM : M < 3000000000000) (hN : 1 ≤ N ∧ N ≤ 15) (x : Tn) (hbl : x.bl.length ≤ 140737488355328) (hb : ReadB w0 x.sl x.bl) :
    Calls Tryz.prog 74 #[.pointer (some ⟨r, 0, none⟩), turnV x.kind x.n x.pick x.sl] w (DoesF w0 r d g p t N (K + 100) (M + 1)) := by
  by_cases h3 : x.kind = 3 ∨ x.kind = 1 ∨ x.kind = 2
  · exact doesF_pin ht h hK hM hN x.kind x.n x.pick x.bo x.bc x.bl hbl hb h3
  · refine doesF_other ht h hK hN x.kind x.n x.pick x.bo x.bl.length x.bc ?_
    by_cases h4 : x.kind = 4
    · exact .inl h4
    · by_cases h5 : x.kind = 5
      · exact .inr (.inl h5)
      · by_cases h6 : x.kind = 6
        · exact .inr (.inr (.inl h6))
        · refine .inr (.inr (.inr ⟨fun e => h3 (.inr (.inl e)), fun e => h3 (.inr (.inr e)), fun e => h3 (.inl e), h4, h5, h6⟩))
/-- All turns are done, or the disk has died. -/
def DoneF (w0 : World) (r d g p : Nat) (t : Nat → Nat) (N : Nat) (e : Ending) (w' : World) : Prop :=
  e = .returned (.bool true) ∧ ∃ dead was F rf, RunX w0 r d g p t N dead was F rf w'
set_option maxRecDepth 100000 in
set_option maxHeartbeats 8000000 in
theorem doneF30 {w0 w : World} {r d g p N : Nat} {t : Nat → Nat} {cur : Nat → List UInt8} {K M : Nat} {was : List (List (List UInt8))} {F : Fp3} {rf : List Nat} (ht : Tbl t w0) (h : RunF w0 r d g p t N cur K M (fun _ => 0) was F rf w) (hK : K ≤ 1000) (hM : M ≤ 10) (hN : 1 ≤ N ∧ N ≤ 15) {tv : Value} {l : List Tn} (hl : TurnsAt w0 tv l) (hll : l.length ≤ 2940000000000) :
    Calls Tryz.prog 30 #[.pointer (some ⟨r, 0, none⟩), tv] w (DoneF w0 r d g p t N) := by
  obtain ⟨ao, cap, rfl⟩ := hl.val
  have HH := Lib.hid h
  have HT := Lib.hid ht
  have HL := Lib.hid hl
  have HB := Lib.hid (And.intro hK (And.intro hM (And.intro hN hll)))
  obtain ⟨P, hP⟩ : ∃ P, P = DoneF w0 r d g p t N := ⟨_, rfl⟩
  rw [← hP]
  have HP := Lib.hid hP
  clear hP ht h hl hK hM hN
  generalize hn : l.length = n at *
  have HN := Lib.hid hn
  clear hn
  go_enter Tryz.func30, Tryz.ntmps30
  go_wp2_with fail
  go_loopw [5] (fun i wr => ∃ k : Nat, k ≤ n ∧ i = .int .i64 (k : Int) ∧ ∃ was F rf, (∃ cur, RunF w0 r d g p t N cur (K + 100 * k) (M + k) (fun _ => 0) was F rf wr) ∨ RunX w0 r d g p t N true was F rf wr) (fun i _ => n - (intOf i).toNat)
  case atStart => exact ⟨0, by omega, rfl, _, _, _, .inl ⟨_, HH.out⟩⟩
  case round =>
    obtain ⟨k, hk, rfl, was1, F1, rf1, ⟨cur1, hw1⟩ | hx1⟩ := hrel
    · have HW := Lib.hid hw1
      obtain ⟨f0, f1, f2, f3, f5⟩ := hw1.cells
      clear hw1 HH
      by_cases hkn : k < n
      · have hkn' : (k : Int) < (n : Int) := by omega
        have hk0 : (0 : Int) ≤ (k : Int) := by omega
        obtain ⟨b, off, x, rfl, hb, hc, hrb, hxl⟩ := HL.out.at_ (i := k) (by rw [HN.out]; exact hkn)
        have HDO : Hid (Calls Tryz.prog 74 #[.pointer (some ⟨r, 0, none⟩), turnV x.kind x.n x.pick x.sl] wr (DoesF w0 r d g p t N (K + 100 * k + 100) (M + k + 1))) := Lib.hid (doesF HT.out HW.out (by have := HB.out; omega) (by have := HB.out; omega) HB.out.2.2.1 x hxl hrb)
        have c0 : wr.cell? ⟨b, off + k * 4, none⟩ = some (.int .i64 x.kind) := (World.cell?_of_block (a := ⟨b, off + k * 4, none⟩) (HW.out.off0.old b hb (by simp))).trans (hc 0 (by omega))
        have c1 : wr.cell? ⟨b, off + k * 4 + 1, none⟩ = some (.int .i64 x.n) := (World.cell?_of_block (a := ⟨b, off + k * 4 + 1, none⟩) (HW.out.off0.old b hb (by simp))).trans (hc 1 (by omega))
        have c2 : wr.cell? ⟨b, off + k * 4 + 2, none⟩ = some (.int .i64 x.pick) := (World.cell?_of_block (a := ⟨b, off + k * 4 + 2, none⟩) (HW.out.off0.old b hb (by simp))).trans (hc 2 (by omega))
        have c3 : wr.cell? ⟨b, off + k * 4 + 3, none⟩ = some x.sl := (World.cell?_of_block (a := ⟨b, off + k * 4 + 3, none⟩) (HW.out.off0.old b hb (by simp))).trans (hc 3 (by omega))
        unfold Tn.sl at c3 HDO
        unfold turnV at HDO
        clear hc hrb hxl
        go_wp2_with fail
        refine HDO.out.mono ?_
        rintro e w2 ⟨rfl, was2, F2, rf2, h2⟩
        have HW2 := Lib.hid h2
        clear h2 HDO HW f0 f1 f2 f3 f5 c0 c1 c2 c3
        go_wp2_with fail
        go_roundw
        case rel => exact ⟨k + 1, by omega, by go_num, was2, F2, rf2, HW2.out.imp (fun ⟨cur2, h2⟩ => ⟨cur2, h2.mono (by omega) (by have := HB.out; omega) (by omega) (fun _ _ => rfl)⟩) id⟩
        case measure => simp [intOf]; omega
      · have hkn' : ¬ ((k : Int) < (n : Int)) := by omega
        obtain rfl : k = n := by omega
        have HF : Hid (P (.returned (.bool true)) wr) := Lib.hid (by rw [HP.out]; exact ⟨rfl, false, was1, F1, rf1, HW.out.rest⟩)
        clear HW hk hkn f0 f1 f2 f3 f5
        go_wp2_with fail
        first | exact HF.out | (go_ret; exact HF.out)
    · obtain ⟨f0, f3, f5, _⟩ := hx1.cells
      have HF : Hid (P (.returned (.bool true)) wr) := Lib.hid (by rw [HP.out]; exact ⟨rfl, true, was1, F1, rf1, hx1⟩)
      clear hx1 HH
      by_cases hkn : k < n
      · have hkn' : (k : Int) < (n : Int) := by omega
        go_wp2_with fail
        first | exact HF.out | (go_ret; exact HF.out)
      · have hkn' : ¬ ((k : Int) < (n : Int)) := by omega
        go_wp2_with fail
        first | exact HF.out | (go_ret; exact HF.out)
end Go.Proofs.YtfdgiblkllfpjaaGreatDoor
