/- PoolPins: the walk. -/
import Derived.Test.YtfdgiblkllfpjaaGreatDoorP14
set_option linter.unusedVariables false
set_option linter.unusedSimpArgs false
namespace Go.Proofs.YtfdgiblkllfpjaaGreatDoor
open Go.ChangeShapes Go.WideShapes Go.ChangeAt Go.RowKit

theorem emod_nat (x : Int) {m : Nat} (hm : 0 < m) : ∃ r : Nat, x.emod (m : Int) = (r : Int) ∧ r < m := by
  have h1 := Int.emod_nonneg x (show (m : Int) ≠ 0 by omega)
  have h2 := Int.emod_lt_of_pos x (show (0 : Int) < (m : Int) by omega)
  refine ⟨(x % (m : Int)).toNat, ?_, ?_⟩
  · show x % (m : Int) = _; omega
  · omega
set_option maxRecDepth 100000 in
set_option maxHeartbeats 16000000 in
theorem pins_walk {t : Nat → Nat} {w : World} {fr n tm : Int} {av : Value} {al : List Int} (ht : Tbl t w) (ha : ReadI w av al) : Calls Tryz.prog 4 #[.int .i64 fr, .int .i64 n, av, .int .i64 tm] w fun e w' => e = .returned (.bool true) ∧ Off [] w w' := by
  obtain ⟨ao, acap, rfl⟩ := ha.val
  obtain ⟨P, hP⟩ : ∃ P : Ending → World → Prop, P = fun e w' => e = .returned (.bool true) ∧ Off [] w w' := ⟨_, rfl⟩
  rw [← hP]
  have HP := Lib.hid hP
  have HT := Lib.hid ht
  have HAR := Lib.hid ha
  have HAL : Hid (∀ W, Off [] w W → Calls Tryz.prog 10 #[] W fun e w' => e = .returned (.bool true) ∧ Off [] W w') := Lib.hid (fun W ho => alive10 (ht.off ho (by simp)))
  obtain ⟨r1, hr1, hr1'⟩ : ∃ r : Nat, fr.emod 4 = (r : Int) ∧ r < 4 := emod_nat fr (m := 4) (by omega)
  obtain ⟨r3, hr3, hr3'⟩ : ∃ r : Nat, tm.emod 4 = (r : Int) ∧ r < 4 := emod_nat tm (m := 4) (by omega)
  obtain ⟨m, hm⟩ : ∃ m, m = 2 + r1 := ⟨_, rfl⟩
  obtain ⟨pg, hpg⟩ : ∃ pg, pg = m + 1 := ⟨_, rfl⟩
  obtain ⟨cn, hcn⟩ : ∃ cn, cn = 1 + r3 := ⟨_, rfl⟩
  obtain ⟨k, hk, hk'⟩ := emod_nat n (m := pg) (by omega)
  have HR1 : Hid (∀ W, Calls Tryz.prog 25 #[.int .i64 fr, .int .i64 4] W fun e w' => e = .returned (.int .i64 (r1 : Int)) ∧ W = w') := Lib.hid (fun W => by rw [← hr1]; exact rest25 fr 4 (by decide) (by decide) W)
  have HR3 : Hid (∀ W, Calls Tryz.prog 25 #[.int .i64 tm, .int .i64 4] W fun e w' => e = .returned (.int .i64 (r3 : Int)) ∧ W = w') := Lib.hid (fun W => by rw [← hr3]; exact rest25 tm 4 (by decide) (by decide) W)
  have HRK : Hid (∀ W, Calls Tryz.prog 25 #[.int .i64 n, .int .i64 (pg : Int)] W fun e w' => e = .returned (.int .i64 (k : Int)) ∧ W = w') := Lib.hid (fun W => by rw [← hk]; exact rest25 n pg (by omega) (by omega) W)
  have HRA : Hid (∀ x : Int, ∃ a : Nat, a < pg ∧ ∀ W, Calls Tryz.prog 25 #[.int .i64 x, .int .i64 (pg : Int)] W fun e w' => e = .returned (.int .i64 (a : Int)) ∧ W = w') := Lib.hid (fun x => by
    obtain ⟨a, ha, ha'⟩ := emod_nat x (m := pg) (by omega)
    exact ⟨a, ha', fun W => by rw [← ha]; exact rest25 x pg (by omega) (by omega) W⟩)
  have HB : Hid (m ≤ 5 ∧ 2 ≤ m ∧ pg = m + 1 ∧ k < pg ∧ 1 ≤ cn ∧ cn ≤ 4) := Lib.hid ⟨by omega, by omega, hpg, hk', by omega, by omega⟩
  have HNEW : Hid (∀ W, Calls Tryz.prog 8 #[.agg #[.int .i64 (pg : Int), .int .i64 1, .int .i64 1024]] W (NewPost (shm m) W)) := Lib.hid (fun W => by rw [hpg]; exact new8_m m (by omega) W)
  have HNP : Hid (∀ d g W, Calls Tryz.prog 12 #[.pointer (some ⟨d, 0, none⟩), .pointer (some ⟨g, 0, none⟩), .int .i64 (m : Int)] W (NewPool d g m W)) := Lib.hid (fun d g W => new12 d g m (by omega) (by omega) W)
  have hpz : ((pg : Int) == 0) = false := by rw [beq_eq_false_iff_ne]; omega
  have hpz2 : ¬ ((pg : Int) = 0) := by omega
  have hpz3 : ¬ (pg = 0) := by omega
  have e1 : (2 : Int) + (r1 : Int) = (m : Int) := by omega
  have e2 : (m : Int) + 1 = (pg : Int) := by omega
  have e3 : (1 : Int) + (r3 : Int) = (cn : Int) := by omega
  have l1 : (m : Int) ≤ 20 ∧ (pg : Int) ≤ 20 ∧ (cn : Int) ≤ 20 := by omega
  have wr1 : ∀ x y z : Int, x + y = z → 0 ≤ z → z ≤ 20 → wrap64 (x + y) = z := fun x y z h h0 h9 => by rw [wadd (by omega) (by unfold imax; omega)]; exact h
  have hwm : wrap64 (2 + (r1 : Int)) = (m : Int) := wr1 _ _ _ e1 (by omega) l1.1
  have hwp : wrap64 ((m : Int) + 1) = (pg : Int) := wr1 _ _ _ e2 (Int.natCast_nonneg _) l1.2.1
  have hwc : wrap64 (1 + (r3 : Int)) = (cn : Int) := wr1 _ _ _ e3 (Int.natCast_nonneg _) l1.2.2
  have WR := Lib.hid wr1
  clear wr1 e1 e2 e3 l1
  clear hP ht ha hr1 hr1' hr3 hr3' hm hpg hcn hk hk'
  generalize hal : al.length = an at *
  have HAN := Lib.hid hal
  clear hal
  go_enter Tryz.func4, Tryz.ntmps4
  go_wp2_with fail
  refine (HR1.out _).mono ?_
  rintro e w' ⟨rfl, rfl⟩
  go_wp2_with fail
  refine (HNEW.out _).mono ?_
  rintro e w1 ⟨d, D, rfl, hd1, ho1, hD1⟩
  have HD1 := Lib.hid (And.intro hd1 (And.intro ho1 hD1))
  clear hd1 ho1 hD1 HNEW
  go_wp2_with (go_at_call 9; refine (num9 _ _).mono ?_; rintro e w' ⟨rfl, rfl⟩)
  refine (HAL.out w1 HD1.out.2.1).mono ?_
  rintro e wa ⟨rfl, hoa⟩
  have HDA : Hid (DiskR wa d (newDisk (shm m)) D ∧ Off [] w wa ∧ (∀ z ∈ D, w.heap.size ≤ z) ∧ ∀ z ∈ D, z < wa.heap.size) := Lib.hid ⟨HD1.out.1.off hoa (by simp), HD1.out.2.1.trans hoa (by simp), HD1.out.2.2, fun z hz => Nat.lt_of_lt_of_le (HD1.out.1.lt z hz) hoa.size⟩
  have HOP : Hid (Calls Tryz.prog 11 #[.pointer (some ⟨d, 0, none⟩), .int .i64 0] wa (OpenPost d D (newDisk (shm m)) 0 wa)) := Lib.hid (open11_nil HDA.out.1 (by show 0 < _; decide) rfl rfl 0 (by omega))
  clear hoa HD1 HAL
  go_wp2_with (go_at_call 9; refine (num9 _ _).mono ?_; rintro e w' ⟨rfl, rfl⟩)
  refine HOP.out.mono ?_
  rintro e w2 ⟨g, L, rfl, hl2, hk2, hL2⟩
  have HL2 := Lib.hid (And.intro hl2 (And.intro hk2 hL2))
  clear hl2 hk2 hL2 HOP
  go_wp2_with (go_at_call 9; refine (num9 _ _).mono ?_; rintro e w' ⟨rfl, rfl⟩)
  refine (HNP.out d g w2).mono ?_
  rintro e w3 ⟨p, Q, rfl, hp3, ho3, hQ3⟩
  have HW3 : Hid (PW w d g p (cc m k 0 0) 1 m (newDisk (shm m)).act w3) := Lib.hid (by
    have a1 := HDA.out
    have a2 := HL2.out
    have s1 := a1.2.1.size
    have s2 := a2.2.1.2.size
    obtain ⟨x1, x2⟩ := Whole.start (w := w) (w1 := wa) (w2 := w2) (w3 := w3) a2.2.1.1 (fun z hz => ⟨a1.2.2.1 z hz, a1.2.2.2 z hz⟩) a2.1 (fun z hz => ⟨a2.2.2 z hz, a2.1.lt z hz⟩) s1 hp3 ho3 hQ3 s2
    exact (PW.first ⟨x1, x2, (a1.2.1.trans (a2.2.1.2) (fun z hz => .inr (a1.2.2.1 z hz))).trans ho3 (by simp)⟩).congr (by omega) (fun n _ => by unfold cc ring; simp))
  clear hp3 ho3 hQ3 HDA HL2
  go_wp2_with (go_at_call 9; refine (num9 _ _).mono ?_; rintro e w' ⟨rfl, rfl⟩)
  refine (HRK.out _).mono ?_
  rintro e w' ⟨rfl, rfl⟩
  go_wp2_with fail
  refine (HR3.out _).mono ?_
  rintro e w' ⟨rfl, rfl⟩
  go_wp2_with fail
  (try rw [hwc])
  have hb4 : cn ≤ 4 := HB.out.2.2.2.2.2
  have hb5 : m ≤ 5 := HB.out.1
  clear hwm hwp hwc HR1 HR3 HRK HNP
  go_loopw [19, 20, 21] (fun i _ _ wr => ∃ j : Nat, j ≤ cn ∧ i = .int .i64 (j : Int) ∧ ∃ dm, PW w d g p (cc m k j 0) (1 + j) m dm wr) (fun i _ _ _ => cn - (intOf i).toNat)
  case atStart => exact ⟨0, by omega, rfl, _, HW3.out⟩
  case round =>
    obtain ⟨j, hj, rfl, dm, hW⟩ := hrel
    have HI := Lib.hid hW
    clear hW HW3
    by_cases hjc : j < cn
    · have hjc' : (j : Int) < (cn : Int) := by omega
      have HPIN : Hid (Calls Tryz.prog 16 #[.pointer (some ⟨p, 0, none⟩), .int .i64 (k : Int), .int .i64 0] wr _) := Lib.hid (HI.out.pin HT.out (by have := HB.out; omega) (by have := HB.out; omega) (fun n _ => by have := cc_le (m := m) (k := k) (q := j) (i := 0) (n := n); have := HB.out; omega) k (by have := HB.out; omega) (by
        have hb := HB.out
        refine ⟨if k = 0 then 1 else 0, by split <;> omega, by split <;> omega, ?_⟩
        unfold cc ring
        split <;> simp <;> omega) 0)
      go_wp2_with fail
      refine HPIN.out.mono ?_
      rintro e w4 ⟨bo, bc, dm4, rfl, h4⟩
      have H4 : Hid (PW w d g p (cc m k (j + 1) 0) (1 + (j + 1)) m dm4 w4) := Lib.hid (h4.congr (by omega) (cc_pin (by have := HB.out; omega)))
      clear h4 HPIN
      go_wp2_with (go_at_call 9; refine (num9 _ _).mono ?_; rintro e w' ⟨rfl, rfl⟩)
      go_roundw
      case rel => exact ⟨j + 1, by omega, by go_num, dm4, H4.out⟩
      case measure => simp [intOf]; omega
    · have hjc' : ¬ ((j : Int) < (cn : Int)) := by omega
      obtain rfl : j = cn := by omega
      clear hjc hj
      go_wp2_with fail

      have HI1 : Hid (∃ dm, PW w d g p (cc m k j 0) 100 m dm wr) := Lib.hid ⟨dm, HI.out.congr (by have := HB.out; omega) (fun _ _ => rfl)⟩
      clear HI
      go_loopw [22, 23, 24, 25, 26, 27] (fun i _ _ _ _ _ wr => ∃ x : Nat, x ≤ 60 ∧ x ≤ an ∧ i = .int .i64 (x : Int) ∧ ∃ dm, PW w d g p (cc m k j 0) (100 + x) m dm wr) (fun i _ _ _ _ _ _ => 60 - (intOf i).toNat)
      case atStart => exact ⟨0, by omega, by omega, rfl, HI1.out⟩
      case round =>
        obtain ⟨x, hx, hxn, rfl, dm2, hW⟩ := hrel
        have HI := Lib.hid hW
        clear hW HI1
        by_cases hxx : x < an ∧ x < 60
        · obtain ⟨hxa, hx60⟩ := hxx
          have hxa' : (x : Int) < (an : Int) := by omega
          · have hx60' : (x : Int) < 60 := by omega
            have hx0 : (0 : Int) ≤ (x : Int) := by omega
            have hlv : x < al.length := by rw [HAN.out]; exact hxa
            obtain ⟨vb, voff, rfl, c1⟩ := (HAR.out.off HI.out.since).cellAt hlv
            obtain ⟨y, hy⟩ : ∃ y, y = al[x] := ⟨_, rfl⟩
            rw [← hy] at c1
            clear hy
            obtain ⟨a, ha, HRX⟩ := HRA.out y
            have HRX := Lib.hid HRX
            have HPIN : Hid (Calls Tryz.prog 16 #[.pointer (some ⟨p, 0, none⟩), .int .i64 (a : Int), .int .i64 y] wr _) := Lib.hid (HI.out.pin HT.out (by have := HB.out; omega) (by omega) (fun n _ => by have := cc_le (m := m) (k := k) (q := j) (i := 0) (n := n); have := HB.out; omega) a (by have := HB.out; omega) (by
              have hb := HB.out
              obtain ⟨b, b1, b2, b3⟩ : ∃ b, b < 3 ∧ b ≠ a ∧ b ≠ k := ⟨if a = 0 ∨ k = 0 then (if a = 1 ∨ k = 1 then 2 else 1) else 0, by split <;> (try split) <;> omega, by split <;> (try split) <;> omega, by split <;> (try split) <;> omega⟩
              refine ⟨b, by omega, b2, ?_⟩
              unfold cc ring
              simp [b3]) y)
            go_wp2_with fail
            refine (HRX.out _).mono ?_
            rintro e w' ⟨rfl, rfl⟩
            go_wp2_with fail
            refine HPIN.out.mono ?_
            rintro e w4 ⟨bo, bc, dm4, rfl, h4⟩
            have H4 := Lib.hid h4
            clear h4 HPIN c1 HRX
            have HLK := Lib.hid (H4.out.look k (by have := HB.out; omega) (by have := HB.out; unfold bump cc; split <;> simp <;> omega))
            go_wp2_with fail
            refine HLK.out.mono ?_
            rintro e w5 ⟨lo, lc, rfl, h5⟩
            have HHD := Lib.hid (h5.heldSome (by have := HB.out; omega))
            clear h5 HLK H4
            go_wp2_with (go_at_call 9; refine (num9 _ _).mono ?_; rintro e w' ⟨rfl, rfl⟩)
            refine HHD.out.mono ?_
            rintro e w6 ⟨ho, hn, hc, hhn, rfl, h6⟩
            have hhn' : ¬ ((m : Int) < (hn : Int)) := by omega
            have HUN := Lib.hid (h6.unpin a (by have := HB.out; omega) (by unfold bump; rw [if_pos rfl]; omega))
            clear h6 HHD
            go_wp2_with fail
            refine HUN.out.mono ?_
            rintro e w7 ⟨rfl, h7⟩
            have H7 : Hid (PW w d g p (cc m k j 0) (100 + (x + 1)) m dm4 w7) := Lib.hid (h7.congr (by omega) cc_back)
            clear h7 HUN
            go_wp2_with fail
            go_roundw
            case rel => exact ⟨x + 1, by omega, by omega, by go_num, dm4, H7.out⟩
            case measure => simp [intOf]; omega
        · have HI2 : Hid (∃ dm, PW w d g p (cc m k j 0) 200 m dm wr) := Lib.hid ⟨dm2, HI.out.congr (by omega) (fun _ _ => rfl)⟩
          obtain ⟨q, hq⟩ : ∃ q : Nat, q = (k + m) % (m + 1) := ⟨_, rfl⟩
          have HQ : Hid (q < m + 1 ∧ q ≠ k ∧ (∀ i j', i ≤ m → cc m k j' i q = 0) ∧ ∀ n' q', n' < m + 1 → n' ≠ q → 0 < cc m k q' m n') := Lib.hid (by
            have hb := HB.out
            rw [ring_at (by omega) (Nat.le_refl _)] at hq
            refine ⟨by split at hq <;> omega, by split at hq <;> omega, fun i j' hi => ?_, fun n' q' hn hne => ?_⟩
            · unfold cc ring
              split at hq <;> split <;> split <;> split <;> omega
            · unfold cc ring
              split at hq <;> split <;> split <;> (try split) <;> omega)
          have hkt : ((k + m : Nat) : Int).tmod (pg : Int) = (q : Int) := by have hb := HB.out; rw [hq, ← hb.2.2.1]; exact (Int.ofNat_tmod _ _).symm
          obtain ⟨km, hkme⟩ : ∃ km : Nat, km = k + m := ⟨_, rfl⟩
          rw [← hkme] at hkt
          have HKM : Hid ((k : Int) + (m : Int) = (km : Int) ∧ (km : Int) ≤ 20) := Lib.hid (by have := HB.out; omega)
          have HKT := Lib.hid hkt
          clear hkt
          clear HI hq hkme
          rcases Nat.lt_or_ge x an with hxa | hxa
          · have hxa' : (x : Int) < (an : Int) := by omega
            have hx60' : ¬ ((x : Int) < 60) := by omega
            clear hxx hx hxn hxa
            go_wp2_with fail
            clear hxa'
            go_loopw [28, 29, 30, 31] (fun i _ _ _ wr => ∃ y : Nat, y ≤ m ∧ i = .int .i64 (y : Int) ∧ ∃ dm, PW w d g p (cc m k j y) (200 + y) m dm wr) (fun i _ _ _ _ => m - (intOf i).toNat)
            case atStart => exact ⟨0, by omega, rfl, HI2.out⟩
            case round =>
              obtain ⟨y, hy, rfl, dm3, hW⟩ := hrel
              have HI := Lib.hid hW
              clear hW HI2
              by_cases hym : y < m
              · have hym' : (y : Int) < (m : Int) := by omega
                obtain ⟨s, hs⟩ : ∃ s : Nat, s = k + y := ⟨_, rfl⟩
                obtain ⟨b, hb⟩ : ∃ b : Nat, b = s % (m + 1) := ⟨_, rfl⟩
                have HSE : Hid ((k : Int) + (y : Int) = (s : Int) ∧ (s : Int) ≤ 20) := Lib.hid (by have := HB.out; omega)
                have hwt : (s : Int).tmod (pg : Int) = (b : Int) := by rw [hb, ← HB.out.2.2.1]; exact (Int.ofNat_tmod _ _).symm
                have HBE : Hid (b = (k + y) % (m + 1)) := Lib.hid (by rw [hb, hs])
                have HWT := Lib.hid hwt
                clear hs hb hwt
                have HPIN : Hid (Calls Tryz.prog 16 #[.pointer (some ⟨p, 0, none⟩), .int .i64 (b : Int), .int .i64 0] wr _) := Lib.hid (HI.out.pin HT.out (by have := HB.out; omega) (by have := HB.out; omega) (fun n _ => by have := cc_le (m := m) (k := k) (q := j) (i := y) (n := n); have := HB.out; omega) b (by rw [HBE.out]; exact Nat.mod_lt _ (by omega)) (by
                  refine ⟨q, HQ.out.1, fun e => ?_, HQ.out.2.2.1 y j (by omega)⟩
                  have h1 := HQ.out.2.2.1 (y + 1) 0 (by omega)
                  rw [← cc_ring (by have := HB.out; omega) (by omega) q HQ.out.1, ← HBE.out, e] at h1
                  unfold bump at h1
                  rw [if_pos rfl] at h1
                  omega) 0)
                have hws := WR.out _ _ _ HSE.out.1 (Int.natCast_nonneg _) HSE.out.2
                have hwt := HWT.out
                go_wp2_with fail
                clear hws hwt
                refine HPIN.out.mono ?_
                rintro e w4 ⟨bo, bc, dm4, rfl, h4⟩
                have H4 : Hid (PW w d g p (cc m k j (y + 1)) (200 + (y + 1)) m dm4 w4) := Lib.hid (h4.congr (by omega) (by rw [HBE.out]; exact cc_ring (by have := HB.out; omega) hym))
                clear h4 HPIN
                go_wp2_with (go_at_call 9; refine (num9 _ _).mono ?_; rintro e w' ⟨rfl, rfl⟩)
                go_roundw
                case rel => exact ⟨y + 1, by omega, by go_num, dm4, H4.out⟩
                case measure => simp [intOf]; omega
              · have hym' : ¬ ((y : Int) < (m : Int)) := by omega
                obtain rfl : m = y := by omega
                clear hym hy
                obtain ⟨ac, hac⟩ : ∃ ac, ac = dm3.acts := ⟨_, rfl⟩
                have HAC : Hid (∀ W, PW w d g p (cc m k j m) (200 + m) m dm3 W → Calls Tryz.prog 28 #[.pointer (some ⟨d, 0, none⟩)] W fun e w' => e = .returned (.int .i64 (ac : Int)) ∧ W = w') := Lib.hid (fun W h => by rw [hac]; exact h.acts)
                have HPN := Lib.hid (HI.out.pinNot q HQ.out.1 (fun n' a b => HQ.out.2.2.2 n' j a b) n)
                clear hac
                go_wp2_with fail
                refine (HAC.out _ HI.out).mono ?_
                rintro e w' ⟨rfl, rfl⟩
                have hkm := WR.out _ _ _ HKM.out.1 (Int.natCast_nonneg _) HKM.out.2
                have hkt := HKT.out
                go_wp2_with fail
                clear hkm hkt
                refine HPN.out.mono ?_
                rintro e w4 ⟨rfl, h4⟩
                have H4 := Lib.hid h4
                clear h4 HI HPN
                go_wp2_with (go_at_call 9; refine (num9 _ _).mono ?_; rintro e w' ⟨rfl, rfl⟩)
                refine (HAC.out _ H4.out).mono ?_
                rintro e w' ⟨rfl, rfl⟩
                have HHD := Lib.hid (H4.out.heldAll (by have := HB.out; omega) q HQ.out.1 (fun n' a b => HQ.out.2.2.2 n' j a b))
                go_wp2_with fail
                refine HHD.out.mono ?_
                rintro e w5 ⟨ho, hc, rfl, h5⟩
                have H5 : Hid (∃ dm, PW w d g p (cc m k j m) 300 m dm w5) := Lib.hid ⟨dm3, h5.congr (by have := HB.out; omega) (fun _ _ => rfl)⟩
                clear h5 H4 HAC HHD
                go_wp2_with fail
                go_loopw [36] (fun i wr => ∃ u : Nat, u ≤ j ∧ i = .int .i64 (u : Int) ∧ ∃ dm, PW w d g p (cc m k (j - u) m) 300 m dm wr) (fun i _ => j - (intOf i).toNat)
                case atStart => exact ⟨0, by omega, rfl, H5.out⟩
                case round =>
                  obtain ⟨u, hu, rfl, dm5, hW⟩ := hrel
                  have HI := Lib.hid hW
                  clear hW H5
                  have hkp : 0 < ring m k m k := by unfold ring; rw [if_pos (Nat.le_refl k), if_pos (by have := HB.out; omega)]; omega
                  have HKP := Lib.hid hkp
                  clear hkp
                  by_cases huj : u < j
                  · have huj' : (u : Int) < (j : Int) := by omega
                    have HUN := Lib.hid (HI.out.unpin k (by have := HB.out; omega) (by have := HKP.out; unfold cc; omega))
                    go_wp2_with fail
                    refine HUN.out.mono ?_
                    rintro e w7 ⟨rfl, h7⟩
                    have H7 : Hid (PW w d g p (cc m k (j - (u + 1)) m) 300 m dm5 w7) := Lib.hid (h7.congr (Nat.le_refl _) (by rw [show j - u = (j - (u + 1)) + 1 by omega]; exact cc_unpin))
                    clear h7 HUN
                    go_wp2_with fail
                    go_roundw
                    case rel => exact ⟨u + 1, by omega, by go_num, dm5, H7.out⟩
                    case measure => simp [intOf]; omega
                  · have huj' : ¬ ((u : Int) < (j : Int)) := by omega
                    have HI6 : Hid (PW w d g p (cc m k 0 m) 300 m dm5 wr) := Lib.hid (HI.out.congr (Nat.le_refl _) (fun _ _ => by rw [show j - u = 0 by omega]))
                    have HPN := Lib.hid (HI6.out.pinNot q HQ.out.1 (fun n' a b => HQ.out.2.2.2 n' 0 a b) n)
                    clear HI huj hu
                    go_wp2_with fail
                    refine HPN.out.mono ?_
                    rintro e w6 ⟨rfl, h6⟩
                    have HUN := Lib.hid (h6.unpin k (by have := HB.out; omega) (by have := HKP.out; unfold cc; omega))
                    clear h6 HPN
                    go_wp2_with (go_at_call 9; refine (num9 _ _).mono ?_; rintro e w' ⟨rfl, rfl⟩)
                    refine HUN.out.mono ?_
                    rintro e w7 ⟨rfl, h7⟩
                    have HPI := Lib.hid (h7.pin HT.out (by have := HB.out; omega) (by omega) (fun n _ => by have := cc_le (m := m) (k := k) (q := 0) (i := m) (n := n); unfold drop1; split <;> omega) q HQ.out.1 ⟨k, by have := HB.out; omega, HQ.out.2.1.symm, by have := cc_le (m := m) (k := k) (q := 0) (i := m) (n := k); unfold drop1; rw [if_pos rfl]; omega⟩ n)
                    have HNK : Hid (∀ n', n' < m + 1 → n' ≠ k → 0 < bump (drop1 (cc m k 0 m) k) q n') := Lib.hid (fun n' hn hne => by
                      unfold bump drop1
                      by_cases e : n' = q
                      · rw [if_pos e]; omega
                      · rw [if_neg e, if_neg hne]; exact HQ.out.2.2.2 n' 0 hn e)
                    clear h7 HUN HI6
                    go_wp2_with fail
                    refine HPI.out.mono ?_
                    rintro e w8 ⟨bo, bc, dm8, rfl, h8⟩
                    have HLN := Lib.hid (h8.lookNot k (by have := HB.out; omega) HNK.out)
                    clear h8 HPI
                    go_wp2_with fail
                    refine HLN.out.mono ?_
                    rintro e w9 ⟨rfl, h9⟩
                    have HHD := Lib.hid (h9.heldAll (by have := HB.out; omega) k (by have := HB.out; omega) HNK.out)
                    clear h9 HLN
                    go_wp2_with (go_at_call 9; refine (num9 _ _).mono ?_; rintro e w' ⟨rfl, rfl⟩)
                    refine HHD.out.mono ?_
                    rintro e w10 ⟨ho, hc, rfl, h10⟩
                    have HF : Hid (P (.returned (.bool true)) w10) := Lib.hid (by rw [HP.out]; exact ⟨rfl, h10.since⟩)
                    clear h10 HHD
                    go_wp2_with fail
                    first | exact HF.out | (go_ret; exact HF.out)
          · have hxa' : ¬ ((x : Int) < (an : Int)) := by omega
            clear hxx hx hxn hxa
            go_wp2_with fail
            clear hxa'
            go_loopw [28, 29, 30, 31] (fun i _ _ _ wr => ∃ y : Nat, y ≤ m ∧ i = .int .i64 (y : Int) ∧ ∃ dm, PW w d g p (cc m k j y) (200 + y) m dm wr) (fun i _ _ _ _ => m - (intOf i).toNat)
            case atStart => exact ⟨0, by omega, rfl, HI2.out⟩
            case round =>
              obtain ⟨y, hy, rfl, dm3, hW⟩ := hrel
              have HI := Lib.hid hW
              clear hW HI2
              by_cases hym : y < m
              · have hym' : (y : Int) < (m : Int) := by omega
                obtain ⟨s, hs⟩ : ∃ s : Nat, s = k + y := ⟨_, rfl⟩
                obtain ⟨b, hb⟩ : ∃ b : Nat, b = s % (m + 1) := ⟨_, rfl⟩
                have HSE : Hid ((k : Int) + (y : Int) = (s : Int) ∧ (s : Int) ≤ 20) := Lib.hid (by have := HB.out; omega)
                have hwt : (s : Int).tmod (pg : Int) = (b : Int) := by rw [hb, ← HB.out.2.2.1]; exact (Int.ofNat_tmod _ _).symm
                have HBE : Hid (b = (k + y) % (m + 1)) := Lib.hid (by rw [hb, hs])
                have HWT := Lib.hid hwt
                clear hs hb hwt
                have HPIN : Hid (Calls Tryz.prog 16 #[.pointer (some ⟨p, 0, none⟩), .int .i64 (b : Int), .int .i64 0] wr _) := Lib.hid (HI.out.pin HT.out (by have := HB.out; omega) (by have := HB.out; omega) (fun n _ => by have := cc_le (m := m) (k := k) (q := j) (i := y) (n := n); have := HB.out; omega) b (by rw [HBE.out]; exact Nat.mod_lt _ (by omega)) (by
                  refine ⟨q, HQ.out.1, fun e => ?_, HQ.out.2.2.1 y j (by omega)⟩
                  have h1 := HQ.out.2.2.1 (y + 1) 0 (by omega)
                  rw [← cc_ring (by have := HB.out; omega) (by omega) q HQ.out.1, ← HBE.out, e] at h1
                  unfold bump at h1
                  rw [if_pos rfl] at h1
                  omega) 0)
                have hws := WR.out _ _ _ HSE.out.1 (Int.natCast_nonneg _) HSE.out.2
                have hwt := HWT.out
                go_wp2_with fail
                clear hws hwt
                refine HPIN.out.mono ?_
                rintro e w4 ⟨bo, bc, dm4, rfl, h4⟩
                have H4 : Hid (PW w d g p (cc m k j (y + 1)) (200 + (y + 1)) m dm4 w4) := Lib.hid (h4.congr (by omega) (by rw [HBE.out]; exact cc_ring (by have := HB.out; omega) hym))
                clear h4 HPIN
                go_wp2_with (go_at_call 9; refine (num9 _ _).mono ?_; rintro e w' ⟨rfl, rfl⟩)
                go_roundw
                case rel => exact ⟨y + 1, by omega, by go_num, dm4, H4.out⟩
                case measure => simp [intOf]; omega
              · have hym' : ¬ ((y : Int) < (m : Int)) := by omega
                obtain rfl : m = y := by omega
                clear hym hy
                obtain ⟨ac, hac⟩ : ∃ ac, ac = dm3.acts := ⟨_, rfl⟩
                have HAC : Hid (∀ W, PW w d g p (cc m k j m) (200 + m) m dm3 W → Calls Tryz.prog 28 #[.pointer (some ⟨d, 0, none⟩)] W fun e w' => e = .returned (.int .i64 (ac : Int)) ∧ W = w') := Lib.hid (fun W h => by rw [hac]; exact h.acts)
                have HPN := Lib.hid (HI.out.pinNot q HQ.out.1 (fun n' a b => HQ.out.2.2.2 n' j a b) n)
                clear hac
                go_wp2_with fail
                refine (HAC.out _ HI.out).mono ?_
                rintro e w' ⟨rfl, rfl⟩
                have hkm := WR.out _ _ _ HKM.out.1 (Int.natCast_nonneg _) HKM.out.2
                have hkt := HKT.out
                go_wp2_with fail
                clear hkm hkt
                refine HPN.out.mono ?_
                rintro e w4 ⟨rfl, h4⟩
                have H4 := Lib.hid h4
                clear h4 HI HPN
                go_wp2_with (go_at_call 9; refine (num9 _ _).mono ?_; rintro e w' ⟨rfl, rfl⟩)
                refine (HAC.out _ H4.out).mono ?_
                rintro e w' ⟨rfl, rfl⟩
                have HHD := Lib.hid (H4.out.heldAll (by have := HB.out; omega) q HQ.out.1 (fun n' a b => HQ.out.2.2.2 n' j a b))
                go_wp2_with fail
                refine HHD.out.mono ?_
                rintro e w5 ⟨ho, hc, rfl, h5⟩
                have H5 : Hid (∃ dm, PW w d g p (cc m k j m) 300 m dm w5) := Lib.hid ⟨dm3, h5.congr (by have := HB.out; omega) (fun _ _ => rfl)⟩
                clear h5 H4 HAC HHD
                go_wp2_with fail
                go_loopw [36] (fun i wr => ∃ u : Nat, u ≤ j ∧ i = .int .i64 (u : Int) ∧ ∃ dm, PW w d g p (cc m k (j - u) m) 300 m dm wr) (fun i _ => j - (intOf i).toNat)
                case atStart => exact ⟨0, by omega, rfl, H5.out⟩
                case round =>
                  obtain ⟨u, hu, rfl, dm5, hW⟩ := hrel
                  have HI := Lib.hid hW
                  clear hW H5
                  have hkp : 0 < ring m k m k := by unfold ring; rw [if_pos (Nat.le_refl k), if_pos (by have := HB.out; omega)]; omega
                  have HKP := Lib.hid hkp
                  clear hkp
                  by_cases huj : u < j
                  · have huj' : (u : Int) < (j : Int) := by omega
                    have HUN := Lib.hid (HI.out.unpin k (by have := HB.out; omega) (by have := HKP.out; unfold cc; omega))
                    go_wp2_with fail
                    refine HUN.out.mono ?_
                    rintro e w7 ⟨rfl, h7⟩
                    have H7 : Hid (PW w d g p (cc m k (j - (u + 1)) m) 300 m dm5 w7) := Lib.hid (h7.congr (Nat.le_refl _) (by rw [show j - u = (j - (u + 1)) + 1 by omega]; exact cc_unpin))
                    clear h7 HUN
                    go_wp2_with fail
                    go_roundw
                    case rel => exact ⟨u + 1, by omega, by go_num, dm5, H7.out⟩
                    case measure => simp [intOf]; omega
                  · have huj' : ¬ ((u : Int) < (j : Int)) := by omega
                    have HI6 : Hid (PW w d g p (cc m k 0 m) 300 m dm5 wr) := Lib.hid (HI.out.congr (Nat.le_refl _) (fun _ _ => by rw [show j - u = 0 by omega]))
                    have HPN := Lib.hid (HI6.out.pinNot q HQ.out.1 (fun n' a b => HQ.out.2.2.2 n' 0 a b) n)
                    clear HI huj hu
                    go_wp2_with fail
                    refine HPN.out.mono ?_
                    rintro e w6 ⟨rfl, h6⟩
                    have HUN := Lib.hid (h6.unpin k (by have := HB.out; omega) (by have := HKP.out; unfold cc; omega))
                    clear h6 HPN
                    go_wp2_with (go_at_call 9; refine (num9 _ _).mono ?_; rintro e w' ⟨rfl, rfl⟩)
                    refine HUN.out.mono ?_
                    rintro e w7 ⟨rfl, h7⟩
                    have HPI := Lib.hid (h7.pin HT.out (by have := HB.out; omega) (by omega) (fun n _ => by have := cc_le (m := m) (k := k) (q := 0) (i := m) (n := n); unfold drop1; split <;> omega) q HQ.out.1 ⟨k, by have := HB.out; omega, HQ.out.2.1.symm, by have := cc_le (m := m) (k := k) (q := 0) (i := m) (n := k); unfold drop1; rw [if_pos rfl]; omega⟩ n)
                    have HNK : Hid (∀ n', n' < m + 1 → n' ≠ k → 0 < bump (drop1 (cc m k 0 m) k) q n') := Lib.hid (fun n' hn hne => by
                      unfold bump drop1
                      by_cases e : n' = q
                      · rw [if_pos e]; omega
                      · rw [if_neg e, if_neg hne]; exact HQ.out.2.2.2 n' 0 hn e)
                    clear h7 HUN HI6
                    go_wp2_with fail
                    refine HPI.out.mono ?_
                    rintro e w8 ⟨bo, bc, dm8, rfl, h8⟩
                    have HLN := Lib.hid (h8.lookNot k (by have := HB.out; omega) HNK.out)
                    clear h8 HPI
                    go_wp2_with fail
                    refine HLN.out.mono ?_
                    rintro e w9 ⟨rfl, h9⟩
                    have HHD := Lib.hid (h9.heldAll (by have := HB.out; omega) k (by have := HB.out; omega) HNK.out)
                    clear h9 HLN
                    go_wp2_with (go_at_call 9; refine (num9 _ _).mono ?_; rintro e w' ⟨rfl, rfl⟩)
                    refine HHD.out.mono ?_
                    rintro e w10 ⟨ho, hc, rfl, h10⟩
                    have HF : Hid (P (.returned (.bool true)) w10) := Lib.hid (by rw [HP.out]; exact ⟨rfl, h10.since⟩)
                    clear h10 HHD
                    go_wp2_with fail
                    first | exact HF.out | (go_ret; exact HF.out)
end Go.Proofs.YtfdgiblkllfpjaaGreatDoor
