/- alive. -/
import Derived.Test.YtfdgiblkllfpjaaGreatDoorL12
import Derived.Outline
import Derived.Laws.BytesArg
set_option linter.unusedVariables false
set_option linter.unusedSimpArgs false
namespace Go.Proofs.YtfdgiblkllfpjaaGreatDoor
open Go.ChangeShapes Go.WideShapes Go.ChangeAt Go.RowKit

def sh1 : Shp := ⟨1, 1, 1024⟩
theorem new8_sh1 (w : World) : Calls Tryz.prog 8 #[.agg #[.int .i64 1, .int .i64 1, .int .i64 1024]] w (NewPost sh1 w) := new8 sh1 (by unfold Shp.ok sh1; decide) w
def dmA : DiskM := (newDisk sh1).act.act
def lmA (t : Nat → Nat) : LogM := (newLog 0).begin t 3
def zA : List UInt8 := List.replicate 40 0
def pgA (t : Nat → Nat) : List UInt8 := stampB t (zA.set 16 1) 0 1
def pmA (t : Nat → Nat) : PoolM := (PoolM.add ⟨2, [], false⟩ ⟨0, zA, 1, 0⟩).set { num := 0, b := pgA t, pins := 1, rc := 1 }
theorem zA_len : (zA.set 16 1).length = 40 := by rw [List.length_set]; unfold zA; rw [List.length_replicate]
theorem pgA_len (t : Nat → Nat) : (pgA t).length = 40 := by unfold pgA; rw [stampB_len _ _ _ _ (by rw [zA_len]; omega), zA_len]
theorem slots40 : slotsN 40 = 1 := slotsN_is (by omega) (by omega) (by omega)
theorem pgA_lsn (t : Nat → Nat) : pageLsn (pgA t) = some 1 := pageLsn_stamp (by rw [zA_len, slots40]; omega) (by omega)
theorem pgA_check {t : Nat → Nat} {w : World} (ht : Tbl t w) : pageCheck t (pgA t) 0 1 = some 1 :=
  check_stamp ht (by rw [zA_len, slots40]; omega) (by omega) (by omega) (by rw [zA_len]; rfl)
theorem dmA_live : dmA.live ∧ dmA.acts = 2 := by
  have h0 : (newDisk sh1).live := ⟨rfl, rfl⟩
  exact ⟨h0.act.1.act.1, rfl⟩
theorem dmA_fit : dmA.fit := DiskM.act_fit (DiskM.act_fit (newDisk_fit sh1))
theorem lmA_is (t : Nat → Nat) : (lmA t).base = 0 ∧ (lmA t).disk = 0 ∧ (lmA t).bytes = 34 ∧ (lmA t).tail.length = 34 ∧ (lmA t).dead = false := by
  have hl : (frameB t (newLog 0).fin (beginB 3)).length = 34 := by rw [frameB_len, beginB_len]
  refine ⟨rfl, rfl, ?_, ?_, rfl⟩
  · show 0 + (frameB t (newLog 0).fin (beginB 3)).length = 34; rw [hl]
  · show ([] ++ frameB t (newLog 0).fin (beginB 3)).length = 34; rw [List.nil_append, hl]
theorem pmA_held (t : Nat → Nat) : (pmA t).held = [{ num := 0, b := pgA t, pins := 1, rc := 1 }] := rfl
theorem pmA_find (t : Nat → Nat) : (pmA t).find 0 = some { num := 0, b := pgA t, pins := 1, rc := 1 } := rfl
theorem pmA_dirty (t : Nat → Nat) : (pmA t).dirtyN = [0] := by
  unfold PoolM.dirtyN PoolM.pick numsI
  rw [pmA_held]
  show (srtI [((0 : Nat) : Int)]).map Int.toNat = [0]
  rw [srtI_one]; rfl
theorem deskA (t : Nat → Nat) : DeskOk dmA (lmA t) 100 := by
  obtain ⟨h1, h2, h3, h4, h5⟩ := lmA_is t
  exact ⟨dmA_fit, fun x hx => by simp [dmA, DiskM.act, DiskM.stops, newDisk] at hx, by rw [dmA_live.2]; omega, by simp [dmA, DiskM.act, DiskM.stops, newDisk], by rw [h2]; rfl, by rw [h3]; decide, h5⟩
theorem poolA {t : Nat → Nat} {w : World} (ht : Tbl t w) : PoolOk t dmA.shp (pmA t) := by
  intro f hf
  rw [pmA_held] at hf
  simp at hf; subst hf
  refine ⟨by show 0 < 1; omega, by rw [pgA_len]; rfl, 1, ?_, pgA_lsn t, by omega, fun _ => by omega⟩
  simp only [pgA_len, slots40]
  exact pgA_check ht
/-- What alive comes to. -/
theorem aliveEnd (t : Nat → Nat) : ∃ dmf lmf pmf, cleanAllM (pmA t).dirtyN dmA (lmA t) (pmA t) = (dmf, lmf, pmf, 0) ∧ dmf.acts = 8 ∧ lmf.base + lmf.disk + 1 = 35 ∧ dmf.lasts[0]? = some (pgA t) ∧ dmf.fit ∧ dmf.lasted ≤ dmf.log.length ∧ dmf.log.length < 1000000 ∧ dmf.shp = sh1 := by
  obtain ⟨h1, h2, h3, h4, h5⟩ := lmA_is t
  have hz : (lmA t).bytes = (lmA t).disk + (lmA t).tail.length := by omega
  have hc := cleanM_live (t := t) dmA_live.1 (lm := lmA t) (pmA_find t) (by show 0 < 1; omega)
  have hx : (pageLsn (pgA t)).getD 0 = 1 := by rw [pgA_lsn]; rfl
  simp only [hx] at hc
  have hne : ¬ (1 ≤ (lmA t).base + (lmA t).disk ∨ (lmA t).tail = []) := by
    rintro (q | q)
    · omega
    · rw [q] at h4; simp at h4
  have hf := dmA_live.1.flush (lm := lmA t) 1
  rw [if_neg hne, if_neg hne] at hf
  have hok := flushM_ok (deskA t) hz hf.1
  have hg := flushM_grounds (deskA t) hz 1
  have hs := flushM_shp (deskA t) hz 1
  have hp := hf.2.1.pair 0 (pgA t) (pairB 1 0 (pgA t))
  have hpo := (pairS_ok hok.1 hok.2.1 (n := 0) (by rw [hs]; decide) (b := pgA t) (pb := pairB 1 0 (pgA t)) (by rw [hs, pgA_len]; rfl) (by rw [pairB_len, hs, pgA_len]; rfl)).2.2.2.2
  have hpm := pairS_more (m := (flushM dmA (lmA t) 1).1) (n := 0) (b := pgA t) (pb := pairB 1 0 (pgA t))
  have hlo : (flushM dmA (lmA t) 1).1.loose = [] := hg.2.2
  have hpg := pairS_grounds hok.1 hlo (n := 0) (by rw [hs]; decide) (b := pgA t) (pb := pairB 1 0 (pgA t)) (by rw [hs, pgA_len]; rfl) (by rw [pairB_len, hs, pgA_len]; rfl) 0 (by rw [hs]; decide)
  have hlen : (flushM dmA (lmA t) 1).1.log.length = 34 := by
    have := hok.2.2.2.2.1
    rw [hf.2.2.2] at this
    rw [this]; exact h3
  refine ⟨_, _, _, by rw [pmA_dirty]; show (if (cleanM dmA (lmA t) (pmA t) 0).2.2.2 = 0 then _ else _) = _; rw [hc, if_pos rfl]; rfl, ?_, ?_, ?_, hpo.2.1, ?_, ?_, hpo.1.trans hs⟩
  · rw [hp.2.2, hf.2.2.1, dmA_live.2]
  · rw [hf.2.2.2]; show (lmA t).base + (lmA t).bytes + 1 = 35; omega
  · rw [hpg.1, if_pos rfl]
  · rw [hpm.1, pairS_lasted, dmA_live.1.flush_lasted hne]; exact Nat.le_refl _
  · rw [hpm.1, hlen]; omega
set_option maxRecDepth 100000 in
set_option maxHeartbeats 8000000 in
theorem alive10 {t : Nat → Nat} {w : World} (ht : Tbl t w) : Calls Tryz.prog 10 #[] w fun e w' => e = .returned (.bool true) ∧ Off [] w w' := by
  obtain ⟨P, hP⟩ : ∃ P : Ending → World → Prop, P = fun e w' => e = .returned (.bool true) ∧ Off [] w w' := ⟨_, rfl⟩
  rw [← hP]
  have HP := Lib.hid hP
  have HT := Lib.hid ht
  clear hP ht
  go_enter Tryz.func10, Tryz.ntmps10
  go_wp2_with fail
  refine (new8_sh1 w).mono ?_
  rintro e w1 ⟨d, D, rfl, hd1, ho1, hD1⟩
  have HD1 := Lib.hid (And.intro hd1 (And.intro ho1 hD1))
  have HOP : Hid (Calls Tryz.prog 11 #[.pointer (some ⟨d, 0, none⟩), .int .i64 0] w1 (OpenPost d D (newDisk sh1) 0 w1)) := Lib.hid (open11_nil hd1 (by decide) rfl rfl 0 (by omega))
  clear hd1 ho1 hD1
  go_wp2_with (go_at_call 9; refine (num9 _ _).mono ?_; rintro e w' ⟨rfl, rfl⟩)
  refine HOP.out.mono ?_
  rintro e w2 ⟨g, L, rfl, hl2, hk2, hL2⟩
  have HL2 := Lib.hid (And.intro hl2 (And.intro hk2 hL2))
  clear hl2 hk2 hL2 HOP
  go_wp2_with (go_at_call 9; refine (num9 _ _).mono ?_; rintro e w' ⟨rfl, rfl⟩)
  refine (new12 d g 2 (by omega) (by omega) w2).mono ?_
  rintro e w3 ⟨p, Q, rfl, hp3, ho3, hQ3⟩
  have HW3 : Hid (Since w d g p (newDisk sh1).act (newLog 0) ⟨2, [], false⟩ ⟨D, L, Q⟩ w3) := Lib.hid (by
    have a1 := HD1.out
    have a2 := HL2.out
    have s1 := a1.2.1.size
    have s2 := a2.2.1.2.size
    obtain ⟨x1, x2⟩ := Whole.start (w := w) (w1 := w1) (w2 := w2) (w3 := w3) a2.2.1.1 (fun z hz => ⟨a1.2.2 z hz, a1.1.lt z hz⟩) a2.1 (fun z hz => ⟨a2.2.2 z hz, a2.1.lt z hz⟩) s1 hp3 ho3 hQ3 s2
    exact ⟨x1, x2, (a1.2.1.trans (a2.2.1.2) (fun z hz => .inr (a1.2.2 z hz))).trans ho3 (by simp)⟩)
  have HT3 : Hid (Tbl t w3 ∧ 0 < w.heap.size) := Lib.hid ⟨HT.out.off HW3.out.2.2 (by simp), HT.out.1⟩
  clear hp3 ho3 hQ3 HD1 HL2
  have hap := append13 HT3.out.1 HW3.out.1.1 rfl 3 (by omega) (by omega) (by simp [newLog]) (fun hz => by have := HW3.out.2.1 0 (by simp [hz]); have := HT3.out.2; omega)
  unfold beginV at hap
  have HAP := Lib.hid hap
  clear hap
  go_wp2_with (go_at_call 9; refine (num9 _ _).mono ?_; rintro e w' ⟨rfl, rfl⟩)
  refine HAP.out.mono ?_
  rintro e w4 (⟨_, rfl, hs4⟩ | ⟨hbad, _⟩)
  rotate_left
  · exact absurd hbad (by decide)
  have hfin : (((newLog 0).fin : Nat) : Int) = 1 := rfl
  rw [hfin]
  obtain ⟨D4, L4, hW4, hA4, _⟩ := HW3.out.1.deskAt (HW3.out.1.1.log hs4)
  have HW4 := Lib.hid (HW3.out.step hW4 hA4)
  clear hs4 hW4 hA4 HAP hfin
  go_wp2_with (go_at_call 9; refine (num9 _ _).mono ?_; rintro e w' ⟨rfl, rfl⟩)
  obtain ⟨hT4, z1, z2, z3⟩ := HW4.out.zero HT.out
  have HPIN : Hid (Calls Tryz.prog 16 #[.pointer (some ⟨p, 0, none⟩), .int .i64 0, .int .i64 0] w4 (PinPost d g p ⟨D4, L4, Q⟩ dmA (lmA t) (PoolM.add ⟨2, [], false⟩ ⟨0, zA, 1, 0⟩) zA w4)) :=
    Lib.hid (pin16_room hT4 HW4.out.1 z1 rfl (by decide) (DiskM.act_fit (newDisk_fit sh1)) 0 (by decide) rfl (by decide) zA (by exact blankG_at sh1 0 (by decide)) 0 (check_zeros t 0 1 (by omega) (by omega) (by omega)) rfl 0)
  clear hT4 z1 z2 z3
  refine HPIN.out.mono ?_
  rintro e w5 ⟨F5, ao, cap, rfl, hW5, hA5, hb5, hf5⟩
  have hz40 : zA.length = 40 := by unfold zA; rw [List.length_replicate]
  rw [hz40] at hb5 hf5 ⊢
  obtain ⟨bb, boff, rfl⟩ := hb5.base (by rw [hz40]; omega)
  have k16 := hb5.cell 16 (by rw [hz40]; omega)
  have kf := fun o => Own.unfrozen hb5 o
  have HS5 := Lib.hid (HW4.out.step hW5 hA5)
  have HB5 := Lib.hid (And.intro hb5 (hf5 bb (by simp [blk])))
  clear hW5 hA5 hb5 hf5 HPIN
  go_wp2_with (go_at_call 9; refine (num9 _ _).mono ?_; rintro e w' ⟨rfl, rfl⟩)
  obtain ⟨W6, hW6⟩ : ∃ W6, W6 = w5.setCell ⟨bb, boff + 16, none⟩ (.int .u8 1) := ⟨_, rfl⟩
  rw [← hW6]
  have ho6 : Off [bb] w5 W6 := by rw [hW6]; exact (Off.refl [bb] w5).setCell (.inl (by simp)) _
  have HS6 := Lib.hid (HS5.out.write ho6 (fun z hz => by simp at hz; rw [hz]; exact ⟨Nat.le_trans HW4.out.2.2.size HB5.out.2.1, HB5.out.2.2⟩))
  have hb6 : IsB W6 (.slice (some ⟨bb, boff, none⟩) 40 cap) (zA.set 16 1) := by rw [hW6]; exact HB5.out.1.put 16 1
  have HB6 := Lib.hid hb6
  have HCH : Hid (Calls Tryz.prog 17 #[.pointer (some ⟨p, 0, none⟩), .int .i64 0, .slice (some ⟨bb, boff, none⟩) 40 cap, .int .i64 1] W6 (OkPost d g p F5 dmA (lmA t) (pmA t) 0 W6)) := Lib.hid (by
    obtain ⟨hT6, z1, z2, z3⟩ := HS6.out.zero HT.out
    exact change17 hT6 HS6.out.1 z2 rfl 0 (by omega) ⟨0, zA, 1, 0⟩ rfl (by show 0 < 1; omega) _ (zA.set 16 1) HB6.out (fun z hz hz' => HB5.out.2.2 (by simp [blk] at hz; rw [← hz]; simp [hz'])) (by rw [zA_len, hz40]) (by rw [zA_len, slots40]; omega) 1 (by show (pageLsn zA).getD 0 < 1; rw [show pageLsn zA = some 0 from lsn_zeros 1 (by omega) (by omega)]; decide) (by
      obtain ⟨e1, e2, e3, _, _⟩ := lmA_is t
      show 1 < (lmA t).base + (lmA t).bytes + 1; omega))
  clear hW6 ho6 hb6 k16 kf HB5
  refine HCH.out.mono ?_
  rintro e w7 ⟨rfl, F7, hW7, hA7⟩
  have HS7 := Lib.hid (HS6.out.step hW7 hA7)
  have HCA : Hid (Calls Tryz.prog 31 #[.pointer (some ⟨p, 0, none⟩)] w7 (WPost d g p F7 (cleanAllM (pmA t).dirtyN dmA (lmA t) (pmA t)) w7)) := Lib.hid (by
    obtain ⟨hT7, z1, z2, z3⟩ := HS7.out.zero HT.out
    exact cleanAll31 hT7 HS7.out.1 ⟨z1, z2, z3⟩ rfl (a := 100) (by omega) (deskA t) (poolA HT.out) (by rw [pmA_held]; show 1 ≤ 2; omega))
  obtain ⟨dmf, lmf, pmf, hce, hac, hfl, hla, hfi, hll, hlg, hsh⟩ := aliveEnd t
  rw [hce] at HCA
  have HE := Lib.hid (And.intro hla (And.intro hfi (And.intro hll (And.intro hlg hsh))))
  have HNUM := Lib.hid (And.intro hac hfl)
  clear hW7 hA7 HCH hce hac hfl hla hfi hll hlg hsh
  go_wp2_with (go_at_call 9; refine (num9 _ _).mono ?_; rintro e w' ⟨rfl, rfl⟩)
  refine HCA.out.mono ?_
  rintro e w8 ⟨rfl, F8, hW8, hA8⟩
  have HS8 := Lib.hid (HS7.out.step hW8 hA8)
  have HLA := Lib.hid (lasts33 hW8.1.1 HE.out.2.1 HE.out.2.2.1 HE.out.2.2.2.1)
  clear hW8 hA8 HCA
  go_wp2_with (go_at_call 9; refine (num9 _ _).mono ?_; rintro e w' ⟨rfl, rfl⟩)
  refine HLA.out.mono ?_
  rintro e w9 ⟨pv, xv, lv, m0, m1, rfl, hlive, ho9, ⟨pa, pn, pc, rfl⟩, ⟨xa, xn, xc, rfl⟩, ⟨la, ln, lc, rfl⟩, ⟨ma, mn, mc, rfl⟩, ⟨na, nn, nc, rfl⟩⟩
  have hpg := hlive.now.1
  have HS9 := Lib.hid (HS8.out.step (HS8.out.1.off ho9 (by simp)) (Acc3.quiet ho9))
  have e1 : (dmf.lasts.take dmf.shp.pages) = [pgA t] := by
    rw [HE.out.2.2.2.2]
    have := HE.out.1
    cases h : dmf.lasts with
    | nil => rw [h] at this; simp at this
    | cons x xs => rw [h] at this; simp at this; rw [this]; rfl
  rw [e1] at hpg
  obtain ⟨vs, hown, hit⟩ := hpg
  obtain ⟨x, hx1, hx2⟩ := hit.2 0 (pgA t) rfl
  obtain ⟨yo, yc, rfl⟩ := hx2.val
  rw [pgA_len] at hx1 hx2
  obtain ⟨yb, yoff, rfl⟩ := hx2.base (by rw [pgA_len]; omega)
  have hpn : pn = 1 := by obtain ⟨_, _, e, _⟩ := hown.val; injection e
  subst hpn
  obtain ⟨pb, poff, rfl, hc0⟩ : ∃ pb poff, pa = some ⟨pb, poff, none⟩ ∧ w9.cell? ⟨pb, poff, none⟩ = some (.slice (some ⟨yb, yoff, none⟩) 40 yc) := by
    rcases hown.2 with ⟨e, h0⟩ | ⟨pb, poff, c, cur, e, _⟩
    · simp at h0
    · injection e with e1 _ e3
      subst e1; subst e3
      refine ⟨pb, poff, rfl, ?_⟩
      have q := Own.cellAt hown 0 (by simp)
      rw [Nat.add_zero, hx1] at q; exact q
  have b16 : (pgA t)[16]? = some 1 := by
    unfold pgA
    rw [stamp_mid _ _ _ _ (by rw [zA_len]; omega) 16 (by omega) (by rw [zA_len]; omega), List.getElem?_set_self (by unfold zA; rw [List.length_replicate]; omega)]
  have b0 : (pgA t)[0]? = some 1 := by unfold pgA; rw [stamp_first _ _ _ _ (by rw [zA_len]; omega)]; rfl
  have c16 : w9.cell? ⟨yb, yoff + 16, none⟩ = some (.int .u8 1) := by
    rw [hx2.cell 16 (by rw [pgA_len]; omega)]
    rw [List.getElem?_eq_getElem (by rw [pgA_len]; omega)] at b16
    injection b16 with b16; rw [b16]; rfl
  have c00 : w9.cell? ⟨yb, yoff, none⟩ = some (.int .u8 1) := by
    have q := hx2.cell 0 (by rw [pgA_len]; omega)
    rw [Nat.add_zero] at q
    rw [q]
    rw [List.getElem?_eq_getElem (by rw [pgA_len]; omega)] at b0
    injection b0 with b0; rw [b0]; rfl
  have n1 : pb < w9.heap.size := World.block_lt_of_cell? w9 _ hc0
  have n2 : yb < w9.heap.size := World.block_lt_of_cell? w9 _ c00
  have HFL : Hid (∀ W, Off [] w9 W → Calls Tryz.prog 48 #[.pointer (some ⟨g, 0, none⟩)] W fun e w' => e = .returned (.int .i64 35) ∧ Off [g] W w') := Lib.hid (fun W ho => by
    have q := flushed48 (HS9.out.1.1.2.1.off ho (by simp))
    rw [HNUM.out.2] at q
    exact q.mono (fun e w' h => ⟨h.1, h.2.2⟩))
  have hgl : g ∈ F8.l := by obtain ⟨_, _, _, _, _, hgf⟩ := HS9.out.1.1.2.1.tailAt; exact hgf
  have HAC : Hid (∀ W, Off [g] w9 W → Calls Tryz.prog 28 #[.pointer (some ⟨d, 0, none⟩)] W fun e w' => e = .returned (.int .i64 8) ∧ W = w') := Lib.hid (fun W ho => by
    have q := acts28 (HS9.out.1.1.1.off ho (fun z hz hz' => by simp at hz'; subst hz'; exact HS9.out.1.1.2.2 _ hz hgl))
    rw [HNUM.out.1] at q
    exact q)
  have HFIN : Hid (∀ W, Off [g] w9 W → P (.returned (.bool true)) W) := Lib.hid (fun W ho => by
    rw [HP.out]
    exact ⟨rfl, HS9.out.2.2.trans ho (fun z hz => .inr (by simp at hz; rw [hz]; exact HS9.out.2.1 g (by simp [hgl])))⟩)
  clear hown hit hx1 hx2 b16 b0 hlive ho9 e1 HLA
  go_wp2_with fail
  refine (HFL.out _ ((Off.refl [] w9).alloc _)).mono ?_
  rintro e wx ⟨rfl, hox⟩
  have HOX : Hid (Off [g] w9 wx) := Lib.hid (((Off.refl [g] w9).alloc _).trans hox (fun z hz => .inl hz))
  clear hox HFL hc0 c16 c00
  go_wp2_with fail
  refine (HAC.out wx HOX.out).mono ?_
  rintro e wy ⟨rfl, rfl⟩
  have HF := Lib.hid (HFIN.out _ HOX.out)
  clear HFIN HAC
  go_wp2_with fail
  first | exact HF.out | (go_ret; exact HF.out)
end Go.Proofs.YtfdgiblkllfpjaaGreatDoor

/- PoolPins: the law's rest. -/
set_option linter.unusedVariables false
set_option linter.unusedSimpArgs false
namespace Go.Proofs.YtfdgiblkllfpjaaGreatDoor
open Go.ChangeShapes Go.WideShapes Go.ChangeAt Go.RowKit

theorem emod_parts {n m r q : Int} (e : n = r + m * q) : n.emod m = r.emod m := by
  show n % m = r % m
  rw [e, Int.add_mul_emod_self_left]
set_option maxRecDepth 100000 in
theorem rest25 (n m : Int) (h0 : 0 < m) (hm : m ≤ 1000) (w : World) : Calls Tryz.prog 25 #[.int .i64 n, .int .i64 m] w fun e w' => e = .returned (.int .i64 (n.emod m)) ∧ w = w' := by
  have hmz : (m == 0) = false := by rw [beq_eq_false_iff_ne]; omega
  have a := Int.tmod_lt_of_pos n h0
  have b := Int.lt_tmod_of_pos n h0
  by_cases hn : n.tmod m < 0
  · have hw : wrap64 (n.tmod m + m) = n.tmod m + m := wadd (by omega) (by unfold imax; omega)
    have he : n.emod m = n.tmod m + m := by
      have h1 : n.emod m = (n.tmod m).emod m := emod_parts (Int.tmod_add_mul_tdiv n m).symm
      rw [h1]
      show n.tmod m % m = _
      rw [← Int.add_emod_right, Int.emod_eq_of_lt (by omega) (by omega)]
    rw [he]
    clear he a b
    go_enter Tryz.func25, Tryz.ntmps25
    go_wp2_with fail
    go_ret
    exact ⟨by show Ending.returned (.int .i64 (wrap64 (n.tmod m + m))) = _; rw [hw], rfl⟩
  · have he : n.emod m = n.tmod m := by
      have h1 : n.emod m = (n.tmod m).emod m := emod_parts (Int.tmod_add_mul_tdiv n m).symm
      rw [h1]
      show n.tmod m % m = _
      rw [Int.emod_eq_of_lt (by omega) (by omega)]
    rw [he]
    clear he a b
    go_enter Tryz.func25, Tryz.ntmps25
    go_wp2_with fail
    go_ret
    exact ⟨rfl, rfl⟩
end Go.Proofs.YtfdgiblkllfpjaaGreatDoor

/- the laws' own: fitted, lent, whole, grown, full. -/
set_option linter.unusedVariables false
set_option linter.unusedSimpArgs false
namespace Go.Proofs.YtfdgiblkllfpjaaGreatDoor
open Go.ChangeShapes Go.WideShapes Go.ChangeAt Go.RowKit

theorem IsB.free {w : World} {g off n cap : Nat} {l : List UInt8} (h : IsB w (.slice (some ⟨g, off, none⟩) n cap) l) (o : Nat) : w.frozen? ⟨g, o, none⟩ = false := by
  have hn : n = l.length := by obtain ⟨a, c, e⟩ := h.val; injection e
  subst hn
  exact Own.unfrozen h o
def fitB (l : List UInt8) : List UInt8 := l.take 40 ++ List.replicate (40 - l.length) 0
theorem fitB_len (l : List UInt8) : (fitB l).length = 40 := by unfold fitB; rw [List.length_append, List.length_take, List.length_replicate]; omega
theorem newB (w : World) (n : Nat) (hn : n < 1000000) : IsB (w.alloc (.cells (Array.replicate n (.int .u8 0)) 5)) (.slice (some ⟨w.heap.size, 0, none⟩) n n) (List.replicate n 0) := by
  unfold IsB
  rw [List.length_replicate, bytesV_zeros]
  have q := Own.new w 5 1 (Array.replicate n (.int .u8 0)) n (by unfold maxLen; omega) (by simp)
  simpa using q
theorem fit_step (l : List UInt8) (k : Nat) (hk : k < 40) (hl : k < l.length) : (l.take k ++ List.replicate (40 - k) 0).set k l[k] = l.take (k + 1) ++ List.replicate (40 - (k + 1)) 0 := by
  have h1 : (l.take k).length = k := by rw [List.length_take]; omega
  rw [List.set_append_right _ _ (by omega), h1, Nat.sub_self, show 40 - k = (40 - (k + 1)) + 1 by omega, List.replicate_succ, List.set_cons_zero, List.take_succ_eq_append_getElem hl, List.append_assoc]; rfl
/-- Bytes that came in: they are read, no more. -/
def ReadB (w : World) (v : Value) (l : List UInt8) : Prop :=
  ∃ ao cap, v = .slice ao l.length cap ∧ ∀ k (hk : k < l.length), ∃ g off, ao = some ⟨g, off, none⟩ ∧ g < w.heap.size ∧ w.cell? ⟨g, off + k, none⟩ = some (bv l[k])
theorem ReadB.off {w w' : World} {v : Value} {l : List UInt8} (h : ReadB w v l) (ho : Off [] w w') : ReadB w' v l := by
  obtain ⟨ao, cap, e, hc⟩ := h
  refine ⟨ao, cap, e, fun k hk => ?_⟩
  obtain ⟨g, off, e1, e2, e3⟩ := hc k hk
  exact ⟨g, off, e1, Nat.lt_of_lt_of_le e2 ho.size, by rw [World.cell?_of_block (a := ⟨g, off + k, none⟩) (ho.old g e2 (by simp))]; exact e3⟩
theorem ReadB.val {w : World} {v : Value} {l : List UInt8} (h : ReadB w v l) : ∃ ao cap, v = .slice ao l.length cap := by obtain ⟨a, c, e, _⟩ := h; exact ⟨a, c, e⟩
theorem ReadB.cellAt {w : World} {ao : Option Addr} {n cap : Nat} {l : List UInt8} (h : ReadB w (.slice ao n cap) l) {k : Nat} (hk : k < l.length) : ∃ g off, ao = some ⟨g, off, none⟩ ∧ w.cell? ⟨g, off + k, none⟩ = some (bv l[k]) := by
  obtain ⟨ao', cap', e, hc⟩ := h
  injection e with e1 e2 e3
  subst e1
  obtain ⟨g, off, q1, _, q3⟩ := hc k hk
  exact ⟨g, off, q1, q3⟩
set_option maxRecDepth 100000 in
set_option maxHeartbeats 4000000 in
theorem fitted15 {w : World} {v : Value} {l : List UInt8} (h : ReadB w v l) (hm : l.length ≤ 140737488355328) : Calls Tryz.prog 15 #[v, .int .i64 1] w (FreshB w (fitB l)) := by
  obtain ⟨vo, vc, rfl⟩ := h.val
  have hmk : ∀ W, (Instr.makeSlice 22 (.int .i64 40) (.int .i64 40)).run Tryz.prog W = .ok (.slice (some ⟨W.heap.size, 0, none⟩) 40 40) (W.alloc (.cells (Array.replicate 40 (.int .u8 0)) 5)) := fun W => makeB 40 (by omega) W
  have HB := Lib.hid h
  obtain ⟨P, hP⟩ : ∃ P, P = FreshB w (fitB l) := ⟨_, rfl⟩
  rw [← hP]
  have HP := Lib.hid hP
  obtain ⟨W0, hW0⟩ : ∃ W0, W0 = w.alloc (.cells (Array.replicate 40 (.int .u8 0)) 5) := ⟨_, rfl⟩
  have HN : Hid (IsB W0 (.slice (some ⟨w.heap.size, 0, none⟩) 40 40) (List.replicate 40 0)) := Lib.hid (by rw [hW0]; exact newB w 40 (by omega))
  have HO : Hid (Off [] w W0) := Lib.hid (by rw [hW0]; exact (Off.refl [] w).alloc _)
  clear h hP
  generalize hn : l.length = n at *
  have HNL := Lib.hid hn
  clear hn
  go_enter Tryz.func15, Tryz.ntmps15
  go_wp2_with fail
  rw [← hW0]
  clear hmk hW0
  generalize hg : w.heap.size = g at *
  have HGE := Lib.hid hg
  clear hg
  go_loopw [6] (fun i wr => ∃ k : Nat, k ≤ 40 ∧ k ≤ n ∧ i = .int .i64 (k : Int) ∧ IsB wr (.slice (some ⟨g, 0, none⟩) 40 40) (l.take k ++ List.replicate (40 - k) 0) ∧ Off [g] W0 wr) (fun i _ => 40 - (intOf i).toNat)
  case atStart => exact ⟨0, by omega, by omega, rfl, by simpa using HN.out, Off.refl _ _⟩
  case round =>
    obtain ⟨k, hk, hkn, rfl, hb, ho⟩ := hrel
    have HI := Lib.hid (And.intro hb ho)
    have hend : (k = 40 ∨ k = n) → P (.returned (.slice (some ⟨g, 0, none⟩) 40 40)) wr := fun hc => by
      rw [HP.out]
      have e : l.take k ++ List.replicate (40 - k) 0 = fitB l := by
        unfold fitB
        rw [HNL.out]
        rcases hc with rfl | rfl
        · rw [Nat.sub_self]
          have : 40 - n = 0 := by omega
          rw [this]
        · rw [List.take_of_length_le (by rw [HNL.out]; exact Nat.le_refl _), List.take_of_length_le (by rw [HNL.out]; omega)]
      refine ⟨some ⟨g, 0, none⟩, 40, by rw [fitB_len], by rw [fitB_len, ← e]; exact HI.out.1, HO.out.trans HI.out.2 (fun z hz => .inr (by simp at hz; rw [hz, HGE.out]; exact Nat.le_refl _)), fun z hz => by rw [fitB_len] at hz; simp [blk] at hz; rw [hz, HGE.out]; exact Nat.le_refl _⟩
    have HE := Lib.hid hend
    clear hend hb ho
    by_cases h40 : k < 40
    · by_cases hkl : k < n
      · have hlv : k < l.length := by rw [HNL.out]; exact hkl
        obtain ⟨vb, voff, rfl, c1⟩ := (HB.out.off (HO.out.trans HI.out.2 (fun z hz => .inr (by simp at hz; rw [hz, HGE.out]; exact Nat.le_refl _)))).cellAt hlv
        have c2 : wr.cell? ⟨g, 0 + k, none⟩ = some (bv ((l.take k ++ List.replicate (40 - k) 0)[k]'(by rw [List.length_append, List.length_take, List.length_replicate]; omega))) := HI.out.1.cell k (by rw [List.length_append, List.length_take, List.length_replicate]; omega)
        rw [Nat.zero_add] at c2
        have cf := fun o => HI.out.1.free o
        have HSET : Hid (IsB (wr.setCell ⟨g, k, none⟩ (bv l[k])) (.slice (some ⟨g, 0, none⟩) 40 40) (l.take (k + 1) ++ List.replicate (40 - (k + 1)) 0)) := Lib.hid (by
          have q := HI.out.1.put k l[k]
          rw [fit_step l k h40 hlv, Nat.zero_add] at q; exact q)
        have HOS : Hid (Off [g] W0 (wr.setCell ⟨g, k, none⟩ (bv l[k]))) := Lib.hid (HI.out.2.setCell (.inl (by simp)) _)
        clear HB
        unfold bv at c1 c2 HSET HOS
        generalize ((l[k].toNat : Nat) : Int) = bk at *
        generalize (((l.take k ++ List.replicate (40 - k) 0)[k]'_).toNat : Int) = bo at *
        go_wp2_with fail
        go_roundw
        case rel => exact ⟨k + 1, by omega, by omega, by go_num, HSET.out, HOS.out⟩
        case measure => simp [intOf]; omega
      · have hF := HE.out (.inr (by omega))
        have HF := Lib.hid hF
        clear hF HE
        go_wp2_with fail
        first | exact HF.out | (go_ret; exact HF.out)
    · have hF := HE.out (.inl (by omega))
      have HF := Lib.hid hF
      clear hF HE
      go_wp2_with fail
      first | exact HF.out | (go_ret; exact HF.out)
end Go.Proofs.YtfdgiblkllfpjaaGreatDoor

/- the laws' own: lent of a page, whole, full, grown. -/
set_option linter.unusedVariables false
set_option linter.unusedSimpArgs false
namespace Go.Proofs.YtfdgiblkllfpjaaGreatDoor
open Go.ChangeShapes Go.WideShapes Go.ChangeAt Go.RowKit

def marks : List UInt8 := (List.range 120).map (fun j => UInt8.ofNat (129 + j))
def lentB (l : List UInt8) : List UInt8 := l ++ marks
theorem marks_len : marks.length = 120 := by unfold marks; simp
theorem lentB_len {l : List UInt8} (h : l.length = 40) : (lentB l).length = 160 := by unfold lentB; rw [List.length_append, marks_len, h]
theorem fill_step (a m : List UInt8) (N k : Nat) (hk : k < m.length) (hN : m.length ≤ N) : (a ++ (m.take k ++ List.replicate (N - k) 0)).set (a.length + k) m[k] = a ++ (m.take (k + 1) ++ List.replicate (N - (k + 1)) 0) := by
  have h1 : (m.take k).length = k := by rw [List.length_take]; omega
  rw [List.set_append_right _ _ (by omega), Nat.add_sub_cancel_left, List.set_append_right _ _ (by omega), h1, Nat.sub_self, show N - k = (N - (k + 1)) + 1 by omega, List.replicate_succ, List.set_cons_zero, List.take_succ_eq_append_getElem hk, List.append_assoc]; rfl
theorem marks_at (k : Nat) (hk : k < 120) : ((marks[k]'(by rw [marks_len]; exact hk)).toNat : Int) = 129 + (k : Int) := by
  unfold marks
  simp only [List.getElem_map, List.getElem_range, UInt8.toNat_ofNat']
  omega
set_option maxRecDepth 100000 in
set_option maxHeartbeats 8000000 in
theorem lent14 {w : World} {v : Value} {l : List UInt8} (h : IsB w v l) (hl : l.length = 40) : Calls Tryz.prog 14 #[v] w (FreshB w (lentB l)) := by
  obtain ⟨vo, vc, rfl⟩ := h.val
  obtain ⟨vb, voff, rfl⟩ := h.base (by omega)
  have hmk : ∀ W, (Instr.makeSlice 22 (.int .i64 160) (.int .i64 160)).run Tryz.prog W = .ok (.slice (some ⟨W.heap.size, 0, none⟩) 160 160) (W.alloc (.cells (Array.replicate 160 (.int .u8 0)) 5)) := fun W => makeB 160 (by omega) W
  have HB := Lib.hid h
  have HL := Lib.hid hl
  obtain ⟨P, hP⟩ : ∃ P, P = FreshB w (lentB l) := ⟨_, rfl⟩
  rw [← hP]
  have HP := Lib.hid hP
  obtain ⟨W0, hW0⟩ : ∃ W0, W0 = w.alloc (.cells (Array.replicate 160 (.int .u8 0)) 5) := ⟨_, rfl⟩
  have HN : Hid (IsB W0 (.slice (some ⟨w.heap.size, 0, none⟩) 160 160) (List.replicate 160 0)) := Lib.hid (by rw [hW0]; exact newB w 160 (by omega))
  have HO : Hid (Off [] w W0) := Lib.hid (by rw [hW0]; exact (Off.refl [] w).alloc _)
  have HG : Hid (vb < w.heap.size) := Lib.hid (h.lt vb (by simp [blk]))
  rw [hl]
  clear h hP hl
  go_enter Tryz.func14, Tryz.ntmps14
  go_wp2_with fail
  rw [← hW0]
  clear hmk hW0
  generalize hg : w.heap.size = g at *
  have HGE := Lib.hid hg
  clear hg
  go_loopw [4] (fun i wr => ∃ k : Nat, k ≤ 40 ∧ i = .int .i64 (k : Int) ∧ IsB wr (.slice (some ⟨g, 0, none⟩) 160 160) ([] ++ (l.take k ++ List.replicate (160 - k) 0)) ∧ Off [g] W0 wr) (fun i _ => 40 - (intOf i).toNat)
  case atStart => exact ⟨0, by omega, rfl, by simpa using HN.out, Off.refl _ _⟩
  case round =>
    obtain ⟨k, hk, rfl, hb, ho⟩ := hrel
    have HI := Lib.hid (And.intro hb ho)
    clear hb ho
    by_cases h40 : k < 40
    · have hlv : k < l.length := by have := HL.out; omega
      have hlen : ([] ++ (l.take k ++ List.replicate (160 - k) 0)).length = 160 := by rw [List.nil_append, List.length_append, List.length_take, List.length_replicate]; omega
      have hsrc := ((HB.out.off HO.out (by simp)).off HI.out.2 (fun z hz hz' => by simp [blk] at hz; have := HG.out; simp at hz'; omega))
      have c1 := hsrc.cell k hlv
      obtain ⟨bo, c2⟩ : ∃ bo : Int, wr.cell? ⟨g, k, none⟩ = some (.int .u8 bo) := by
        have q := HI.out.1.cell k (by rw [hlen]; omega)
        rw [Nat.zero_add] at q
        exact ⟨_, q⟩
      have cf := fun o => HI.out.1.free o
      have HSET : Hid (IsB (wr.setCell ⟨g, k, none⟩ (bv l[k])) (.slice (some ⟨g, 0, none⟩) 160 160) ([] ++ (l.take (k + 1) ++ List.replicate (160 - (k + 1)) 0))) := Lib.hid (by
        have q := HI.out.1.put k l[k]
        have q2 := fill_step [] l 160 k hlv (by have := HL.out; omega)
        rw [List.length_nil, Nat.zero_add] at q2
        rw [q2, Nat.zero_add] at q; exact q)
      have HOS : Hid (Off [g] W0 (wr.setCell ⟨g, k, none⟩ (bv l[k]))) := Lib.hid (HI.out.2.setCell (.inl (by simp)) _)
      unfold bv at c1 HSET HOS
      clear hsrc hlen
      generalize ((l[k].toNat : Nat) : Int) = bk at *
      go_wp2_with fail
      go_roundw
      case rel => exact ⟨k + 1, by omega, by go_num, HSET.out, HOS.out⟩
      case measure => simp [intOf]; omega
    · have hk40 : k = 40 := by omega
      subst hk40
      have HI2 : Hid (IsB wr (.slice (some ⟨g, 0, none⟩) 160 160) (l ++ (marks.take 0 ++ List.replicate (120 - 0) 0)) ∧ Off [g] W0 wr) := Lib.hid ⟨by
        have q := HI.out.1
        rw [List.nil_append, List.take_of_length_le (by have := HL.out; omega)] at q
        exact q, HI.out.2⟩
      clear HI
      obtain ⟨wo, rfl⟩ : ∃ wo : World, wo = wr := ⟨_, rfl⟩
      go_wp2_with fail
      go_loopw [5] (fun i wr => ∃ k : Nat, k ≤ 120 ∧ i = .int .i64 (40 + (k : Int)) ∧ IsB wr (.slice (some ⟨g, 0, none⟩) 160 160) (l ++ (marks.take k ++ List.replicate (120 - k) 0)) ∧ Off [g] W0 wr) (fun i _ => 160 - (intOf i).toNat)
      case atStart => exact ⟨0, by omega, rfl, HI2.out.1, HI2.out.2⟩
      case round =>
        obtain ⟨k, hk, rfl, hb, ho⟩ := hrel
        have HI := Lib.hid (And.intro hb ho)
        clear hb ho
        by_cases h120 : k < 120
        · have hmv : k < marks.length := by rw [marks_len]; omega
          have hlen : (l ++ (marks.take k ++ List.replicate (120 - k) 0)).length = 160 := by rw [List.length_append, List.length_append, List.length_take, List.length_replicate, marks_len, HL.out]; omega
          obtain ⟨bo, c2⟩ : ∃ bo : Int, wr.cell? ⟨g, 40 + k, none⟩ = some (.int .u8 bo) := by
            have q := HI.out.1.cell (40 + k) (by rw [hlen]; omega)
            rw [Nat.zero_add] at q
            exact ⟨_, q⟩
          have cf := fun o => HI.out.1.free o
          have HSET : Hid (IsB (wr.setCell ⟨g, 40 + k, none⟩ (bv marks[k])) (.slice (some ⟨g, 0, none⟩) 160 160) (l ++ (marks.take (k + 1) ++ List.replicate (120 - (k + 1)) 0))) := Lib.hid (by
            have q := HI.out.1.put (40 + k) marks[k]
            have q2 := fill_step l marks 120 k hmv (by rw [marks_len]; omega)
            rw [HL.out] at q2
            rw [q2, Nat.zero_add] at q; exact q)
          have HOS : Hid (Off [g] W0 (wr.setCell ⟨g, 40 + k, none⟩ (bv marks[k]))) := Lib.hid (HI.out.2.setCell (.inl (by simp)) _)
          have hmk := marks_at k h120
          unfold bv at HSET HOS
          rw [hmk] at HSET HOS
          clear hlen hmk
          have ht : ((40 : Int) + (k : Int)).toNat = 40 + k := by omega
          have hw : IntKind.u8.wrap (129 + (40 + (k : Int)) - 40) = 129 + (k : Int) := by rw [show (129 : Int) + (40 + (k : Int)) - 40 = 129 + k by omega]; rw [IntKind.wrap_u8]; omega
          go_wp2_with fail
          go_roundw
          case rel => exact ⟨k + 1, by omega, by go_num, HSET.out, HOS.out⟩
          case measure => simp [intOf]; omega
        · have hk2 : k = 120 := by omega
          subst hk2
          have HF : Hid (P (.returned (.slice (some ⟨g, 0, none⟩) 160 160)) wr) := Lib.hid (by
            rw [HP.out]
            have q := HI.out.1
            rw [Nat.sub_self, List.replicate_zero, List.append_nil, List.take_of_length_le (by rw [marks_len]; omega)] at q
            refine ⟨some ⟨g, 0, none⟩, 160, by rw [lentB_len HL.out], by rw [lentB_len HL.out]; exact q, HO.out.trans HI.out.2 (fun z hz => .inr (by simp at hz; rw [hz, HGE.out]; exact Nat.le_refl _)), fun z hz => by rw [lentB_len HL.out] at hz; simp [blk] at hz; rw [hz, HGE.out]; exact Nat.le_refl _⟩)
          clear HI
          go_wp2_with fail
          first | exact HF.out | (go_ret; exact HF.out)
end Go.Proofs.YtfdgiblkllfpjaaGreatDoor

/- the laws' own: strings of bytes, whole, full, grown. -/
set_option linter.unusedVariables false
set_option linter.unusedSimpArgs false
namespace Go.Proofs.YtfdgiblkllfpjaaGreatDoor
open Go.ChangeShapes Go.WideShapes Go.ChangeAt Go.RowKit

def strB (l : List UInt8) : ByteArray := ⟨l.toArray⟩
theorem IsB.str {w : World} {v : Value} {l : List UInt8} (h : IsB w v l) : (convert 22 9 v).run Tryz.prog w = .ok (.string (strB l)) w := by
  rcases h.2 with ⟨rfl, h0⟩ | ⟨g, off, cap, cur, rfl, _⟩
  · have : l = [] := List.length_eq_zero_iff.1 h0
    subst this
    exact run_convert_bytes_nil w 22 5 Tryz.underlying22 Tryz.underlying5 0 0 9 Tryz.underlying9
  · have q := run_convert_bytes_arg (P := Tryz.prog) w 22 5 Tryz.underlying22 Tryz.underlying5 g off l.length cap (l.map fun b => (b.toNat : Int)) (by simp) (fun i hi => by
      rw [h.cell i hi]
      unfold bv
      simp [List.getD, List.getElem?_eq_getElem hi]) 9 Tryz.underlying9
    rw [q]
    have : strOfNums (l.map fun b => (b.toNat : Int)) = strB l := by
      unfold strOfNums strB
      simp [List.map_map, Function.comp_def]
    rw [this]
set_option maxRecDepth 100000 in
set_option maxHeartbeats 4000000 in
theorem whole19 {w : World} {v1 v2 : Value} {f : List UInt8} (h1 : IsB w v1 (lentB f)) (h2 : IsB w v2 f) (hf : f.length = 40) : Calls Tryz.prog 19 #[v1, v2] w fun e w' => e = .returned (.bool true) ∧ Off [] w w' := by
  obtain ⟨ao, ac, rfl⟩ := h1.val
  obtain ⟨bo, bc, rfl⟩ := h2.val
  have HL : Hid (∀ W, Off [] w W → Calls Tryz.prog 14 #[.slice bo f.length bc] W (FreshB W (lentB f))) := Lib.hid (fun W ho => lent14 (h2.off ho (by simp)) hf)
  have HC : Hid (∀ W, Off [] w W → (convert 22 9 (.slice ao (lentB f).length ac)).run Tryz.prog W = .ok (.string (strB (lentB f))) W) := Lib.hid (fun W ho => (h1.off ho (by simp)).str)
  clear h1 h2 hf
  generalize f.length = fl at *
  go_enter Tryz.func19, Tryz.ntmps19
  go_wp2_with fail
  have hc0 := HC.out w (Off.refl _ _)
  have hc1 := HC.out w.drew (Off.refl [] w).drew
  have hc2 := fun n => HC.out (w.drewN n) ((Off.refl [] w).drewN n)
  go_region_law (go_simp; go_at_call 14; refine (HL.out _ (by first | exact Off.refl _ _ | exact (Off.refl [] w).drew | exact (Off.refl [] w).drewN _)).mono ?_; rintro e wa ⟨co, cc, rfl, p1, p2, p3⟩; have HOA : Hid (Off [] w wa) := Lib.hid (by first | exact (Off.refl [] w).drew.trans p2 (by simp) | exact ((Off.refl [] w).drewN _).trans p2 (by simp) | exact p2); have hcv := p1.str; have hcv1 := (p1.off ((Off.refl [] wa).drew) (by simp)).str; have hcv2 := fun n => (p1.off ((Off.refl [] wa).drewN n) (by simp)).str; have hd0 := HC.out wa HOA.out; have hd1 := HC.out wa.drew HOA.out.drew; have hd2 := fun n => HC.out (wa.drewN n) (HOA.out.drewN n); clear p1 p2 p3)
  all_goals
    go_wp2_with fail
    go_ret
    exact ⟨by first | rfl | exact ret_bool (by simp), by first | exact HOA.out | exact HOA.out.drew | exact HOA.out.drewN _⟩
set_option maxRecDepth 100000 in
set_option maxHeartbeats 4000000 in
/-- All bytes bear the mark. -/
theorem full22 {w : World} {v : Value} {l : List UInt8} (h : IsB w v l) (hn : l.length < 1000000) (m : UInt8) (hm : ∀ b ∈ l, b = m) : Calls Tryz.prog 22 #[v, .int .u8 (m.toNat : Nat)] w fun e w' => e = .returned (.bool true) ∧ w = w' := by
  obtain ⟨vo, vc, rfl⟩ := h.val
  have HB := Lib.hid h
  have HM := Lib.hid hm
  clear h hm
  generalize hl : l.length = n at *
  have HL := Lib.hid hl
  clear hl
  generalize hmm : ((m.toNat : Nat) : Int) = mi at *
  have HMI := Lib.hid hmm
  clear hmm
  go_enter Tryz.func22, Tryz.ntmps22
  go_wp2_with fail
  go_loop [5] (fun i => ∃ k : Nat, k ≤ n ∧ i = .int .i64 (k : Int)) (fun i => n - (intOf i).toNat)
  case atStart => exact ⟨0, Nat.zero_le _, rfl⟩
  case round =>
    obtain ⟨k, hk, rfl⟩ := hrel
    by_cases hlt : k < n
    · obtain ⟨vb, voff, rfl⟩ := HB.out.base (by have := HL.out; omega)
      have c1 : w.cell? ⟨vb, voff + k, none⟩ = some (.int .u8 mi) := by
        have q := HB.out.cell k (by have := HL.out; omega)
        rw [q]
        have e := HM.out (l[k]'(by have := HL.out; omega)) (List.getElem_mem _)
        unfold bv; rw [e, HMI.out]
      go_wp2_with fail
      go_round
      case rel => exact ⟨k + 1, by omega, by go_num⟩
      case measure => simp [intOf]; omega
    · have hkn : k = n := by omega
      subst hkn
      go_wp2_with fail
      go_ret
      exact ⟨rfl, rfl⟩
/-- What grown leaves: the longer bytes; the old slice holds what it held. -/
def GrownPost (ao : Option Addr) (n cap : Nat) (l : List UInt8) (m : UInt8) (w : World) (e : Ending) (w' : World) : Prop :=
  ∃ co cc, e = .returned (.slice co (n + 80) cc) ∧ IsB w' (.slice co (n + 80) cc) (l ++ List.replicate 80 m) ∧ IsB w' (.slice ao n cap) l ∧ Off (blk (.slice ao n cap)) w w' ∧ (∀ z ∈ blk (.slice co (n + 80) cc), z ∈ blk (.slice ao n cap) ∨ w.heap.size ≤ z)
def GrowIn (w : World) (ao : Option Addr) (n cap : Nat) (l : List UInt8) (m : UInt8) (k : Nat) (v : Value) (wr : World) : Prop :=
  ∃ co cc, v = .slice co (n + k) cc ∧ IsB wr (.slice co (n + k) cc) (l ++ List.replicate k m) ∧ IsB wr (.slice ao n cap) l ∧ Off (blk (.slice ao n cap)) w wr ∧ (∀ z ∈ blk (.slice co (n + k) cc), z ∈ blk (.slice ao n cap) ∨ w.heap.size ≤ z) ∧ ((co = ao ∧ cc = cap) ∨ ∀ z ∈ blk (.slice co (n + k) cc), w.heap.size ≤ z)
theorem GrowIn.step {w wr w1 : World} {ao co co' : Option Addr} {n cap cc cc' k : Nat} {l : List UInt8} {m : UInt8} (hln : l.length = n) (hb : IsB wr (.slice co (n + k) cc) (l ++ List.replicate k m)) (ha : IsB wr (.slice ao n cap) l) (ho : Off (blk (.slice ao n cap)) w wr) (hn : ∀ z ∈ blk (.slice co (n + k) cc), z ∈ blk (.slice ao n cap) ∨ w.heap.size ≤ z) (hs : (co = ao ∧ cc = cap) ∨ ∀ z ∈ blk (.slice co (n + k) cc), w.heap.size ≤ z)
    (hal : ∀ z ∈ blk (.slice ao n cap), z < w.heap.size) (q1 : Own w1 5 1 (.slice co' (n + k + 1) cc') (n + k + 1) (bytesV (l ++ List.replicate k m) ++ [bv m])) (o0 : Off [] wr (wr.alloc (.cells #[bv m] 5))) (q2 : Gone (wr.alloc (.cells #[bv m] 5)) w1 co (n + k) cc co' (n + k + 1) cc') : GrowIn w ao n cap l m (k + 1) (.slice co' (n + (k + 1)) cc') w1 := by
  have hsz := ho.size
  have e1 : l ++ List.replicate (k + 1) m = (l ++ List.replicate k m) ++ [m] := by rw [List.replicate_succ', List.append_assoc]
  have ib : IsB w1 (.slice co' (n + (k + 1)) cc') (l ++ List.replicate (k + 1) m) := by
    unfold IsB
    rw [e1, bytesV_append]
    have hlen : ((l ++ List.replicate k m) ++ [m]).length = n + k + 1 := by rw [List.length_append, List.length_append, List.length_replicate, hln]; rfl
    rw [hlen]; exact q1
  rcases q2 with ⟨rfl, rfl, g3⟩ | ⟨g1, g2⟩
  · have owr : Off (blk (.slice co' (n + k) cc')) wr w1 := (o0.mono (by simp)).trans g3 (fun z hz => .inl hz)
    have hblk : ∀ (a b : Nat), blk (.slice co' a cc') = blk (.slice co' b cc') := fun a b => by cases co' <;> rfl
    rcases hs with ⟨h1, h2⟩ | h1
    · subst h1; subst h2
      have ia : IsB w1 (.slice co' n cc') l := by
        have q := ib
        unfold IsB at q ⊢
        rw [bytesV_append] at q
        have hlen : (l ++ List.replicate (k + 1) m).length = n + (k + 1) := by simp [hln]
        rw [hlen] at q
        rw [hln]
        exact Own.shorten q (by rw [bytesV_len, hln]; omega)
      exact ⟨co', cc', rfl, ib, ia, ho.trans owr (fun z hz => .inl (by rw [hblk n (n + k)]; exact hz)), fun z hz => .inl (by rw [hblk n (n + (k + 1))]; exact hz), .inl ⟨rfl, rfl⟩⟩
    · have ia : IsB w1 (.slice ao n cap) l := ha.off owr (fun z hz hz' => by have := hal z hz; have := h1 z hz'; omega)
      exact ⟨co', cc', rfl, ib, ia, ho.trans owr (fun z hz => .inr (h1 z hz)), fun z hz => .inr (h1 z (by rw [hblk (n + k) (n + (k + 1))]; exact hz)), .inr (fun z hz => h1 z (by rw [hblk (n + k) (n + (k + 1))]; exact hz))⟩
  · have owr : Off [] wr w1 := o0.trans g1 (by simp)
    have hnew : ∀ z ∈ blk (.slice co' (n + (k + 1)) cc'), w.heap.size ≤ z := fun z hz => by
      rw [show n + (k + 1) = n + k + 1 by omega, g2] at hz
      simp at hz; omega
    exact ⟨co', cc', rfl, ib, ha.off owr (by simp), ho.trans owr (by simp), fun z hz => .inr (hnew z hz), .inr hnew⟩
set_option maxRecDepth 100000 in
set_option maxHeartbeats 4000000 in
theorem grown21 {w : World} {ao : Option Addr} {n cap : Nat} {l : List UInt8} (h : IsB w (.slice ao n cap) l) (hn : n < 1000000) (m : UInt8) : Calls Tryz.prog 21 #[.slice ao n cap, .int .u8 (m.toNat : Nat)] w (GrownPost ao n cap l m w) := by
  have hln : l.length = n := by obtain ⟨a, c, e⟩ := h.val; injection e with _ e _; exact e.symm
  have HIN : Hid (GrowIn w ao n cap l m 0 (.slice ao n cap) w) := Lib.hid ⟨ao, cap, rfl, by simpa using h, h, Off.refl _ _, fun z hz => .inl hz, .inl ⟨rfl, rfl⟩⟩
  have HAL := Lib.hid h.lt
  have HLN := Lib.hid hln
  have HEND : Hid (∀ v wr, GrowIn w ao n cap l m 80 v wr → GrownPost ao n cap l m w (.returned v) wr) := Lib.hid (fun v wr ⟨co, cc, h1, h2, h3, h4, h5, _⟩ => ⟨co, cc, by rw [h1], h2, h3, h4, h5⟩)
  obtain ⟨P, hP⟩ : ∃ P, P = GrownPost ao n cap l m w := ⟨_, rfl⟩
  rw [← hP] at HEND ⊢
  clear hP h hln
  have HMV : Hid (bv m = .int .u8 (m.toNat : Nat)) := Lib.hid rfl
  generalize hmm : ((m.toNat : Nat) : Int) = mi at *
  clear hmm
  go_enter Tryz.func21, Tryz.ntmps21
  go_wp2_with fail
  go_loopw [5, 0] (fun i v wr => ∃ k : Nat, k ≤ 80 ∧ i = .int .i64 (k : Int) ∧ GrowIn w ao n cap l m k v wr) (fun i _ _ => 80 - (intOf i).toNat)
  case atStart => exact ⟨0, by omega, rfl, HIN.out⟩
  case round =>
    obtain ⟨k, hk, rfl, hin⟩ := hrel
    by_cases hlt : k < 80
    · obtain ⟨co, cc, rfl, h2, h3, h4, h5, h6⟩ := hin
      have HST := Lib.hid (fun w1 co' cc' q1 q2 => GrowIn.step (w1 := w1) (co' := co') (cc' := cc') HLN.out h2 h3 h4 h5 h6 HAL.out q1 ((Off.refl [] wr).alloc _) q2)
      have hown : Own wr 5 1 (.slice co (n + k) cc) (n + k) (bytesV (l ++ List.replicate k m)) := by
        have q := h2
        unfold IsB at q
        rw [show (l ++ List.replicate k m).length = n + k by simp [HLN.out]] at q; exact q
      rw [HMV.out] at HST
      have HOA := Lib.hid (hown.alloc (.cells #[.int .u8 mi] 5))
      have HSR := Lib.hid (src_new (P := Tryz.prog) wr (t := 22) (e := 5) (e' := 5) (sz := 1) #[.int .u8 mi] 1 Tryz.underlying22 (by decide) rfl (by simp [Value.oneCell']))
      have HBD := Lib.hid (show (n + k + 1) * 1 ≤ 140737488355328 by omega)
      clear h2 h3 h4 h5 h6 hown HIN
      go_wp2_with (at_builtin; go_loud (refine wp_app2 rfl _ _ 22 22 rfl rfl HOA.out Tryz.underlying22 iinfo5 rfl (by decide) rfl HSR.out HBD.out ?_))
      intro co' cc' w1 q1 q2
      have HN := Lib.hid (HST.out w1 co' cc' q1 q2)
      clear q1 q2 HST HOA HSR
      go_wp2_with fail
      go_roundw
      case rel => exact ⟨k + 1, by omega, by go_num, HN.out⟩
      case measure => simp [intOf]; omega
    · have hk80 : k = 80 := by omega
      subst hk80
      have hF := HEND.out _ _ hin
      obtain ⟨co, cc, rfl, _⟩ := hin
      have HF := Lib.hid hF
      clear hF HEND HIN
      go_wp2_with fail
      first | exact HF.out | (go_ret; exact HF.out)
end Go.Proofs.YtfdgiblkllfpjaaGreatDoor
