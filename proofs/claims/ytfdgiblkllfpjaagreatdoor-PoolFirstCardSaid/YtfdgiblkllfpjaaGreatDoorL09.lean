/- wal: Flush, where there is something to flush. -/
import Derived.Test.YtfdgiblkllfpjaaGreatDoorL08
import Derived.StillTailTactics
import Derived.Outline
import Derived.Maps.RangeWalk
set_option linter.unusedVariables false
set_option linter.unusedSimpArgs false
namespace Go.Proofs.YtfdgiblkllfpjaaGreatDoor
open Go.ChangeShapes Go.WideShapes Go.ChangeAt Go.RowKit

/-- From w to w1 only these blocks have changed, and the blocks df1, lf1 were among them or are new. -/
def Acc (df lf : List Nat) (w : World) (df1 lf1 : List Nat) (w1 : World) : Prop := Off (df ++ lf) w w1 ∧ (∀ z ∈ df1, z ∈ df ∨ w.heap.size ≤ z) ∧ (∀ z ∈ lf1, z ∈ lf ∨ w.heap.size ≤ z)
section
variable {df lf df1 lf1 df2 lf2 : List Nat} {w w1 w2 : World}
theorem Acc.refl : Acc df lf w df lf w := ⟨Off.refl _ _, fun z hz => .inl hz, fun z hz => .inl hz⟩
theorem Acc.trans (h : Acc df lf w df1 lf1 w1) (k : Acc df1 lf1 w1 df2 lf2 w2) : Acc df lf w df2 lf2 w2 := by
  obtain ⟨h2, h3, h4⟩ := h
  obtain ⟨k2, k3, k4⟩ := k
  have hs := h2.size
  refine ⟨h2.trans k2 (fun z hz => ?_), fun z hz => ?_, fun z hz => ?_⟩
  · rcases List.mem_append.1 hz with q | q
    · rcases h3 z q with a | a
      · exact .inl (by simp [a])
      · exact .inr a
    · rcases h4 z q with a | a
      · exact .inl (by simp [a])
      · exact .inr a
  · rcases k3 z hz with q | q
    · exact h3 z q
    · exact .inr (by omega)
  · rcases k4 z hz with q | q
    · exact h4 z q
    · exact .inr (by omega)
theorem Acc.quiet (ho : Off [] w w1) : Acc df lf w df lf w1 := ⟨ho.mono (by simp), fun z hz => .inl hz, fun z hz => .inl hz⟩
theorem Acc.disk (ho : Off df w w1) (hs : ∀ z ∈ df1, z ∈ df ∨ w.heap.size ≤ z) : Acc df lf w df1 lf w1 := ⟨ho.mono (fun z hz => .inl (by simp [hz])), hs, fun z hz => .inl hz⟩
theorem Acc.log (ho : Off lf w w1) (hs : ∀ z ∈ lf1, z ∈ lf ∨ w.heap.size ≤ z) : Acc df lf w df lf1 w1 := ⟨ho.mono (fun z hz => .inl (by simp [hz])), fun z hz => .inl hz, hs⟩
theorem Desk.step {st : Int} {d g : Nat} {dm : DiskM} {lm : LogM} (h : Desk st w1 d g dm lm df1 lf1) (k : Acc df lf w df1 lf1 w1) : DeskStep st d g df lf dm lm w w1 := ⟨df1, lf1, h, k⟩
theorem Desk.diskAt {st : Int} {d g : Nat} {dm dm1 : DiskM} {lm : LogM} (h : Desk st w d g dm lm df lf) (k : DiskStep d df dm1 w w1) : ∃ df1, Desk st w1 d g dm1 lm df1 lf ∧ Acc df lf w df1 lf w1 := by
  obtain ⟨fp', k1, k2, k3⟩ := k
  have hl := h.2.1.lt
  refine ⟨fp', ⟨k1, h.2.1.off k2 (fun z hz hz' => h.2.2 z hz' hz), fun z hz hz' => ?_⟩, Acc.disk k2 k3⟩
  rcases k3 z hz with q | q
  · exact h.2.2 z q hz'
  · have := hl z hz'; omega
theorem Desk.logAt {st st' : Int} {d g : Nat} {dm : DiskM} {lm lm1 : LogM} (h : Desk st w d g dm lm df lf) (k : LogStep st' g d lf lm1 w w1) : ∃ lf1, Desk st' w1 d g dm lm1 df lf1 ∧ Acc df lf w df lf1 w1 := by
  obtain ⟨fp', k1, k2, k3⟩ := k
  have hl := h.1.lt
  refine ⟨fp', ⟨h.1.off k2 h.2.2, k1, fun z hz hz' => ?_⟩, Acc.log k2 k3⟩
  rcases k3 z hz' with q | q
  · exact h.2.2 z hz q
  · have := hl z hz; omega
end
theorem DiskM.app_room {m : DiskM} {l : List UInt8} (h : m.log.length + l.length ≤ m.shp.log) : m.appC l = 0 := by unfold DiskM.appC; rw [if_pos h]
theorem DiskM.app_acts (m : DiskM) (l : List UInt8) : (m.app l).acts ≤ m.acts + 1 := by
  unfold DiskM.app DiskM.act
  split <;> split <;> simp
open Go.MuLone in
set_option maxRecDepth 100000 in
set_option maxHeartbeats 8000000 in
theorem flush95_do {w : World} {d g : Nat} {dm : DiskM} {lm : LogM} {df lf : List Nat} (h : Desk 0 w d g dm lm df lf) (hdead : lm.dead = false) (lsn : Nat) (hs : ¬ (lsn ≤ lm.base + lm.disk ∨ lm.tail = [])) (hlg : dm.log.length = lm.disk) (hroom : lm.bytes ≤ dm.shp.log) (ha : dm.acts < 4000000000000000000) :
    Calls Tryz.prog 95 #[.pointer (some ⟨g, 0, none⟩), .int .i64 (lsn : Nat)] w (FlushPost d g df lf (flushM dm lm lsn) w) := by
  obtain ⟨k0, k2, k3, k6, k7, k9, kf⟩ := h.2.1.cells
  obtain ⟨ta, tc, k8, hbt, hbtf, hgf⟩ := h.2.1.tailAt
  have hz := h.2.1.sized
  rw [hdead] at k9
  obtain ⟨P, hP⟩ : ∃ P, P = FlushPost d g df lf (flushM dm lm lsn) w := ⟨_, rfl⟩
  rw [← hP]
  have hsl := h.1.ok.1.2.2.2.2.2
  have e0 : flushM dm lm lsn = if dm.stops then (dm.act, lm.met 1, 1) else if (dm.app lm.tail).stops then ((dm.app lm.tail).act, lm.met 1, 1) else ((dm.app lm.tail).syncLog, lm.flushed, 0) := by unfold flushM; rw [if_neg hs]
  rw [e0] at hP
  have htl : lm.tail.length ≠ 0 := fun q => hs (.inr (List.length_eq_zero_iff.1 q))
  have h1 : ¬ lsn ≤ lm.base + lm.disk := fun q => hs (.inl q)
  obtain ⟨l1, o1⟩ := h.2.1.turn 1
  have HD1 : Hid (Desk 1 (w.setCell ⟨g, 0, none⟩ (.int .i32 1)) d g dm lm df lf ∧ Acc df lf w df lf (w.setCell ⟨g, 0, none⟩ (.int .i32 1)) ∧ Off [g] w (w.setCell ⟨g, 0, none⟩ (.int .i32 1))) := Lib.hid 
    ⟨⟨h.1.off o1 (fun z hz hz' => by simp at hz'; subst hz'; exact h.2.2 _ hz hgf), l1, h.2.2⟩, Acc.log (o1.mono (fun z hz => .inl (by simp at hz; rw [hz]; exact hgf))) (fun z hz => .inl hz), o1⟩
  have HBT : Hid (IsB w (.slice ta lm.tail.length tc) lm.tail ∧ ∀ z ∈ blk (.slice ta lm.tail.length tc), z ∉ [g] ∧ z ∉ df) := Lib.hid ⟨hbt, fun z hz => ⟨fun hz' => (hbtf _ hz).2 (by simpa using hz'), fun hz' => h.2.2 z hz' (hbtf z hz).1⟩⟩
  have c2 : (w.setCell ⟨g, 0, none⟩ (.int .i32 1)).cell? ⟨g, 2, none⟩ = some (.pointer (some ⟨d, 0, none⟩)) := by go_simp
  have c3 : (w.setCell ⟨g, 0, none⟩ (.int .i32 1)).cell? ⟨g, 3, none⟩ = some (.int .i64 (lm.base : Nat)) := by go_simp
  have c7 : (w.setCell ⟨g, 0, none⟩ (.int .i32 1)).cell? ⟨g, 7, none⟩ = some (.int .i64 (lm.disk : Nat)) := by go_simp
  have c8 : (w.setCell ⟨g, 0, none⟩ (.int .i32 1)).cell? ⟨g, 8, none⟩ = some (.slice ta lm.tail.length tc) := by go_simp
  have c9 : (w.setCell ⟨g, 0, none⟩ (.int .i32 1)).cell? ⟨g, 9, none⟩ = some (.bool false) := by go_simp
  generalize hw1 : w.setCell ⟨g, 0, none⟩ (.int .i32 1) = w1 at *
  have HTR : Hid (∀ W, Off [] w1 W → Calls Tryz.prog 150 #[.pointer (some ⟨g, 0, none⟩)] W fun e w' => e = .returned (.int .i64 0) ∧ Off [] W w') := Lib.hid (fun W ho => trim150 (HD1.out.1.off ho (by simp) (by simp)) hlg)
  have HAP : Hid (∀ W, Off [] w1 W → Calls Tryz.prog 152 #[.pointer (some ⟨d, 0, none⟩), .slice ta lm.tail.length tc] W (DoPost d df dm (dm.app lm.tail) 0 W)) := Lib.hid (fun W ho => by
    have q := append152 (HD1.out.1.1.off ho (by simp)) (by omega) (by have := hz.2.2.1; omega) _ lm.tail ((HBT.out.1.off HD1.out.2.2 (fun z hz => (HBT.out.2 z hz).1)).off ho (by simp)) (fun z hz => (HBT.out.2 z hz).2) (by have := hz.2; omega)
    rw [DiskM.app_room (by rw [hlg]; have := hz.2.2.2; omega)] at q; exact q)
  have HMT : Hid (∀ W W2, Off [] w1 W → DiskStep d df (dm.app lm.tail) W W2 → ∃ df2, Desk 1 W2 d g (dm.app lm.tail) lm df2 lf ∧ Acc df lf w df2 lf W2) := Lib.hid (fun W W2 ho k => by
    obtain ⟨df2, a, b⟩ := (HD1.out.1.off ho (by simp) (by simp)).diskAt k
    exact ⟨df2, a, (HD1.out.2.1.trans (Acc.quiet ho)).trans b⟩)
  have HMS : Hid (∀ W W2, Off [] w1 W → DiskStep d df dm.act W W2 → ∃ df2, Desk 1 W2 d g dm.act lm df2 lf ∧ Acc df lf w df2 lf W2) := Lib.hid (fun W W2 ho k => by
    obtain ⟨df2, a, b⟩ := (HD1.out.1.off ho (by simp) (by simp)).diskAt k
    exact ⟨df2, a, (HD1.out.2.1.trans (Acc.quiet ho)).trans b⟩)
  have HACT : Hid ((dm.app lm.tail).acts < 4611686018427387904) := Lib.hid (by have := dm.app_acts lm.tail; omega)
  have HM0 := Lib.hid lm.met_zero
  have d1 : decide ((lsn : Int) ≤ (lm.base : Int) + (lm.disk : Int)) = false := decide_eq_false (by omega)
  have d2 : ((lm.tail.length : Int) == 0) = false := beq_eq_false_iff_ne.2 (by omega)
  have HBY : Hid (lm.bytes = lm.disk + lm.tail.length) := Lib.hid hz.2.2.2
  obtain ⟨hz1, hz2, hz3, _⟩ := hz
  clear h hs hlg hroom ha hbt hbtf e0 h1 l1 o1 hdead htl
  have HP := Lib.hid hP
  clear hP
  generalize hbs : lm.base = bs at *
  generalize hdk : lm.disk = dk at *
  generalize htl : lm.tail.length = tl at *
  clear hbs hdk htl
  cases hst : dm.stops
  · have HA1 : Hid (∀ W, Off [] w1 W → Calls Tryz.prog 152 #[.pointer (some ⟨d, 0, none⟩), .slice ta tl tc] W fun e w' => e = .returned (.int .i64 0) ∧ (∃ df2, Desk 1 w' d g (dm.app lm.tail) lm df2 lf ∧ Acc df lf w df2 lf w') ∧ w'.cell? ⟨g, 8, none⟩ = some (.slice ta tl tc)) := Lib.hid (fun W ho => (HAP.out W ho).mono (fun e w' hq => by
      rcases hq with ⟨hh, _⟩ | ⟨_, he, hk⟩
      · rw [hst] at hh; cases hh
      · refine ⟨he, HMT.out W w' ho hk, ?_⟩
        obtain ⟨_, _, k2, _⟩ := hk
        exact k2.cell (ho.cell c8 (by simp)) (fun hz => HD1.out.1.2.2 g hz hgf)))
    have HF1 : Hid ((dm.app lm.tail).stops = true → ∀ W df2 lf2, Desk 1 W d g (dm.app lm.tail).act lm df2 lf2 → Acc df lf w df2 lf2 W → ∀ W2, LogStep 0 g d lf2 (lm.met 1) W W2 → P (.returned (.int .i64 1)) W2) := Lib.hid (fun hs2 W df2 lf2 a b W2 k => by
      rw [HP.out, hst, hs2]
      obtain ⟨lf3, a2, b2⟩ := a.logAt k
      exact ⟨rfl, a2.step (b.trans b2)⟩)
    have HF2 : Hid ((dm.app lm.tail).stops = false → ∀ W df2 lf2, Desk 1 W d g (dm.app lm.tail).syncLog lm df2 lf2 → Acc df lf w df2 lf2 W → ∀ W2, LogStep 0 g d lf2 lm.flushed W W2 → P (.returned (.int .i64 0)) W2) := Lib.hid (fun hs2 W df2 lf2 a b W2 k => by
      rw [HP.out, hst, hs2]
      obtain ⟨lf3, a2, b2⟩ := a.logAt k
      exact ⟨rfl, a2.step (b.trans b2)⟩)
    clear HAP HMT HMS HP hst
    go_enter_defers Tryz.func95, Tryz.ntmps95
    go_wp2_with fail
    refine (lock_free Tryz.muLib ⟨g, 0, none⟩ _ k0 (kf 0)).mono ?_
    rw [hw1]
    rintro e w1 ⟨rfl, rfl⟩
    clear k0 kf k2 k3 k6 k7 k9 hw1
    go_wp2_with fail
    go_quiet (fail)
    go_wp2_with fail
    refine (HTR.out _ ((Off.refl _ _).drewN _)).mono ?_
    rintro e w2 ⟨rfl, ho2⟩
    have HO2 := Lib.hid (((Off.refl [] w1).drewN nq).trans ho2 (by simp))
    have HK : Hid (∀ W, Off [] w2 W → W.cell? ⟨g, 2, none⟩ = some (.pointer (some ⟨d, 0, none⟩)) ∧ W.cell? ⟨g, 8, none⟩ = some (.slice ta tl tc)) := Lib.hid (fun W ho => ⟨(HO2.out.trans ho (by simp)).cell c2 (by simp), (HO2.out.trans ho (by simp)).cell c8 (by simp)⟩)
    clear ho2 c3 c7 c9 c2 c8
    go_wp2_with fail
    go_region_held3 (fun W => W.cell? ⟨g, 2, none⟩ = some (.pointer (some ⟨d, 0, none⟩)) ∧ W.cell? ⟨g, 8, none⟩ = some (.slice ta tl tc))
      (first | exact HK.out _ (Off.refl _ _) | exact HK.out _ (Off.refl _ _).drew | exact HKB.out | exact HKA.out | fail)
      (first
      | (go_at_call 152; refine (HA1.out _ (HO2.out.drew)).mono ?_; rintro e w3 ⟨rfl, ⟨df2, q1, q2⟩, q3⟩; have HQ := Lib.hid (And.intro q1 q2); have HKA : Hid (w3.cell? ⟨g, 2, none⟩ = some (.pointer (some ⟨d, 0, none⟩)) ∧ w3.cell? ⟨g, 8, none⟩ = some (.slice ta tl tc)) := Lib.hid ⟨q1.2.1.cells.2.1, q3⟩; clear q1 q2 q3)
      | (go_at_call 151; refine (met151x HQ.out.1.2.1 0).mono ?_; rintro e w4 ⟨rfl, rfl⟩; have HKB : Hid ((w3.setCell ⟨g, 9, none⟩ (.bool lm.dead)).cell? ⟨g, 2, none⟩ = some (.pointer (some ⟨d, 0, none⟩)) ∧ (w3.setCell ⟨g, 9, none⟩ (.bool lm.dead)).cell? ⟨g, 8, none⟩ = some (.slice ta tl tc)) := Lib.hid (by obtain ⟨a, b⟩ := HKA.out; constructor <;> go_simp)))
    have HL4 : Hid (LogStep 1 g d lf lm w3 (w3.setCell ⟨g, 9, none⟩ (.bool lm.dead))) := Lib.hid (by have q := HQ.out.1.2.1.metAt 0; rw [HM0.out, show (lm.dead || ((0 : Int) == 1)) = lm.dead by simp] at q; exact q)
    generalize w3.setCell ⟨g, 9, none⟩ (.bool lm.dead) = w4 at *
    obtain ⟨lf4, hd4, ha4⟩ := HQ.out.1.logAt HL4.out
    have HQ4 := Lib.hid (And.intro hd4 (HQ.out.2.trans ha4))
    have c24 := HKB.out.1
    have HSY := Lib.hid (syncLog153 hd4.1 HACT.out)
    obtain ⟨_, _, _, _, _, k94, kf4⟩ := hd4.2.1.cells
    clear hd4 ha4 HL4 HQ HKA HKB HK HA1
    go_wp2_with fail
    refine HSY.out.mono ?_
    rintro e w5 hq5
    rcases hq5 with ⟨hs5, rfl, hk5⟩ | ⟨hs5, rfl, hk5⟩
    · obtain ⟨df5, hd5, ha5⟩ := HQ4.out.1.diskAt hk5
      have HQ5 := Lib.hid (And.intro hd5 (HQ4.out.2.trans ha5))
      have HM5 := Lib.hid (met151 hd5.2.1 1)
      have HS5 := Lib.hid hs5
      clear hd5 ha5 hk5 hs5 HSY
      go_wp2_with fail
      refine HM5.out.mono ?_
      rintro e w6 ⟨rfl, hl6⟩
      have HL8 := Lib.hid hl6
      clear hl6
      go_wp2_with fail
      obtain ⟨fp8, p8, o8, s8⟩ := HL8.out
      obtain ⟨k0, _, _, _, _, _, kf⟩ := p8.cells
      refine leaves_cons (f := 56) (args := #[.pointer (some ⟨g, 0, none⟩)]) (by simp) (by simp [go_sem]) ?_
      refine (unlock_deferred Tryz.muLib ⟨g, 0, none⟩ .returning _ k0 (kf 0)).mono ?_
      rintro e u' w'' ⟨rfl, rfl, rfl⟩
      refine ⟨_, results_tmp rfl _ _ _, ?_⟩
      exact HF1.out HS5.out _ _ _ HQ5.out.1 HQ5.out.2 _ (HL8.out.trans (fun fp1 h1 => h1.turned 0))
    · obtain ⟨df5, hd5, ha5⟩ := HQ4.out.1.diskAt hk5
      have HQ5 := Lib.hid (And.intro hd5 (HQ4.out.2.trans ha5))
      have HM5 := Lib.hid (met151 hd5.2.1 0)
      rw [show MetPost 1 g d lf4 lm 0 w5 = fun e w' => e = .returned (.int .i64 0) ∧ LogStep 1 g d lf4 (lm.met 0) w5 w' from rfl, HM0.out] at HM5
      have HS5 := Lib.hid hs5
      clear hd5 ha5 hk5 hs5 HSY
      go_wp2_with fail
      refine HM5.out.mono ?_
      rintro e w6 ⟨rfl, hl6⟩
      obtain ⟨lf6, hd6, ha6⟩ := HQ5.out.1.logAt hl6
      have HQ6 := Lib.hid (And.intro hd6 (HQ5.out.2.trans ha6))
      obtain ⟨_, _, _, k66, k76, _, kf6⟩ := hd6.2.1.cells
      obtain ⟨ta6, tc6, k86, _⟩ := hd6.2.1.tailAt
      have HL8 := Lib.hid hd6.2.1.flushedAt
      clear hl6 hd6 ha6 c24 k94 kf4 HM5
      generalize (lm.bytes : Int) = lby at *
      go_wp2_with fail
      obtain ⟨fp8, p8, o8, s8⟩ := HL8.out
      obtain ⟨k0, _, _, _, _, _, kf⟩ := p8.cells
      refine leaves_cons (f := 56) (args := #[.pointer (some ⟨g, 0, none⟩)]) (by simp) (by simp [go_sem]) ?_
      refine (unlock_deferred Tryz.muLib ⟨g, 0, none⟩ .returning _ k0 (kf 0)).mono ?_
      rintro e u' w'' ⟨rfl, rfl, rfl⟩
      refine ⟨_, results_tmp rfl _ _ _, ?_⟩
      exact HF2.out HS5.out _ _ _ HQ6.out.1 HQ6.out.2 _ (HL8.out.trans (fun fp1 h1 => h1.turned 0))
  · have HA1 : Hid (∀ W, Off [] w1 W → Calls Tryz.prog 152 #[.pointer (some ⟨d, 0, none⟩), .slice ta tl tc] W fun e w' => e = .returned (.int .i64 1) ∧ (∃ df2, Desk 1 w' d g dm.act lm df2 lf ∧ Acc df lf w df2 lf w') ∧ w'.cell? ⟨g, 8, none⟩ = some (.slice ta tl tc)) := Lib.hid (fun W ho => (HAP.out W ho).mono (fun e w' hq => by
      rcases hq with ⟨_, he, hk⟩ | ⟨hh, _⟩
      · refine ⟨he, HMS.out W w' ho hk, ?_⟩
        obtain ⟨_, _, k2, _⟩ := hk
        exact k2.cell (ho.cell c8 (by simp)) (fun hz => HD1.out.1.2.2 g hz hgf)
      · rw [hst] at hh; cases hh))
    have HF : Hid (∀ W df2, Desk 1 W d g dm.act lm df2 lf → Acc df lf w df2 lf W → ∀ W2, LogStep 0 g d lf (lm.met 1) W W2 → P (.returned (.int .i64 1)) W2) := Lib.hid (fun W df2 a b W2 k => by
      rw [HP.out, hst]
      obtain ⟨lf2, a2, b2⟩ := a.logAt k
      exact ⟨rfl, a2.step (b.trans b2)⟩)
    clear HAP HMT HMS HACT HM0 HP hst
    go_enter_defers Tryz.func95, Tryz.ntmps95
    go_wp2_with fail
    refine (lock_free Tryz.muLib ⟨g, 0, none⟩ _ k0 (kf 0)).mono ?_
    rw [hw1]
    rintro e w1 ⟨rfl, rfl⟩
    clear k0 kf k2 k3 k6 k7 k9 hw1
    go_wp2_with fail
    go_quiet (fail)
    go_wp2_with fail
    refine (HTR.out _ ((Off.refl _ _).drewN _)).mono ?_
    rintro e w2 ⟨rfl, ho2⟩
    have HO2 := Lib.hid (((Off.refl [] w1).drewN nq).trans ho2 (by simp))
    have HK : Hid (∀ W, Off [] w2 W → W.cell? ⟨g, 2, none⟩ = some (.pointer (some ⟨d, 0, none⟩)) ∧ W.cell? ⟨g, 8, none⟩ = some (.slice ta tl tc)) := Lib.hid (fun W ho => ⟨(HO2.out.trans ho (by simp)).cell c2 (by simp), (HO2.out.trans ho (by simp)).cell c8 (by simp)⟩)
    clear ho2 c3 c7 c9 c2 c8
    go_wp2_with fail
    go_region_held3 (fun W => W.cell? ⟨g, 2, none⟩ = some (.pointer (some ⟨d, 0, none⟩)) ∧ W.cell? ⟨g, 8, none⟩ = some (.slice ta tl tc))
      (first | exact HK.out _ (Off.refl _ _) | exact HK.out _ (Off.refl _ _).drew | exact HKB.out | exact HKA.out | fail)
      (first
      | (go_at_call 152; refine (HA1.out _ (HO2.out.drew)).mono ?_; rintro e w3 ⟨rfl, ⟨df2, q1, q2⟩, q3⟩; have HQ := Lib.hid (And.intro q1 q2); have HKA : Hid (w3.cell? ⟨g, 2, none⟩ = some (.pointer (some ⟨d, 0, none⟩)) ∧ w3.cell? ⟨g, 8, none⟩ = some (.slice ta tl tc)) := Lib.hid ⟨q1.2.1.cells.2.1, q3⟩; clear q1 q2 q3)
      | (go_at_call 151; refine (met151x HQ.out.1.2.1 1).mono ?_; rintro e w4 ⟨rfl, rfl⟩; have HKB : Hid ((w3.setCell ⟨g, 9, none⟩ (.bool true)).cell? ⟨g, 2, none⟩ = some (.pointer (some ⟨d, 0, none⟩)) ∧ (w3.setCell ⟨g, 9, none⟩ (.bool true)).cell? ⟨g, 8, none⟩ = some (.slice ta tl tc)) := Lib.hid (by obtain ⟨a, b⟩ := HKA.out; constructor <;> go_simp)))
    have HL8 : Hid (LogStep 1 g d lf (lm.met 1) w3 (w3.setCell ⟨g, 9, none⟩ (.bool true))) := Lib.hid (by have q := HQ.out.1.2.1.metAt 1; rw [show (lm.dead || ((1 : Int) == 1)) = true by simp] at q; exact q)
    go_wp2_with fail
    obtain ⟨fp8, p8, o8, s8⟩ := HL8.out
    obtain ⟨k0, _, _, _, _, _, kf⟩ := p8.cells
    refine leaves_cons (f := 56) (args := #[.pointer (some ⟨g, 0, none⟩)]) (by simp) (by simp [go_sem]) ?_
    refine (unlock_deferred Tryz.muLib ⟨g, 0, none⟩ .returning _ k0 (kf 0)).mono ?_
    rintro e u' w'' ⟨rfl, rfl, rfl⟩
    refine ⟨_, results_tmp rfl _ _ _, ?_⟩
    exact HF.out w3 df2 HQ.out.1 HQ.out.2 _ (HL8.out.trans (fun fp1 h1 => h1.turned 0))
theorem flush95 {w : World} {d g : Nat} {dm : DiskM} {lm : LogM} {df lf : List Nat} (h : Desk 0 w d g dm lm df lf) (hdead : lm.dead = false) (lsn : Nat) (hlg : dm.log.length = lm.disk) (hroom : lm.bytes ≤ dm.shp.log) (ha : dm.acts < 4000000000000000000) :
    Calls Tryz.prog 95 #[.pointer (some ⟨g, 0, none⟩), .int .i64 (lsn : Nat)] w (FlushPost d g df lf (flushM dm lm lsn) w) := by
  by_cases hs : lsn ≤ lm.base + lm.disk ∨ lm.tail = []
  · have e : flushM dm lm lsn = (dm, lm, 0) := by unfold flushM; rw [if_pos hs]
    rw [e]; exact flush95_skip h hdead lsn hs
  · exact flush95_do h hdead lsn hs hlg hroom ha
end Go.Proofs.YtfdgiblkllfpjaaGreatDoor

/- Maps keyed by int, with their stamps: update and delete keep them; range and next hand out every entry once. -/
set_option linter.unusedVariables false
set_option linter.unusedSimpArgs false
namespace Go.Proofs.YtfdgiblkllfpjaaGreatDoor
open Go.ChangeShapes Go.WideShapes Go.ChangeAt Go.RowKit
open Go.ChangeMaps (setBlock)
open Go.MapKept (IsKey heap_set)

/-- The stamps are older than the clock and all different. -/
def Stamp (es : Array MapEntry) (clk : Nat) : Prop := (∀ x ∈ es.toList, x.born < clk) ∧ (es.toList.map (·.born)).Nodup
theorem Stamp.nil : Stamp #[] 0 := ⟨by simp, by simp⟩
section
variable {P : Program} {t k e : TypeId}
theorem Stamp.push {es : Array MapEntry} {clk : Nat} (h : Stamp es clk) (a b : Value) : Stamp (es.push ⟨a, b, clk⟩) (clk + 1) := by
  refine ⟨fun x hx => ?_, ?_⟩
  · simp only [Array.toList_push, List.mem_append, List.mem_singleton] at hx
    rcases hx with q | rfl
    · have := h.1 x q; omega
    · simp
  · simp only [Array.toList_push, List.map_append, List.map_cons, List.map_nil]
    refine List.nodup_append.2 ⟨h.2, by simp, fun a ha b hb e => ?_⟩
    simp at hb
    obtain ⟨x, hx, rfl⟩ := List.mem_map.1 ha
    have := h.1 x hx; omega
theorem Stamp.modify {es : Array MapEntry} {clk : Nat} (h : Stamp es clk) (j : Nat) (a b : Value) : Stamp (es.modify j (fun e' => { e' with key := a, val := b })) clk := by
  have hm : (es.modify j (fun e' => { e' with key := a, val := b })).toList.map (·.born) = es.toList.map (·.born) := by
    rw [Array.toList_modify]
    apply List.ext_getElem?
    intro i
    simp only [List.getElem?_map, List.getElem?_modify]
    by_cases hi : j = i
    · subst hi; cases es.toList[j]? <;> simp
    · simp [hi]
  refine ⟨fun x hx => ?_, by rw [hm]; exact h.2⟩
  have hb : x.born ∈ es.toList.map (·.born) := by rw [← hm]; exact List.mem_map.2 ⟨x, hx, rfl⟩
  obtain ⟨y, hy, e⟩ := List.mem_map.1 hb
  rw [← e]; exact h.1 y hy
theorem Stamp.erase {es : Array MapEntry} {clk : Nat} (h : Stamp es clk) (j : Nat) : Stamp (es.eraseIdxIfInBounds j) clk := by
  unfold Array.eraseIdxIfInBounds
  split
  · refine ⟨fun x hx => h.1 x ?_, ?_⟩
    · simp only [Array.toList_eraseIdx] at hx
      exact List.mem_of_mem_eraseIdx hx
    · simp only [Array.toList_eraseIdx]
      exact h.2.sublist ((List.eraseIdx_sublist _ _).map _)
  · exact h
theorem run_update_st {es : Array MapEntry} {clk : Nat} {l : List (Int × Value)} (ht : P.underlying t = some (.map k e)) (hk : P.underlying k = some (.int .i64)) (hl : Ent es l) (hs : Stamp es clk) (m : Nat) (key : Int) (v : Value) :
    ∃ es' clk', Ent es' (mput l key v) ∧ Stamp es' clk' ∧ ∀ W : World, IsM W m es clk → (Instr.mapUpdate t (.map (some m)) (.int .i64 key) v).run P W = .ok () (setBlock W m (.map es' clk')) := by
  have hkey : IsKey (.int .i64) (.int .i64 key) := rfl
  cases hg : mget l key with
  | none =>
    have h1 := findNow_none key es.toList l 0 hl hg
    refine ⟨es.push ⟨.int .i64 key, v, clk⟩, clk + 1, ?_, hs.push _ _, fun W (hb : W.heap[m]? = some (.map es clk)) => ?_⟩
    · rw [mput_new l key v hg]; unfold Ent at hl ⊢; simp [hl]
    · simp [Instr.mapUpdate, run_underlying ht, MapKept.run_getObj_map hb, MapKept.run_checkKey hk hkey, MapKept.run_findKey hk h1, MapKept.run_setObj_map _ hb, Result.andThen, setBlock]
  | some u =>
    obtain ⟨j, e0, h1, h2, h3, h4, h5, _⟩ := findNow_some key u es.toList l 0 hl hg
    have hj : es[j]? = some e0 := by simpa using h2
    refine ⟨es.modify j (fun e' => { e' with key := .int .i64 key, val := v }), clk, ?_, hs.modify _ _ _, fun W (hb : W.heap[m]? = some (.map es clk)) => ?_⟩
    · unfold Ent
      rw [Array.toList_modify, ← h5 v e0.born]
      congr 1
      exact ChangeMaps.modify_eq_set _ _ _ _ h2
    · simp [Instr.mapUpdate, run_underlying ht, MapKept.run_getObj_map hb, MapKept.run_checkKey hk hkey, MapKept.run_findKey hk h1, hj, h3, MapKept.run_keyThatStays hkey, MapKept.run_setObj_map _ hb, Result.andThen, setBlock]
theorem run_update_sta {es : Array MapEntry} {clk : Nat} {l : List (Int × Value)} (ht : P.underlying t = some (.map k e)) (hk : P.underlying k = some (.int .i64)) (hl : Ent es l) (hs : Stamp es clk) (m : Nat) (key : Int) :
    ∃ f : Value → Array MapEntry × Nat, (∀ v, Ent (f v).1 (mput l key v) ∧ Stamp (f v).1 (f v).2) ∧ ∀ v, ∀ W : World, IsM W m es clk → (Instr.mapUpdate t (.map (some m)) (.int .i64 key) v).run P W = .ok () (setBlock W m (.map (f v).1 (f v).2)) := by
  have h : ∀ v, ∃ y : Array MapEntry × Nat, (Ent y.1 (mput l key v) ∧ Stamp y.1 y.2) ∧ ∀ W : World, IsM W m es clk → (Instr.mapUpdate t (.map (some m)) (.int .i64 key) v).run P W = .ok () (setBlock W m (.map y.1 y.2)) := fun v => by
    obtain ⟨es', clk', h1, h2, h3⟩ := run_update_st (clk := clk) ht hk hl hs m key v
    exact ⟨(es', clk'), ⟨h1, h2⟩, h3⟩
  obtain ⟨f, hf⟩ := Classical.skolem.1 h
  exact ⟨f, fun v => (hf v).1, fun v => (hf v).2⟩
theorem run_delete_st {es : Array MapEntry} {clk : Nat} {l : List (Int × Value)} (ht : P.underlying t = some (.map k e)) (hk : P.underlying k = some (.int .i64)) (hl : Ent es l) (hs : Stamp es clk) (m : Nat) (key : Int) :
    ∃ es', Ent es' (mdel l key) ∧ Stamp es' clk ∧ ∀ (W : World) (ty : TypeId), IsM W m es clk → (Builtin.delete_ #[t, k] ty #[.map (some m), .int .i64 key]).run P W = .ok (.tuple #[]) (setBlock W m (.map es' clk)) := by
  have hkey : IsKey (.int .i64) (.int .i64 key) := rfl
  cases hg : mget l key with
  | none =>
    have h1 := findNow_none key es.toList l 0 hl hg
    refine ⟨es, by rw [mdel_none hg]; exact hl, hs, fun W ty (hb : W.heap[m]? = some (.map es clk)) => ?_⟩
    simp [Builtin.delete_, run_underlying ht, MapKept.run_getObj_map hb, MapKept.run_checkKey hk hkey, MapKept.run_findKey hk h1, MapKept.run_setObj_map _ hb, Result.andThen, setBlock]
  | some u =>
    obtain ⟨j, e0, h1, h2, h3, h4, _, h6⟩ := findNow_some key u es.toList l 0 hl hg
    have hj : j < es.size := by simpa using (List.getElem?_eq_some_iff.1 h2).1
    refine ⟨es.eraseIdxIfInBounds j, ?_, hs.erase j, fun W ty (hb : W.heap[m]? = some (.map es clk)) => ?_⟩
    · unfold Ent Array.eraseIdxIfInBounds
      rw [dif_pos hj]; simpa using h6
    · simp [Builtin.delete_, run_underlying ht, MapKept.run_getObj_map hb, MapKept.run_checkKey hk hkey, MapKept.run_findKey hk h1, MapKept.run_setObj_map _ hb, Result.andThen, setBlock]

/-- 'for k, v := range m' under way: todo is still to come. -/
def Going (w : World) (m r : Nat) (es : Array MapEntry) (clk : Nat) (todo : List (Int × Value)) : Prop :=
  ∃ since seen c0, IsM w m es clk ∧ Stamp es clk ∧ w.heap[r]? = some (.mapIter (some m) since seen c0) ∧ (∀ x ∈ es.toList, x.born < since) ∧ since ≤ c0 ∧ since ≤ clk ∧ Ent (leftOf es seen) todo
theorem Going.off {w w' : World} {m r : Nat} {es : Array MapEntry} {clk : Nat} {todo : List (Int × Value)} {S : List Nat} (h : Going w m r es clk todo) (ho : Off S w w') (h1 : m ∉ S) (h2 : r ∉ S) : Going w' m r es clk todo := by
  obtain ⟨since, seen, c0, k1, k2, k3, k4⟩ := h
  exact ⟨since, seen, c0, k1.off ho h1, k2, ho.get k3 h2, k4⟩
theorem left_push {es : Array MapEntry} {seen : Array Nat} {e : MapEntry} (hn : (es.toList.map (·.born)).Nodup) (he : e ∈ (leftOf es seen).toList) :
    ∃ A B, (leftOf es seen).toList = A ++ e :: B ∧ (leftOf es (seen.push e.born)).toList = A ++ B := by
  obtain ⟨A, B, h⟩ := List.append_of_mem he
  refine ⟨A, B, h, ?_⟩
  have h1 : (leftOf es (seen.push e.born)).toList = (leftOf es seen).toList.filter (fun x => !(x.born == e.born)) := by
    unfold leftOf
    simp only [Array.toList_filter, List.filter_filter]
    congr 1
    funext x
    rw [contains_push]
    cases seen.contains x.born <;> cases (x.born == e.born) <;> rfl
  have hsub : ((leftOf es seen).toList.map (·.born)).Nodup := by
    refine hn.sublist (List.Sublist.map _ ?_)
    unfold leftOf
    rw [Array.toList_filter]
    exact List.filter_sublist
  rw [h, List.map_append, List.map_cons] at hsub
  obtain ⟨_, n2, n3⟩ := List.nodup_append.1 hsub
  obtain ⟨n4, _⟩ := List.nodup_cons.1 n2
  rw [h1, h, List.filter_append, List.filter_cons]
  have hA : A.filter (fun x => !(x.born == e.born)) = A := List.filter_eq_self.2 (fun x hx => by
    have := n3 x.born (List.mem_map.2 ⟨x, hx, rfl⟩) e.born (by simp)
    simpa using this)
  have hB : B.filter (fun x => !(x.born == e.born)) = B := List.filter_eq_self.2 (fun x hx => by
    have : x.born ≠ e.born := fun q => n4 (List.mem_map.2 ⟨x, hx, q⟩)
    simpa using this)
  rw [hA, hB]; simp
theorem Going.next {w : World} {m r : Nat} {es : Array MapEntry} {clk : Nat} {todo : List (Int × Value)} (h : Going w m r es clk todo) (hmr : m ≠ r) (ty : TypeId) :
    (todo = [] ∧ (Instr.next (.pointer (some ⟨r, 0, none⟩)) false ty).run P w = .ok (.tuple #[.bool false]) w) ∨
    ∃ a x v b w', todo = a ++ (x, v) :: b ∧ (Instr.next (.pointer (some ⟨r, 0, none⟩)) false ty).run P w = .ok (.tuple #[.bool true, .int .i64 x, v]) w' ∧ Going w' m r es clk (a ++ b) ∧ Off [r] w w' ∧ w'.heap.size = w.heap.size ∧
      (Instr.entry (.pointer (some ⟨r, 0, none⟩))).run P w' = .ok (.tuple #[.int .i64 x, v]) w' := by
  obtain ⟨since, seen, c0, hb, hs, hr, hold, hsc, hsk, hE⟩ := h
  unfold IsM at hb
  rcases run_next_at (P := P) w ty r m since c0 seen es clk hr hb hold hsc with ⟨h0, hrun⟩ | ⟨e, he, w1, hal, hrun⟩
  · refine Or.inl ⟨?_, hrun⟩
    have h2 : leftOf es seen = #[] := Array.eq_empty_of_size_eq_zero h0
    rw [h2] at hE
    unfold Ent at hE
    simpa using hE.symm
  · obtain ⟨A, B, h1, h2⟩ := left_push hs.2 he
    unfold Ent at hE
    rw [h1, List.map_append, List.map_cons] at hE
    obtain ⟨a, rest, ht, ha, hrest⟩ := List.map_eq_append_iff.1 hE.symm
    obtain ⟨p, b, hp, hpe, hbb⟩ := List.map_eq_cons_iff.1 hrest
    subst hp; subst ht
    obtain ⟨x, v⟩ := p
    simp only [Prod.mk.injEq] at hpe
    have hr1 : w1.heap[r]? = some (.mapIter (some m) since seen c0) := by rcases hal with rfl | rfl <;> exact hr
    have hb1 : w1.heap[m]? = some (.map es clk) := by rcases hal with rfl | rfl <;> exact hb
    have hset := heap_set (o' := .mapIter (some m) since (seen.push e.born) clk) hr1
    have hb' : (setBlock w1 r (.mapIter (some m) since (seen.push e.born) clk)).heap[m]? = some (.map es clk) := (hset.2 m hmr).trans hb1
    refine Or.inr ⟨a, x, v, b, _, rfl, by rw [hpe.1, hpe.2]; exact hrun, ⟨since, seen.push e.born, clk, hb', hs, hset.1, hold, hsk, hsk, ?_⟩, ?_, ?_, ?_⟩
    · unfold Ent
      rw [h2, List.map_append, List.map_append, ha, hbb]
    · have o1 : Off [r] w w1 := by rcases hal with rfl | rfl; exact Off.refl _ _; exact (Off.refl _ _).drew
      exact o1.setBlock (.inl (by simp)) _
    · rcases hal with rfl | rfl <;> simp [setBlock]
    · rw [hpe.1, hpe.2]
      exact run_entry_at _ r m since seen es clk e hset.1 hb' (mem_left he).1 hs.2
theorem Going.start {w : World} {m : Nat} {es : Array MapEntry} {clk : Nat} {l : List (Int × Value)} (h : IsM w m es clk) (hs : Stamp es clk) (hl : Ent es l) {t k e : TypeId} (ht : P.underlying t = some (.map k e)) :
    (Instr.range t (.map (some m))).run P w = .ok (.pointer (some ⟨w.heap.size, 0, none⟩)) (w.alloc (.mapIter (some m) clk #[] clk)) ∧ Going (w.alloc (.mapIter (some m) clk #[] clk)) m w.heap.size es clk l := by
  refine ⟨run_range_map w t k e m es clk ht h, clk, #[], clk, IsM.alloc _ h, hs, heap_alloc_new w _, hs.1, Nat.le_refl _, Nat.le_refl _, ?_⟩
  have : leftOf es #[] = es := by unfold leftOf; simp
  rw [this]; exact hl
end
section
variable {P : Program} (w : World) {ops : Array Oper} {rest : List Oper} {o : Oper} {a : Act} {Q : Exit → Act → World → Prop}
/-- The step of a range over a map, at the operation. -/
theorem wp_next_map (hg : o.guard = none) (it : Operand) (hop : o.op = Op.next it false) {m r : Nat} {es : Array MapEntry} {clk : Nat} {todo : List (Int × Value)} (hit : a.eval it = .pointer (some ⟨r, 0, none⟩)) (h : Going w m r es clk todo) (hmr : m ≠ r)
    (hDone : todo = [] → wpList P ops Q rest (a.put o.dst (.tuple #[.bool false])) w)
    (hMore : ∀ (p : List (Int × Value)) (x : Int) (v : Value) (q : List (Int × Value)) (w' : World), todo = p ++ (x, v) :: q → Going w' m r es clk (p ++ q) → Off [r] w w' → w'.heap.size = w.heap.size →
      (Instr.entry (.pointer (some ⟨r, 0, none⟩))).run P w' = .ok (.tuple #[.int .i64 x, v]) w' → wpList P ops Q rest (a.put o.dst (.tuple #[.bool true, .int .i64 x, v])) w') :
    wpList P ops Q (o :: rest) a w := by
  refine wpList_plain hg fun K' hK' => ?_
  unfold Oper.wp
  rcases h.next (P := P) hmr o.type with ⟨h0, hrun⟩ | ⟨p, x, v, q, w', h1, hrun, h2, h3, h4, h5⟩
  · simp [execOp, hop, hit, hrun, Result.andThen]
    exact hK' _ _ (hDone h0)
  · simp [execOp, hop, hit, hrun, Result.andThen]
    exact hK' _ _ (hMore p x v q w' h1 h2 h3 h4 h5)
end
end Go.Proofs.YtfdgiblkllfpjaaGreatDoor

/- pool: the pool as a plain model over the heap, beside a disk and a log. -/
set_option linter.unusedVariables false
set_option linter.unusedSimpArgs false
namespace Go.Proofs.YtfdgiblkllfpjaaGreatDoor
open Go.ChangeShapes Go.WideShapes Go.ChangeAt Go.RowKit

/-- A held page. -/
structure Fr where
  num : Nat
  b : List UInt8
  pins : Nat
  rc : Nat
/-- Where it lies: its block, its bytes' slice. -/
structure Loc where
  fb : Nat
  bv : Value
def Loc.fp (q : Loc) : List Nat := q.fb :: blk q.bv
def frC (f : Fr) (bv : Value) : Array Value := #[bv, .int .i64 (f.pins : Nat), .int .i64 (f.rc : Nat)]
def FrOk (w : World) (q : Fr × Loc) : Prop := IsC w q.2.fb (frC q.1 q.2.bv) 131 ∧ IsB w q.2.bv q.1.b
def entP (q : Fr × Loc) : Int × Value := ((q.1.num : Int), .pointer (some ⟨q.2.fb, 0, none⟩))
structure PoolM where
  most : Nat
  held : List Fr
  dead : Bool
def poolC (pm : PoolM) (d g mb : Nat) : Array Value := #[.pointer (some ⟨d, 0, none⟩), .pointer (some ⟨g, 0, none⟩), .int .i64 (pm.most : Nat), .map (some mb), .bool pm.dead]
/-- The pool lies here: its map's block, the frames with their places. -/
structure PoolAt (w : World) (p d g : Nat) (pm : PoolM) (mb : Nat) (es : Array MapEntry) (clk : Nat) (qs : List (Fr × Loc)) : Prop where
  held : qs.map (·.1) = pm.held
  head : IsC w p (poolC pm d g mb) 127
  map : IsM w mb es clk
  ent : Ent es (qs.map entP)
  stamp : Stamp es clk
  fr : ∀ q ∈ qs, FrOk w q
  nodup : (p :: mb :: qs.flatMap (·.2.fp)).Nodup
  nums : (qs.map (·.1.num)).Nodup
  most : pm.most ≤ 16
  pins : ∀ q ∈ qs, q.1.pins < 4611686018427387904
def PoolR (w : World) (p d g : Nat) (pm : PoolM) (pf : List Nat) : Prop := ∃ mb es clk qs, PoolAt w p d g pm mb es clk qs ∧ pf = p :: mb :: qs.flatMap (·.2.fp)
section
variable {w w' : World} {p d g : Nat} {pm : PoolM} {mb : Nat} {es : Array MapEntry} {clk : Nat} {qs : List (Fr × Loc)} {pf S : List Nat}
theorem FrOk.off {q : Fr × Loc} (h : FrOk w q) (ho : Off S w w') (hn : ∀ z ∈ q.2.fp, z ∉ S) : FrOk w' q := ⟨h.1.off ho (hn _ (by simp [Loc.fp])), h.2.off ho (fun z hz => hn z (by simp [Loc.fp, hz]))⟩
theorem PoolAt.off (h : PoolAt w p d g pm mb es clk qs) (ho : Off S w w') (hn : ∀ z ∈ p :: mb :: qs.flatMap (·.2.fp), z ∉ S) : PoolAt w' p d g pm mb es clk qs :=
  ⟨h.held, h.head.off ho (hn _ (by simp)), h.map.off ho (hn _ (by simp)), h.ent, h.stamp, fun q hq => (h.fr q hq).off ho (fun z hz => hn z (by simp only [List.mem_cons]; exact .inr (.inr (List.mem_flatMap.2 ⟨q, hq, hz⟩)))), h.nodup, h.nums, h.most, h.pins⟩
theorem PoolR.off (h : PoolR w p d g pm pf) (ho : Off S w w') (hn : ∀ z ∈ pf, z ∉ S) : PoolR w' p d g pm pf := by
  obtain ⟨mb, es, clk, qs, h1, rfl⟩ := h
  exact ⟨mb, es, clk, qs, h1.off ho hn, rfl⟩
theorem PoolAt.lt (h : PoolAt w p d g pm mb es clk qs) : ∀ z ∈ p :: mb :: qs.flatMap (·.2.fp), z < w.heap.size := by
  intro z hz
  simp only [List.mem_cons] at hz
  rcases hz with rfl | rfl | hz
  · exact h.head.lt
  · exact h.map.lt
  · obtain ⟨q, hq, hz⟩ := List.mem_flatMap.1 hz
    obtain ⟨k1, k2⟩ := h.fr q hq
    rcases List.mem_cons.1 hz with rfl | hz
    · exact k1.lt
    · exact k2.lt z hz
theorem PoolR.lt (h : PoolR w p d g pm pf) : ∀ z ∈ pf, z < w.heap.size := by
  obtain ⟨mb, es, clk, qs, h1, rfl⟩ := h
  exact h1.lt
theorem PoolAt.cells (h : PoolAt w p d g pm mb es clk qs) : w.cell? ⟨p, 0, none⟩ = some (.pointer (some ⟨d, 0, none⟩)) ∧ w.cell? ⟨p, 1, none⟩ = some (.pointer (some ⟨g, 0, none⟩)) ∧ w.cell? ⟨p, 2, none⟩ = some (.int .i64 (pm.most : Nat)) ∧ w.cell? ⟨p, 3, none⟩ = some (.map (some mb)) ∧ w.cell? ⟨p, 4, none⟩ = some (.bool pm.dead) ∧ ∀ o, w.frozen? ⟨p, o, none⟩ = false := by
  have h1 := h.head
  refine ⟨?_, ?_, ?_, ?_, ?_, fun o => h1.unfrozen o⟩ <;> rw [h1.cell] <;> rfl
theorem mget_ent_none {n : Nat} (h : ∀ q ∈ qs, q.1.num ≠ n) : mget (qs.map entP) (n : Int) = none := by
  rw [mget_none]
  intro hm
  simp only [List.map_map, List.mem_map] at hm
  obtain ⟨q, hq, e⟩ := hm
  simp only [entP, Function.comp_apply] at e
  exact h q hq (by omega)
theorem mget_ent_some {n : Nat} {q : Fr × Loc} (hn : (qs.map (·.1.num)).Nodup) (hq : q ∈ qs) (h : q.1.num = n) : mget (qs.map entP) (n : Int) = some (.pointer (some ⟨q.2.fb, 0, none⟩)) := by
  induction qs with
  | nil => simp at hq
  | cons x qs ih =>
    rw [List.map_cons] at hn
    obtain ⟨n1, n2⟩ := List.nodup_cons.1 hn
    rcases List.mem_cons.1 hq with rfl | hq
    · simp [mget, entP, h]
    · have : x.1.num ≠ n := fun e => n1 (List.mem_map.2 ⟨q, hq, by rw [h, e]⟩)
      rw [List.map_cons]
      have e2 : ¬ ((x.1.num : Int) = (n : Int)) := by omega
      have e3 : mget (entP x :: qs.map entP) (n : Int) = mget (qs.map entP) (n : Int) := by
        show (if (x.1.num : Int) = (n : Int) then _ else _) = _
        rw [if_neg e2]
      rw [e3]
      exact ih n2 hq
def PoolM.find (pm : PoolM) (n : Nat) : Option Fr := pm.held.find? (fun f => f.num == n)
/-- A page is not held, or it lies among the frames. -/
theorem PoolAt.look (h : PoolAt w p d g pm mb es clk qs) (n : Nat) :
    (pm.find n = none ∧ (∀ q ∈ qs, q.1.num ≠ n) ∧ mget (qs.map entP) (n : Int) = none) ∨ ∃ A q B, qs = A ++ q :: B ∧ q.1.num = n ∧ pm.find n = some q.1 ∧ mget (qs.map entP) (n : Int) = some (.pointer (some ⟨q.2.fb, 0, none⟩)) := by
  by_cases hx : ∃ q ∈ qs, q.1.num = n
  · obtain ⟨q, hq, e⟩ := hx
    obtain ⟨A, B, hs⟩ := List.append_of_mem hq
    refine .inr ⟨A, q, B, hs, e, ?_, mget_ent_some h.nums hq e⟩
    unfold PoolM.find
    rw [← h.held, hs, List.map_append, List.find?_append]
    have hA : (A.map (·.1)).find? (fun f => f.num == n) = none := by
      rw [List.find?_eq_none]
      intro f hf hn
      obtain ⟨a, ha, rfl⟩ := List.mem_map.1 hf
      have hnn := h.nums
      rw [hs, List.map_append] at hnn
      exact (List.nodup_append.1 hnn).2.2 a.1.num (List.mem_map.2 ⟨a, ha, rfl⟩) q.1.num (by simp) (by rw [e]; simpa using hn)
    rw [hA]; simp [e]
  · have hx' : ∀ q ∈ qs, q.1.num ≠ n := fun q hq e => hx ⟨q, hq, e⟩
    refine .inl ⟨?_, hx', mget_ent_none hx'⟩
    unfold PoolM.find
    rw [← h.held, List.find?_eq_none]
    intro f hf hn
    obtain ⟨a, ha, rfl⟩ := List.mem_map.1 hf
    exact hx' a ha (by simpa using hn)
/-- A frame is turned. -/
def PoolM.set (pm : PoolM) (f : Fr) : PoolM := { pm with held := pm.held.map (fun x => if x.num = f.num then f else x) }
theorem set_split {A B : List (Fr × Loc)} {q : Fr × Loc} {f : Fr} (hn : ((A ++ q :: B).map (·.1.num)).Nodup) (hf : f.num = q.1.num) (bv : Value) :
    (A ++ (f, ⟨q.2.fb, bv⟩) :: B).map (·.1) = ((A ++ q :: B).map (·.1)).map (fun x => if x.num = f.num then f else x) := by
  rw [List.map_append, List.map_cons] at hn
  obtain ⟨_, n2, n3⟩ := List.nodup_append.1 hn
  obtain ⟨n4, _⟩ := List.nodup_cons.1 n2
  simp only [List.map_append, List.map_cons, List.map_map]
  congr 1
  · refine List.map_congr_left (fun x hx => ?_)
    have := n3 x.1.num (List.mem_map.2 ⟨x, hx, rfl⟩) q.1.num (by simp)
    simp only [Function.comp_apply]; rw [if_neg (by rw [hf]; exact this)]
  · congr 1
    · rw [if_pos hf.symm]
    · refine List.map_congr_left (fun x hx => ?_)
      have : x.1.num ≠ q.1.num := fun e => n4 (List.mem_map.2 ⟨x, hx, e⟩)
      simp only [Function.comp_apply]; rw [if_neg (by rw [hf]; exact this)]
/-- A call has been made of it. -/
def PoolStep (p d g : Nat) (pf : List Nat) (pm : PoolM) (w w' : World) : Prop := ∃ pf', PoolR w' p d g pm pf' ∧ Off pf w w' ∧ ∀ z ∈ pf', z ∈ pf ∨ w.heap.size ≤ z
theorem PoolAt.turn {A B : List (Fr × Loc)} {q : Fr × Loc} (h : PoolAt w p d g pm mb es clk (A ++ q :: B)) {f : Fr} {bv : Value} (hf : f.num = q.1.num) (hpin : f.pins < 4611686018427387904) (ho : Off q.2.fp w w') (h1 : IsC w' q.2.fb (frC f bv) 131) (h2 : IsB w' bv f.b)
    (hb : blk bv = blk q.2.bv ∨ ∀ z ∈ blk bv, w.heap.size ≤ z) : PoolAt w' p d g (pm.set f) mb es clk (A ++ (f, ⟨q.2.fb, bv⟩) :: B) ∧ PoolStep p d g (p :: mb :: (A ++ q :: B).flatMap (·.2.fp)) (pm.set f) w w' := by
  have hlt := h.lt
  have hnd := h.nodup
  obtain ⟨m1, m2⟩ := List.nodup_cons.1 hnd
  obtain ⟨m3, m4⟩ := List.nodup_cons.1 m2
  rw [List.flatMap_append, List.flatMap_cons] at m4
  obtain ⟨m5, m6, m7⟩ := List.nodup_append.1 m4
  obtain ⟨m8, m9, m10⟩ := List.nodup_append.1 m6
  have hq : ∀ z ∈ q.2.fp, z ∈ (A ++ q :: B).flatMap (·.2.fp) := fun z hz => List.mem_flatMap.2 ⟨q, by simp, hz⟩
  have hp : p ∉ q.2.fp := fun hz => m1 (List.mem_cons_of_mem _ (hq _ hz))
  have hm : mb ∉ q.2.fp := fun hz => m3 (hq _ hz)
  have hA : ∀ x ∈ A, ∀ z ∈ x.2.fp, z ∉ q.2.fp := fun x hx z hz hz' => m7 z (List.mem_flatMap.2 ⟨x, hx, hz⟩) z (by simp [hz']) rfl
  have hB : ∀ x ∈ B, ∀ z ∈ x.2.fp, z ∉ q.2.fp := fun x hx z hz hz' => m10 z hz' z (List.mem_flatMap.2 ⟨x, hx, hz⟩) rfl
  have hnew : ∀ z ∈ (Loc.mk q.2.fb bv).fp, z ∈ q.2.fp ∨ w.heap.size ≤ z := by
    intro z hz
    rcases List.mem_cons.1 hz with rfl | hz
    · exact .inl (by simp [Loc.fp])
    · rcases hb with e | e
      · exact .inl (by rw [e] at hz; simp [Loc.fp, hz])
      · exact .inr (e z hz)
  have hfb : q.2.fb ∉ blk bv := by
    rcases hb with e | e
    · rw [e]; exact (List.nodup_cons.1 m8).1
    · intro hz
      have := e _ hz
      have := (h.fr q (by simp)).1.lt; omega
  have hnd2 : (p :: mb :: (A ++ (f, Loc.mk q.2.fb bv) :: B).flatMap (·.2.fp)).Nodup := by
    have hx : ∀ z ∈ (Loc.mk q.2.fb bv).fp, z ≠ p ∧ z ≠ mb ∧ z ∉ A.flatMap (·.2.fp) ∧ z ∉ B.flatMap (·.2.fp) := by
      intro z hz
      rcases hnew z hz with e | e
      · exact ⟨fun e' => hp (e' ▸ e), fun e' => hm (e' ▸ e), fun hz' => m7 z hz' z (by simp [e]) rfl, fun hz' => m10 z e z hz' rfl⟩
      · have hl : ∀ y ∈ p :: mb :: (A ++ q :: B).flatMap (·.2.fp), z ≠ y := fun y hy e' => by have := hlt y hy; omega
        exact ⟨hl p (by simp), hl mb (by simp), fun hz' => hl z (by rw [List.flatMap_append]; simp [hz']) rfl, fun hz' => hl z (by rw [List.flatMap_append, List.flatMap_cons]; simp only [List.mem_cons, List.mem_append]; exact .inr (.inr (.inr (.inr hz')))) rfl⟩
    rw [List.flatMap_append, List.flatMap_cons] at m1 m3 ⊢
    simp only [List.mem_cons, List.mem_append, not_or] at m1 m3
    refine List.nodup_cons.2 ⟨fun hz => ?_, List.nodup_cons.2 ⟨fun hz => ?_, List.nodup_append.2 ⟨m5, List.nodup_append.2 ⟨List.nodup_cons.2 ⟨hfb, blk_nodup' _⟩, m9, fun a ha b hb' e => (hx a ha).2.2.2 (e ▸ hb')⟩, fun a ha b hb' e => ?_⟩⟩⟩
    · simp only [List.mem_cons, List.mem_append] at hz
      rcases hz with e | e | e | e
      · exact m1.1 e
      · exact m1.2.1 e
      · exact (hx p e).1 rfl
      · exact m1.2.2.2 e
    · simp only [List.mem_append] at hz
      rcases hz with e | e | e
      · exact m3.1 e
      · exact (hx mb e).2.1 rfl
      · exact m3.2.2 e
    · subst e
      rcases List.mem_append.1 hb' with e | e
      · exact (hx a e).2.2.1 ha
      · exact m7 a ha a (by simp [e]) rfl
  have hat : PoolAt w' p d g (pm.set f) mb es clk (A ++ (f, ⟨q.2.fb, bv⟩) :: B) := by
    refine ⟨?_, h.head.off ho hp, h.map.off ho hm, ?_, h.stamp, ?_, hnd2, ?_, h.most, ?_⟩
    · rw [set_split h.nums hf bv, h.held]; rfl
    · have e := h.ent
      rw [show (A ++ (f, Loc.mk q.2.fb bv) :: B).map entP = (A ++ q :: B).map entP by simp [entP, hf]]; exact e
    · intro x hx
      rcases List.mem_append.1 hx with e | e
      · exact (h.fr x (by simp [e])).off ho (hA x e)
      · rcases List.mem_cons.1 e with rfl | e
        · exact ⟨h1, h2⟩
        · exact (h.fr x (by simp [e])).off ho (hB x e)
    · have := h.nums
      simp only [List.map_append, List.map_cons] at this ⊢
      rw [hf]; exact this
    · intro x hx
      rcases List.mem_append.1 hx with e | e
      · exact h.pins x (by simp [e])
      · rcases List.mem_cons.1 e with rfl | e
        · exact hpin
        · exact h.pins x (by simp [e])
  refine ⟨hat, _, ⟨mb, es, clk, _, hat, rfl⟩, ho.mono (fun z hz => .inl (by simp only [List.mem_cons]; exact .inr (.inr (hq z hz)))), fun z hz => ?_⟩
  simp only [List.mem_cons] at hz ⊢
  rcases hz with e | e | e
  · exact .inl (.inl e)
  · exact .inl (.inr (.inl e))
  · rw [List.flatMap_append, List.flatMap_cons] at e
    simp only [List.mem_append] at e
    rcases e with e | e | e
    · exact .inl (.inr (.inr (by rw [List.flatMap_append]; simp [e])))
    · rcases hnew z e with e | e
      · exact .inl (.inr (.inr (hq z e)))
      · exact .inr e
    · exact .inl (.inr (.inr (by rw [List.flatMap_append, List.flatMap_cons]; simp only [List.mem_append]; exact .inr (.inr e))))
end
end Go.Proofs.YtfdgiblkllfpjaaGreatDoor

/- pool: New, there, lsn, met, Look, Unpin. -/
set_option linter.unusedVariables false
set_option linter.unusedSimpArgs false
namespace Go.Proofs.YtfdgiblkllfpjaaGreatDoor
open Go.ChangeShapes Go.WideShapes Go.ChangeAt Go.RowKit

theorem zero129 (W : World) : (zeroValue 129).run Tryz.prog W = .ok (.pointer none) W := by kernel_rfl
def NewPool (d g n : Nat) (w : World) (e : Ending) (w' : World) : Prop := ∃ p pf, e = .returned (.tuple #[.pointer (some ⟨p, 0, none⟩), .int .i64 0]) ∧ PoolR w' p d g ⟨n, [], false⟩ pf ∧ Off [] w w' ∧ ∀ z ∈ pf, w.heap.size ≤ z
set_option maxRecDepth 100000 in
set_option maxHeartbeats 2000000 in
theorem new12 (d g n : Nat) (h1 : 2 ≤ n) (h2 : n ≤ 16) (w : World) : Calls Tryz.prog 12 #[.pointer (some ⟨d, 0, none⟩), .pointer (some ⟨g, 0, none⟩), .int .i64 (n : Int)] w (NewPool d g n w) := by
  have hmm := @run_makeMap Tryz.prog
  obtain ⟨P, hP⟩ : ∃ P, P = NewPool d g n w := ⟨_, rfl⟩
  rw [← hP]
  have HF : Hid (P (.returned (.tuple #[.pointer (some ⟨w.heap.size + 1, 0, none⟩), .int .i64 0])) ((w.alloc (.map #[] 0)).alloc (.cells #[.pointer (some ⟨d, 0, none⟩), .pointer (some ⟨g, 0, none⟩), .int .i64 (n : Int), .map (some w.heap.size), .bool false] 127))) := Lib.hid (by
    rw [hP]
    refine ⟨w.heap.size + 1, [w.heap.size + 1, w.heap.size], rfl, ⟨w.heap.size, #[], 0, [], ⟨rfl, IsC.newAt _ (by simp), IsM.alloc _ (heap_alloc_new w _), Ent.nil, Stamp.nil, by simp, by simp, by simp, h2, by simp⟩, rfl⟩, ((Off.refl [] w).alloc _).alloc _, fun z hz => by simp at hz; omega⟩)
  clear hP
  go_enter Tryz.func12, Tryz.ntmps12
  go_wp2_with fail
  first | exact HF.out | (go_ret2; exact HF.out)
set_option maxRecDepth 100000 in
set_option maxHeartbeats 2000000 in
theorem there59 {w : World} {p d g : Nat} {pm : PoolM} {mb : Nat} {es : Array MapEntry} {clk : Nat} {qs : List (Fr × Loc)} {dm : DiskM} {df : List Nat} (h : PoolAt w p d g pm mb es clk qs) (hd : DiskR w d dm df) (n : Int) :
    Calls Tryz.prog 59 #[.pointer (some ⟨p, 0, none⟩), .int .i64 n] w fun e w' => e = .returned (.bool (decide (0 ≤ n ∧ n < dm.shp.pages))) ∧ Off [] w w' := by
  obtain ⟨k0, _⟩ := h.cells
  have HS := Lib.hid (shape51 hd)
  have hf0 := field28_0
  clear h hd
  generalize (dm.shp.slots : Int) = a at *
  generalize (dm.shp.log : Int) = b at *
  generalize dm.shp.pages = pg at *
  by_cases h0 : 0 ≤ n
  · by_cases hp : n < (pg : Int)
    · have e : decide (0 ≤ n ∧ n < (pg : Int)) = true := decide_eq_true ⟨h0, hp⟩
      rw [e]
      clear e
      go_enter Tryz.func59, Tryz.ntmps59
      go_wp2_with fail
      refine HS.out.mono ?_
      rintro e w1 ⟨rfl, ho⟩
      go_wp2_with fail
      go_ret
      exact ⟨rfl, ho⟩
    · have e : decide (0 ≤ n ∧ n < (pg : Int)) = false := decide_eq_false (fun q => hp q.2)
      rw [e]
      clear e
      go_enter Tryz.func59, Tryz.ntmps59
      go_wp2_with fail
      refine HS.out.mono ?_
      rintro e w1 ⟨rfl, ho⟩
      go_wp2_with fail
      go_ret
      exact ⟨by first | rfl | exact ret_bool (decide_eq_false (by omega)), ho⟩
  · have e : decide (0 ≤ n ∧ n < (pg : Int)) = false := decide_eq_false (fun q => h0 q.1)
    rw [e]
    clear e
    go_enter Tryz.func59, Tryz.ntmps59
    go_wp2_with fail
    go_ret
    exact ⟨by first | rfl | exact ret_bool (decide_eq_false (by omega)), Off.refl _ _⟩
set_option maxRecDepth 100000 in
set_option maxHeartbeats 2000000 in
theorem lsn66 {w : World} {fb : Nat} {f : Fr} {bv : Value} (h : IsC w fb (frC f bv) 131) (hb : IsB w bv f.b) (hn : f.b.length < 1000000) :
    Calls Tryz.prog 66 #[.pointer (some ⟨fb, 0, none⟩)] w fun e w' => e = .returned (.int .i64 ((pageLsn f.b).getD 0 : Nat)) ∧ Off [] w w' := by
  have HL := Lib.hid (lsn108 bv f.b w hb hn)
  have c0 := h.cell 0
  simp only [frC, List.getElem?_toArray, List.getElem?_cons_zero] at c0
  clear h hb
  generalize (pageLsn f.b).getD 0 = x at *
  generalize errOf (pageLsn f.b) 40 = y at *
  go_enter Tryz.func66, Tryz.ntmps66
  go_wp2_with fail
  refine HL.out.mono ?_
  rintro e w1 ⟨rfl, ho⟩
  go_wp2_with fail
  go_ret
  exact ⟨rfl, ho⟩
def PoolM.met (m : PoolM) (e : Int) : PoolM := { m with dead := m.dead || (e == 1) }
theorem PoolAt.headAt {w : World} {p d g : Nat} {pm pm' : PoolM} {mb : Nat} {es : Array MapEntry} {clk : Nat} {qs : List (Fr × Loc)} (h : PoolAt w p d g pm mb es clk qs) (j : Nat) (u : Value) (hc : (poolC pm d g mb).setIfInBounds j u = poolC pm' d g mb) (e1 : pm'.held = pm.held) (e2 : pm'.most = pm.most) :
    PoolAt (w.setCell ⟨p, j, none⟩ u) p d g pm' mb es clk qs ∧ Off [p] w (w.setCell ⟨p, j, none⟩ u) := by
  have ho : Off [p] w (w.setCell ⟨p, j, none⟩ u) := (Off.refl [p] w).setCell (.inl (by simp)) _
  obtain ⟨n1, n2⟩ := List.nodup_cons.1 h.nodup
  have hin : ∀ z, z ∈ mb :: qs.flatMap (·.2.fp) → z ∉ [p] := fun z hz hz' => by simp at hz'; subst hz'; exact n1 hz
  refine ⟨⟨by rw [e1]; exact h.held, ?_, h.map.off ho (hin mb (by simp)), h.ent, h.stamp, fun q hq => (h.fr q hq).off ho (fun z hz => hin z (List.mem_cons_of_mem _ (List.mem_flatMap.2 ⟨q, hq, hz⟩))), h.nodup, h.nums, by rw [e2]; exact h.most, h.pins⟩, ho⟩
  have q := h.head.set j u
  rw [hc] at q; exact q
set_option maxRecDepth 100000 in
set_option maxHeartbeats 2000000 in
theorem met63 {w : World} {p d g : Nat} {pm : PoolM} {mb : Nat} {es : Array MapEntry} {clk : Nat} {qs : List (Fr × Loc)} (h : PoolAt w p d g pm mb es clk qs) (e0 : Int) :
    Calls Tryz.prog 63 #[.pointer (some ⟨p, 0, none⟩), .int .i64 e0] w fun e w' => e = .returned (.int .i64 e0) ∧ PoolAt w' p d g (pm.met e0) mb es clk qs ∧ Off [p] w w' := by
  obtain ⟨_, _, _, _, k4, kf⟩ := h.cells
  obtain ⟨P, hP⟩ : ∃ P : Ending → World → Prop, P = fun e w' => e = .returned (.int .i64 e0) ∧ PoolAt w' p d g (pm.met e0) mb es clk qs ∧ Off [p] w w' := ⟨_, rfl⟩
  have HF : Hid (P (.returned (.int .i64 e0)) (w.setCell ⟨p, 4, none⟩ (.bool (pm.dead || (e0 == 1))))) := Lib.hid (by rw [hP]; exact ⟨rfl, h.headAt (pm' := pm.met e0) 4 _ rfl rfl rfl⟩)
  rw [← hP]
  clear hP h
  generalize pm.dead = dd at *
  cases dd
  · simp only [Bool.false_or] at HF
    cases he : (e0 == 1)
    all_goals
      rw [he] at HF
      go_enter Tryz.func63, Tryz.ntmps63
      go_wp2_with fail
      exact HF.out
  · simp only [Bool.true_or] at HF
    go_enter Tryz.func63, Tryz.ntmps63
    go_wp2_with fail
    exact HF.out
def LookPost (o : Option (List UInt8)) (w : World) (e : Ending) (w' : World) : Prop :=
  match o with
  | none => e = .returned (.tuple #[.slice none 0 0, .bool false]) ∧ Off [] w w'
  | some l => ∃ ao cap, e = .returned (.tuple #[.slice ao l.length cap, .bool true]) ∧ IsB w' (.slice ao l.length cap) l ∧ Off [] w w' ∧ ∀ z ∈ blk (.slice ao l.length cap), w.heap.size ≤ z
set_option maxRecDepth 100000 in
set_option maxHeartbeats 2000000 in
theorem look20 {w : World} {p d g : Nat} {pm : PoolM} {mb : Nat} {es : Array MapEntry} {clk : Nat} {qs : List (Fr × Loc)} (h : PoolAt w p d g pm mb es clk qs) (n : Nat) (hs : ∀ f ∈ pm.held, f.b.length < 1000000) :
    Calls Tryz.prog 20 #[.pointer (some ⟨p, 0, none⟩), .int .i64 (n : Int)] w (LookPost ((pm.find n).map (·.b)) w) := by
  obtain ⟨_, _, _, k3, _, kf⟩ := h.cells
  have hlk := fun W hW => run_lookup_map (P := Tryz.prog) (t := 125) (k := 3) (e := 129) (clk := clk) Tryz.underlying125 Tryz.underlying3 zero129 h.ent mb (n : Int) false W hW
  rcases h.look n with ⟨e1, _, e2⟩ | ⟨A, q, B, rfl, hq, e1, e2⟩
  · rw [e1]
    rw [e2] at hlk
    have hlk1 := hlk w h.map
    simp only [Bool.false_eq_true, if_false, Option.getD_none] at hlk1
    show Calls _ _ _ w (fun e w' => e = .returned (.tuple #[.slice none 0 0, .bool false]) ∧ Off [] w w')
    clear h hlk e1 e2
    go_enter Tryz.func20, Tryz.ntmps20
    go_wp2_with fail
    go_ret2
    exact ⟨rfl, Off.refl _ _⟩
  · rw [e1]
    rw [e2] at hlk
    have hlk1 := hlk w h.map
    simp only [Bool.false_eq_true, if_false, Option.getD_some] at hlk1
    obtain ⟨f1, f2⟩ := h.fr q (by simp)
    have c0 := f1.cell 0
    simp only [frC, List.getElem?_toArray, List.getElem?_cons_zero] at c0
    have hlen : q.1.b.length < 1000000 := hs _ (by rw [← h.held]; exact List.mem_map.2 ⟨q, by simp, rfl⟩)
    have HC := Lib.hid (clone60 _ _ w f2 (by omega))
    obtain ⟨vo, vc, hbv⟩ := f2.val
    rw [hbv] at c0 HC
    show Calls _ _ _ w (fun e w' => ∃ ao cap, e = .returned (.tuple #[.slice ao q.1.b.length cap, .bool true]) ∧ IsB w' (.slice ao q.1.b.length cap) q.1.b ∧ Off [] w w' ∧ ∀ z ∈ blk (.slice ao q.1.b.length cap), w.heap.size ≤ z)
    clear h hlk e1 e2 f1 f2 hs hbv hq
    obtain ⟨P, hP⟩ : ∃ P : Ending → World → Prop, P = fun e w' => ∃ ao cap, e = .returned (.tuple #[.slice ao q.1.b.length cap, .bool true]) ∧ IsB w' (.slice ao q.1.b.length cap) q.1.b ∧ Off [] w w' ∧ ∀ z ∈ blk (.slice ao q.1.b.length cap), w.heap.size ≤ z := ⟨_, rfl⟩
    rw [← hP]
    have HP := Lib.hid hP
    clear hP
    generalize q.2.fb = fb at *
    generalize q.1.b = bb at *
    go_enter Tryz.func20, Tryz.ntmps20
    go_wp2_with fail
    refine HC.out.mono ?_
    rintro e w1 ⟨ao, cap, rfl, x1, x2, x3⟩
    have HF : Hid (P (.returned (.tuple #[.slice ao bb.length cap, .bool true])) w1) := Lib.hid (by rw [HP.out]; exact ⟨ao, cap, rfl, x1, x2, x3⟩)
    clear x1 x2 x3 HC
    go_wp2_with fail
    first | exact HF.out | (go_ret2; exact HF.out)
end Go.Proofs.YtfdgiblkllfpjaaGreatDoor
