/- disk: write. -/
import Derived.Test.YtfdgiblkllfpjaaGreatDoorL05
import Derived.BigRegion
import Derived.Laws.EntriesVeiled
import Derived.Outline
set_option linter.unusedVariables false
set_option linter.unusedSimpArgs false
namespace Go.Proofs.YtfdgiblkllfpjaaGreatDoor
open Go.ChangeShapes Go.WideShapes Go.ChangeAt Go.RowKit

/-- A write of a place, loosely. -/
def DiskM.put (m : DiskM) (k : Nat) (l : List UInt8) : DiskM := { m.act with reads := laid m.reads k l.length l, loose := m.loose ++ [⟨decide (m.shp.pages < k), k, l⟩] }
theorem DiskM.act_fields (m : DiskM) : m.act.shp = m.shp ∧ m.act.lasts = m.lasts ∧ m.act.reads = m.reads ∧ m.act.loose = m.loose ∧ m.act.log = m.log ∧ m.act.lasted = m.lasted ∧ m.act.stop = m.stop := by
  unfold DiskM.act; split <;> exact ⟨rfl, rfl, rfl, rfl, rfl, rfl, rfl⟩
theorem iinfo150 : (Tryz.prog.info? 150).map (fun i => (i.zero, i.size, i.bytes)) = some (some (.agg #[.bool false, .int .i64 0, .nilFunc]), 3, 24) := by kernel_rfl
set_option maxRecDepth 100000 in
set_option maxHeartbeats 8000000 in
theorem write220 {w : World} {d : Nat} {m : DiskM} {fp : List Nat} (h : DiskR w d m fp) (hfit : m.fit) (ha : m.acts < 4611686018427387904) (k : Nat) (hk : k < m.shp.pages + 3) (v : Value) (l : List UInt8) (hb : IsB w v l) (hv : ∀ z ∈ blk v, z ∉ fp) (hl : l.length = m.shp.sizeB k) (hll : m.loose.length < 1000000) :
    Calls Tryz.prog 220 #[.pointer (some ⟨d, 0, none⟩), .int .i64 (k : Int), v] w (DoPost d fp m (m.put k l) 0 w) := by
  obtain ⟨vo, vc, rfl⟩ := hb.val
  have hob : Off [] w (w.alloc (.cells #[.int .i64 (k : Int)] 3)) := (Off.refl [] w).alloc _
  have hib : IsC (w.alloc (.cells #[.int .i64 (k : Int)] 3)) w.heap.size #[.int .i64 (k : Int)] 3 := IsC.new _ _ _
  generalize hwb : w.alloc (.cells #[.int .i64 (k : Int)] 3) = wb at *
  have HA := Lib.hid (act111 (h.off hob (by simp)) ha)
  unfold ActPost at HA
  obtain ⟨P, hP⟩ : ∃ P, P = DoPost d fp m (m.put k l) 0 w := ⟨_, rfl⟩
  rw [← hP]
  have HP := Lib.hid hP
  clear hP
  cases hst : m.stops
  · rw [hst] at HA
    go_enter Tryz.func220, Tryz.ntmps220
    go_wp2_with fail
    have hrbf : w.heap.size ∉ fp := fun hz => by have := h.lt _ hz; omega
    have HFIT := Lib.hid (And.intro hfit hl)
    have HLT := Lib.hid h.lt
    have HWB : Hid (wb.heap.size = w.heap.size + 1) := Lib.hid (by rw [← hwb]; simp)
    have HS86 : Hid (∀ W, Calls Tryz.prog 86 #[.agg #[.int .i64 m.shp.pages, .int .i64 m.shp.slots, .int .i64 m.shp.log], .int .i64 (k : Int)] W fun e w' => e = .returned (.int .i64 (l.length : Nat)) ∧ Off [] W w') := Lib.hid (fun W => by
      have := h.ok.1.2.1
      rw [hl]; exact size86 m.shp h.ok.1 k (by omega) W)
    have HB := Lib.hid hb
    have HVF := Lib.hid hv
    have HOB := Lib.hid hob
    have h40 : Hid (40 ≤ l.length ∧ l.length ≤ 168) := Lib.hid (by rw [hl]; exact m.shp.size_lt h.ok.1 k)
    clear hwb h hfit hl hb hv hob
    generalize hrbe : w.heap.size = rb at *
    have HRB := Lib.hid hrbe
    clear hrbe
    refine HA.out.mono ?_
    rintro e w1 ⟨rfl, hk1⟩
    have hi1 := hib.off hk1.2 hrbf
    have c0 := hi1.cell 0
    simp only [List.getElem?_toArray, List.getElem?_cons_zero] at c0
    obtain ⟨k0, k1, k2, _, _, _, kf⟩ := hk1.1.cells
    rw [(act_shp m).1] at k0 k1 k2
    have HK1 := Lib.hid hk1
    have HI1 := Lib.hid hi1
    have HK : Hid (∀ W, Off [] w1 W → W.cell? ⟨d, 0, none⟩ = some (.int .i64 m.shp.pages) ∧ W.cell? ⟨d, 1, none⟩ = some (.int .i64 m.shp.slots) ∧ W.cell? ⟨d, 2, none⟩ = some (.int .i64 m.shp.log) ∧ W.cell? ⟨rb, 0, none⟩ = some (.int .i64 (k : Int))) := Lib.hid (fun W ho => ⟨ho.cell k0 (by simp), ho.cell k1 (by simp), ho.cell k2 (by simp), ho.cell c0 (by simp)⟩)
    clear hk1 hi1 hib HA
    generalize hpg : m.shp.pages = pg at *
    generalize (m.shp.slots : Int) = sl at *
    generalize (m.shp.log : Int) = lg at *
    go_wp2_with fail
    go_region_held3 (fun W => W.cell? ⟨d, 0, none⟩ = some (.int .i64 (pg : Nat)) ∧ W.cell? ⟨d, 1, none⟩ = some (.int .i64 sl) ∧ W.cell? ⟨d, 2, none⟩ = some (.int .i64 lg) ∧ W.cell? ⟨rb, 0, none⟩ = some (.int .i64 (k : Int)))
      (first | exact HK.out _ (Off.refl _ _) | exact HK.out _ (Off.refl _ _).drew | exact HK.out _ HOA.out | fail)
      (first | (go_at_call 86; refine (HS86.out _).mono ?_; rintro e w2 ⟨rfl, p2⟩; have HOA : Hid (Off [] w1 w2) := Lib.hid ((Off.refl [] w1).drew.trans p2 (by simp)); clear p2))
    have HCL := Lib.hid (clone80 _ l w2 (((HB.out.off HOB.out (by simp)).off HK1.out.2 HVF.out).off HOA.out (by simp)) (by have := h40.out; omega))
    clear k0 k1 k2 kf c0 HS86
    go_wp2_with fail
    refine HCL.out.mono ?_
    rintro e w3 ⟨mo, mc, rfl, hb3, ho3, hf3⟩
    have HO3 := Lib.hid (HOA.out.trans ho3 (by simp))
    have HB3 := Lib.hid hb3
    have HF3 := Lib.hid hf3
    clear ho3 hb3 hf3 HCL
    obtain ⟨W4, hW4⟩ : ∃ W4, W4 = w3.alloc (.cells #[.slice mo l.length mc] 22) := ⟨_, rfl⟩
    go_wp2_with fail
    rw [← hW4]
    have HO4 : Hid (Off [] w1 W4) := Lib.hid (by rw [hW4]; exact HO3.out.alloc _)
    have HI4 : Hid (IsC W4 w3.heap.size #[.slice mo l.length mc] 22) := Lib.hid (by rw [hW4]; exact IsC.new _ _ _)
    have HSZ4 : Hid (W4.heap.size = w3.heap.size + 1) := Lib.hid (by rw [hW4]; simp)
    have HB4 : Hid (IsB W4 (.slice mo l.length mc) l) := Lib.hid (by rw [hW4]; exact Own.alloc HB3.out _)
    obtain ⟨k0, k1, k2, c0⟩ := HK.out W4 HO4.out
    have c3 := HI4.out.cell 0
    simp only [List.getElem?_toArray, List.getElem?_cons_zero] at c3
    have HMB : Hid (w1.heap.size ≤ w3.heap.size ∧ ∀ z ∈ blk (.slice mo l.length mc), w1.heap.size ≤ z ∧ z < w3.heap.size) := Lib.hid ⟨HO3.out.size, fun z hz => ⟨by have := HF3.out z hz; have := HOA.out.size; omega, HB3.out.lt z hz⟩⟩
    clear hW4 k1 k2 HOA HO3 HB3 HF3 HK
    have n1 : w3.heap.size < W4.heap.size := by have := HSZ4.out; omega
    have n2 : rb < W4.heap.size := by have := HI1.out.lt; have := HO4.out.size; omega
    have n3 : d < W4.heap.size := by have := HK1.out.1.lt; obtain ⟨_, _, _, _, _, _, _, _, _, _, _, _, e, _⟩ := HK1.out.1; have := HK1.out.1.lt d (by rw [e]; simp); have := HO4.out.size; omega
    generalize w3.heap.size = mb at *
    go_region
    obtain ⟨W5, hW5⟩ : ∃ W5, W5 = (W4.alloc (.cells #[.bool (decide (pg < k)), .int .i64 (l.length : Nat), .func (.func 259) #[] #[.pointer (some ⟨rb, 0, none⟩), .pointer (some ⟨mb, 0, none⟩)]] 150)).drew := ⟨_, rfl⟩
    rw [← hW5]
    have ho5 : Off [] W4 W5 := by rw [hW5]; exact ((Off.refl [] W4).alloc _).drew
    have HI5 : Hid (IsC W5 W4.heap.size #[.bool (decide (pg < k)), .int .i64 (l.length : Nat), .func (.func 259) #[] #[.pointer (some ⟨rb, 0, none⟩), .pointer (some ⟨mb, 0, none⟩)]] 150) := Lib.hid (by rw [hW5]; exact IsC.drew_iff.2 (IsC.new _ _ _))
    have hd5 := HK1.out.1.off (HO4.out.trans ho5 (by simp)) (by simp)
    obtain ⟨rv, fr, c4, hG, hsub, hdf, hback⟩ := hd5.readsAt
    obtain ⟨ro, rc, rfl⟩ := hG.val
    obtain ⟨ld, hld1, hld2⟩ := HFIT.out.1.2.1 k (by omega)
    rw [(act_shp m).2.2.1] at c4 hG hback
    have HSB : Hid (W4.heap.size ∉ fp ∧ W4.heap.size ∉ fr ∧ rb ∉ fr ∧ mb ∉ fr ∧ (∀ z ∈ blk (.slice mo l.length mc), z ∉ fr) ∧ d ∉ fr) := Lib.hid (by
      have a := HK1.out.1.lt
      have b := HO4.out.size
      have c := HMB.out.1
      refine ⟨fun hz => ?_, fun hz => ?_, fun hz => ?_, fun hz => ?_, fun z hz hz' => ?_, hdf⟩
      · have := a _ hz; omega
      · have := a _ (hsub _ hz); omega
      · exact hrbf (hsub _ hz)
      · have := a _ (hsub _ hz); omega
      · have := a _ (hsub _ hz'); have := HMB.out.2 z hz; omega)
    have HLAY : Hid (∀ W, Off [] W5 W → Calls Tryz.prog 259 #[.slice ro m.reads.length rc, .int .i64 (l.length : Int), .pointer (some ⟨rb, 0, none⟩), .pointer (some ⟨mb, 0, none⟩)] W (LayPost (.slice ro m.reads.length rc) (laid m.reads k l.length l) fr W)) := Lib.hid (fun W ho => by
      have o1 : Off [] w1 W := (HO4.out.trans ho5 (by simp)).trans ho (by simp)
      have hr := hd5.ok.2.2
      rw [(act_shp m).2.2.1, (act_shp m).1] at hr
      have := hd5.ok.1.2.1
      rw [(act_shp m).1] at this
      exact lay259 (hG.off ho (by simp)) k ld hld1 rb mb _ l l.length (HI1.out.off o1 (by simp)) (HI4.out.off (ho5.trans ho (by simp)) (by simp)) (HB4.out.off (ho5.trans ho (by simp)) (by simp)) (Nat.le_refl _) (by rw [hld2, HFIT.out.2]; exact Nat.le_refl _) (by have := h40.out; omega) (by omega))
    have HBK := Lib.hid hback
    have HFRS := Lib.hid hsub
    have HD5 := Lib.hid hd5
    have HO5 := Lib.hid ho5
    have c5s := HI5.out.cell 1
    have c5f := HI5.out.cell 2
    simp only [List.getElem?_toArray, List.getElem?_cons_zero, List.getElem?_cons_succ] at c5s c5f
    have HK5 : Hid (∀ W S, Off S W5 W → (∀ z ∈ S, z ∈ fr) → W.cell? ⟨W4.heap.size, 1, none⟩ = some (.int .i64 (l.length : Nat)) ∧ W.cell? ⟨W4.heap.size, 2, none⟩ = some (.func (.func 259) #[] #[.pointer (some ⟨rb, 0, none⟩), .pointer (some ⟨mb, 0, none⟩)]) ∧ W.cell? ⟨d, 4, none⟩ = some (.slice ro m.reads.length rc)) := Lib.hid (fun W S ho hS =>
      ⟨ho.cell c5s (fun hz => HSB.out.2.1 (hS _ hz)), ho.cell c5f (fun hz => HSB.out.2.1 (hS _ hz)), ho.cell c4 (fun hz => hdf (hS _ hz))⟩)
    clear hW5 hback hd5 ho5 hG hsub hdf hld1 hld2 k0 c0 c3 n1 n2 n3
    generalize W4.heap.size = sb at *
    generalize hrl : m.reads.length = rl at *
    go_wp2_with fail
    go_region_held3 (fun W => W.cell? ⟨sb, 1, none⟩ = some (.int .i64 (l.length : Nat)) ∧ W.cell? ⟨sb, 2, none⟩ = some (.func (.func 259) #[] #[.pointer (some ⟨rb, 0, none⟩), .pointer (some ⟨mb, 0, none⟩)]) ∧ W.cell? ⟨d, 4, none⟩ = some (.slice ro rl rc))
      (first | exact HK5.out _ [] (Off.refl _ _) (by simp) | exact HK5.out _ [] (Off.refl _ _).drew (by simp) | exact HK6.out | fail)
      (first | (go_at_call 259; refine (HLAY.out _ (Off.refl _ _).drew).mono ?_; rintro e w6 ⟨rfl, q1, q2⟩; have HQ := Lib.hid (And.intro q1 q2); have HK6 := Lib.hid (HK5.out w6 fr ((Off.refl fr W5).drew.trans q2 (fun z hz => .inl hz)) (fun z hz => hz)); clear q1 q2))
    have ho56 : Off fr W5 w6 := (Off.refl fr W5).drew.trans HQ.out.2 (fun z hz => .inl hz)
    have hd6 := HBK.out w6 _ HQ.out.1 ho56 (by unfold laid; rw [List.length_set, hrl])
    obtain ⟨lo, lc, ps, c55, hps, hown, hheld, hsub, hclose⟩ := hd6.looseAt
    have el : ({ m.act with reads := laid m.reads k l.length l } : DiskM).loose = m.loose := (act_shp m).2.2.2.1
    rw [el] at c55 hps hown hheld hsub hclose
    have hi6 := HI5.out.off ho56 HSB.out.2.1
    have HCL6 := Lib.hid hclose
    have HD6 := Lib.hid hd6
    have HH6 := Lib.hid (And.intro hps (And.intro hheld hsub))
    have HO56 := Lib.hid ho56
    have HI6 := Lib.hid hi6
    have HOW6 := Lib.hid hown
    have c60 := hi6.cell 0
    have c61 := hi6.cell 1
    have c62 := hi6.cell 2
    simp only [List.getElem?_toArray, List.getElem?_cons_zero, List.getElem?_cons_succ] at c60 c61 c62
    obtain ⟨_, _, _, _, _, _, kf6⟩ := hd6.cells
    have n3 : d < w6.heap.size := hd6.lt d (by obtain ⟨_, _, _, _, _, _, _, _, _, _, _, _, e, _⟩ := hd6; rw [e]; simp)
    have n4 : sb < w6.heap.size := hi6.lt
    clear hclose hd6 hps hheld hsub ho56 hi6 hown c5s c5f c4 HQ HK6 HK5 HLAY HBK
    generalize hll2 : m.loose.length = ll at *
    go_wp2_with fail
    have HOW7 : Hid (Own ((w6.alloc (.cells #[.bool (decide (pg < k)), .int .i64 (l.length : Nat), .func (.func 259) #[] #[.pointer (some ⟨rb, 0, none⟩), .pointer (some ⟨mb, 0, none⟩)]] 150)).drew) 150 3 (.slice lo ll lc) ll ((m.loose.zip ps).flatMap fun q => looseC q.1 q.2)) := Lib.hid (HOW6.out.alloc _).drew
    have HSR7 := Lib.hid ((Own.new w6 150 3 #[.bool (decide (pg < k)), .int .i64 (l.length : Nat), .func (.func 259) #[] #[.pointer (some ⟨rb, 0, none⟩), .pointer (some ⟨mb, 0, none⟩)]] 1 (by decide) rfl).drew.src (P := Tryz.prog) (t := 102) (e' := 150) Tryz.underlying102 (by simp [Value.oneCell']))
    have HBD := Lib.hid (show (ll + 1) * 24 ≤ 140737488355328 by omega)
    have HC7 : Hid (∀ w7, Off (blk (.slice lo ll lc)) (w6.alloc (.cells #[.bool (decide (pg < k)), .int .i64 (l.length : Nat), .func (.func 259) #[] #[.pointer (some ⟨rb, 0, none⟩), .pointer (some ⟨mb, 0, none⟩)]] 150)).drew w7 → w7.cell? ⟨d, 5, none⟩ = some (.slice lo ll lc) ∧ (∀ o, w7.frozen? ⟨d, o, none⟩ = false) ∧ Off (blk (.slice lo ll lc)) w6 w7) := Lib.hid (fun w7 ho => by
      have o1 : Off (blk (.slice lo ll lc)) w6 w7 := ((Off.refl _ w6).alloc _).drew.trans ho (fun z hz => .inl hz)
      have hdn : d ∉ blk (.slice lo ll lc) := fun hz => (HH6.out.2.2.1 d (by simp [hz])).2 rfl
      refine ⟨o1.cell c55 hdn, ?_, o1⟩
      obtain ⟨lv, rv, ov, gv, fl, fr, fo, x1, _⟩ := HD6.out
      exact fun o => (x1.off o1 hdn).unfrozen o)
    have HEND : Hid (∀ w7 ao4 cap4, Off (blk (.slice lo ll lc)) w6 w7 → Own w7 150 3 (.slice ao4 (ll + 1) cap4) (ll + 1) (((m.loose.zip ps).flatMap fun q => looseC q.1 q.2) ++ [.bool (decide (pg < k)), .int .i64 (l.length : Nat), .func (.func 259) #[] #[.pointer (some ⟨rb, 0, none⟩), .pointer (some ⟨mb, 0, none⟩)]]) → (blk (.slice ao4 (ll + 1) cap4) = blk (.slice lo ll lc) ∨ blk (.slice ao4 (ll + 1) cap4) = [w6.heap.size + 1]) → P (.returned (.int .i64 0)) (w7.setCell ⟨d, 5, none⟩ (.slice ao4 (ll + 1) cap4))) := Lib.hid (by
      intro w7 ao4 cap4 e1 hq1 hq3
      have hsz := e1.size
      obtain ⟨hps, hheld, hsub, hnd⟩ := HH6.out
      obtain ⟨_, n9, n14⟩ := List.nodup_append.1 hnd
      have a1 := HI1.out.lt
      have a2 := HMB.out
      have a3 := HO56.out.size
      have a4 := HO5.out.size
      have a5 := HO4.out.size
      have a6 := HSZ4.out
      have a7 := HK1.out.2.size
      have a8 := HWB.out
      have hok : ∀ z ∈ (Held.mk rb mb (.slice mo l.length mc)).fp, z ∉ fp ∧ z < w6.heap.size ∧ rb ≤ z := by
        intro z hz
        have hfl := HLT.out
        simp only [Held.fp, List.mem_cons] at hz
        rcases hz with rfl | rfl | hz
        · exact ⟨fun q => by have := hfl _ q; omega, by omega, Nat.le_refl _⟩
        · exact ⟨fun q => by have := hfl _ q; omega, by omega, by omega⟩
        · have := a2.2 z hz
          exact ⟨fun q => by have := hfl _ q; omega, by omega, by omega⟩
      have hapart : ∀ z ∈ ps.flatMap Held.fp, z ∉ blk (.slice lo ll lc) := fun z hz hz' => n14 z hz' z hz rfl
      have hin : ∀ z ∈ (ps ++ [Held.mk rb mb (.slice mo l.length mc)]).flatMap Held.fp, z ∈ ps.flatMap Held.fp ∨ (z ∉ fp ∧ z < w6.heap.size ∧ rb ≤ z) := by
        intro z hz
        rw [List.flatMap_append] at hz
        rcases List.mem_append.1 hz with q | q
        · exact .inl q
        · exact .inr (hok z (by simpa using q))
      obtain ⟨fp', x1, x2, x3⟩ := HCL6.out w7 ao4 (ll + 1) cap4 (m.loose ++ [⟨decide (pg < k), k, l⟩]) (ps ++ [⟨rb, mb, .slice mo l.length mc⟩]) e1 (by simp [hll2]) (by simp [hps, hll2])
        (by rw [List.zip_append (by omega), List.flatMap_append]; exact hq1) (by
          intro q hq
          rw [List.zip_append (by omega)] at hq
          rcases List.mem_append.1 hq with hq | hq
          · obtain ⟨y1, y2, y3⟩ := hheld q hq
            have hz : ∀ z ∈ q.2.fp, z ∉ blk (.slice lo ll lc) := fun z hz => hapart z (List.mem_flatMap.2 ⟨q.2, (List.of_mem_zip hq).2, hz⟩)
            exact ⟨y1.off e1 (hz _ (by simp [Held.fp])), y2.off e1 (hz _ (by simp [Held.fp])), y3.off e1 (fun z h => hz z (by simp [Held.fp, h]))⟩
          · simp at hq; subst hq
            have hz : ∀ z ∈ (Held.mk rb mb (.slice mo l.length mc)).fp, z ∉ fr ∧ z ∉ blk (.slice lo ll lc) := fun z hz => ⟨by
              have b := HSB.out
              simp only [Held.fp, List.mem_cons] at hz
              rcases hz with rfl | rfl | hz
              · exact b.2.2.1
              · exact b.2.2.2.1
              · exact b.2.2.2.2.1 z hz, fun hz' => (hok z hz).1 (hsub z (by simp [hz'])).1⟩
            have f16 := (HO4.out.trans HO5.out (by simp))
            exact ⟨((HI1.out.off f16 (by simp)).off HO56.out (hz _ (by simp [Held.fp])).1).off e1 (hz _ (by simp [Held.fp])).2, ((HI4.out.off HO5.out (by simp)).off HO56.out (hz _ (by simp [Held.fp])).1).off e1 (hz _ (by simp [Held.fp])).2, ((HB4.out.off HO5.out (by simp)).off HO56.out (fun z h => (hz z (by simp [Held.fp, h])).1)).off e1 (fun z h => (hz z (by simp [Held.fp, h])).2)⟩)
        (hq3.elim .inl fun q => .inr (.inr ⟨_, q, by omega⟩)) (by
          rw [List.flatMap_append]
          refine List.nodup_append.2 ⟨n9, ?_, fun a ha b hb hab => ?_⟩
          · simp only [List.flatMap_cons, List.flatMap_nil, List.append_nil, Held.fp]
            refine List.nodup_cons.2 ⟨fun hz => ?_, List.nodup_cons.2 ⟨fun hz => ?_, blk_nodup' _⟩⟩
            · rcases List.mem_cons.1 hz with q | q
              · omega
              · have := a2.2 _ q; omega
            · have := a2.2 _ hz; omega
          · subst hab
            exact (hok a (by simpa using hb)).1 (hsub a (by simp only [List.mem_append]; exact .inr ha)).1)
        (fun z hz => (hin z hz).imp_right fun q => ⟨q.1, q.2.1⟩)
      rw [HP.out]
      refine .inr ⟨hst, rfl, fp', ?_, ?_, ?_⟩
      · have : m.put k l = { m.act with reads := laid m.reads k l.length l, loose := m.loose ++ [⟨decide (pg < k), k, l⟩] } := by unfold DiskM.put; rw [hpg]
        rw [this]; exact x1
      · have o1 : Off fp w w1 := HOB.out.mono (by simp) |>.trans HK1.out.2 (fun z hz => .inl hz)
        have o2 : Off fp w W5 := o1.trans (HO4.out.trans HO5.out (by simp)) (by simp)
        have o3 : Off fp w w6 := o2.trans HO56.out (fun z hz => .inl (HFRS.out z hz))
        exact o3.trans x2 (fun z hz => .inl hz)
      · intro z hz
        rcases x3 z hz with q | q | q
        · exact .inl q
        · rcases hin z q with q | q
          · exact .inl (hsub z (by simp only [List.mem_append]; exact .inr q)).1
          · exact .inr (by have := HRB.out; omega)
        · exact .inr (by have := HRB.out; omega))
    clear HI1 HO4 HB4 HI4 HMB HSB HH6 HCL6 HO5 HOW6
    go_region_law (first | (go_must (refine step_app rfl _ _ 102 102 rfl rfl HOW7.out Tryz.underlying102 iinfo150 rfl (by decide) rfl HSR7.out HBD.out ?_; intro ao4 cap4 w7 q1 q2 q3; obtain ⟨c57, kf7, o67⟩ := HC7.out w7 q2; have HF := Lib.hid (HEND.out w7 ao4 cap4 o67 q1 (q3.imp_right fun q => by rw [q]; simp)); clear q1 q2 q3 o67)) | fail)
    all_goals
      go_wp2_with fail
      first | exact HF.out | (go_ret; exact HF.out)
  · rw [hst] at HA
    have HB0 := Lib.hid hob
    clear hb hv hl hfit
    go_enter Tryz.func220, Tryz.ntmps220
    go_wp2_with fail
    refine HA.out.mono ?_
    rintro e w1 ⟨rfl, hk1⟩
    have HF : Hid (P (.returned (.int .i64 1)) w1) := Lib.hid (by rw [HP.out]; exact .inl ⟨hst, rfl, (DiskKeep.before HB0.out hk1).step⟩)
    clear hk1 HA hwb
    go_wp2_with fail
    first | exact HF.out | (go_ret; exact HF.out)
end Go.Proofs.YtfdgiblkllfpjaaGreatDoor

/- disk: Sync where no master is loose. -/
set_option linter.unusedVariables false
set_option linter.unusedSimpArgs false
namespace Go.Proofs.YtfdgiblkllfpjaaGreatDoor
open Go.ChangeShapes Go.WideShapes Go.ChangeAt Go.RowKit

def laidAll (gs : List (List UInt8)) (ls : List LooseW) : List (List UInt8) := ls.foldl (fun gs x => laid gs x.place x.bytes.length x.bytes) gs
theorem laidAll_len : ∀ (ls : List LooseW) (gs : List (List UInt8)), (laidAll gs ls).length = gs.length
  | [], _ => rfl
  | x :: ls, gs => by unfold laidAll; rw [List.foldl_cons]; have := laidAll_len ls (laid gs x.place x.bytes.length x.bytes); unfold laidAll at this; rw [this]; unfold laid; rw [List.length_set]
theorem laidAll_succ (gs : List (List UInt8)) (ls : List LooseW) (k : Nat) (x : LooseW) (h : ls[k]? = some x) : laidAll gs (ls.take (k + 1)) = laid (laidAll gs (ls.take k)) x.place x.bytes.length x.bytes := by
  obtain ⟨hk, rfl⟩ := List.getElem?_eq_some_iff.1 h
  unfold laidAll
  rw [List.take_succ_eq_append_getElem hk, List.foldl_append]; rfl
theorem laid_sizes {s : Shp} {gs : List (List UInt8)} (h : ∀ k, k < s.pages + 3 → ∃ l, gs[k]? = some l ∧ l.length = s.sizeB k) (p : Nat) (l : List UInt8) (hl : l.length = s.sizeB p) : ∀ k, k < s.pages + 3 → ∃ l', (laid gs p l.length l)[k]? = some l' ∧ l'.length = s.sizeB k := by
  intro k hk
  obtain ⟨y, hy, hyl⟩ := h k hk
  have hlt := (List.getElem?_eq_some_iff.1 hy).1
  unfold laid
  by_cases e : p = k
  · subst e
    rw [List.getElem?_set_self hlt]
    refine ⟨_, rfl, ?_⟩
    rw [List.getD_eq_getElem?_getD, hy, List.length_append, List.length_take, List.length_drop]
    simp; omega
  · rw [List.getElem?_set_ne e]; exact ⟨y, hy, hyl⟩
theorem laidAll_sizes {s : Shp} : ∀ (ls : List LooseW) {gs : List (List UInt8)}, (∀ k, k < s.pages + 3 → ∃ l, gs[k]? = some l ∧ l.length = s.sizeB k) → (∀ x ∈ ls, x.bytes.length = s.sizeB x.place) → ∀ k, k < s.pages + 3 → ∃ l', (laidAll gs ls)[k]? = some l' ∧ l'.length = s.sizeB k
  | [], _, h, _ => h
  | x :: ls, gs, h, hx => by
    have q := laidAll_sizes ls (laid_sizes h x.place x.bytes (hx x (by simp))) (fun y hy => hx y (by simp [hy]))
    exact q
def DiskM.sync (m : DiskM) : DiskM := { m.act with lasts := laidAll m.lasts m.loose, loose := [] }
def SyncIn (w : World) (d : Nat) (fp : List Nat) (m : DiskM) (lo : Option Addr) (lc : Nat) (k : Nat) (wr : World) : Prop :=
  DiskR wr d { m.act with lasts := laidAll m.lasts (m.loose.take k) } fp ∧ Off fp w wr ∧ wr.cell? ⟨d, 5, none⟩ = some (.slice lo m.loose.length lc)
theorem flat3 {α : Type} (f : α → List Value) (hf : ∀ a, (f a).length = 3) : ∀ (L : List α) (i : Nat) (a : α), L[i]? = some a → ∀ j, j < 3 → (L.flatMap f)[i * 3 + j]? = (f a)[j]?
  | [], i, a, h, _, _ => by simp at h
  | b :: L, 0, a, h, j, hj => by
    simp at h; subst h
    rw [List.flatMap_cons, List.getElem?_append_left (by rw [hf]; omega)]; simp
  | b :: L, i + 1, a, h, j, hj => by
    rw [List.flatMap_cons, List.getElem?_append_right (by rw [hf]; omega), hf, show (i + 1) * 3 + j - 3 = i * 3 + j by omega]
    exact flat3 f hf L i a (by simpa using h) j hj
/-- The k-th loose write's cells. -/
theorem SyncIn.cells {w : World} {d : Nat} {fp : List Nat} {m : DiskM} {lo : Option Addr} {lc k : Nat} {wr : World} (h : SyncIn w d fp m lo lc k wr) {x : LooseW} (hx : m.loose[k]? = some x) :
    ∃ lb loff pb mb mv, lo = some ⟨lb, loff, none⟩ ∧ wr.cell? ⟨lb, loff + k * 3, none⟩ = some (.bool x.master) ∧ wr.cell? ⟨lb, loff + k * 3 + 1, none⟩ = some (.int .i64 (x.bytes.length : Nat)) ∧
      wr.cell? ⟨lb, loff + k * 3 + 2, none⟩ = some (.func (.func 259) #[] #[.pointer (some ⟨pb, 0, none⟩), .pointer (some ⟨mb, 0, none⟩)]) ∧ IsC wr pb #[.int .i64 (x.place : Nat)] 3 ∧ IsC wr mb #[mv] 22 ∧ IsB wr mv x.bytes ∧ lb < wr.heap.size := by
  obtain ⟨ao, cap, ps, c5, hps, hown, hheld, _, _⟩ := h.1.looseAt
  have e : ({ m.act with lasts := laidAll m.lasts (m.loose.take k) } : DiskM).loose = m.loose := (act_shp m).2.2.2.1
  rw [e] at c5 hps hown hheld
  have hc := h.2.2
  rw [c5] at hc
  injection hc with hc
  injection hc with hc1 _ hc3
  subst hc1; subst hc3
  have hk := (List.getElem?_eq_some_iff.1 hx).1
  rcases hown.2 with ⟨e0, h0⟩ | ⟨lb, loff, c, cur, ev, hr⟩
  · injection e0 with _ e1 _; omega
  · injection ev with e1 _ e3
    subst e1; subst e3
    have hz : (m.loose.zip ps)[k]? = some (x, ps[k]'(by omega)) := by
      rw [List.getElem?_zip_eq_some]; exact ⟨hx, List.getElem?_eq_getElem (by omega)⟩
    have hf : ∀ q : LooseW × Held, (looseC q.1 q.2).length = 3 := fun _ => rfl
    have hl : (k * 3 + 2) < m.loose.length * 3 := by omega
    obtain ⟨g1, g2, g3⟩ := hheld _ (List.mem_of_getElem? hz)
    have q : ∀ j, j < 3 → wr.cell? ⟨lb, loff + k * 3 + j, none⟩ = (looseC x (ps[k]'(by omega)))[j]? := fun j hj => by
      rw [Nat.add_assoc, hown.cellAt (k * 3 + j) (by omega)]
      exact flat3 (fun q => looseC q.1 q.2) hf _ k _ hz j hj
    exact ⟨lb, loff, _, _, _, rfl, q 0 (by omega), q 1 (by omega), q 2 (by omega), g1, g2, g3, World.block_lt_of_cell? wr ⟨lb, loff + k * 3, none⟩ (q 0 (by omega))⟩
set_option maxRecDepth 100000 in
set_option maxHeartbeats 8000000 in
theorem synced221 {w : World} {d : Nat} {m : DiskM} {fp : List Nat} (h : DiskR w d m fp) (hfit : m.fit) (ha : m.acts < 4611686018427387904) (hnm : ∀ x ∈ m.loose, x.master = false) (hll : m.loose.length < 1000000) :
    Calls Tryz.prog 221 #[.pointer (some ⟨d, 0, none⟩), .bool false] w (DoPost d fp m m.sync 0 w) := by
  have HA := Lib.hid (act111 h ha)
  unfold ActPost at HA
  obtain ⟨P, hP⟩ : ∃ P, P = DoPost d fp m m.sync 0 w := ⟨_, rfl⟩
  rw [← hP]
  have HP := Lib.hid hP
  clear hP
  cases hst : m.stops
  · rw [hst] at HA
    have HFIT := Lib.hid (And.intro hfit hnm)
    have HFP := Lib.hid h.lt
    clear h hfit hnm
    go_enter Tryz.func221, Tryz.ntmps221
    go_wp2_with fail
    refine HA.out.mono ?_
    rintro e w1 ⟨rfl, hk1⟩
    obtain ⟨lo, lc, ps, c5, _, _, _, _, _⟩ := hk1.1.looseAt
    rw [(act_shp m).2.2.2.1] at c5
    have hla : laidAll m.lasts (m.loose.take 0) = m.act.lasts := by rw [(act_shp m).2.1]; rfl
    have HIN : Hid (SyncIn w d fp m lo lc 0 w1) := Lib.hid ⟨by rw [hla]; exact hk1.1, hk1.2, c5⟩
    clear hla
    clear hk1 HA
    generalize hn : m.loose.length = n at *
    go_wp2_with fail
    go_loopw [16, 5, 7] (fun i lf _ wr => ∃ k : Nat, k ≤ n ∧ i = .int .i64 (k : Int) ∧ lf = .slice none 0 0 ∧ SyncIn w d fp m lo lc k wr) (fun i _ _ _ => n - (intOf i).toNat)
    case atStart => exact ⟨0, Nat.zero_le _, rfl, rfl, HIN.out⟩
    case round =>
      obtain ⟨k, hk, rfl, rfl, hin⟩ := hrel
      by_cases hlt : k < n
      · obtain ⟨x, hx⟩ : ∃ x, m.loose[k]? = some x := ⟨_, List.getElem?_eq_getElem (by omega)⟩
        have HI := Lib.hid hin
        obtain ⟨lb, loff, pb, mb, mv, rfl, q0, q1, q2, g1, g2, g3, hlb⟩ := hin.cells hx
        obtain ⟨lv, fl, c3, hG, hsub, hdf, hback⟩ := hin.1.lastsAt
        obtain ⟨vo, vc, rfl⟩ := hG.val
        have hnmx := HFIT.out.2 x (List.mem_of_getElem? hx)
        rw [hnmx] at q0
        have hdl : d < wr.heap.size := World.block_lt_of_cell? wr ⟨d, 5, none⟩ hin.2.2
        obtain ⟨w0, rfl⟩ : ∃ w0, w0 = wr := ⟨_, rfl⟩
        clear hin HIN
        go_wp2_with fail
        obtain ⟨W5, hW5⟩ : ∃ W5, W5 = w0.alloc (.cells #[.bool false, .int .i64 (x.bytes.length : Nat), .func (.func 259) #[] #[.pointer (some ⟨pb, 0, none⟩), .pointer (some ⟨mb, 0, none⟩)]] 150) := ⟨_, rfl⟩
        rw [← hW5]
        have ho5 : Off [] w0 W5 := by rw [hW5]; exact (Off.refl [] w0).alloc _
        have HI5 : Hid (IsC W5 w0.heap.size #[.bool false, .int .i64 (x.bytes.length : Nat), .func (.func 259) #[] #[.pointer (some ⟨pb, 0, none⟩), .pointer (some ⟨mb, 0, none⟩)]] 150) := Lib.hid (by rw [hW5]; exact IsC.new _ _ _)
        have hok := HI.out.1.ok
        have hbl : x.bytes.length = m.shp.sizeB x.place ∧ x.place < m.shp.pages + 3 := ⟨(HFIT.out.1.2.2 x (List.mem_of_getElem? hx)).2.1, (HFIT.out.1.2.2 x (List.mem_of_getElem? hx)).1⟩
        have hsz := m.shp.size_lt (by have q := hok.1; rw [(act_shp m).1] at q; exact q) x.place
        obtain ⟨ld, hld1, hld2⟩ := laidAll_sizes (s := m.shp) (m.loose.take k) HFIT.out.1.1 (fun y hy => (HFIT.out.1.2.2 y (List.mem_of_mem_take hy)).2.1) x.place hbl.2
        have hgl : (laidAll m.lasts (m.loose.take k)).length < 1000000 := by
          have q := hok.2.1
          have q2 := hok.1.2.1
          rw [(act_shp m).1] at q q2
          simp only at q; omega
        have hnf : w0.heap.size ∉ fl := fun hz => by have := HI.out.1.lt _ (hsub _ hz); omega
        have HLAY : Hid (∀ W, Off [] W5 W → Calls Tryz.prog 259 #[.slice vo (laidAll m.lasts (m.loose.take k)).length vc, .int .i64 (x.bytes.length : Int), .pointer (some ⟨pb, 0, none⟩), .pointer (some ⟨mb, 0, none⟩)] W (LayPost (.slice vo (laidAll m.lasts (m.loose.take k)).length vc) (laid (laidAll m.lasts (m.loose.take k)) x.place x.bytes.length x.bytes) fl W)) := Lib.hid (fun W ho => by
          have o1 : Off [] w0 W := ho5.trans ho (by simp)
          exact lay259 (hG.off o1 (by simp)) x.place ld hld1 pb mb mv x.bytes x.bytes.length (g1.off o1 (by simp)) (g2.off o1 (by simp)) (g3.off o1 (by simp)) (Nat.le_refl _) (by omega) (by omega) hgl)
        have c5s := HI5.out.cell 1
        have c5f := HI5.out.cell 2
        simp only [List.getElem?_toArray, List.getElem?_cons_zero, List.getElem?_cons_succ] at c5s c5f
        have HNF := Lib.hid (And.intro hnf (And.intro hdf hsub))
        have HK5 : Hid (∀ W S, Off S W5 W → (∀ z ∈ S, z ∈ fl) → W.cell? ⟨w0.heap.size, 1, none⟩ = some (.int .i64 (x.bytes.length : Nat)) ∧ W.cell? ⟨w0.heap.size, 2, none⟩ = some (.func (.func 259) #[] #[.pointer (some ⟨pb, 0, none⟩), .pointer (some ⟨mb, 0, none⟩)]) ∧ W.cell? ⟨d, 3, none⟩ = some (.slice vo (laidAll m.lasts (m.loose.take k)).length vc)) := Lib.hid (fun W S ho hS =>
          ⟨ho.cell c5s (fun hz => HNF.out.1 (hS _ hz)), ho.cell c5f (fun hz => HNF.out.1 (hS _ hz)), ho.cell (ho5.cell c3 (by simp)) (fun hz => HNF.out.2.1 (hS _ hz))⟩)
        have HBK : Hid (∀ w6, Ground w6 (.slice vo (laidAll m.lasts (m.loose.take k)).length vc) (laid (laidAll m.lasts (m.loose.take k)) x.place x.bytes.length x.bytes) fl → Off fl W5 w6 → SyncIn w d fp m (some ⟨lb, loff, none⟩) lc (k + 1) w6) := Lib.hid (fun w6 a b => by
          have o : Off fl w0 w6 := (ho5.mono (by simp)).trans b (fun z hz => .inl hz)
          refine ⟨?_, HI.out.2.1.trans o (fun z hz => .inl (hsub z hz)), o.cell HI.out.2.2 hdf⟩
          have q := hback w6 _ a o (by unfold laid; rw [List.length_set])
          rw [laidAll_succ _ _ _ _ hx]; exact q)
        have hxb : x.bytes.length < 1000 := by omega
        clear hW5 ho5 hok hbl hsz hld1 hld2 hgl hnf hdf hsub hback hG g1 g2 g3 q0 q1 q2 c3 c5s c5f hdl hlb HI HI5 hnmx
        generalize w0.heap.size = sb at *
        generalize x.bytes.length = xl at *
        generalize hgll : (laidAll m.lasts (m.loose.take k)).length = gl at *
        clear hgll
        go_wp2_with fail
        go_region_held3 (fun W => W.cell? ⟨sb, 1, none⟩ = some (.int .i64 (xl : Nat)) ∧ W.cell? ⟨sb, 2, none⟩ = some (.func (.func 259) #[] #[.pointer (some ⟨pb, 0, none⟩), .pointer (some ⟨mb, 0, none⟩)]) ∧ W.cell? ⟨d, 3, none⟩ = some (.slice vo gl vc))
          (first | exact HK5.out _ [] (Off.refl _ _) (by simp) | exact HK5.out _ [] (Off.refl _ _).drew (by simp) | exact HK6.out | fail)
          (first | (go_at_call 259; refine (HLAY.out _ (Off.refl _ _).drew).mono ?_; rintro e w6 ⟨rfl, q1, q2⟩; have HQ := Lib.hid (And.intro q1 ((Off.refl fl W5).drew.trans q2 (fun z hz => .inl hz))); have HK6 := Lib.hid (HK5.out w6 fl HQ.out.2 (fun z hz => hz)); clear q1 q2))
        have HN := Lib.hid (HBK.out w6 HQ.out.1 HQ.out.2)
        clear HQ HK6 HK5 HLAY HBK
        go_wp2_with fail
        go_roundw
        case rel => exact ⟨k + 1, by omega, by go_num, rfl, HN.out⟩
        case measure => simp [intOf]; omega
      · have hkn : k = n := by omega
        subst hkn
        obtain ⟨ao, cap, ps, c5', hps, hown, hheld, hsub, hclose⟩ := hin.1.looseAt
        have el : ({ m.act with lasts := laidAll m.lasts (m.loose.take k) } : DiskM).loose = m.loose := (act_shp m).2.2.2.1
        rw [el] at c5' hsub hclose
        have hdl : d < wr.heap.size := World.block_lt_of_cell? wr ⟨d, 5, none⟩ hin.2.2
        obtain ⟨_, _, _, _, _, _, kf⟩ := hin.1.cells
        have c5 := hin.2.2
        rw [hn] at c5
        obtain ⟨fp', x1, x2, x3⟩ := hclose wr none 0 0 [] [] (Off.refl _ _) rfl rfl (Own.nil _ _ _) (by simp) (.inr (.inl rfl)) (by simp) (by simp)
        have HF : Hid (P (.returned (.int .i64 0)) (wr.setCell ⟨d, 5, none⟩ (.slice none 0 0))) := Lib.hid (by
          rw [HP.out]
          refine .inr ⟨hst, rfl, fp', ?_, hin.2.1.trans x2 (fun z hz => .inl hz), fun z hz => ?_⟩
          · have e : m.loose.take k = m.loose := List.take_of_length_le (by omega)
            rw [e] at x1
            exact x1
          · have := hin.2.1.size
            rcases x3 z hz with q | q | q
            · exact .inl q
            · simp at q
            · exact .inr (by omega))
        clear hin HIN hclose hps hown hheld hsub x1 x2 x3 c5'
        go_wp2_with fail
        first | exact HF.out | (go_ret; exact HF.out)
  · rw [hst] at HA
    clear h hfit
    go_enter Tryz.func221, Tryz.ntmps221
    go_wp2_with fail
    refine HA.out.mono ?_
    rintro e w1 ⟨rfl, hk1⟩
    have HF : Hid (P (.returned (.int .i64 1)) w1) := Lib.hid (by rw [HP.out]; exact .inl ⟨hst, rfl, hk1.step⟩)
    clear hk1 HA
    go_wp2_with fail
    first | exact HF.out | (go_ret; exact HF.out)
end Go.Proofs.YtfdgiblkllfpjaaGreatDoor

/- disk: WritePage, WritePair, Sync. -/
set_option linter.unusedVariables false
set_option linter.unusedSimpArgs false
namespace Go.Proofs.YtfdgiblkllfpjaaGreatDoor
open Go.ChangeShapes Go.WideShapes Go.ChangeAt Go.RowKit

set_option maxRecDepth 100000 in
set_option maxHeartbeats 2000000 in
theorem writePage167 {w : World} {d : Nat} {m : DiskM} {fp : List Nat} (h : DiskR w d m fp) (hfit : m.fit) (ha : m.acts < 4611686018427387904) (p : Nat) (hp : p < m.shp.pages) (v : Value) (l : List UInt8) (hb : IsB w v l) (hv : ∀ z ∈ blk v, z ∉ fp) (hl : l.length = m.shp.pageB) (hll : m.loose.length < 1000000) :
    Calls Tryz.prog 167 #[.pointer (some ⟨d, 0, none⟩), .int .i64 (p : Int), v] w (DoPost d fp m (m.put p l) 0 w) := by
  have HP := Lib.hid (page72 h p hp)
  have hl2 : l.length = m.shp.sizeB p := by rw [hl]; unfold Shp.sizeB; rw [if_pos hp]
  have HW := Lib.hid (write220 h hfit ha p (by omega) v l hb hv hl2 hll)
  obtain ⟨vo, vc, rfl⟩ := hb.val
  obtain ⟨P, hP⟩ : ∃ P, P = DoPost d fp m (m.put p l) 0 w := ⟨_, rfl⟩
  rw [← hP] at HW ⊢
  have HPP : Hid (∀ e w', P e w' → ∃ c, e = .returned (.int .i64 c)) := Lib.hid (fun e w' h => by rw [hP] at h; rcases h with ⟨_, q, _⟩ | ⟨_, q, _⟩ <;> exact ⟨_, q⟩)
  clear h hl hl2 hp hfit hb hv hP
  go_enter Tryz.func167, Tryz.ntmps167
  go_wp2_with fail
  refine HP.out.mono ?_
  rintro e w1 ⟨rfl, rfl⟩
  go_wp2_with fail
  refine HW.out.mono ?_
  intro e w1 hr
  obtain ⟨c, rfl⟩ := HPP.out e w1 hr
  have HQ := Lib.hid hr
  clear hr
  go_wp2_with fail
  first | exact HQ.out | (go_ret; exact HQ.out)
set_option maxRecDepth 100000 in
set_option maxHeartbeats 2000000 in
theorem writePair199 {w : World} {d : Nat} {m : DiskM} {fp : List Nat} (h : DiskR w d m fp) (hfit : m.fit) (ha : m.acts < 4611686018427387904) (v : Value) (l : List UInt8) (hb : IsB w v l) (hv : ∀ z ∈ blk v, z ∉ fp) (hl : l.length = 16 + m.shp.pageB) (hll : m.loose.length < 1000000) :
    Calls Tryz.prog 199 #[.pointer (some ⟨d, 0, none⟩), v] w (DoPost d fp m (m.put m.shp.pages l) 0 w) := by
  have hl2 : l.length = m.shp.sizeB m.shp.pages := by rw [hl]; unfold Shp.sizeB; rw [if_neg (by omega), if_pos rfl]
  have HW := Lib.hid (write220 h hfit ha m.shp.pages (by omega) v l hb hv hl2 hll)
  obtain ⟨k0, _⟩ := h.cells
  obtain ⟨vo, vc, rfl⟩ := hb.val
  obtain ⟨P, hP⟩ : ∃ P, P = DoPost d fp m (m.put m.shp.pages l) 0 w := ⟨_, rfl⟩
  rw [← hP] at HW ⊢
  have HPP : Hid (∀ e w', P e w' → ∃ c, e = .returned (.int .i64 c)) := Lib.hid (fun e w' h => by rw [hP] at h; rcases h with ⟨_, q, _⟩ | ⟨_, q, _⟩ <;> exact ⟨_, q⟩)
  clear h hl hl2 hfit hb hv hP
  generalize m.shp.pages = p at *
  go_enter Tryz.func199, Tryz.ntmps199
  go_wp2_with fail
  refine HW.out.mono ?_
  intro e w1 hr
  obtain ⟨c, rfl⟩ := HPP.out e w1 hr
  have HQ := Lib.hid hr
  clear hr
  go_wp2_with fail
  first | exact HQ.out | (go_ret; exact HQ.out)
set_option maxRecDepth 100000 in
set_option maxHeartbeats 2000000 in
theorem sync168 {w : World} {d : Nat} {m : DiskM} {fp : List Nat} (h : DiskR w d m fp) (hfit : m.fit) (ha : m.acts < 4611686018427387904) (hnm : ∀ x ∈ m.loose, x.master = false) (hll : m.loose.length < 1000000) :
    Calls Tryz.prog 168 #[.pointer (some ⟨d, 0, none⟩)] w (DoPost d fp m m.sync 0 w) := by
  have HW := Lib.hid (synced221 h hfit ha hnm hll)
  obtain ⟨P, hP⟩ : ∃ P, P = DoPost d fp m m.sync 0 w := ⟨_, rfl⟩
  rw [← hP] at HW ⊢
  have HPP : Hid (∀ e w', P e w' → ∃ c, e = .returned (.int .i64 c)) := Lib.hid (fun e w' h => by rw [hP] at h; rcases h with ⟨_, q, _⟩ | ⟨_, q, _⟩ <;> exact ⟨_, q⟩)
  clear h hfit hnm hP
  go_enter Tryz.func168, Tryz.ntmps168
  go_wp2_with fail
  refine HW.out.mono ?_
  intro e w1 hr
  obtain ⟨c, rfl⟩ := HPP.out e w1 hr
  have HQ := Lib.hid hr
  clear hr
  go_wp2_with fail
  first | exact HQ.out | (go_ret; exact HQ.out)
end Go.Proofs.YtfdgiblkllfpjaaGreatDoor

/- pair: slotsOf, Make. -/
set_option linter.unusedVariables false
set_option linter.unusedSimpArgs false
namespace Go.Proofs.YtfdgiblkllfpjaaGreatDoor
open Go.ChangeShapes Go.WideShapes Go.ChangeAt Go.RowKit

def pairB (lsn number : Nat) (b : List UInt8) : List UInt8 := (le 8 lsn ++ le 4 number ++ le 4 0) ++ b
theorem pairB_len (lsn number : Nat) (b : List UInt8) : (pairB lsn number b).length = 16 + b.length := by unfold pairB; simp only [List.length_append, le_len]
theorem slotsN_is {n s : Nat} (h1 : 1 ≤ s) (h2 : s ≤ 8) (h : 16 + s * 16 + 8 = n) : slotsN n = s := by
  unfold slotsN
  rw [if_pos (by omega)]; omega
theorem slotsN_not {n : Nat} (h : ∀ s, 1 ≤ s → s ≤ 8 → 16 + s * 16 + 8 ≠ n) : slotsN n = 0 := by
  unfold slotsN
  rw [if_neg]
  rintro ⟨h1, h2, h3⟩
  exact h ((n - 24) / 16) (by omega) (by omega) (by omega)
set_option maxRecDepth 100000 in
set_option maxHeartbeats 2000000 in
theorem slotsOf244 (n : Nat) (hn : n < 1000000) (w : World) : Calls Tryz.prog 244 #[.int .i64 (n : Int)] w fun e w' => e = .returned (.int .i64 (slotsN n : Nat)) ∧ w = w' := by
  go_enter Tryz.func244, Tryz.ntmps244
  go_wp2
  go_loop [3] (fun i => ∃ s : Nat, 1 ≤ s ∧ s ≤ 9 ∧ i = .int .i64 (s : Int) ∧ ∀ j, 1 ≤ j → j < s → 16 + j * 16 + 8 ≠ n) (fun i => 9 - (intOf i).toNat)
  case atStart => exact ⟨1, by omega, by omega, rfl, fun j a b => by omega⟩
  case round =>
    obtain ⟨s, h1, h9, rfl, hr⟩ := hrel
    have HR := Lib.hid hr
    clear hr
    by_cases hs : s ≤ 8
    · have HB := Lib.hid (bytes126 (s : Int) w)
      rw [show pageLen (s : Int) = ((16 + s * 16 + 8 : Nat) : Int) by unfold pageLen; rw [if_neg (by omega)]; omega] at HB
      by_cases he : 16 + s * 16 + 8 = n
      · have HF : Hid (slotsN n = s) := Lib.hid (slotsN_is h1 hs he)
        have hd : (((16 + s * 16 + 8 : Nat) : Int) == (n : Int)) = true := by rw [beq_iff_eq]; omega
        have HE := Lib.hid he
        clear he
        generalize 16 + s * 16 + 8 = y at *
        go_wp2_with fail
        refine HB.out.mono ?_
        rintro e w1 ⟨rfl, rfl⟩
        go_wp2_with fail
        go_ret
        exact ⟨by rw [HF.out]; rfl, rfl⟩
      · have hd : (((16 + s * 16 + 8 : Nat) : Int) == (n : Int)) = false := by rw [beq_eq_false_iff_ne]; omega
        have HE := Lib.hid he
        clear he
        generalize hy : 16 + s * 16 + 8 = y at *
        have HY := Lib.hid hy
        clear hy
        go_wp2_with fail
        refine HB.out.mono ?_
        rintro e w1 ⟨rfl, rfl⟩
        go_wp2_with fail
        go_round
        case rel => exact ⟨s + 1, by omega, by omega, by go_num, fun j a b => by
            rcases Nat.lt_or_ge j s with q | q
            · exact HR.out j a q
            · obtain rfl : j = s := by omega
              rw [HY.out]; exact HE.out⟩
        case measure => simp [intOf]; omega
    · have HF : Hid (slotsN n = 0) := Lib.hid (slotsN_not (fun j a b => HR.out j a (by omega)))
      go_wp2_with fail
      go_ret
      exact ⟨by rw [HF.out]; rfl, rfl⟩
set_option maxRecDepth 100000 in
set_option maxHeartbeats 4000000 in
theorem make197 {t : Nat → Nat} (number : Nat) (v : Value) (l : List UInt8) (lsn : Nat) (w : World) (ht : Tbl t w) (h : IsB w v l) (hn : l.length < 1000000) (hnum : number < 16) (hc : pageCheck t l (number : Int) (slotsN l.length : Nat) = some lsn) (h1 : 1 ≤ lsn) (h2 : lsn ≤ 1152921504606846976) :
    Calls Tryz.prog 197 #[.int .i64 (number : Int), v] w (StampPost w (pairB lsn number l)) := by
  obtain ⟨vo, vc, rfl⟩ := h.val
  have HS := Lib.hid (slotsOf244 l.length hn w)
  have hck := check64 _ l (number : Int) (slotsN l.length : Nat) w ht h hn
  rw [hc] at hck
  unfold CheckPost at hck
  simp only [Option.getD_some, errOf, Option.isSome_some, if_true] at hck
  have HC := Lib.hid hck
  have hp1 := fun W => put115 (.slice none 0 0) [] lsn (Nat.lt_of_le_of_lt h2 (by decide)) W (IsB.nil W) (by simp)
  simp only [List.nil_append] at hp1
  have HP1 := Lib.hid hp1
  have HP2 : Hid (∀ W v, IsB W v (le 8 lsn) → Calls Tryz.prog 123 #[v, .int .u32 (number : Int)] W (FreshB W (le 8 lsn ++ le 4 number))) := Lib.hid (fun W v a => put123 v _ number (by have : (256 : Nat) ^ 4 = 4294967296 := rfl; omega) W a (by rw [le_len]; omega))
  have HP3 : Hid (∀ W v, IsB W v (le 8 lsn ++ le 4 number) → Calls Tryz.prog 123 #[v, .int .u32 0] W (FreshB W (le 8 lsn ++ le 4 number ++ le 4 0))) := Lib.hid (fun W v a => put123 v _ 0 (by decide) W a (by simp only [List.length_append, le_len]; omega))
  have HJ : Hid (∀ W hv, IsRows W hv [le 8 lsn ++ le 4 number ++ le 4 0, l] → Calls Tryz.prog 118 #[hv] W (FreshB W (pairB lsn number l))) := Lib.hid (fun W hv a => by
    have q := join118 hv _ W a (by simp only [List.flatten_cons, List.flatten_nil, List.append_nil, List.length_append, le_len]; omega) (by simp)
    simp only [List.flatten_cons, List.flatten_nil, List.append_nil] at q
    exact q)
  have hlw : IntKind.u64.wrap (lsn : Int) = (lsn : Int) := by rw [IntKind.wrap_u64]; omega
  have hnw : IntKind.u32.wrap (number : Int) = (number : Int) := by rw [IntKind.wrap_u32]; omega
  have hls : ¬ ((lsn : Int) < 1) := by omega
  have HB := Lib.hid h
  have e1 : (le 8 lsn).length = 8 := le_len _ _
  have e2 : (le 8 lsn ++ le 4 number).length = 12 := by simp only [List.length_append, le_len]
  have e3 : (le 8 lsn ++ le 4 number ++ le 4 0).length = 16 := by simp only [List.length_append, le_len]
  have HE := Lib.hid (And.intro e1 (And.intro e2 e3))
  generalize pairB lsn number l = F at *
  generalize le 8 lsn ++ le 4 number ++ le 4 0 = b3 at *
  generalize le 8 lsn ++ le 4 number = b2 at *
  generalize le 8 lsn = b1 at *
  clear h ht hn hc hck hp1 e1 e2 e3 h2
  generalize slotsN l.length = sn at *
  obtain ⟨n, hN⟩ : ∃ n, n = l.length := ⟨_, rfl⟩
  have HN := Lib.hid hN
  rw [← hN] at HS HC HB ⊢
  clear hN
  go_enter Tryz.func197, Tryz.ntmps197
  go_wp2_with fail
  refine HS.out.mono ?_
  rintro e w1 ⟨rfl, rfl⟩
  go_wp2_with fail
  refine HC.out.mono ?_
  rintro e w1 ⟨rfl, ho1⟩
  have HO1 := Lib.hid ho1
  clear ho1 HS HC
  go_wp2_with fail
  refine (HP1.out _).mono ?_
  rintro e w2 ⟨ao, ac, rfl, p1, p2, p3⟩
  have HO2 := Lib.hid (HO1.out.trans p2 (by simp))
  have HQ2 := Lib.hid (HP2.out w2 _ p1)
  clear p1 p2 p3 HP1
  rw [HE.out.1] at HQ2 ⊢
  go_wp2_with fail
  refine HQ2.out.mono ?_
  rintro e w3 ⟨bo, bc, rfl, p1, p2, p3⟩
  have HO3 := Lib.hid (HO2.out.trans p2 (by simp))
  have HQ3 := Lib.hid (HP3.out w3 _ p1)
  clear p1 p2 p3 HQ2
  rw [HE.out.2.1] at HQ3 ⊢
  go_wp2_with fail
  refine HQ3.out.mono ?_
  rintro e w4 ⟨co, cc, rfl, p1, p2, p3⟩
  have HO4 := Lib.hid (HO3.out.trans p2 (by simp))
  have HB4 := Lib.hid p1
  clear p1 p2 p3 HQ3
  rw [HE.out.2.2] at HB4 ⊢
  have HR := Lib.hid (isRows2 HB4.out (HB.out.off HO4.out (by simp)))
  have HJ5 := Lib.hid (HJ.out _ _ HR.out)
  clear HR HB4 HJ
  go_wp2_with fail
  refine HJ5.out.mono ?_
  rintro e w5 ⟨fo, fc, rfl, p1, p2, p3⟩
  have HF : Hid (StampPost w F (.returned (.tuple #[.slice fo F.length fc, .int .i64 0])) w5) := Lib.hid ⟨fo, fc, rfl, p1, HO4.out.trans (((Off.refl [] w4).alloc _).trans p2 (by simp)) (by simp), fun z hz => by have := p3 z hz; have := HO4.out.size; have := World.size_alloc w4 (.cells #[.slice co 16 cc, .slice vo n vc] 22); omega⟩
  clear p1 p2 p3 HJ5
  go_wp2_with fail
  go_ret2
  exact HF.out
end Go.Proofs.YtfdgiblkllfpjaaGreatDoor

/- pair: Write. -/
set_option linter.unusedVariables false
set_option linter.unusedSimpArgs false
namespace Go.Proofs.YtfdgiblkllfpjaaGreatDoor
open Go.ChangeShapes Go.WideShapes Go.ChangeAt Go.RowKit

theorem DiskM.act_acts (m : DiskM) : m.act.acts ≤ m.acts + 1 := by unfold DiskM.act; split <;> simp
theorem DiskM.put_fields (m : DiskM) (k : Nat) (l : List UInt8) : (m.put k l).shp = m.shp ∧ (m.put k l).lasts = m.lasts ∧ (m.put k l).reads = laid m.reads k l.length l ∧ (m.put k l).loose = m.loose ++ [⟨decide (m.shp.pages < k), k, l⟩] ∧ (m.put k l).log = m.log ∧ (m.put k l).acts ≤ m.acts + 1 ∧ (m.put k l).lasted = m.lasted :=
  ⟨m.act_fields.1, m.act_fields.2.1, rfl, rfl, m.act_fields.2.2.2.2.1, m.act_acts, m.act_fields.2.2.2.2.2.1⟩
theorem DiskM.sync_fields (m : DiskM) : m.sync.shp = m.shp ∧ m.sync.lasts = laidAll m.lasts m.loose ∧ m.sync.reads = m.reads ∧ m.sync.loose = [] ∧ m.sync.log = m.log ∧ m.sync.acts ≤ m.acts + 1 ∧ m.sync.lasted = m.lasted :=
  ⟨m.act_fields.1, rfl, m.act_fields.2.2.1, rfl, m.act_fields.2.2.2.2.1, m.act_acts, m.act_fields.2.2.2.2.2.1⟩
theorem DiskM.put_fit {m : DiskM} (h : m.fit) (k : Nat) (hk : k < m.shp.pages + 3) (l : List UInt8) (hl : l.length = m.shp.sizeB k) : (m.put k l).fit := by
  obtain ⟨e1, e2, e3, e4, _⟩ := m.put_fields k l
  unfold DiskM.fit
  rw [e1, e2, e3, e4]
  refine ⟨h.1, laid_sizes h.2.1 k l hl, fun x hx => ?_⟩
  rcases List.mem_append.1 hx with q | q
  · exact h.2.2 x q
  · simp at q; subst q; exact ⟨hk, hl, rfl⟩
theorem DiskM.sync_fit {m : DiskM} (h : m.fit) : m.sync.fit := by
  obtain ⟨e1, e2, e3, e4, _⟩ := m.sync_fields
  unfold DiskM.fit
  rw [e1, e2, e3, e4]
  exact ⟨laidAll_sizes m.loose h.1 (fun x hx => (h.2.2 x hx).2.1), h.2.1, by simp⟩
def DiskM.plain (m : DiskM) : Prop := ∀ x ∈ m.loose, x.master = false
/-- The states on a pair's write's way. -/
def pairS (m : DiskM) (n : Nat) (b pb : List UInt8) : Nat → DiskM
  | 0 => m
  | 1 => m.put m.shp.pages pb
  | 2 => (m.put m.shp.pages pb).sync
  | 3 => (m.put m.shp.pages pb).sync.put n b
  | _ => ((m.put m.shp.pages pb).sync.put n b).sync
def pairM (m : DiskM) (n : Nat) (b pb : List UInt8) : DiskM × Int :=
  if (pairS m n b pb 0).stops then ((pairS m n b pb 0).act, 1) else if (pairS m n b pb 1).stops then ((pairS m n b pb 1).act, 1) else if (pairS m n b pb 2).stops then ((pairS m n b pb 2).act, 1)
  else if (pairS m n b pb 3).stops then ((pairS m n b pb 3).act, 1) else (pairS m n b pb 4, 0)
theorem pairM_stop {m : DiskM} {n : Nat} {b pb : List UInt8} {k : Nat} (hk : k < 4) (h : ∀ j, j < k → (pairS m n b pb j).stops = false) (hs : (pairS m n b pb k).stops = true) : pairM m n b pb = ((pairS m n b pb k).act, 1) := by
  unfold pairM
  match k, hk with
  | 0, _ => rw [if_pos hs]
  | 1, _ => rw [if_neg (by rw [h 0 (by omega)]; simp), if_pos hs]
  | 2, _ => rw [if_neg (by rw [h 0 (by omega)]; simp), if_neg (by rw [h 1 (by omega)]; simp), if_pos hs]
  | 3, _ => rw [if_neg (by rw [h 0 (by omega)]; simp), if_neg (by rw [h 1 (by omega)]; simp), if_neg (by rw [h 2 (by omega)]; simp), if_pos hs]
theorem pairM_done {m : DiskM} {n : Nat} {b pb : List UInt8} (h : ∀ j, j < 4 → (pairS m n b pb j).stops = false) : pairM m n b pb = (pairS m n b pb 4, 0) := by
  unfold pairM
  rw [if_neg (by rw [h 0 (by omega)]; simp), if_neg (by rw [h 1 (by omega)]; simp), if_neg (by rw [h 2 (by omega)]; simp), if_neg (by rw [h 3 (by omega)]; simp)]
section
set_option maxRecDepth 100000
set_option maxHeartbeats 2000000
theorem pairW198 {w : World} {d : Nat} {m : DiskM} {fp : List Nat} (h : DiskR w d m fp) (hfit : m.fit) (ha : m.acts < 4611686018427387904) (v : Value) (l : List UInt8) (hb : IsB w v l) (hv : ∀ z ∈ blk v, z ∉ fp) (hl : l.length = 16 + m.shp.pageB) (hll : m.loose.length < 1000000) (db qb : Nat) (h1 : IsC w db #[.pointer (some ⟨d, 0, none⟩)] 23) (h2 : IsC w qb #[v] 218) :
    Calls Tryz.prog 198 #[.pointer (some ⟨db, 0, none⟩), .pointer (some ⟨qb, 0, none⟩)] w (DoPost d fp m (m.put m.shp.pages l) 0 w) := by
  have HW := Lib.hid (writePair199 h hfit ha v l hb hv hl hll)
  obtain ⟨vo, vc, rfl⟩ := hb.val
  obtain ⟨P, hP⟩ : ∃ P, P = DoPost d fp m (m.put m.shp.pages l) 0 w := ⟨_, rfl⟩
  rw [← hP] at HW ⊢
  have HPP : Hid (∀ e w', P e w' → ∃ c, e = .returned (.int .i64 c)) := Lib.hid (fun e w' h => by rw [hP] at h; rcases h with ⟨_, q, _⟩ | ⟨_, q, _⟩ <;> exact ⟨_, q⟩)
  have c1 := h1.cell 0
  have c2 := h2.cell 0
  simp only [List.getElem?_toArray, List.getElem?_cons_zero] at c1 c2
  clear h hl hfit hb hv hP h1 h2
  go_enter Tryz.func198, Tryz.ntmps198
  go_wp2_with fail
  refine HW.out.mono ?_
  intro e w1 hr
  obtain ⟨c, rfl⟩ := HPP.out e w1 hr
  have HQ := Lib.hid hr
  clear hr
  go_wp2_with fail
  first | exact HQ.out | (go_ret; exact HQ.out)
theorem pairW200 {w : World} {d : Nat} {m : DiskM} {fp : List Nat} (h : DiskR w d m fp) (hfit : m.fit) (ha : m.acts < 4611686018427387904) (p : Nat) (hp : p < m.shp.pages) (v : Value) (l : List UInt8) (hb : IsB w v l) (hv : ∀ z ∈ blk v, z ∉ fp) (hl : l.length = m.shp.pageB) (hll : m.loose.length < 1000000) (db nb bb : Nat) (h1 : IsC w db #[.pointer (some ⟨d, 0, none⟩)] 23) (h2 : IsC w nb #[.int .i64 (p : Int)] 3) (h3 : IsC w bb #[v] 22) :
    Calls Tryz.prog 200 #[.pointer (some ⟨db, 0, none⟩), .pointer (some ⟨nb, 0, none⟩), .pointer (some ⟨bb, 0, none⟩)] w (DoPost d fp m (m.put p l) 0 w) := by
  have HW := Lib.hid (writePage167 h hfit ha p hp v l hb hv hl hll)
  obtain ⟨vo, vc, rfl⟩ := hb.val
  obtain ⟨P, hP⟩ : ∃ P, P = DoPost d fp m (m.put p l) 0 w := ⟨_, rfl⟩
  rw [← hP] at HW ⊢
  have HPP : Hid (∀ e w', P e w' → ∃ c, e = .returned (.int .i64 c)) := Lib.hid (fun e w' h => by rw [hP] at h; rcases h with ⟨_, q, _⟩ | ⟨_, q, _⟩ <;> exact ⟨_, q⟩)
  have c1 := h1.cell 0
  have c2 := h2.cell 0
  have c3 := h3.cell 0
  simp only [List.getElem?_toArray, List.getElem?_cons_zero] at c1 c2 c3
  clear h hl hfit hb hv hP h1 h2 h3 hp
  go_enter Tryz.func200, Tryz.ntmps200
  go_wp2_with fail
  refine HW.out.mono ?_
  intro e w1 hr
  obtain ⟨c, rfl⟩ := HPP.out e w1 hr
  have HQ := Lib.hid hr
  clear hr
  go_wp2_with fail
  first | exact HQ.out | (go_ret; exact HQ.out)
end
end Go.Proofs.YtfdgiblkllfpjaaGreatDoor
