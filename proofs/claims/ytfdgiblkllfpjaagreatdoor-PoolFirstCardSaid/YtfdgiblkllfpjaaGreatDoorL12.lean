/- pool: CleanAll. -/
import Derived.Test.YtfdgiblkllfpjaaGreatDoorL11
import Derived.Outline
set_option linter.unusedVariables false
set_option linter.unusedSimpArgs false
namespace Go.Proofs.YtfdgiblkllfpjaaGreatDoor
open Go.ChangeShapes Go.WideShapes Go.ChangeAt Go.RowKit

theorem pairM_zero {m : DiskM} {n : Nat} {b pb : List UInt8} (h : (pairM m n b pb).2 = 0) : (pairM m n b pb).1 = pairS m n b pb 4 := by
  unfold pairM at h ⊢
  repeat' split at h
  all_goals first | (simp at h; done) | skip
  simp_all
theorem DiskM.put_log (m : DiskM) (k : Nat) (l : List UInt8) : (m.put k l).log = m.log := m.act_fields.2.2.2.2.1
theorem pairS_more {m : DiskM} {n : Nat} {b pb : List UInt8} : (pairS m n b pb 4).log = m.log ∧ (pairS m n b pb 4).loose = [] := by
  refine ⟨?_, rfl⟩
  show ((m.put m.shp.pages pb).sync.put n b).sync.log = m.log
  rw [(DiskM.sync_fields _).2.2.2.2.1, DiskM.put_log, (DiskM.sync_fields _).2.2.2.2.1, DiskM.put_log]
theorem PoolM.find_some {pm : PoolM} {n : Nat} {f : Fr} (h : pm.find n = some f) : f ∈ pm.held ∧ f.num = n := by
  unfold PoolM.find at h
  exact ⟨List.mem_of_find?_eq_some h, by simpa using List.find?_some h⟩
theorem PoolOk.set {t : Nat → Nat} {s : Shp} {pm : PoolM} (h : PoolOk t s pm) {f : Fr} (hf : f ∈ pm.held) (r : Nat) (hr : r ≤ f.rc) : PoolOk t s (pm.set { f with rc := r }) := by
  intro y hy
  unfold PoolM.set at hy
  obtain ⟨z, hz, rfl⟩ := List.mem_map.1 hy
  split
  · obtain ⟨a, b, x, c, d, e, g⟩ := h f hf
    exact ⟨a, b, x, c, d, e, fun hq => g (by simp only at hq; omega)⟩
  · exact h z hz
/-- What a page's writing out keeps. -/
theorem cleanM_ok {t : Nat → Nat} {dm : DiskM} {lm : LogM} {pm : PoolM} {k : Nat} (hok : DeskOk dm lm k) (hpo : PoolOk t dm.shp pm) (hdead : pm.dead = false) (hz : lm.bytes = lm.disk + lm.tail.length) {n : Nat} (hc : (cleanM dm lm pm n).2.2.2 = 0) :
    DeskOk (cleanM dm lm pm n).1 (cleanM dm lm pm n).2.1 (k + 6) ∧ PoolOk t (cleanM dm lm pm n).1.shp (cleanM dm lm pm n).2.2.1 ∧ (cleanM dm lm pm n).2.2.1.dead = false ∧ (cleanM dm lm pm n).1.shp = dm.shp ∧ (cleanM dm lm pm n).2.2.1.held.map (·.num) = pm.held.map (·.num) ∧ (cleanM dm lm pm n).2.2.1.most = pm.most := by
  have hbase : DeskOk dm lm (k + 6) := ⟨hok.1, hok.2.1, by have := hok.2.2.1; omega, hok.2.2.2⟩
  unfold cleanM at hc ⊢
  cases hf : pm.find n with
  | none => exact ⟨hbase, hpo, hdead, rfl, rfl, rfl⟩
  | some f =>
    rw [hf] at hc
    simp only at hc ⊢
    by_cases hr : 0 < f.rc
    · rw [if_pos hr] at hc ⊢
      unfold writeM at hc ⊢
      by_cases h1 : (flushM dm lm ((pageLsn f.b).getD 0)).2.2 = 0
      · rw [if_pos h1] at hc ⊢
        have hok2 := flushM_ok hok hz h1
        have hsh2 := flushM_shp hok hz ((pageLsn f.b).getD 0)
        by_cases h2 : (pairM (flushM dm lm ((pageLsn f.b).getD 0)).1 f.num f.b (pairB ((pageLsn f.b).getD 0) f.num f.b)).2 = 0
        · rw [if_pos h2]
          obtain ⟨hfm, hfn⟩ := PoolM.find_some hf
          obtain ⟨g1, g2, _⟩ := hpo f hfm
          have hps := (pairS_ok hok2.1 hok2.2.1 (n := f.num) (by rw [hsh2]; exact g1) (b := f.b) (pb := pairB ((pageLsn f.b).getD 0) f.num f.b) (by rw [hsh2]; exact g2) (by rw [pairB_len, hsh2, g2])).2.2.2.2
          have hpm := pairS_more (m := (flushM dm lm ((pageLsn f.b).getD 0)).1) (n := f.num) (b := f.b) (pb := pairB ((pageLsn f.b).getD 0) f.num f.b)
          simp only
          rw [pairM_zero h2]
          refine ⟨⟨hps.2.1, hps.2.2.1, by have := hps.2.2.2.1; have := hok2.2.2.1; omega, by rw [hpm.2]; simp, by rw [hpm.1]; exact hok2.2.2.2.2.1, by rw [hps.1]; exact hok2.2.2.2.2.2.1, hok2.2.2.2.2.2.2⟩, ?_, hdead, hps.1.trans hsh2, ?_, rfl⟩
          · rw [hps.1, hsh2]
            exact hpo.set hfm 0 (by omega)
          · unfold PoolM.set
            simp only [List.map_map]
            refine List.map_congr_left (fun x _ => ?_)
            simp only [Function.comp_apply]
            split
            · rename_i e; exact e.symm
            · rfl
        · rw [if_neg h2] at hc; simp at hc
      · rw [if_neg h1] at hc; simp at hc
    · rw [if_neg hr] at hc ⊢
      exact ⟨hbase, hpo, hdead, rfl, rfl, rfl⟩
def cleanAllM : List Nat → DiskM → LogM → PoolM → DiskM × LogM × PoolM × Int
  | [], dm, lm, pm => (dm, lm, pm, 0)
  | n :: ns, dm, lm, pm => if (cleanM dm lm pm n).2.2.2 = 0 then cleanAllM ns (cleanM dm lm pm n).1 (cleanM dm lm pm n).2.1 (cleanM dm lm pm n).2.2.1 else cleanM dm lm pm n
theorem cleanM_code (dm : DiskM) (lm : LogM) (pm : PoolM) (n : Nat) : (cleanM dm lm pm n).2.2.2 = 0 ∨ (cleanM dm lm pm n).2.2.2 = 1 := by
  unfold cleanM
  split
  · split
    · unfold writeM
      split
      · split
        · exact .inl rfl
        · exact .inr rfl
      · exact .inr rfl
    · exact .inl rfl
  · exact .inl rfl
theorem pick_mem {pm : PoolM} {pr : Fr → Bool} {x : Int} (h : x ∈ pm.pick pr) : ∃ f ∈ pm.held, pr f = true ∧ x = (f.num : Int) := by
  unfold PoolM.pick at h
  have := (srtI_perm _).mem_iff.1 h
  unfold numsI at this
  obtain ⟨f, hf, rfl⟩ := List.mem_map.1 this
  obtain ⟨a, b⟩ := List.mem_filter.1 hf
  exact ⟨f, a, b, rfl⟩
def PoolM.dirtyN (pm : PoolM) : List Nat := (pm.pick dirty).map Int.toNat
def AllIn (t : Nat → Nat) (w1 : World) (d g p : Nat) (F : Fp3) (dm : DiskM) (lm : LogM) (pm : PoolM) (a : Nat) (Ln : List Nat) (k : Nat) (wr : World) : Prop :=
  ∃ dmk lmk pmk F1, Whole wr d g p dmk lmk pmk F1 ∧ Acc3 F w1 F1 wr ∧ DeskOk dmk lmk (a + 6 * k) ∧ PoolOk t dmk.shp pmk ∧ pmk.dead = false ∧ dmk.shp = dm.shp ∧ cleanAllM Ln dm lm pm = cleanAllM (Ln.drop k) dmk lmk pmk
set_option maxRecDepth 100000 in
set_option maxHeartbeats 4000000 in
theorem cleanAll31 {t : Nat → Nat} {w : World} {d g p : Nat} {dm : DiskM} {lm : LogM} {pm : PoolM} {F : Fp3} (ht : Tbl t w) (h : Whole w d g p dm lm pm F) (h0 : 0 ∉ F.d ∧ 0 ∉ F.l ∧ 0 ∉ F.p) (hdead : pm.dead = false) {a : Nat} (ha : a < 2000000000000000000) (hok : DeskOk dm lm a) (hpo : PoolOk t dm.shp pm) (hm : pm.held.length ≤ pm.most) :
    Calls Tryz.prog 31 #[.pointer (some ⟨p, 0, none⟩)] w (WPost d g p F (cleanAllM pm.dirtyN dm lm pm) w) := by
  have hp := h.2.1
  obtain ⟨mb, es, clk, qs, hp, hpf⟩ := hp
  obtain ⟨_, _, _, k3, k4, kf⟩ := hp.cells
  rw [hdead] at k4
  have HG := Lib.hid (gathered61 hp (by have := hp.len; have := hp.most; omega) 75 ent75 dirty (fun W' q _ hq => dirty75 W' q hq))
  obtain ⟨P, hP⟩ : ∃ P, P = WPost d g p F (cleanAllM pm.dirtyN dm lm pm) w := ⟨_, rfl⟩
  rw [← hP]
  have HP := Lib.hid hP
  have hpl : (pm.pick dirty).length ≤ 16 := by
    unfold PoolM.pick
    rw [srtI_len]; unfold numsI; rw [List.length_map]
    have := List.length_filter_le dirty pm.held
    have := hp.most; omega
  have HPL := Lib.hid hpl
  have HALL := Lib.hid (And.intro h (And.intro ht (And.intro h0 (And.intro hok hpo))))
  have HLN : Hid (pm.dirtyN.length = (pm.pick dirty).length) := Lib.hid (by unfold PoolM.dirtyN; rw [List.length_map])
  have HX : Hid (∀ k, k < (pm.pick dirty).length → ∃ n : Nat, (pm.pick dirty)[k]? = some (n : Int) ∧ pm.dirtyN[k]? = some n ∧ n < dm.shp.pages) := Lib.hid (fun k hk => by
    have hm := List.getElem_mem hk
    obtain ⟨f, hf, _, e⟩ := pick_mem hm
    refine ⟨f.num, by rw [List.getElem?_eq_getElem hk, e], ?_, (hpo f hf).1⟩
    unfold PoolM.dirtyN
    rw [List.getElem?_map, List.getElem?_eq_getElem hk, e]; rfl)
  clear hP h hp ht h0 hok hpo hpf hm hpl
  generalize hL : pm.pick dirty = Lp at *
  clear hL
  generalize pm.dirtyN = Ln at *
  go_enter Tryz.func31, Tryz.ntmps31
  go_wp2_with fail
  refine HG.out.mono ?_
  rintro e w1 ⟨io, ic, rfl, hI, ho1, hfi⟩
  have HI := Lib.hid (And.intro hI hfi)
  have HO1 := Lib.hid ho1
  have HIN : Hid (AllIn t w1 d g p F dm lm pm a Ln 0 w1) := Lib.hid ⟨dm, lm, pm, F, HALL.out.1.off ho1 (by simp), Acc3.refl, HALL.out.2.2.2.1, HALL.out.2.2.2.2, hdead, rfl, by rw [List.drop_zero]⟩
  have HIL := Lib.hid (hI.lt)
  clear hI ho1 hfi HG
  obtain ⟨lpl, hlpl⟩ : ∃ lpl, lpl = Lp.length := ⟨_, rfl⟩
  have HLL := Lib.hid hlpl
  rw [← hlpl] at HPL HLN HX HI HIL ⊢
  clear hlpl
  have hpl := HPL.out
  go_wp2_with fail
  go_loopw [13, 4, 5] (fun i _ _ wr => ∃ k : Nat, k ≤ lpl ∧ i = .int .i64 (k : Int) ∧ AllIn t w1 d g p F dm lm pm a Ln k wr) (fun i _ _ _ => lpl - (intOf i).toNat)
  case atStart => exact ⟨0, Nat.zero_le _, rfl, HIN.out⟩
  case round =>
    obtain ⟨k, hk, rfl, dmk, lmk, pmk, F1, hW, hA, hok, hpo, hdd, hsh, hcl⟩ := hrel
    have HW := Lib.hid (And.intro hW (And.intro hA (And.intro hok (And.intro hpo (And.intro hdd (And.intro hsh hcl))))))
    clear hW hA hok hpo hdd hsh hcl HIN
    by_cases hlt : k < lpl
    · obtain ⟨n, hx1, hx2, hx3⟩ := HX.out k hlt
      have hib : ∃ ib ioff, io = some ⟨ib, ioff, none⟩ ∧ wr.cell? ⟨ib, ioff + k, none⟩ = some (.int .i64 (n : Int)) := by
        have hI1 := HI.out.1
        have hnot : ∀ z ∈ blk (.slice io lpl ic), z ∉ F.d ++ F.l ++ F.p := fun z hz hz' => by have := HI.out.2 z hz; have := HALL.out.1.lt z hz'; omega
        have hI2 := hI1.off HW.out.2.1.1 hnot
        unfold IsI at hI2
        rw [← HLL.out] at hI2
        rcases hI2.2 with ⟨e, h0⟩ | ⟨ib, ioff, c, cur, e, hr⟩
        · injection e with _ e _; omega
        · injection e with e1 _ e3
          subst e1; subst e3
          refine ⟨ib, ioff, rfl, ?_⟩
          rw [Own.cellAt hI2 k (by have := HLL.out; omega)]
          unfold intsV
          rw [List.getElem?_map, hx1]; rfl
      obtain ⟨ib, ioff, rfl, hcell⟩ := hib
      have h00 : 0 ∉ F1.d ∧ 0 ∉ F1.l := by
        have hs : 0 < w1.heap.size := by have := HALL.out.2.1.1; have := HO1.out.size; omega
        exact ⟨fun hz => (HW.out.2.1.2.1 0 hz).elim (fun e => HALL.out.2.2.1.1 e) (fun e => by omega), fun hz => (HW.out.2.1.2.2.1 0 hz).elim (fun e => HALL.out.2.2.1.2.1 e) (fun e => by omega)⟩
      have HCL := Lib.hid (clean23 (k := a + 6 * k) ((HALL.out.2.1.off HO1.out (by simp)).off HW.out.2.1.1 (by have := HALL.out.2.2.1; simp [this.1, this.2.1, this.2.2])) HW.out.1 h00 HW.out.2.2.2.2.1 (by omega) HW.out.2.2.1 HW.out.2.2.2.1 n (by rw [HW.out.2.2.2.2.2.1]; exact hx3))
      have hcd := cleanM_code dmk lmk pmk n
      have HDR : Hid (Ln.drop k = n :: Ln.drop (k + 1)) := Lib.hid (by
        obtain ⟨hkl, e⟩ := List.getElem?_eq_some_iff.1 hx2
        rw [← e]; exact (List.getElem_cons_drop hkl).symm)
      clear hx1 hx2 hx3 h00
      go_wp2_with fail
      refine HCL.out.mono ?_
      rintro e w2 ⟨rfl, hw2⟩
      have HW2 := Lib.hid hw2
      clear hw2 HCL
      rcases hcd with hc | hc
      · have hokk := cleanM_ok HW.out.2.2.1 HW.out.2.2.2.1 HW.out.2.2.2.2.1 HW.out.1.1.2.1.sized.2.2.2 hc
        have HN : Hid (AllIn t w1 d g p F dm lm pm a Ln (k + 1) w2) := Lib.hid (by
          obtain ⟨F2, y1, y2⟩ := HW2.out
          refine ⟨_, _, _, F2, y1, HW.out.2.1.trans y2, ?_, hokk.2.1, hokk.2.2.1, hokk.2.2.2.1.trans HW.out.2.2.2.2.2.1, ?_⟩
          · have := hokk.1; rw [show a + 6 * (k + 1) = a + 6 * k + 6 by omega]; exact this
          · rw [HW.out.2.2.2.2.2.2, HDR.out]
            show (if (cleanM dmk lmk pmk n).2.2.2 = 0 then _ else _) = _
            rw [if_pos hc])
        rw [hc]
        clear hc hokk HW2 hcell
        go_wp2_with fail
        go_roundw
        case rel => exact ⟨k + 1, by omega, by go_num, HN.out⟩
        case measure => simp [intOf]; omega
      · have HF : Hid (P (.returned (.int .i64 1)) w2) := Lib.hid (by
          rw [HP.out, HW.out.2.2.2.2.2.2, HDR.out]
          show WPost d g p F (if (cleanM dmk lmk pmk n).2.2.2 = 0 then _ else _) w _ w2
          rw [if_neg (by omega)]
          obtain ⟨F2, y1, y2⟩ := HW2.out
          exact ⟨by rw [hc], F2, y1, ((Acc3.quiet HO1.out : Acc3 F w F w1).trans HW.out.2.1).trans y2⟩)
        rw [hc]
        clear hc HW2 hcell
        go_wp2_with fail
        first | exact HF.out | (go_ret; exact HF.out)
    · have hkn : k = lpl := by omega
      subst hkn
      have HF : Hid (P (.returned (.int .i64 0)) wr) := Lib.hid (by
        rw [HP.out, HW.out.2.2.2.2.2.2, List.drop_of_length_le (by rw [HLN.out]; exact Nat.le_refl _)]
        exact ⟨rfl, F1, HW.out.1, (Acc3.quiet HO1.out : Acc3 F w F w1).trans HW.out.2.1⟩)
      go_wp2_with fail
      first | exact HF.out | (go_ret; exact HF.out)
end Go.Proofs.YtfdgiblkllfpjaaGreatDoor

/- disk: a ground's copy. -/
set_option linter.unusedVariables false
set_option linter.unusedSimpArgs false
namespace Go.Proofs.YtfdgiblkllfpjaaGreatDoor
open Go.ChangeShapes Go.WideShapes Go.ChangeAt Go.RowKit

/-- The first k places are copied. -/
def CopyIn (w : World) (gs : List (List UInt8)) (k : Nat) (v : Value) (wr : World) : Prop :=
  ∃ g vs, v = .slice (some ⟨g, 0, none⟩) gs.length gs.length ∧ Own wr 22 1 v gs.length (vs ++ List.replicate (gs.length - k) (.slice none 0 0)) ∧
    Items wr vs (gs.take k) ∧ (g :: vs.flatMap blk).Nodup ∧ Off [] w wr ∧ (∀ z ∈ g :: vs.flatMap blk, w.heap.size ≤ z ∧ z < wr.heap.size)
theorem CopyIn.step {w wr w1 : World} {gs : List (List UInt8)} {k g cap : Nat} {l : List UInt8} {ao : Option Addr} {vs : List Value} (hl : gs[k]? = some l) (h1 : Own wr 22 1 (.slice (some ⟨g, 0, none⟩) gs.length gs.length) gs.length (vs ++ List.replicate (gs.length - k) (.slice none 0 0)))
    (h2 : Items wr vs (gs.take k)) (h3 : (g :: vs.flatMap blk).Nodup) (h4 : Off [] w wr) (h5 : ∀ z ∈ g :: vs.flatMap blk, w.heap.size ≤ z ∧ z < wr.heap.size) (ho : Off [] wr w1) (hb : IsB w1 (.slice ao l.length cap) l) (hbn : ∀ z ∈ blk (.slice ao l.length cap), wr.heap.size ≤ z) :
    CopyIn w gs (k + 1) (.slice (some ⟨g, 0, none⟩) gs.length gs.length) (w1.setCell ⟨g, k, none⟩ (.slice ao l.length cap)) := by
  have e1 := ho.size
  have hk := (List.getElem?_eq_some_iff.1 hl).1
  have hlv := h2.1
  rw [List.length_take, Nat.min_eq_left (by omega)] at hlv
  have hgl := (h5 g (by simp)).2
  have hset : Off [g] w1 (w1.setCell ⟨g, k, none⟩ (.slice ao l.length cap)) := (Off.refl [g] w1).setCell (.inl (by simp)) _
  have hset2 : Off [g] wr (w1.setCell ⟨g, k, none⟩ (.slice ao l.length cap)) := (ho.mono (by simp)).trans hset (fun z hz => .inl hz)
  have hgn : g ∉ vs.flatMap blk := (List.nodup_cons.1 h3).1
  have hbl := hb.lt
  refine ⟨g, vs ++ [.slice ao l.length cap], rfl, ?_, ⟨by simp [hlv]; omega, fun i l' hli => ?_⟩, ?_, ?_, ?_⟩
  · have q := (h1.off ho (by simp)).set k (.slice ao l.length cap)
    rw [Nat.zero_add] at q
    have e : (vs ++ List.replicate (gs.length - k) (Value.slice none 0 0)).set k (Value.slice ao l.length cap) = (vs ++ [Value.slice ao l.length cap]) ++ List.replicate (gs.length - (k + 1)) (Value.slice none 0 0) := by
      rw [List.set_append_right _ _ (by omega), hlv, Nat.sub_self, show gs.length - k = (gs.length - (k + 1)) + 1 by omega, List.replicate_succ, List.append_assoc]; rfl
    rw [e] at q; exact q
  · rw [List.take_succ_eq_append_getElem hk] at hli
    by_cases hi : i < k
    · rw [List.getElem?_append_left (by rw [List.length_take]; omega)] at hli
      obtain ⟨x, hx, hb'⟩ := h2.2 i l' hli
      refine ⟨x, by rw [List.getElem?_append_left (by omega)]; exact hx, hb'.off hset2 (fun z hz hz' => ?_)⟩
      simp at hz'; subst hz'
      exact hgn (List.mem_flatMap.2 ⟨x, List.mem_of_getElem? hx, hz⟩)
    · rw [List.getElem?_append_right (by rw [List.length_take]; omega), List.length_take, Nat.min_eq_left (by omega)] at hli
      have hik : i - k = 0 := by
        rcases Nat.eq_zero_or_pos (i - k) with h | h
        · exact h
        · rw [List.getElem?_eq_none (by simp; omega)] at hli; simp at hli
      rw [hik] at hli
      simp only [List.getElem?_cons_zero, Option.some.injEq] at hli
      have hll : l' = l := by rw [List.getElem?_eq_getElem hk] at hl; injection hl with hl; rw [← hli, hl]
      subst hll
      have hi2 : i = k := by omega
      subst hi2
      refine ⟨_, by rw [List.getElem?_append_right (by omega), hlv, Nat.sub_self]; rfl, ?_⟩
      exact hb.off hset (fun z hz hz' => by simp at hz'; have := hbn z hz; omega)
  · rw [List.flatMap_append, ← List.cons_append]
    refine List.nodup_append.2 ⟨h3, by simp only [List.flatMap_cons, List.flatMap_nil, List.append_nil]; exact blk_nodup' _, fun a ha b hb' e => ?_⟩
    simp only [List.flatMap_cons, List.flatMap_nil, List.append_nil] at hb'
    have := (h5 a ha).2
    have := hbn b hb'
    omega
  · exact (h4.trans ho (by simp)).trans (T := [g]) hset (fun z hz => .inr (by simp at hz; rw [hz]; exact (h5 g (by simp)).1))
  · intro z hz
    simp only [List.mem_cons, List.flatMap_append, List.flatMap_cons, List.flatMap_nil, List.append_nil, List.mem_append] at hz
    simp only [World.size_setCell]
    rcases hz with rfl | hz | hz
    · have := h5 z (by simp); omega
    · have := h5 z (List.mem_cons_of_mem _ hz); omega
    · have := hbn z hz; have := hbl z hz; have := h4.size; omega
theorem CopyIn.done {w wr : World} {gs : List (List UInt8)} {v : Value} (h : CopyIn w gs gs.length v wr) : GroundF w gs (.returned v) wr := by
  obtain ⟨g, vs, rfl, h1, h2, h3, h4, h5⟩ := h
  rw [Nat.sub_self, List.replicate_zero, List.append_nil] at h1
  rw [List.take_of_length_le (Nat.le_refl _)] at h2
  exact ⟨_, g :: vs.flatMap blk, rfl, ⟨vs, h1, h2, rfl, h3⟩, h4, fun z hz => (h5 z hz).1⟩
set_option maxRecDepth 100000 in
set_option maxHeartbeats 4000000 in
theorem copy78 {w : World} {v : Value} {gs : List (List UInt8)} {fp : List Nat} (h : Ground w v gs fp) (hn : gs.length < 1000) (hb : ∀ l ∈ gs, l.length < 1000000) (h0 : 0 < gs.length) : Calls Tryz.prog 78 #[v] w (GroundF w gs) := by
  obtain ⟨gb, goff, gcap, rfl⟩ : ∃ gb goff gcap, v = .slice (some ⟨gb, goff, none⟩) gs.length gcap := by
    obtain ⟨gb, goff, gcap, _, _, e, _⟩ := h.at 0 gs[0] (List.getElem?_eq_getElem h0)
    exact ⟨gb, goff, gcap, e⟩
  have HGR := Lib.hid h
  have HBL := Lib.hid hb
  have hmk : ∀ W, (Instr.makeSlice 100 (.int .i64 (gs.length : Int)) (.int .i64 (gs.length : Int))).run Tryz.prog W = .ok (.slice (some ⟨W.heap.size, 0, none⟩) gs.length gs.length) (W.alloc (.cells (Array.replicate gs.length (.slice none 0 0)) 22)) := fun W => makeG gs.length (by omega) W
  have HST : Hid (CopyIn w gs 0 (.slice (some ⟨w.heap.size, 0, none⟩) gs.length gs.length) (w.alloc (.cells (Array.replicate gs.length (.slice none 0 0)) 22))) := Lib.hid (by
    refine ⟨w.heap.size, [], rfl, ?_, ⟨by simp, by simp⟩, by simp, (Off.refl _ _).alloc _, by simp⟩
    have q := Own.new w 22 1 (Array.replicate gs.length (Value.slice none 0 0)) gs.length (by unfold maxLen; omega) (by simp)
    simpa using q)
  have HEND : Hid (∀ v wr, CopyIn w gs gs.length v wr → GroundF w gs (.returned v) wr) := Lib.hid (fun v wr q => q.done)
  obtain ⟨P, hP⟩ : ∃ P, P = GroundF w gs := ⟨_, rfl⟩
  rw [← hP] at HEND ⊢
  clear hP h hb
  obtain ⟨n, hN⟩ : ∃ n, n = gs.length := ⟨_, rfl⟩
  have HN := Lib.hid hN
  rw [← hN] at hmk HST HEND hn ⊢
  clear hN h0
  go_enter Tryz.func78, Tryz.ntmps78
  go_wp2_with fail
  obtain ⟨w1, hw1⟩ : ∃ w1, w1 = w.alloc (.cells (Array.replicate n (.slice none 0 0)) 22) := ⟨_, rfl⟩
  rw [← hw1] at HST ⊢
  clear hw1 hmk
  generalize w.heap.size = rb at *
  go_loopw [11, 4, 5] (fun i _ _ wr => ∃ k : Nat, k ≤ n ∧ i = .int .i64 (k : Int) ∧ CopyIn w gs k (.slice (some ⟨rb, 0, none⟩) n n) wr) (fun i _ _ _ => n - (intOf i).toNat)
  case atStart => exact ⟨0, Nat.zero_le _, rfl, HST.out⟩
  case round =>
    obtain ⟨k, hk, rfl, hin⟩ := hrel
    by_cases hlt : k < n
    · obtain ⟨g, vs, hv, h1, h2, h3, h4, h5⟩ := hin
      injection hv with e1 e2 e3
      injection e1 with e1
      injection e1 with e1 _ _
      subst e1
      clear e2 e3
      obtain ⟨l, hl⟩ : ∃ l, gs[k]? = some l := ⟨_, List.getElem?_eq_getElem (by have := HN.out; omega)⟩
      obtain ⟨gb', goff', gcap', xo, xc, hv', hcx, hbx, _⟩ := (HGR.out.off h4 (by simp)).at k l hl
      injection hv' with e1 _ e3
      injection e1 with e1
      injection e1 with e1 e2 _
      subst e1; subst e2
      have HC := Lib.hid (clone80 _ l wr hbx (by have := HBL.out l (List.mem_of_getElem? hl); omega))
      have h1' := h1
      rw [HN.out] at h1'
      have HSTP := Lib.hid (fun (w2 : World) (ao : Option Addr) (cap : Nat) a b c => CopyIn.step (w := w) (w1 := w2) (ao := ao) (cap := cap) hl h1' h2 h3 h4 h5 a b c)
      rw [← HN.out] at HSTP
      have HFZ : Hid (∀ w2, Off [] wr w2 → (∃ vv, w2.cell? ⟨rb, k, none⟩ = some vv) ∧ ∀ o, w2.frozen? ⟨rb, o, none⟩ = false) := Lib.hid (fun w2 ho => by
        refine ⟨?_, fun o => Own.unfrozen (h1'.off ho (by simp)) o⟩
        rcases (h1'.off ho (by simp)).2 with ⟨e, _⟩ | ⟨g, off, cap, cur, e, hc, hn', hm, hcs, _⟩
        · simp at e
        · injection e with e1 e2 e3
          injection e1 with e1
          injection e1 with e1 e4 _
          subst e1; subst e4; subst e3
          rw [hc.cell, Array.getElem?_eq_getElem (by have := HN.out; omega)]; exact ⟨_, rfl⟩)
      clear h1 h1' h2 h3 h4 h5 hbx hl e3
      go_wp2_with fail
      refine HC.out.mono ?_
      rintro e w2 ⟨ao, cap, rfl, x1, x2, x3⟩
      have HN2 := Lib.hid (HSTP.out w2 ao cap x2 x1 x3)
      obtain ⟨⟨vv, hvv⟩, hfz⟩ := HFZ.out w2 x2
      clear x1 x2 x3 HC HSTP HFZ hcx
      go_wp2_with fail
      go_roundw
      case rel => exact ⟨k + 1, by omega, by go_num, HN2.out⟩
      case measure => simp [intOf]; omega
    · have hkn : k = n := by omega
      subst hkn
      have HF := Lib.hid (HEND.out _ _ hin)
      clear hin
      go_wp2_with fail
      first | exact HF.out | (go_ret; exact HF.out)
end Go.Proofs.YtfdgiblkllfpjaaGreatDoor

/- disk: image, Lasts. -/
set_option linter.unusedVariables false
set_option linter.unusedSimpArgs false
namespace Go.Proofs.YtfdgiblkllfpjaaGreatDoor
open Go.ChangeShapes Go.WideShapes Go.ChangeAt Go.RowKit

/-- The first p places, as a slice of their own. -/
def PagesIs (w : World) (v : Value) (gs : List (List UInt8)) : Prop := ∃ vs, Own w 22 1 v gs.length vs ∧ Items w vs gs
theorem PagesIs.off {w w' : World} {v : Value} {gs : List (List UInt8)} (h : PagesIs w v gs) (ho : Off [] w w') : PagesIs w' v gs := by
  obtain ⟨vs, h1, h2⟩ := h
  exact ⟨vs, h1.off ho (by simp), h2.off ho (by simp)⟩
theorem Ground.pages {w : World} {g off cap : Nat} {gs : List (List UInt8)} {fp : List Nat} (h : Ground w (.slice (some ⟨g, off, none⟩) gs.length cap) gs fp) (p : Nat) (hp : p ≤ gs.length) : PagesIs w (.slice (some ⟨g, off, none⟩) p p) (gs.take p) := by
  obtain ⟨vs, h1, h2, _⟩ := h
  have hl : (gs.take p).length = p := by rw [List.length_take]; omega
  refine ⟨vs.take p, ?_, ⟨by rw [List.length_take, List.length_take, h2.1], fun i l hi => ?_⟩⟩
  · rw [hl]
    rcases h1.2 with ⟨e, _⟩ | ⟨g', off', cap', cur, e, hc, hn, hm, hcs, ht⟩
    · simp at e
    · injection e with e1 _ e3
      injection e1 with e1
      injection e1 with e1 e4 _
      subst e1; subst e4; subst e3
      have hvl : vs.length = gs.length := h2.1
      refine ⟨by rw [List.length_take]; omega, .inr ⟨g, off, p, cur, rfl, hc, Nat.le_refl _, by omega, by omega, ?_⟩⟩
      rw [← ht, List.take_take]; congr 1; omega
  · by_cases hip : i < p
    · rw [List.getElem?_take, if_pos hip] at hi
      obtain ⟨x, hx, hb⟩ := h2.2 i l hi
      exact ⟨x, by rw [List.getElem?_take, if_pos hip]; exact hx, hb⟩
    · rw [List.getElem?_take, if_neg hip] at hi; cases hi
/-- It holds in every world in which only blocks below B have changed. -/
def Lives (B : Nat) (w : World) (Q : World → Prop) : Prop := ∀ S W, Off S w W → (∀ z ∈ S, z < B) → Q W
theorem Lives.now {B : Nat} {w : World} {Q : World → Prop} (h : Lives B w Q) : Q w := h [] w (Off.refl _ _) (by simp)
theorem Lives.step {B C : Nat} {w w' : World} {S : List Nat} {Q : World → Prop} (h : Lives B w Q) (ho : Off S w w') (hS : ∀ z ∈ S, z < B) (hC : C ≤ B) : Lives C w' Q := fun T W oT hT =>
  h (S ++ T) W ((ho.mono (fun z hz => .inl (by simp [hz]))).trans oT (fun z hz => .inl (by simp [hz]))) (fun z hz => by
    rcases List.mem_append.1 hz with q | q
    · exact hS z q
    · have := hT z q; omega)
def ImagePost (gs : List (List UInt8)) (p : Nat) (l : List UInt8) (w : World) (e : Ending) (w' : World) : Prop :=
  ∃ pv xv lv m0 m1, e = .returned (.agg #[pv, xv, lv, m0, m1]) ∧ Lives w.heap.size w' (fun W => PagesIs W pv (gs.take p) ∧ IsB W xv (gs.getD p []) ∧ IsB W lv l ∧ IsB W m0 (gs.getD (p + 1) []) ∧ IsB W m1 (gs.getD (p + 2) [])) ∧ Off [] w w' ∧
    (∃ a n c, pv = .slice a n c) ∧ (∃ a n c, xv = .slice a n c) ∧ (∃ a n c, lv = .slice a n c) ∧ (∃ a n c, m0 = .slice a n c) ∧ (∃ a n c, m1 = .slice a n c)
theorem isize22 : (Tryz.prog.info? 22).map (·.size) = some 1 := by kernel_rfl
theorem slice_pp (g off n cap p : Nat) (h1 : 1 ≤ p) (h2 : p ≤ cap) (W : World) : (Instr.slice 100 (.slice (some ⟨g, off, none⟩) n cap) none (some (.int .i64 (p : Int))) (some (.int .i64 (p : Int)))).run Tryz.prog W = .ok (.slice (some ⟨g, off, none⟩) p p) W := by
  have hel : Tryz.prog.elem 100 = 22 := by simp [Program.elem, Tryz.underlying100]
  have ht' : Tryz.prog.underlying 100 = some (.slice (Tryz.prog.elem 100)) := by rw [hel]; exact Tryz.underlying100
  have hsz : (sizeOf (Tryz.prog.elem 100)).run Tryz.prog W = .ok 1 W := by
    rw [hel]
    have hi := isize22
    cases hq : Tryz.prog.info? 22 with
    | none => rw [hq] at hi; simp at hi
    | some i => rw [hq] at hi; simp at hi; simp [sizeOf, typeInfo, hq, hi]
  rw [run_slice_hm (w := W) 100 (some ⟨g, off, none⟩) n cap ht' .i64 .i64 (p : Int) (p : Int) (by omega) (by omega) (by omega), hsz]
  have hp0 : p ≠ 0 := by omega
  simp [sliced, hp0, Addr.add_lit]
set_option maxRecDepth 100000 in
set_option maxHeartbeats 4000000 in
theorem image77 {w : World} {d : Nat} {m : DiskM} {fp0 : List Nat} (hd : DiskR w d m fp0) {v lv : Value} {gs : List (List UInt8)} {fp : List Nat} {l : List UInt8} (h : Ground w v gs fp) (hlen : gs.length = m.shp.pages + 3) (hb : ∀ l ∈ gs, l.length < 1000000) (hl : IsB w lv l) (hll : l.length < 1000000) :
    Calls Tryz.prog 77 #[.pointer (some ⟨d, 0, none⟩), v, lv] w (ImagePost gs m.shp.pages l w) := by
  obtain ⟨k0, _⟩ := hd.cells
  have hp1 := hd.ok.1.1
  have hp2 := hd.ok.1.2.1
  obtain ⟨lo, lc, rfl⟩ := hl.val
  obtain ⟨P, hP⟩ : ∃ P, P = ImagePost gs m.shp.pages l w := ⟨_, rfl⟩
  rw [← hP]
  have HP := Lib.hid hP
  clear hP
  generalize m.shp.pages = p at *
  obtain ⟨W0, hW0⟩ : ∃ W0, W0 = w.alloc (.cells #[.slice none 0 0, .slice none 0 0, .slice none 0 0, .slice none 0 0, .slice none 0 0] 78) := ⟨_, rfl⟩
  have ho0 : Off [] w W0 := by rw [hW0]; exact (Off.refl [] w).alloc _
  have i0 : IsC W0 w.heap.size #[.slice none 0 0, .slice none 0 0, .slice none 0 0, .slice none 0 0, .slice none 0 0] 78 := by rw [hW0]; exact IsC.new _ _ _
  have HC := Lib.hid (copy78 (h.off ho0 (by simp)) (by omega) hb (by omega))
  have hv := h.val
  obtain ⟨vo, vc, rfl⟩ := hv
  have HLN := Lib.hid (And.intro hlen (And.intro hll (And.intro hp1 (And.intro hp2 hb))))
  have HL := Lib.hid hl
  have HO0 := Lib.hid ho0
  have HI0 := Lib.hid i0
  have k00 := ho0.cell k0 (by simp)
  clear h hd hl ho0 i0 hb k0 hlen hll
  go_enter Tryz.func77, Tryz.ntmps77
  go_wp2_with fail
  rw [← hW0]
  clear hW0
  refine HC.out.mono ?_
  rintro e w1 ⟨cv, fc, rfl, hG, ho1, hf1⟩
  have HG := Lib.hid hG
  have HO1 := Lib.hid ho1
  obtain ⟨xa, hxa⟩ : ∃ l, gs[p]? = some l := ⟨_, List.getElem?_eq_getElem (by have := HLN.out.1; omega)⟩
  obtain ⟨xb, hxb⟩ : ∃ l, gs[p + 1]? = some l := ⟨_, List.getElem?_eq_getElem (by have := HLN.out.1; omega)⟩
  obtain ⟨xc, hxc⟩ : ∃ l, gs[p + 2]? = some l := ⟨_, List.getElem?_eq_getElem (by have := HLN.out.1; omega)⟩
  obtain ⟨g, off, cap, ao, ac, rfl, ca, ba, na⟩ := hG.at p xa hxa
  have hgr : g ≠ w.heap.size := fun e => by
    have q : g ∈ fc := by obtain ⟨vs, _, _, e, _⟩ := hG; rw [e]; simp [blk]
    have := hf1 g q; have := HI0.out.lt; omega
  obtain ⟨g', off', cap', bo, bc, e, cb, bb, nb⟩ := hG.at (p + 1) xb hxb
  injection e with e1 _ e3
  injection e1 with e1
  injection e1 with e1 e4 _
  subst e1; subst e4; subst e3
  obtain ⟨g', off', cap', co, cc, e, cd, bd, nd⟩ := hG.at (p + 2) xc hxc
  injection e with e1 _ e3
  injection e1 with e1
  injection e1 with e1 e4 _
  subst e1; subst e4; subst e3
  have HBB := Lib.hid (And.intro ba (And.intro bb bd))
  have HX := Lib.hid (And.intro hxa (And.intro hxb hxc))
  have hcp : p ≤ cap := by
    obtain ⟨vs, h1, _⟩ := hG
    obtain ⟨_, _, _, q⟩ := h1.isC
    have := HLN.out.1
    omega
  have hsl := fun W => slice_pp g off gs.length cap p hp1 hcp W
  have HK : Hid (∀ W S, Off S w1 W → (∀ z ∈ S, z = w.heap.size) → W.cell? ⟨g, off + p, none⟩ = some (.slice ao xa.length ac) ∧ W.cell? ⟨g, off + (p + 1), none⟩ = some (.slice bo xb.length bc) ∧ W.cell? ⟨g, off + (p + 2), none⟩ = some (.slice co xc.length cc)) := Lib.hid (fun W S ho hS => ⟨ho.cell ca (fun h => hgr (hS _ h)), ho.cell cb (fun h => hgr (hS _ h)), ho.cell cd (fun h => hgr (hS _ h))⟩)
  have k01 := ho1.cell k00 (by simp)
  have HCL : Hid (∀ W, Off [] w1 W → Calls Tryz.prog 80 #[.slice lo l.length lc] W (FreshB W l)) := Lib.hid (fun W ho => clone80 _ l W (((HL.out.off HO0.out (by simp)).off HO1.out (by simp)).off ho (by simp)) (by have := HLN.out.2.1; omega))
  have hrb : ∀ o, w1.frozen? ⟨w.heap.size, o, none⟩ = false := fun o => (HI0.out.off ho1 (by simp)).unfrozen o
  have HI1 := Lib.hid (HI0.out.off ho1 (by simp))
  have HRB : Hid (∀ W, Off [] w1 W → W.cell? ⟨w.heap.size, 0, none⟩ = some (.slice none 0 0) ∧ W.cell? ⟨w.heap.size, 1, none⟩ = some (.slice none 0 0) ∧ W.cell? ⟨w.heap.size, 2, none⟩ = some (.slice none 0 0) ∧ W.cell? ⟨w.heap.size, 3, none⟩ = some (.slice none 0 0) ∧ W.cell? ⟨w.heap.size, 4, none⟩ = some (.slice none 0 0) ∧ ∀ o, W.frozen? ⟨w.heap.size, o, none⟩ = false) := Lib.hid (fun W ho => by
    have q := HI1.out.off ho (by simp)
    exact ⟨by rw [q.cell]; rfl, by rw [q.cell]; rfl, by rw [q.cell]; rfl, by rw [q.cell]; rfl, by rw [q.cell]; rfl, fun o => q.unfrozen o⟩)
  have hg1 : (1 : Int) ≤ (p : Int) := by omega
  have hg2 : (p : Int) ≤ 16 := by omega
  have hg3 : (p : Int) + 2 < (gs.length : Int) := by have := HLN.out.1; omega
  have hg4 : (p : Int) + 1 < (gs.length : Int) := by omega
  have hg5 : (p : Int) < (gs.length : Int) := by omega
  have hg6 : p < gs.length := by omega
  have hw1 : IntKind.i64.wrap ((p : Int) + 1) = (p : Int) + 1 := by rw [IntKind.wrap_i64]; omega
  have hw2 : IntKind.i64.wrap ((p : Int) + 2) = (p : Int) + 2 := by rw [IntKind.wrap_i64]; omega
  have ht1 : ((p : Int) + 1).toNat = p + 1 := by omega
  have ht2 : ((p : Int) + 2).toNat = p + 2 := by omega
  have hz1 : (0 : Int) ≤ (p : Int) + 1 := by omega
  have hz2 : (0 : Int) ≤ (p : Int) + 2 := by omega
  have HEND : Hid (∀ W2 W eo ec, Off [] w1 W2 → IsB W2 (.slice eo l.length ec) l → (∀ z ∈ blk (.slice eo l.length ec), w1.heap.size ≤ z) → Off [w.heap.size] W2 W → P (.returned (.agg #[.slice (some ⟨g, off, none⟩) p p, .slice ao xa.length ac, .slice eo l.length ec, .slice bo xb.length bc, .slice co xc.length cc])) W) := Lib.hid (fun W2 W eo ec o1 ib ih o2 => by
    rw [HP.out]
    have hrl := HI0.out.lt
    have hs1 := ho1.size
    have hws : w.heap.size ≤ W0.heap.size := HO0.out.size
    refine ⟨_, _, _, _, _, rfl, fun S W' o3 hS => ?_, (HO0.out.trans ho1 (by simp)).trans ((o1.mono (by simp)).trans o2 (fun z hz => .inl hz)) (fun z hz => .inr (by simp at hz; omega)), ⟨_, _, _, rfl⟩, ⟨_, _, _, rfl⟩, ⟨_, _, _, rfl⟩, ⟨_, _, _, rfl⟩, ⟨_, _, _, rfl⟩⟩
    have oo : Off (w.heap.size :: S) w1 W' := ((o1.mono (by simp)).trans o2 (fun z hz => .inl (by simp at hz; simp [hz]))).trans o3 (fun z hz => .inl (by simp [hz]))
    have hfr : ∀ z ∈ fc, z ∉ w.heap.size :: S := fun z hz hz' => by
      have := hf1 z hz
      rcases List.mem_cons.1 hz' with q | q
      · omega
      · have := hS z q; omega
    refine ⟨(hG.off oo hfr).pages p (by have := HLN.out.1; omega), ?_, ?_, ?_, ?_⟩
    · rw [List.getD_eq_getElem?_getD, hxa]; exact ba.off oo (fun z hz => hfr z (na z hz))
    · exact (ib.off o2 (fun z hz hz' => by have := ih z hz; simp at hz'; omega)).off o3 (fun z hz hz' => by have := ih z hz; have := hS z hz'; omega)
    · rw [List.getD_eq_getElem?_getD, hxb]; exact bb.off oo (fun z hz => hfr z (nb z hz))
    · rw [List.getD_eq_getElem?_getD, hxc]; exact bd.off oo (fun z hz => hfr z (nd z hz)))
  clear na nb nd hgr hG ho1 hf1 hxa hxb hxc ca cb cd ba bb bd hcp HC k00
  generalize w.heap.size = rb at *
  generalize gs.length = gl at *
  go_wp2_with fail
  go_region_held3 (fun W => W.cell? ⟨g, off + p, none⟩ = some (.slice ao xa.length ac) ∧ W.cell? ⟨g, off + (p + 1), none⟩ = some (.slice bo xb.length bc) ∧ W.cell? ⟨g, off + (p + 2), none⟩ = some (.slice co xc.length cc))
    (first | exact HK.out _ [] (Off.refl _ _) (by simp) | exact HK.out _ [] (Off.refl _ _).drew (by simp) | exact HK.out _ [] HOA.out (by simp) | exact HK.out _ [rb] (Off.setCell (Off.setCell (Off.setCell (Off.setCell (Off.setCell (HOA.out.mono (by simp)) (.inl (by simp)) _) (.inl (by simp)) _) (.inl (by simp)) _) (.inl (by simp)) _) (.inl (by simp)) _) (by simp) | fail)
    (first | (go_at_call 80; refine (HCL.out _ (Off.refl _ _).drew).mono ?_; rintro e w2 ⟨eo, ec, rfl, x1, x2, x3⟩; have HBE := Lib.hid (And.intro x1 x3); have HOA : Hid (Off [] w1 w2) := Lib.hid ((Off.refl [] w1).drew.trans x2 (by simp)); clear x1 x2 x3; obtain ⟨r0, r1, r2, r3, r4, rf⟩ := HRB.out w2 HOA.out))
  have HF := Lib.hid (HEND.out w2 (((((w2.setCell ⟨rb, 0, none⟩ (.slice (some ⟨g, off, none⟩) p p)).setCell ⟨rb, 1, none⟩ (.slice ao xa.length ac)).setCell ⟨rb, 2, none⟩ (.slice eo l.length ec)).setCell ⟨rb, 3, none⟩ (.slice bo xb.length bc)).setCell ⟨rb, 4, none⟩ (.slice co xc.length cc)) eo ec HOA.out HBE.out.1 (fun z hz => HBE.out.2 z hz) (Off.setCell (Off.setCell (Off.setCell (Off.setCell (Off.setCell (Off.refl _ _) (.inl (by simp)) _) (.inl (by simp)) _) (.inl (by simp)) _) (.inl (by simp)) _) (.inl (by simp)) _))
  go_wp2_with fail
  refine bodyPost_ret (v := .agg #[.slice (some ⟨g, off, none⟩) p p, .slice ao xa.length ac, .slice eo l.length ec, .slice bo xb.length bc, .slice co xc.length cc]) (by rw [results_cell1 rfl]; go_simp; try rfl) rfl ?_
  exact HF.out
end Go.Proofs.YtfdgiblkllfpjaaGreatDoor

/- disk: Lasts. wal: Flushed. -/
set_option linter.unusedVariables false
set_option linter.unusedSimpArgs false
namespace Go.Proofs.YtfdgiblkllfpjaaGreatDoor
open Go.ChangeShapes Go.WideShapes Go.ChangeAt Go.RowKit

set_option maxRecDepth 100000 in
set_option maxHeartbeats 4000000 in
theorem lasts33 {w : World} {d : Nat} {m : DiskM} {fp : List Nat} (h : DiskR w d m fp) (hfit : m.fit) (hla : m.lasted ≤ m.log.length) (hlg : m.log.length < 1000000) :
    Calls Tryz.prog 33 #[.pointer (some ⟨d, 0, none⟩)] w (ImagePost m.lasts m.shp.pages (m.log.take m.lasted) w) := by
  obtain ⟨W0, hW0⟩ : ∃ W0, W0 = w.alloc (.cells #[.slice none 0 0, .slice none 0 0, .slice none 0 0, .slice none 0 0, .slice none 0 0] 78) := ⟨_, rfl⟩
  have ho0 : Off [] w W0 := by rw [hW0]; exact (Off.refl [] w).alloc _
  have i0 : IsC W0 w.heap.size #[.slice none 0 0, .slice none 0 0, .slice none 0 0, .slice none 0 0, .slice none 0 0] 78 := by rw [hW0]; exact IsC.new _ _ _
  have hd := h.off ho0 (by simp)
  obtain ⟨lv, fl, c3, hG, hsub, hdf, _⟩ := hd.lastsAt
  obtain ⟨ao, cap, c6, c7, hb, hbf⟩ := hd.logAt
  have hsz : ∀ l ∈ m.lasts, l.length < 1000000 := fun l hl => by
    obtain ⟨i, hi, rfl⟩ := List.getElem_of_mem hl
    have hk := h.ok.2.1
    obtain ⟨l', e1, e2⟩ := hfit.1 i (by omega)
    rw [List.getElem?_eq_getElem hi] at e1; injection e1 with e1
    rw [e1, e2]; have := m.shp.size_lt h.ok.1 i; omega
  obtain ⟨vo, vc, rfl⟩ := hG.val
  obtain ⟨a2, c2, b2, hbk2, l2, _, _, r2⟩ := hb.cut 0 m.lasted (by omega) hla
  simp only [List.drop_zero, Nat.sub_zero] at b2 l2 r2 hbk2
  have HR2 := Lib.hid (r2 trivial)
  have q2 : ∀ W, (Instr.slice 22 (.slice ao m.log.length cap) none (some (.int .i64 (m.lasted : Int))) none).run Tryz.prog W = .ok (.slice a2 m.lasted c2) W := fun W => HR2.out W m.lasted rfl
  have HIM : Hid (∀ W, Off [] W0 W → Calls Tryz.prog 77 #[.pointer (some ⟨d, 0, none⟩), .slice vo m.lasts.length vc, .slice a2 m.lasted c2] W (ImagePost m.lasts m.shp.pages (m.log.take m.lasted) W)) := Lib.hid (fun W ho => by
    exact image77 (hd.off ho (by simp)) (hG.off ho (by simp)) h.ok.2.1 hsz (b2.off ho (by simp)) (by rw [l2]; omega))
  obtain ⟨P, hP⟩ : ∃ P, P = ImagePost m.lasts m.shp.pages (m.log.take m.lasted) w := ⟨_, rfl⟩
  rw [← hP]
  have HP := Lib.hid hP
  have HI0 := Lib.hid i0
  have HO0 := Lib.hid ho0
  have hdl : d < W0.heap.size := World.block_lt_of_cell? W0 _ c3
  have hdr : d < w.heap.size := h.lt d (by obtain ⟨_, _, _, _, _, _, _, _, _, _, _, _, e, _⟩ := h; rw [e]; simp)
  have HK : Hid (∀ W S, Off S W0 W → (∀ z ∈ S, z = w.heap.size) → W.cell? ⟨d, 3, none⟩ = some (.slice vo m.lasts.length vc) ∧ W.cell? ⟨d, 6, none⟩ = some (.slice ao m.log.length cap) ∧ W.cell? ⟨d, 7, none⟩ = some (.int .i64 (m.lasted : Nat))) := Lib.hid (fun W S ho hS => ⟨ho.cell c3 (fun h => by have := hS _ h; omega), ho.cell c6 (fun h => by have := hS _ h; omega), ho.cell c7 (fun h => by have := hS _ h; omega)⟩)
  have HRB : Hid (∀ W, Off [] W0 W → W.cell? ⟨w.heap.size, 0, none⟩ = some (.slice none 0 0) ∧ W.cell? ⟨w.heap.size, 1, none⟩ = some (.slice none 0 0) ∧ W.cell? ⟨w.heap.size, 2, none⟩ = some (.slice none 0 0) ∧ W.cell? ⟨w.heap.size, 3, none⟩ = some (.slice none 0 0) ∧ W.cell? ⟨w.heap.size, 4, none⟩ = some (.slice none 0 0) ∧ ∀ o, W.frozen? ⟨w.heap.size, o, none⟩ = false) := Lib.hid (fun W ho => by
    have q := HI0.out.off ho (by simp)
    exact ⟨by rw [q.cell]; rfl, by rw [q.cell]; rfl, by rw [q.cell]; rfl, by rw [q.cell]; rfl, by rw [q.cell]; rfl, fun o => q.unfrozen o⟩)
  have hml : (m.lasted : Int) ≤ (cap : Int) := by have := hb.cap_ge; omega
  clear h hd hG hsub hdf hb hbf b2 l2 r2 hbk2 HR2 hla hlg hsz hfit ho0 i0 c3 c6 c7 hP
  have HRS : Hid (w.heap.size < W0.heap.size) := Lib.hid HI0.out.lt
  generalize m.lasts.length = gl at *
  generalize m.log.length = ll at *
  generalize hrb : w.heap.size = rb at *
  go_enter Tryz.func33, Tryz.ntmps33
  go_wp2_with fail
  rw [← hW0]
  clear hW0
  have HRBE := Lib.hid hrb
  clear hrb
  go_region_held3 (fun W => W.cell? ⟨d, 3, none⟩ = some (.slice vo gl vc) ∧ W.cell? ⟨d, 6, none⟩ = some (.slice ao ll cap) ∧ W.cell? ⟨d, 7, none⟩ = some (.int .i64 (m.lasted : Nat)))
    (first | exact HK.out _ [] (Off.refl _ _) (by simp) | exact HK.out _ [] (Off.refl _ _).drew (by simp) | exact HK.out _ [] HOA.out (by simp) | exact HK.out _ [rb] (Off.setCell (Off.setCell (Off.setCell (Off.setCell (Off.setCell (HOA.out.mono (by simp)) (.inl (by simp)) _) (.inl (by simp)) _) (.inl (by simp)) _) (.inl (by simp)) _) (.inl (by simp)) _) (by simp) | fail)
    (first | (go_at_call 77; refine (HIM.out _ (Off.refl _ _).drew).mono ?_; rintro e w2 ⟨pv, xv, lv, m0, m1, rfl, x1, x2, ⟨pa, pn, pc, rfl⟩, ⟨xa, xn, xc, rfl⟩, ⟨la, ln, lc, rfl⟩, ⟨ma, mn, mc, rfl⟩, ⟨na, nn, nc, rfl⟩⟩; have HBE := Lib.hid x1; have HOA : Hid (Off [] W0 w2) := Lib.hid ((Off.refl [] W0).drew.trans x2 (by simp)); clear x1 x2; obtain ⟨r0, r1, r2, r3, r4, rf⟩ := HRB.out w2 HOA.out))
  have HF : Hid (P (.returned (.agg #[.slice pa pn pc, .slice xa xn xc, .slice la ln lc, .slice ma mn mc, .slice na nn nc])) (((((w2.setCell ⟨rb, 0, none⟩ (.slice pa pn pc)).setCell ⟨rb, 1, none⟩ (.slice xa xn xc)).setCell ⟨rb, 2, none⟩ (.slice la ln lc)).setCell ⟨rb, 3, none⟩ (.slice ma mn mc)).setCell ⟨rb, 4, none⟩ (.slice na nn nc))) := Lib.hid (by
    rw [HP.out]
    have oo : Off [rb] w2 (((((w2.setCell ⟨rb, 0, none⟩ (.slice pa pn pc)).setCell ⟨rb, 1, none⟩ (.slice xa xn xc)).setCell ⟨rb, 2, none⟩ (.slice la ln lc)).setCell ⟨rb, 3, none⟩ (.slice ma mn mc)).setCell ⟨rb, 4, none⟩ (.slice na nn nc)) := Off.setCell (Off.setCell (Off.setCell (Off.setCell (Off.setCell (Off.refl _ _) (.inl (by simp)) _) (.inl (by simp)) _) (.inl (by simp)) _) (.inl (by simp)) _) (.inl (by simp)) _
    exact ⟨_, _, _, _, _, rfl, HBE.out.step oo (fun z hz => by simp at hz; rw [hz]; exact HRS.out) HO0.out.size, (HO0.out.trans HOA.out (by simp)).trans oo (fun z hz => .inr (by simp at hz; rw [hz, ← HRBE.out]; exact Nat.le_refl _)), ⟨_, _, _, rfl⟩, ⟨_, _, _, rfl⟩, ⟨_, _, _, rfl⟩, ⟨_, _, _, rfl⟩, ⟨_, _, _, rfl⟩⟩)
  go_wp2_with fail
  refine bodyPost_ret (v := .agg #[.slice pa pn pc, .slice xa xn xc, .slice la ln lc, .slice ma mn mc, .slice na nn nc]) (by rw [results_cell1 rfl]; go_simp; try rfl) rfl ?_
  exact HF.out
open Go.MuLone in
set_option maxRecDepth 100000 in
set_option maxHeartbeats 2000000 in
theorem flushed48 {w : World} {g d : Nat} {m : LogM} {fp : List Nat} (h : LogR w g d m fp) : Calls Tryz.prog 48 #[.pointer (some ⟨g, 0, none⟩)] w fun e w' => e = .returned (.int .i64 ((m.base + m.disk + 1 : Nat) : Int)) ∧ LogR w' g d m fp ∧ Off [g] w w' := by
  obtain ⟨k0, _, k3, _, k7, _, kf⟩ := h.cells
  have hz := h.sized
  obtain ⟨h1, o1⟩ := h.turn 1
  have HH := Lib.hid h1
  have HO := Lib.hid o1
  have HV : Hid (((m.base + m.disk + 1 : Nat) : Int) = (m.base : Int) + (m.disk : Int) + 1) := Lib.hid (by omega)
  have HC : Hid (∀ n, ((w.setCell ⟨g, 0, none⟩ (.int .i32 1)).drewN n).cell? ⟨g, 0, none⟩ = some (.int .i32 1) ∧ ((w.setCell ⟨g, 0, none⟩ (.int .i32 1)).drewN n).frozen? ⟨g, 0, none⟩ = false) := Lib.hid (fun n => by
    obtain ⟨c0, _, _, _, _, _, cf⟩ := (HH.out.off ((Off.refl [] _).drewN n) (by simp)).cells
    exact ⟨c0, cf 0⟩)
  have hb1 := hz.1
  have hb2 : m.disk ≤ 65536 := by omega
  rw [HV.out]
  clear h h1 o1 hz HV
  generalize hbs : m.base = bs at *
  generalize hdk : m.disk = dk at *
  clear hbs hdk
  go_enter_defers Tryz.func48, Tryz.ntmps48
  go_wp2_with (go_at_call 55; refine (lock_free Tryz.muLib ⟨g, 0, none⟩ _ k0 (kf 0)).mono ?_; rintro e w' ⟨rfl, rfl⟩)
  go_quiet (fail)
  go_wp2_with fail
  refine leaves_cons (f := 56) (args := #[.pointer (some ⟨g, 0, none⟩)]) (by simp) (by simp [go_sem]) ?_
  refine (unlock_deferred Tryz.muLib ⟨g, 0, none⟩ .returning _ (HC.out _).1 (HC.out _).2).mono ?_
  rintro e u' w'' ⟨rfl, rfl, rfl⟩
  refine ⟨_, results_tmp rfl _ _ _, ?_⟩
  obtain ⟨p1, p2⟩ := (HH.out.off ((Off.refl [] _).drewN nq) (by simp)).turn 0
  exact ⟨rfl, p1, (HO.out.trans ((Off.refl [] _).drewN nq) (by simp)).trans p2 (fun z hz => .inl hz)⟩
end Go.Proofs.YtfdgiblkllfpjaaGreatDoor

/- the laws' own: a new disk, a log and a pool over it; num. -/
set_option linter.unusedVariables false
set_option linter.unusedSimpArgs false
namespace Go.Proofs.YtfdgiblkllfpjaaGreatDoor
open Go.ChangeShapes Go.WideShapes Go.ChangeAt Go.RowKit

theorem num9 (x : Int) (w : World) : Calls Tryz.prog 9 #[.int .i64 x] w fun e w' => e = .returned (.int .i64 x) ∧ w = w' := by
  go_enter Tryz.func9, Tryz.ntmps9
  go_wp2
  go_ret
  exact ⟨rfl, rfl⟩
theorem blankG_at (s : Shp) (k : Nat) (hk : k < s.pages + 3) : (blankG s)[k]? = some (List.replicate (s.sizeB k) 0) := by
  unfold blankG
  rw [List.getElem?_map, List.getElem?_range hk]; rfl
theorem newDisk_fit (s : Shp) : (newDisk s).fit :=
  ⟨fun k hk => ⟨_, blankG_at s k hk, by rw [List.length_replicate]; rfl⟩, fun k hk => ⟨_, blankG_at s k hk, by rw [List.length_replicate]; rfl⟩, by simp [newDisk]⟩
theorem zeros_rep (n : Nat) : zeros (List.replicate n 0) = true := by
  unfold zeros; rw [List.all_eq_true]; intro x hx
  rw [List.mem_replicate] at hx; rw [hx.2]; rfl
theorem pageLen_ok {s : Nat} (h1 : 1 ≤ s) (h2 : s ≤ 8) : pageLen (s : Int) = ((24 + s * 16 : Nat) : Int) := by
  unfold pageLen; rw [if_neg (by omega)]; omega
theorem slotsN_pageB {s : Nat} (h1 : 1 ≤ s) (h2 : s ≤ 8) : slotsN (24 + s * 16) = s := slotsN_is h1 h2 (by omega)
theorem check_zeros (t : Nat → Nat) (n s : Nat) (hn : n < 16) (h1 : 1 ≤ s) (h2 : s ≤ 8) : pageCheck t (List.replicate (24 + s * 16) 0) (n : Int) (s : Int) = some 0 := by
  unfold pageCheck
  rw [if_neg, if_pos (zeros_rep _)]
  rw [pageLen_ok h1 h2, List.length_replicate]
  omega
theorem lsn_zeros (s : Nat) (h1 : 1 ≤ s) (h2 : s ≤ 8) : pageLsn (List.replicate (24 + s * 16) 0) = some 0 := by
  unfold pageLsn
  rw [List.length_replicate, slotsN_pageB h1 h2, if_neg (by omega)]
  have hz : num8 ((List.replicate (24 + s * 16) 0).take 8) = 0 := zeros_le _ (by rw [List.take_replicate]; exact zeros_rep _)
  have : intOk (List.replicate (24 + s * 16) 0) = true := by
    unfold intOk; rw [decide_eq_true_eq, hz, List.length_replicate]; omega
  rw [if_pos this, hz]
/-- A disk, a log's manager and a pool, one behind the other, are a whole. -/
theorem Whole.start {w w1 w2 w3 : World} {d g p n : Nat} {dm : DiskM} {lm : LogM} {D L Q : List Nat} (hd : DiskR w2 d dm D) (hD : ∀ z ∈ D, w.heap.size ≤ z ∧ z < w1.heap.size) (hl : LogR w2 g d lm L) (hL : ∀ z ∈ L, w1.heap.size ≤ z ∧ z < w2.heap.size) (ho1 : w.heap.size ≤ w1.heap.size) (hp : PoolR w3 p d g ⟨n, [], false⟩ Q) (ho : Off [] w2 w3) (hQ : ∀ z ∈ Q, w2.heap.size ≤ z) (h12 : w1.heap.size ≤ w2.heap.size) :
    Whole w3 d g p dm lm ⟨n, [], false⟩ ⟨D, L, Q⟩ ∧ ∀ z ∈ D ++ L ++ Q, w.heap.size ≤ z := by
  refine ⟨⟨⟨hd.off ho (by simp), hl.off ho (by simp), fun z hz hz' => ?_⟩, hp, fun z hz => ⟨fun hz' => ?_, fun hz' => ?_⟩⟩, fun z hz => ?_⟩
  · have := (hD z hz).2; have := (hL z hz').1; omega
  · have := hQ z hz; have := (hD z hz').2; omega
  · have := hQ z hz; have := (hL z hz').2; omega
  · simp only [List.mem_append] at hz
    rcases hz with (q | q) | q
    · exact (hD z q).1
    · have := (hL z q).1; omega
    · have := hQ z q; omega
end Go.Proofs.YtfdgiblkllfpjaaGreatDoor

/- A disk that never stops: acts counted; what lies behind a page's writing out. -/
set_option linter.unusedVariables false
set_option linter.unusedSimpArgs false
namespace Go.Proofs.YtfdgiblkllfpjaaGreatDoor
open Go.ChangeShapes Go.WideShapes Go.ChangeAt Go.RowKit

def DiskM.live (m : DiskM) : Prop := m.dead = false ∧ m.stop = 0
theorem DiskM.live.stops {m : DiskM} (h : m.live) : m.stops = false := by unfold DiskM.stops; rw [h.1, h.2]; rfl
theorem DiskM.live.act {m : DiskM} (h : m.live) : m.act.live ∧ m.act.acts = m.acts + 1 := by
  have e : m.act = { m with acts := m.acts + 1 } := by unfold DiskM.act; rw [if_neg (by rw [h.stops]; simp)]
  rw [e]; exact ⟨h, rfl⟩
theorem DiskM.live.put {m : DiskM} (h : m.live) (k : Nat) (l : List UInt8) : (m.put k l).live ∧ (m.put k l).acts = m.acts + 1 := h.act
theorem DiskM.live.sync {m : DiskM} (h : m.live) : m.sync.live ∧ m.sync.acts = m.acts + 1 := h.act
theorem DiskM.live.syncLog {m : DiskM} (h : m.live) : m.syncLog.live ∧ m.syncLog.acts = m.acts + 1 := h.act
theorem DiskM.live.app {m : DiskM} (h : m.live) (l : List UInt8) : (m.app l).live ∧ (m.app l).acts = m.acts + 1 := by
  unfold DiskM.app
  split
  · exact h.act
  · exact h.act
theorem DiskM.live.pair {m : DiskM} (h : m.live) (n : Nat) (b pb : List UInt8) : pairM m n b pb = (pairS m n b pb 4, 0) ∧ (pairS m n b pb 4).live ∧ (pairS m n b pb 4).acts = m.acts + 4 := by
  have h1 := h.put m.shp.pages pb
  have h2 := h1.1.sync
  have h3 := h2.1.put n b
  have h4 := h3.1.sync
  refine ⟨pairM_done (fun j hj => ?_), h4.1, ?_⟩
  · match j, hj with
    | 0, _ => exact h.stops
    | 1, _ => exact h1.1.stops
    | 2, _ => exact h2.1.stops
    | 3, _ => exact h3.1.stops
  · have : (pairS m n b pb 4).acts = ((m.put m.shp.pages pb).sync.put n b).sync.acts := rfl
    rw [this, h4.2, h3.2, h2.2, h1.2]
theorem DiskM.live.flush {dm : DiskM} {lm : LogM} (h : dm.live) (lsn : Nat) : (flushM dm lm lsn).2.2 = 0 ∧ (flushM dm lm lsn).1.live ∧ (flushM dm lm lsn).1.acts = dm.acts + (if lsn ≤ lm.base + lm.disk ∨ lm.tail = [] then 0 else 2) ∧
    (flushM dm lm lsn).2.1 = (if lsn ≤ lm.base + lm.disk ∨ lm.tail = [] then lm else lm.flushed) := by
  have h1 := h.app lm.tail
  have h2 := h1.1.syncLog
  unfold flushM
  by_cases c : lsn ≤ lm.base + lm.disk ∨ lm.tail = []
  · rw [if_pos c]; exact ⟨rfl, h, by rw [if_pos c]; rfl, by rw [if_pos c]⟩
  · rw [if_neg c, if_neg (by rw [h.stops]; simp), if_neg (by rw [h1.1.stops]; simp)]
    exact ⟨rfl, h2.1, by rw [if_neg c, h2.2, h1.2], by rw [if_neg c]⟩
theorem flushM_grounds {dm : DiskM} {lm : LogM} {k : Nat} (h : DeskOk dm lm k) (hz : lm.bytes = lm.disk + lm.tail.length) (lsn : Nat) : (flushM dm lm lsn).1.lasts = dm.lasts ∧ (flushM dm lm lsn).1.reads = dm.reads ∧ (flushM dm lm lsn).1.loose = dm.loose := by
  obtain ⟨h1, h2, h3, h4, h5, h6, h7⟩ := h
  have a := dm.app_fields lm.tail (by rw [h5]; omega)
  unfold flushM
  split
  · exact ⟨rfl, rfl, rfl⟩
  · split
    · have b := dm.act_fields; exact ⟨b.2.1, b.2.2.1, b.2.2.2.1⟩
    · split
      · have b := (dm.app lm.tail).act_fields; exact ⟨b.2.1.trans a.2.1, b.2.2.1.trans a.2.2.1, b.2.2.2.1.trans a.2.2.2.1⟩
      · have b := (dm.app lm.tail).syncLog_fields; exact ⟨b.2.1.trans a.2.1, b.2.2.1.trans a.2.2.1, b.2.2.2.1.trans a.2.2.2.1⟩
theorem laid_at {gs : List (List UInt8)} {k : Nat} {l : List UInt8} {y : List UInt8} (hk : gs[k]? = some y) (hl : y.length = l.length) (j : Nat) : (laid gs k l.length l)[j]? = if j = k then some l else gs[j]? := by
  have hlt := (List.getElem?_eq_some_iff.1 hk).1
  unfold laid
  by_cases e : j = k
  · subst e
    rw [if_pos rfl, List.getElem?_set_self hlt, List.getD_eq_getElem?_getD, hk]
    simp [hl]
  · rw [if_neg e, List.getElem?_set_ne (Ne.symm e)]
/-- Behind a page's writing out the page lies there, and lasts. -/
theorem pairS_grounds {m : DiskM} (hfit : m.fit) (hlo : m.loose = []) {n : Nat} (hn : n < m.shp.pages) {b pb : List UInt8} (hb : b.length = m.shp.pageB) (hpb : pb.length = 16 + m.shp.pageB) (j : Nat) (hj : j < m.shp.pages) :
    (pairS m n b pb 4).lasts[j]? = (if j = n then some b else m.lasts[j]?) ∧ (pairS m n b pb 4).reads[j]? = (if j = n then some b else m.reads[j]?) := by
  obtain ⟨y1, e1, f1⟩ := hfit.1 m.shp.pages (by omega)
  obtain ⟨y2, e2, f2⟩ := hfit.2.1 m.shp.pages (by omega)
  obtain ⟨y3, e3, f3⟩ := hfit.1 n (by omega)
  obtain ⟨y4, e4, f4⟩ := hfit.2.1 n (by omega)
  have s1 : m.shp.sizeB m.shp.pages = pb.length := by rw [hpb]; unfold Shp.sizeB; rw [if_neg (by omega), if_pos rfl]
  have s2 : m.shp.sizeB n = b.length := by rw [hb]; unfold Shp.sizeB; rw [if_pos hn]
  have a1 := m.put_fields m.shp.pages pb
  have a2 := (m.put m.shp.pages pb).sync_fields
  have a3 := (m.put m.shp.pages pb).sync.put_fields n b
  have a4 := ((m.put m.shp.pages pb).sync.put n b).sync_fields
  have l1 : (m.put m.shp.pages pb).sync.lasts = laid m.lasts m.shp.pages pb.length pb := by rw [a2.2.1, a1.2.1, a1.2.2.2.1, hlo]; rfl
  have r1 : (m.put m.shp.pages pb).sync.reads = laid m.reads m.shp.pages pb.length pb := by rw [a2.2.2.1, a1.2.2.1]
  have l2 : (pairS m n b pb 4).lasts = laid (laid m.lasts m.shp.pages pb.length pb) n b.length b := by
    show ((m.put m.shp.pages pb).sync.put n b).sync.lasts = _
    rw [a4.2.1, a3.2.1, a3.2.2.2.1, a2.2.2.2.1, l1]; rfl
  have r2 : (pairS m n b pb 4).reads = laid (laid m.reads m.shp.pages pb.length pb) n b.length b := by
    show ((m.put m.shp.pages pb).sync.put n b).sync.reads = _
    rw [a4.2.2.1, a3.2.2.1, r1]
  have q1 := laid_at (l := pb) e1 (by rw [f1, s1])
  have q2 := laid_at (l := pb) e2 (by rw [f2, s1])
  rw [l2, r2]
  refine ⟨?_, ?_⟩
  · rw [laid_at (y := y3) (by rw [q1, if_neg (by omega)]; exact e3) (by rw [f3, s2]) j]
    by_cases e : j = n
    · rw [if_pos e, if_pos e]
    · rw [if_neg e, if_neg e, q1, if_neg (by omega)]
  · rw [laid_at (y := y4) (by rw [q2, if_neg (by omega)]; exact e4) (by rw [f4, s2]) j]
    by_cases e : j = n
    · rw [if_pos e, if_pos e]
    · rw [if_neg e, if_neg e, q2, if_neg (by omega)]
/-- The bytes of a stamped page. -/
theorem stamp_first (t : Nat → Nat) (l : List UInt8) (number lsn : Nat) (h : 24 ≤ l.length) : (stampB t l number lsn)[0]? = some (UInt8.ofNat lsn) := by
  have q := stamp_take8 (t := t) (l := l) (number := number) (lsn := lsn)
  have e : ((stampB t l number lsn).take 8)[0]? = (stampB t l number lsn)[0]? := by rw [List.getElem?_take, if_pos (by omega)]
  rw [← e, q]
  simp [le]
theorem stamp_mid (t : Nat → Nat) (l : List UInt8) (number lsn : Nat) (h : 24 ≤ l.length) (j : Nat) (h1 : 16 ≤ j) (h2 : j < l.length - 8) : (stampB t l number lsn)[j]? = l[j]? := by
  have q := stamp_drop16 (t := t) (l := l) (number := number) (lsn := lsn)
  have e : ((stampB t l number lsn).drop 16)[j - 16]? = (stampB t l number lsn)[j]? := by rw [List.getElem?_drop]; congr 1; omega
  rw [← e, q]
  unfold pageRest
  rw [List.getElem?_append_left (by rw [List.length_take, List.length_drop]; omega), List.getElem?_take, if_pos (by omega), List.getElem?_drop]
  congr 1; omega
theorem pairS_lasted {m : DiskM} {n : Nat} {b pb : List UInt8} : (pairS m n b pb 4).lasted = m.lasted := by
  show ((m.put m.shp.pages pb).sync.put n b).sync.lasted = m.lasted
  rw [(DiskM.sync_fields _).2.2.2.2.2.2, (DiskM.put_fields _ _ _).2.2.2.2.2.2, (DiskM.sync_fields _).2.2.2.2.2.2, (DiskM.put_fields _ _ _).2.2.2.2.2.2]
theorem DiskM.live.flush_lasted {dm : DiskM} {lm : LogM} (h : dm.live) {lsn : Nat} (hne : ¬ (lsn ≤ lm.base + lm.disk ∨ lm.tail = [])) : (flushM dm lm lsn).1.lasted = (flushM dm lm lsn).1.log.length := by
  have h1 := h.app lm.tail
  unfold flushM
  rw [if_neg hne, if_neg (by rw [h.stops]; simp), if_neg (by rw [h1.1.stops]; simp)]
  have b := (dm.app lm.tail).syncLog_fields
  show (dm.app lm.tail).syncLog.lasted = (dm.app lm.tail).syncLog.log.length
  rw [b.2.2.2.2.2.2, b.2.2.2.2.1]
/-- A dirty page's writing out on a disk that never stops. -/
theorem cleanM_live {t : Nat → Nat} {dm : DiskM} {lm : LogM} {pm : PoolM} (hl : dm.live) {n : Nat} {f : Fr} (hf : pm.find n = some f) (hr : 0 < f.rc) :
    cleanM dm lm pm n = (pairS (flushM dm lm ((pageLsn f.b).getD 0)).1 f.num f.b (pairB ((pageLsn f.b).getD 0) f.num f.b) 4, (flushM dm lm ((pageLsn f.b).getD 0)).2.1, pm.set { f with rc := 0 }, 0) := by
  have h1 := hl.flush (lm := lm) ((pageLsn f.b).getD 0)
  have h2 := h1.2.1.pair f.num f.b (pairB ((pageLsn f.b).getD 0) f.num f.b)
  unfold cleanM
  rw [hf]
  simp only [hr, if_true]
  unfold writeM
  rw [if_pos h1.1, if_pos (by rw [h2.1]), h2.1]
theorem srtI_one (x : Int) : srtI [x] = [x] := by unfold srtI; simp
theorem IsB.put {w : World} {g off n cap : Nat} {l : List UInt8} (h : IsB w (.slice (some ⟨g, off, none⟩) n cap) l) (i : Nat) (x : UInt8) : IsB (w.setCell ⟨g, off + i, none⟩ (bv x)) (.slice (some ⟨g, off, none⟩) n cap) (l.set i x) := by
  have hn : n = l.length := by obtain ⟨a, c, e⟩ := h.val; injection e
  subst hn
  have q := Own.set h i (bv x)
  unfold IsB
  rw [List.length_set]
  have e : bytesV (l.set i x) = (bytesV l).set i (bv x) := by unfold bytesV; rw [List.map_set]
  rw [e]; exact q
/-- A whole that is newer than w, and w unchanged. -/
def Since (w : World) (d g p : Nat) (dm : DiskM) (lm : LogM) (pm : PoolM) (F : Fp3) (w' : World) : Prop := Whole w' d g p dm lm pm F ∧ (∀ z ∈ F.d ++ F.l ++ F.p, w.heap.size ≤ z) ∧ Off [] w w'
section
variable {w w1 w2 : World} {d g p : Nat} {dm dm1 : DiskM} {lm lm1 : LogM} {pm pm1 : PoolM} {F F1 : Fp3}
theorem Since.step (h : Since w d g p dm lm pm F w1) (h1 : Whole w2 d g p dm1 lm1 pm1 F1) (h2 : Acc3 F w1 F1 w2) : Since w d g p dm1 lm1 pm1 F1 w2 := by
  have hs := h.2.2.size
  refine ⟨h1, fun z hz => ?_, h.2.2.trans h2.1 (fun z hz => .inr (h.2.1 z hz))⟩
  simp only [List.mem_append] at hz
  rcases hz with (q | q) | q
  · rcases h2.2.1 z q with e | e
    · exact h.2.1 z (by simp [e])
    · omega
  · rcases h2.2.2.1 z q with e | e
    · exact h.2.1 z (by simp [e])
    · omega
  · rcases h2.2.2.2 z q with e | e
    · exact h.2.1 z (by simp [e])
    · omega
theorem Since.write {S : List Nat} (h : Since w d g p dm lm pm F w1) (ho : Off S w1 w2) (h1 : ∀ z ∈ S, w.heap.size ≤ z ∧ z ∉ F.d ++ F.l ++ F.p) : Since w d g p dm lm pm F w2 :=
  ⟨h.1.off ho (fun z hz hz' => (h1 z hz').2 hz), h.2.1, h.2.2.trans ho (fun z hz => .inr (h1 z hz).1)⟩
theorem Since.zero {t : Nat → Nat} (h : Since w d g p dm lm pm F w1) (ht : Tbl t w) : Tbl t w1 ∧ 0 ∉ F.d ∧ 0 ∉ F.l ∧ 0 ∉ F.p :=
  ⟨ht.off h.2.2 (by simp), fun hz => by have := h.2.1 0 (by simp [hz]); have := ht.1; omega, fun hz => by have := h.2.1 0 (by simp [hz]); have := ht.1; omega, fun hz => by have := h.2.1 0 (by simp [hz]); have := ht.1; omega⟩
end
end Go.Proofs.YtfdgiblkllfpjaaGreatDoor
