/- disk: Append, Cut, ReadLog. -/
import Derived.Test.YtfdgiblkllfpjaaGreatDoorL04
import Derived.Deep.RegionHeld3
set_option linter.unusedVariables false
set_option linter.unusedSimpArgs false
namespace Go.Proofs.YtfdgiblkllfpjaaGreatDoor
open Go.ChangeShapes Go.WideShapes Go.ChangeAt Go.RowKit

/-- The log's slice has become another one. -/
theorem DiskR.relog {w1 w2 : World} {d : Nat} {m : DiskM} {fp : List Nat} {ao ao' : Option Addr} {cap cap' n' : Nat} {l' : List UInt8} (h : DiskR w1 d m fp) (hc : w1.cell? ⟨d, 6, none⟩ = some (.slice ao m.log.length cap)) (ho : Off (blk (.slice ao m.log.length cap)) w1 w2)
    (hb : IsB w2 (.slice ao' n' cap') l') (hbl : blk (.slice ao' n' cap') = blk (.slice ao m.log.length cap) ∨ ∃ z, blk (.slice ao' n' cap') = [z] ∧ w1.heap.size ≤ z) :
    DiskStep d fp { m with log := l' } w1 (w2.setCell ⟨d, 6, none⟩ (.slice ao' n' cap')) := by
  have hlt := h.lt
  obtain ⟨lv, rv, ov, gv, fl, fr, fo, h1, h2, h3, h4, h5, rfl, h6, h7, h8, h9⟩ := h
  have hgv : gv = .slice ao m.log.length cap := by
    have q : w1.cell? ⟨d, 6, none⟩ = some gv := by rw [h1.cell]; rfl
    rw [hc] at q; injection q with q; exact q.symm
  subst hgv
  obtain ⟨n1, n2⟩ := List.nodup_cons.1 h6
  obtain ⟨n3, n4, n5⟩ := List.nodup_append.1 n2
  obtain ⟨n6, n7, n8⟩ := List.nodup_append.1 n4
  obtain ⟨n9, n10, n11⟩ := List.nodup_append.1 n7
  have hdg : d ∉ blk (.slice ao m.log.length cap) := fun hx => n1 (by simp [hx])
  have e1 : ∀ z ∈ fl, z ∉ blk (.slice ao m.log.length cap) := fun z hz hz' => n5 z hz z (by simp [hz']) rfl
  have e2 : ∀ z ∈ fr, z ∉ blk (.slice ao m.log.length cap) := fun z hz hz' => n8 z hz z (by simp [hz']) rfl
  have e3 : ∀ z ∈ fo, z ∉ blk (.slice ao m.log.length cap) := fun z hz hz' => n11 z hz z hz' rfl
  have hd : Off [d] w2 (w2.setCell ⟨d, 6, none⟩ (.slice ao' n' cap')) := (Off.refl [d] w2).setCell (.inl (by simp)) _
  have f1 : ∀ z ∈ fl, z ∉ [d] := fun z hz hz' => by simp at hz'; subst hz'; exact n1 (by simp [hz])
  have f2 : ∀ z ∈ fr, z ∉ [d] := fun z hz hz' => by simp at hz'; subst hz'; exact n1 (by simp [hz])
  have f3 : ∀ z ∈ fo, z ∉ [d] := fun z hz hz' => by simp at hz'; subst hz'; exact n1 (by simp [hz])
  have hbd : ∀ z ∈ blk (.slice ao' n' cap'), z ∉ [d] := fun z hz hz' => by
    simp at hz'; subst hz'
    rcases hbl with q | ⟨y, q, hy⟩ <;> rw [q] at hz
    · exact hdg hz
    · simp at hz; have := hlt z (by simp); omega
  refine ⟨d :: (fl ++ (fr ++ (fo ++ blk (.slice ao' n' cap')))), ⟨lv, rv, ov, .slice ao' n' cap', fl, fr, fo, ?_, (h2.off ho e1).off hd f1, (h3.off ho e2).off hd f2, (h4.off ho e3).off hd f3, hb.off hd hbd, rfl, ?_, h7, h8, h9⟩, ?_, ?_⟩
  · have q := (h1.off ho hdg).set 6 (.slice ao' n' cap')
    exact q
  · rcases hbl with q | ⟨y, q, hy⟩
    · rw [q]; exact h6
    · rw [q]
      have hy' : y ∉ d :: (fl ++ (fr ++ fo)) := fun hz => by
        have := hlt y (by simp only [List.mem_cons, List.mem_append] at hz ⊢; rcases hz with a | a | a | a <;> simp [a])
        omega
      have e : d :: (fl ++ (fr ++ (fo ++ [y]))) = (d :: (fl ++ (fr ++ fo))) ++ [y] := by simp
      rw [e]
      refine List.nodup_append.2 ⟨?_, by simp, fun a ha' b hb' hab => ?_⟩
      · have e' : d :: (fl ++ (fr ++ (fo ++ blk (.slice ao m.log.length cap)))) = (d :: (fl ++ (fr ++ fo))) ++ blk (.slice ao m.log.length cap) := by simp
        rw [e'] at h6
        exact (List.nodup_append.1 h6).1
      · simp at hb'; subst hb'; subst hab; exact hy' ha'
  · exact (ho.mono (fun z hz => .inl (by simp [hz]))).trans hd (fun z hz => .inl (by simp at hz; simp [hz]))
  · intro z hz
    simp only [List.mem_cons, List.mem_append] at hz
    rcases hz with rfl | q | q | q | q
    · exact .inl (by simp)
    · exact .inl (by simp [q])
    · exact .inl (by simp [q])
    · exact .inl (by simp [q])
    · rcases hbl with e | ⟨y, e, hy⟩ <;> rw [e] at q
      · exact .inl (by simp [q])
      · simp at q; subst q; exact .inr hy
theorem DiskKeep.andThen {d : Nat} {fp : List Nat} {m m' : DiskM} {w w1 w2 : World} (h : DiskKeep d fp m w w1) (k : DiskStep d fp m' w1 w2) : DiskStep d fp m' w w2 := by
  obtain ⟨fp', k1, k2, k3⟩ := k
  have hs := h.2.size
  exact ⟨fp', k1, h.2.trans k2 (fun z hz => .inl hz), fun z hz => (k3 z hz).imp_right fun q => Nat.le_trans hs q⟩
def DiskM.app (m : DiskM) (l : List UInt8) : DiskM := if m.log.length + l.length ≤ m.shp.log then { m.act with log := m.log ++ l } else m.act
def DiskM.appC (m : DiskM) (l : List UInt8) : Int := if m.log.length + l.length ≤ m.shp.log then 0 else 63
set_option maxRecDepth 100000 in
set_option maxHeartbeats 4000000 in
theorem append152 {w : World} {d : Nat} {m : DiskM} {fp : List Nat} (h : DiskR w d m fp) (ha : m.acts < 4611686018427387904) (hlg : m.log.length ≤ 65536) (v : Value) (l : List UInt8) (hb : IsB w v l) (hv : ∀ z ∈ blk v, z ∉ fp) (hl : l.length < 1000000) :
    Calls Tryz.prog 152 #[.pointer (some ⟨d, 0, none⟩), v] w (DoPost d fp m (m.app l) (m.appC l) w) := by
  have HA := Lib.hid (act111 h ha)
  have hok := h.ok.1
  obtain ⟨vo, vc, rfl⟩ := hb.val
  have HB := Lib.hid hb
  have HV := Lib.hid hv
  clear h hb hv
  unfold ActPost at HA
  cases hs : m.stops
  · rw [hs] at HA
    have hlo : m.shp.log ≤ 65536 := hok.2.2.2.2.2
    by_cases hr : m.log.length + l.length ≤ m.shp.log
    · have e1 : m.app l = { m.act with log := m.log ++ l } := by unfold DiskM.app; rw [if_pos hr]
      have e2 : m.appC l = 0 := by unfold DiskM.appC; rw [if_pos hr]
      rw [e1, e2]
      obtain ⟨P, hP⟩ : ∃ P : Ending → World → Prop, P = DoPost d fp m { m.act with log := m.log ++ l } 0 w := ⟨_, rfl⟩
      rw [← hP]
      have HP : Hid (∀ w', DiskStep d fp { m.act with log := m.log ++ l } w w' → P (.returned (.int .i64 0)) w') := Lib.hid (fun w' hst => by rw [hP]; exact .inr ⟨hs, rfl, hst⟩)
      clear hP e1 e2
      go_enter Tryz.func152, Tryz.ntmps152
      go_wp2_with fail
      refine HA.out.mono ?_
      rintro e w1 ⟨rfl, hk⟩
      obtain ⟨ao, cap, k6, _, hbl, _⟩ := hk.1.logAt
      obtain ⟨_, _, k2, _, _, _, hf⟩ := hk.1.cells
      have HKR := Lib.hid (fun ao' cap' n' l' (w2 : World) ho hb hbb => DiskR.relog (ao' := ao') (cap' := cap') (n' := n') (l' := l') (w2 := w2) hk.1 k6 ho hb hbb)
      rw [(act_shp m).2.2.2.2] at k6 hbl HKR
      rw [(act_shp m).1] at k2
      have HDG : Hid (d ∉ blk (.slice ao m.log.length cap)) := Lib.hid (by
        obtain ⟨lv, rv, ov, gv, fl, fr, fo, h1, h2, h3, h4, h5, he, h6, _⟩ := hk.1
        have hgv : gv = .slice ao m.log.length cap := by
          have q : w1.cell? ⟨d, 6, none⟩ = some gv := by rw [h1.cell]; rfl
          rw [k6] at q; injection q with q; exact q.symm
        subst hgv
        rw [he] at h6
        exact fun hx => (List.nodup_cons.1 h6).1 (by simp [hx]))
      have HIC : Hid (∃ lv rv ov gv, IsC w1 d (headC m.act lv rv ov gv) 104) := Lib.hid (by
        obtain ⟨lv, rv, ov, gv, fl, fr, fo, h1, _⟩ := hk.1
        exact ⟨lv, rv, ov, gv, h1⟩)
      have HK := Lib.hid hk
      have hvb := HB.out.off hk.2 HV.out
      unfold IsB at hbl hvb
      have HOA := Lib.hid hbl
      have HVB := Lib.hid hvb
      have HBD := Lib.hid (show (m.log.length + l.length) * 1 ≤ 140737488355328 by omega)
      clear hk hbl hvb HA
      generalize hgl : m.log.length = n at *
      generalize m.shp.log = sl at *
      generalize hgm : l.length = k at *
      have HGL := Lib.hid (And.intro hgl hgm)
      clear hgl hgm
      go_wp2_with fail
      go_quiet (fail)
      generalize hW : World.drewN _ _ = W5
      have ho5 : Off [] w1 W5 := by rw [← hW]; exact (Off.refl _ _).drewN _
      have k6' : W5.cell? ⟨d, 6, none⟩ = some (.slice ao n cap) := by rw [← hW]; exact k6
      have hf' : ∀ o, W5.frozen? ⟨d, o, none⟩ = false := by rw [← hW]; exact hf
      have HOA5 := Lib.hid (HOA.out.off ho5 (by simp))
      have HSR5 : Hid (Src Tryz.prog 1 22 (.slice vo k vc) k (bytesV l) W5) := Lib.hid ((HVB.out.off ho5 (by simp)).src (P := Tryz.prog) (t := 22) (e' := 5) Tryz.underlying22 (bytesV_one _))
      clear HOA HVB
      have hnk : (n : Int) + k ≤ sl := by omega
      have HW5 := Lib.hid ho5
      clear hW ho5 k6 hf k2
      go_wp2_with (at_builtin; go_loud (refine wp_app rfl _ _ 22 22 rfl rfl HOA5.out Tryz.underlying22 iinfo5 rfl (by decide) rfl HSR5.out HBD.out ?_))
      intro ao4 cap4 w4 q1 q2 q3
      have hib : IsB w4 (.slice ao4 (n + k) cap4) (m.log ++ l) := by
        unfold IsB; rw [List.length_append, HGL.out.1, HGL.out.2, bytesV_append]; exact q1
      have h14 : Off (blk (.slice ao n cap)) w1 w4 := (HW5.out.mono (by simp)).trans q2 (fun z hz => .inl hz)
      have hst := HKR.out ao4 cap4 (n + k) (m.log ++ l) w4 h14 hib (q3.imp_right fun q => ⟨_, q, by have := HW5.out.size; omega⟩)
      have HF := Lib.hid (HP.out _ (HK.out.andThen hst))
      obtain ⟨lv, rv, ov, gv, hic⟩ := HIC.out
      have hic4 := hic.off h14 HDG.out
      have c6 : w4.cell? ⟨d, 6, none⟩ = some gv := by rw [hic4.cell]; rfl
      have hf4 : ∀ o, w4.frozen? ⟨d, o, none⟩ = false := fun o => hic4.unfrozen o
      clear q1 q2 q3 hib h14 hst hic hic4 k6' hf' HKR HK HP HIC HDG HOA5 HSR5 HGL
      go_wp2_with fail
      exact HF.out
    · have e1 : m.app l = m.act := by unfold DiskM.app; rw [if_neg hr]
      have e2 : m.appC l = 63 := by unfold DiskM.appC; rw [if_neg hr]
      rw [e1, e2]
      obtain ⟨P, hP⟩ : ∃ P : Ending → World → Prop, P = DoPost d fp m m.act 63 w := ⟨_, rfl⟩
      rw [← hP]
      have HP : Hid (∀ w', DiskKeep d fp m.act w w' → P (.returned (.int .i64 63)) w') := Lib.hid (fun w' hst => by rw [hP]; exact .inr ⟨hs, rfl, hst.step⟩)
      clear hP e1 e2
      go_enter Tryz.func152, Tryz.ntmps152
      go_wp2_with fail
      refine HA.out.mono ?_
      rintro e w1 ⟨rfl, hk⟩
      obtain ⟨ao, cap, k6, _, _, _⟩ := hk.1.logAt
      obtain ⟨_, _, k2, _, _, _, hf⟩ := hk.1.cells
      rw [(act_shp m).2.2.2.2] at k6
      rw [(act_shp m).1] at k2
      have HK := Lib.hid hk
      have hl2 : m.shp.log < m.log.length + l.length := by omega
      clear hk HA hr
      generalize m.log.length = n at *
      generalize m.shp.log = sl at *
      generalize l.length = k at *
      go_wp2_with fail
      go_quiet (fail)
      go_wp2_with fail
      exact HP.out _ (HK.out.behind ((Off.refl _ _).drewN _))
  · rw [hs] at HA
    obtain ⟨P, hP⟩ : ∃ P : Ending → World → Prop, P = DoPost d fp m (m.app l) (m.appC l) w := ⟨_, rfl⟩
    rw [← hP]
    have HP : Hid (∀ w', DiskKeep d fp m.act w w' → P (.returned (.int .i64 1)) w') := Lib.hid (fun w' hst => by rw [hP]; exact .inl ⟨hs, rfl, hst.step⟩)
    clear hP
    generalize l.length = k at *
    go_enter Tryz.func152, Tryz.ntmps152
    go_wp2_with fail
    refine HA.out.mono ?_
    rintro e w1 ⟨rfl, hk⟩
    have HF := Lib.hid (HP.out w1 hk)
    clear hk HA HP
    go_wp2_with fail
    exact HF.out
end Go.Proofs.YtfdgiblkllfpjaaGreatDoor

/- disk: ReadLog. -/
set_option linter.unusedVariables false
set_option linter.unusedSimpArgs false
namespace Go.Proofs.YtfdgiblkllfpjaaGreatDoor
open Go.ChangeShapes Go.WideShapes Go.ChangeAt Go.RowKit

set_option maxRecDepth 100000 in
set_option maxHeartbeats 4000000 in
theorem readLog50 {w : World} {d : Nat} {m : DiskM} {fp : List Nat} (h : DiskR w d m fp) (ha : m.acts < 4611686018427387904) (n : Nat) (hn : n < 1000000) (hlg : m.log.length ≤ n) :
    Calls Tryz.prog 50 #[.pointer (some ⟨d, 0, none⟩), .int .i64 0, .int .i64 (n : Int)] w (ReadPost d fp m m.log w) := by
  have HA := Lib.hid (act111 h ha)
  clear h
  unfold ActPost at HA
  obtain ⟨P, hP⟩ : ∃ P : Ending → World → Prop, P = ReadPost d fp m m.log w := ⟨_, rfl⟩
  rw [← hP]
  cases hs : m.stops
  · rw [hs] at HA
    have HP : Hid (∀ w1 w2, DiskKeep d fp m.act w w1 → Off [] w1 w2 → ∀ ao cap, IsB w2 (.slice ao m.log.length cap) m.log → (∀ z ∈ blk (.slice ao m.log.length cap), w1.heap.size ≤ z) → P (.returned (.tuple #[.slice ao m.log.length cap, .int .i64 0])) w2) := Lib.hid (fun w1 w2 hk ho ao cap hb hf => by
      rw [hP]; exact ⟨hk.behind ho, .inr ⟨hs, ao, cap, rfl, hb, fun z hz => Nat.le_trans hk.2.size (hf z hz)⟩⟩)
    clear hP
    go_enter Tryz.func50, Tryz.ntmps50
    go_wp2_with fail
    refine HA.out.mono ?_
    rintro e w1 ⟨rfl, hk⟩
    obtain ⟨ao, cap, k6, _, hb, _⟩ := hk.1.logAt
    rw [(act_shp m).2.2.2.2] at k6 hb
    obtain ⟨a2, c2, b2, _, l2, r2, _, _⟩ := hb.cut 0 m.log.length (by omega) (Nat.le_refl _)
    rw [List.drop_zero, Nat.sub_zero, List.take_of_length_le (Nat.le_refl _)] at b2
    have HR2 := Lib.hid r2
    have q2 : ∀ W, (Instr.slice 22 (.slice ao m.log.length cap) (some (.int .i64 0)) (some (.int .i64 (m.log.length : Int))) none).run Tryz.prog W = .ok (.slice a2 m.log.length c2) W := fun W => by have q := HR2.out W 0 m.log.length rfl rfl; rw [Nat.sub_zero] at q; exact q
    have HC : Hid (∀ W, Off [] w1 W → Calls Tryz.prog 80 #[.slice a2 m.log.length c2] W (FreshB W m.log)) := Lib.hid (fun W ho => clone80 _ m.log W (b2.off ho (by simp)) (by omega))
    have HK := Lib.hid hk
    have HO1 := Lib.hid (Off.refl [] w1)
    clear hk hb b2 r2 l2 HR2 HA
    have hwk : IntKind.i64.wrap (m.log.length : Int) = (m.log.length : Int) := by rw [IntKind.wrap_i64]; omega
    have hmn : (if m.log.length < n then (m.log.length : Int) else (n : Int)) = (m.log.length : Int) := by split <;> omega
    go_wp2_with fail
    go_region_law (go_simp; go_at_call 80; refine (HC.out _ (HO1.out.drewN _)).mono ?_; rintro e w2 ⟨bo, bc, rfl, p1, p2, p3⟩)
    all_goals
      have HF := Lib.hid (fun w3 (ho3 : Off [] w2 w3) => HP.out w1 w3 HK.out (((HO1.out.drewN _).trans p2 (by simp)).trans ho3 (by simp)) bo bc (p1.off ho3 (by simp)) p3)
      clear p1 p2 p3
      go_wp2_with fail
      go_ret2
      first | exact HF.out _ (Off.refl _ _) | exact HF.out _ (Off.refl _ _).drew | exact HF.out _ ((Off.refl _ _).drewN _)
  · rw [hs] at HA
    have HP : Hid (∀ w1, DiskKeep d fp m.act w w1 → P (.returned (.tuple #[.slice none 0 0, .int .i64 1])) w1) := Lib.hid (fun w1 hk => by rw [hP]; exact ⟨hk, .inl ⟨hs, rfl⟩⟩)
    clear hP
    go_enter Tryz.func50, Tryz.ntmps50
    go_wp2_with fail
    refine HA.out.mono ?_
    rintro e w1 ⟨rfl, hk⟩
    have HF := Lib.hid (HP.out w1 hk)
    clear hk HA HP
    go_wp2_with fail
    exact HF.out
end Go.Proofs.YtfdgiblkllfpjaaGreatDoor

/- disk: what a loose write lays. -/
set_option linter.unusedVariables false
set_option linter.unusedSimpArgs false
namespace Go.Proofs.YtfdgiblkllfpjaaGreatDoor
open Go.ChangeShapes Go.WideShapes Go.ChangeAt Go.RowKit

/-- copy between byte slices, the source no longer. -/
theorem copy_bytes {w : World} {g off n cap : Nat} {ld ls : List UInt8} {a2 : Addr} {k c2 : Nat} (h : IsB w (.slice (some ⟨g, off, none⟩) n cap) ld) (h2 : IsB w (.slice (some a2) k c2) ls) (hk : ls.length ≤ ld.length) :
    (∀ ty, (Builtin.copy_ #[22, 22] ty #[.slice (some ⟨g, off, none⟩) n cap, .slice (some a2) k c2]).run Tryz.prog w = .ok (goInt k) (w.setCells g off (bytesV ls))) ∧
      IsB (w.setCells g off (bytesV ls)) (.slice (some ⟨g, off, none⟩) n cap) (ls ++ ld.drop ls.length) ∧ Off [g] w (w.setCells g off (bytesV ls)) := by
  have hn : n = ld.length := by obtain ⟨a, c, e⟩ := h.val; injection e
  have hkk : k = ls.length := by obtain ⟨a, c, e⟩ := h2.val; injection e
  subst hn; subst hkk
  have hoff : Off [g] w (w.setCells g off (bytesV ls)) := off_setCells _ _ _ (Off.refl _ _) (.inl (by simp))
  rcases h.2 with ⟨e, _⟩ | ⟨g', off', cap', cur, e, hc, hnc, hcm, hcs, ht⟩
  · simp at e
  injection e with e1 _ e3
  injection e1 with e1
  injection e1 with e1 e4 _
  subst e1; subst e4; subst e3
  have hl := bytesV_len ls
  obtain ⟨q1, q2⟩ := run_copy_blk (P := Tryz.prog) hc 22 22 1 off ld.length cap a2 ls.length c2 (bytesV ls) Tryz.underlying22 isize5 (by rw [hl, Nat.mul_one]; exact (Nat.min_eq_left hk).symm)
    (fun j v hv => by
      have hj : j < ls.length := by rw [← hl]; exact (List.getElem?_eq_some_iff.1 hv).1
      rcases h2.2 with ⟨e, _⟩ | ⟨g2, o2, c, cu, e, hr⟩
      · simp at e
      · injection e with e1 _ _
        injection e1 with e1
        subst e1
        have q := Own.cellAt h2 j (by omega)
        rw [Addr.add_lit]
        exact q.trans hv) (by rw [hl]; omega) (bytesV_one ls)
  rw [show ls.length.min ld.length = ls.length from Nat.min_eq_left hk] at q1
  refine ⟨q1, ⟨by rw [bytesV_len]; omega, .inr ⟨g, off, cap, _, ?_, q2, ?_, hcm, ?_, ?_⟩⟩, hoff⟩
  · rw [List.length_append, List.length_drop, show ls.length + (ld.length - ls.length) = ld.length by omega]
  · rw [List.length_append, List.length_drop]; omega
  · rw [List.size_toArray, length_splice _ _ _ (by simp [hl]; omega)]; simpa using hcs
  · rw [List.toList_toArray, bytesV_append]
    have hlen : (ls ++ ld.drop ls.length).length = ld.length := by rw [List.length_append, List.length_drop]; omega
    rw [hlen]
    unfold splice
    have hlt : (cur.toList.take off).length = off := by rw [List.length_take]; simp; omega
    rw [List.drop_left' hlt]
    have hbt : bytesV ld = (cur.toList.drop off).take (ld.length * 1) := ht.symm
    have hbd : bytesV (ld.drop ls.length) = ((cur.toList.drop off).take (ld.length * 1)).drop ls.length := by rw [← hbt]; simp [bytesV, List.map_drop]
    rw [hbd, hl, List.take_append, hl, List.take_of_length_le (by rw [hl]; omega), List.drop_take, List.drop_drop, Nat.mul_one]

theorem flat_apart {vs : List Value} (h : (vs.flatMap blk).Nodup) {i k : Nat} {x y : Value} (hx : vs[k]? = some x) (hy : vs[i]? = some y) (hn : i ≠ k) : ∀ z ∈ blk y, z ∉ blk x := by
  obtain ⟨hk, rfl⟩ := List.getElem?_eq_some_iff.1 hx
  obtain ⟨hi, rfl⟩ := List.getElem?_eq_some_iff.1 hy
  have e : vs = vs.take k ++ (vs[k] :: vs.drop (k + 1)) := by rw [List.getElem_cons_drop hk, List.take_append_drop]
  rw [e, List.flatMap_append, List.flatMap_cons] at h
  obtain ⟨_, h2, h3⟩ := List.nodup_append.1 h
  obtain ⟨_, _, h6⟩ := List.nodup_append.1 h2
  intro z hz hz'
  by_cases hlt : i < k
  · have hm : vs[i] ∈ vs.take k := by
      have q : (vs.take k)[i]? = some vs[i] := by rw [List.getElem?_take, if_pos hlt]; exact List.getElem?_eq_getElem hi
      exact List.mem_of_getElem? q
    exact h3 z (List.mem_flatMap.2 ⟨_, hm, hz⟩) z (List.mem_append_left _ hz') rfl
  · have hm : vs[i] ∈ vs.drop (k + 1) := by
      have q : (vs.drop (k + 1))[i - (k + 1)]? = some vs[i] := by rw [List.getElem?_drop, show k + 1 + (i - (k + 1)) = i by omega]; exact List.getElem?_eq_getElem hi
      exact List.mem_of_getElem? q
    exact h6 z hz' z (List.mem_flatMap.2 ⟨_, hm, hz⟩) rfl
/-- One place's bytes have become others. -/
theorem Ground.lay {w : World} {v : Value} {gs : List (List UInt8)} {fp : List Nat} (h : Ground w v gs fp) (k : Nat) (ld : List UInt8) (hk : gs[k]? = some ld) (hld : 0 < ld.length) :
    ∃ sg soff scap g off cap, v = .slice (some ⟨sg, soff, none⟩) gs.length scap ∧ w.cell? ⟨sg, soff + k, none⟩ = some (.slice (some ⟨g, off, none⟩) ld.length cap) ∧ IsB w (.slice (some ⟨g, off, none⟩) ld.length cap) ld ∧ g ∈ fp ∧
      ∀ (w' : World) (new : List UInt8), new.length = ld.length → IsB w' (.slice (some ⟨g, off, none⟩) ld.length cap) new → Off [g] w w' → Ground w' v (gs.set k new) fp := by
  obtain ⟨sg, soff, scap, xo, xc, hv, hc, hb, hin⟩ := h.at k ld hk
  obtain ⟨g, off, rfl⟩ := hb.base hld
  refine ⟨sg, soff, scap, g, off, xc, hv, hc, hb, hin g (by simp [blk]), fun w' new hl hn ho => ?_⟩
  obtain ⟨vs, h1, h2, h3, h4⟩ := h
  obtain ⟨x, hx, _⟩ := h2.2 k ld hk
  have hkl := (List.getElem?_eq_some_iff.1 hk).1
  have hxe : x = .slice (some ⟨g, off, none⟩) ld.length xc := by
    rcases h1.2 with ⟨e, h0⟩ | ⟨g', off', c, cur, e, hr⟩
    · omega
    · have e' := hv.symm.trans e
      injection e' with e1 _ e3
      injection e1 with e1
      injection e1 with e1 e4 _
      subst e1; subst e4; subst e3
      subst hv
      have q := Own.cellAt h1 k (by omega)
      rw [hc, hx] at q
      injection q with q; exact q.symm
  subst hxe
  rw [h3] at h4
  obtain ⟨n1, n2, n3⟩ := List.nodup_append.1 h4
  have hgs : ∀ z ∈ blk v, z ∉ [g] := fun z hz hz' => by
    simp at hz'; subst hz'
    exact n3 z hz z (List.mem_flatMap.2 ⟨_, List.mem_of_getElem? hx, by simp [blk]⟩) rfl
  refine ⟨vs, by rw [List.length_set]; exact h1.off ho hgs, ⟨by rw [List.length_set]; exact h2.1, fun i l hli => ?_⟩, h3, by rw [h3]; exact h4⟩
  by_cases hik : i = k
  · subst hik
    rw [List.getElem?_set_self hkl] at hli
    injection hli with hli
    subst hli
    exact ⟨_, hx, by exact hn⟩
  · rw [List.getElem?_set_ne (Ne.symm hik)] at hli
    obtain ⟨y, hy, hyb⟩ := h2.2 i l hli
    refine ⟨y, hy, hyb.off ho (fun z hz hz' => ?_)⟩
    simp at hz'; subst hz'
    exact flat_apart n2 hx hy hik z hz (by simp [blk])
end Go.Proofs.YtfdgiblkllfpjaaGreatDoor

/- disk: the function of a loose write. -/
set_option linter.unusedVariables false
set_option linter.unusedSimpArgs false
namespace Go.Proofs.YtfdgiblkllfpjaaGreatDoor
open Go.ChangeShapes Go.WideShapes Go.ChangeAt Go.RowKit

def laid (gs : List (List UInt8)) (k n : Nat) (l : List UInt8) : List (List UInt8) := gs.set k (l.take n ++ (gs.getD k []).drop n)
def LayPost (v : Value) (gs : List (List UInt8)) (fp : List Nat) (w : World) (e : Ending) (w' : World) : Prop := e = .returned (.tuple #[]) ∧ Ground w' v gs fp ∧ Off fp w w'
set_option maxRecDepth 100000 in
set_option maxHeartbeats 4000000 in
theorem lay259 {w : World} {v : Value} {gs : List (List UInt8)} {fp : List Nat} (h : Ground w v gs fp) (k : Nat) (ld : List UInt8) (hk : gs[k]? = some ld) (pb mb : Nat) (mv : Value) (l : List UInt8) (n : Nat)
    (hp : IsC w pb #[.int .i64 (k : Nat)] 3) (hm : IsC w mb #[mv] 22) (hb : IsB w mv l) (hn : n ≤ l.length) (hl : l.length ≤ ld.length) (h0 : 0 < l.length) (hsm : gs.length < 1000000) :
    Calls Tryz.prog 259 #[v, .int .i64 (n : Int), .pointer (some ⟨pb, 0, none⟩), .pointer (some ⟨mb, 0, none⟩)] w (LayPost v (laid gs k n l) fp w) := by
  obtain ⟨sg, soff, scap, g, off, cap, rfl, c1, hb1, hgf, hset⟩ := h.lay k ld hk (by omega)
  obtain ⟨mo, mc, rfl⟩ := hb.val
  obtain ⟨mg, moff, rfl⟩ := hb.base h0
  obtain ⟨a2, ac2, b2, hblk, l2, _, _, r2⟩ := hb.cut 0 n (by omega) hn
  simp only [List.drop_zero, Nat.sub_zero] at b2 l2 r2 hblk
  have ha2 : ∃ a, a2 = some a := by
    cases a2 with
    | none => simp [blk] at hblk
    | some a => exact ⟨a, rfl⟩
  obtain ⟨a, rfl⟩ := ha2
  have HR2 := Lib.hid (r2 trivial)
  have q2 : ∀ W, (Instr.slice 22 (.slice (some ⟨mg, moff, none⟩) l.length mc) none (some (.int .i64 (n : Int))) none).run Tryz.prog W = .ok (.slice (some a) n ac2) W := fun W => HR2.out W n rfl
  have hkl := (List.getElem?_eq_some_iff.1 hk).1
  have HCP : Hid (∀ W, Off [] w W → (∀ ty, (Builtin.copy_ #[22, 22] ty #[.slice (some ⟨g, off, none⟩) ld.length cap, .slice (some a) n ac2]).run Tryz.prog W = .ok (goInt n) (W.setCells g off (bytesV (l.take n))))) := Lib.hid (fun W ho => (copy_bytes (hb1.off ho (by simp)) (b2.off ho (by simp)) (by rw [l2]; omega)).1)
  have HF : Hid (∀ W, Off [] w W → LayPost (.slice (some ⟨sg, soff, none⟩) gs.length scap) (laid gs k n l) fp w (.returned (.tuple #[])) (W.setCells g off (bytesV (l.take n)))) := Lib.hid (fun W ho => by
    obtain ⟨_, p2, p3⟩ := copy_bytes (hb1.off ho (by simp)) (b2.off ho (by simp)) (show (l.take n).length ≤ ld.length by rw [l2]; omega)
    refine ⟨rfl, ?_, (ho.mono (by simp)).trans p3 (fun z hz => .inl (by simp at hz; rw [hz]; exact hgf))⟩
    have e : laid gs k n l = gs.set k (l.take n ++ ld.drop (l.take n).length) := by
      unfold laid; rw [l2, List.getD_eq_getElem?_getD, hk]; rfl
    rw [e]
    exact hset _ _ (by rw [List.length_append, List.length_drop, l2]; omega) p2 ((ho.mono (by simp)).trans p3 (fun z hz => .inl hz)))
  have hrp := hp.cell 0
  have hrm := hm.cell 0
  simp only [List.getElem?_toArray, List.getElem?_cons_zero] at hrp hrm
  have HO := Lib.hid (Off.refl [] w)
  obtain ⟨P, hP⟩ : ∃ P, P = LayPost (.slice (some ⟨sg, soff, none⟩) gs.length scap) (laid gs k n l) fp w := ⟨_, rfl⟩
  rw [← hP] at HF ⊢
  clear h hk hp hm hb hb1 hset b2 l2 r2 HR2 hP hl h0
  generalize ld.length = dl at *
  generalize l.length = ll at *
  generalize gs.length = gl at *
  go_enter Tryz.func259, Tryz.ntmps259
  go_wp2_with fail
  go_region_law (first | (go_simp; refine step_copy rfl _ _ 22 22 rfl _ _ rfl rfl (HCP.out _ (HO.out.drewN _)) ?_) | (refine step_copy rfl _ _ 22 22 rfl _ _ rfl rfl (HCP.out _ (HO.out.drewN _)) ?_))
  all_goals
    go_end0
    exact HF.out _ HO.out.drew
end Go.Proofs.YtfdgiblkllfpjaaGreatDoor

/- disk: New. -/
set_option linter.unusedVariables false
set_option linter.unusedSimpArgs false
namespace Go.Proofs.YtfdgiblkllfpjaaGreatDoor
open Go.ChangeShapes Go.WideShapes Go.ChangeAt Go.RowKit

theorem Ground.val {w : World} {v : Value} {gs : List (List UInt8)} {fp : List Nat} (h : Ground w v gs fp) : ∃ ao cap, v = .slice ao gs.length cap := by
  obtain ⟨vs, h1, _⟩ := h
  obtain ⟨a, c, e, _⟩ := h1.val; exact ⟨a, c, e⟩
def newDisk (s : Shp) : DiskM := ⟨s, blankG s, blankG s, [], [], 0, 0, 0, false⟩
def NewPost (s : Shp) (w : World) (e : Ending) (w' : World) : Prop :=
  ∃ d fp, e = .returned (.tuple #[.pointer (some ⟨d, 0, none⟩), .int .i64 0]) ∧ DiskR w' d (newDisk s) fp ∧ Off [] w w' ∧ ∀ z ∈ fp, w.heap.size ≤ z
theorem new_disk {s : Shp} (h : s.ok) {w w1 w2 w3 : World} {lv rv : Value} {fl fr : List Nat} (hl : Ground w1 lv (blankG s) fl) (hr : Ground w2 rv (blankG s) fr) (o1 : Off [] w w1) (o2 : Off [] w1 w2) (hf1 : ∀ z ∈ fl, w.heap.size ≤ z) (hf2 : ∀ z ∈ fr, w1.heap.size ≤ z) (o3 : Off [] (w2.alloc (.cells (headC (newDisk s) lv rv (.slice none 0 0) (.slice none 0 0)) 104)) w3) :
    NewPost s w (.returned (.tuple #[.pointer (some ⟨w2.heap.size, 0, none⟩), .int .i64 0])) w3 := by
  have oa := (Off.refl [] w2).alloc (.cells (headC (newDisk s) lv rv (.slice none 0 0) (.slice none 0 0)) 104)
  have ol := hl.lt; have or := hr.lt
  have s1 := o1.size; have s2 := o2.size
  have hn1 : fl.Nodup := by obtain ⟨_, _, _, _, q⟩ := hl; exact q
  have hn2 : fr.Nodup := by obtain ⟨_, _, _, _, q⟩ := hr; exact q
  refine ⟨w2.heap.size, w2.heap.size :: (fl ++ (fr ++ ([] ++ blk (.slice none 0 0)))), rfl, DiskR.off (S := []) ⟨lv, rv, .slice none 0 0, .slice none 0 0, fl, fr, [], IsC.new _ _ _, (hl.off o2 (by simp)).off oa (by simp), hr.off oa (by simp), ⟨[], rfl, by exact Own.nil _ _ _, by simp, by simp [blk]⟩, IsB.nil _, rfl, ?_, h, ?_, ?_⟩ o3 (by simp), ((o1.trans o2 (by simp)).trans oa (by simp)).trans o3 (by simp), ?_⟩
  · simp only [blk, List.append_nil]
    refine List.nodup_cons.2 ⟨fun hz => ?_, List.nodup_append.2 ⟨hn1, hn2, fun a ha b hb e => ?_⟩⟩
    · rcases List.mem_append.1 hz with q | q
      · have := ol _ q; omega
      · have := or _ q; omega
    · have := ol a ha; have := hf2 b hb; omega
  · exact blankG_len s
  · exact blankG_len s
  · intro z hz
    simp only [blk, List.append_nil, List.mem_cons, List.mem_append] at hz
    rcases hz with rfl | q | q
    · omega
    · exact hf1 z q
    · have := hf2 z q; omega
set_option maxRecDepth 100000 in
set_option maxHeartbeats 4000000 in
theorem new8 (s : Shp) (h : s.ok) (w : World) : Calls Tryz.prog 8 #[.agg #[.int .i64 s.pages, .int .i64 s.slots, .int .i64 s.log]] w (NewPost s w) := by
  have HB : Hid (∀ W, Calls Tryz.prog 47 #[.agg #[.int .i64 s.pages, .int .i64 s.slots, .int .i64 s.log]] W (GroundF W (blankG s))) := Lib.hid (fun W => blank47 s h W)
  have HR := Lib.hid (right46 s h (w.alloc (.cells #[.int .i64 s.pages, .int .i64 s.slots, .int .i64 s.log] 28)))
  obtain ⟨P, hP⟩ : ∃ P, P = NewPost s w := ⟨_, rfl⟩
  rw [← hP]
  have HP : Hid (∀ w0 w1 w2 w3 lv rv fl fr, Off [] w w0 → Ground w1 lv (blankG s) fl → Ground w2 rv (blankG s) fr → Off [] w0 w1 → Off [] w1 w2 → (∀ z ∈ fl, w0.heap.size ≤ z) → (∀ z ∈ fr, w1.heap.size ≤ z) → Off [] (w2.alloc (.cells (headC (newDisk s) lv rv (.slice none 0 0) (.slice none 0 0)) 104)) w3 → P (.returned (.tuple #[.pointer (some ⟨w2.heap.size, 0, none⟩), .int .i64 0])) w3) :=
    Lib.hid (fun w0 w1 w2 w3 lv rv fl fr a0 a1 a2 a3 a4 a5 a6 a7 => by rw [hP]; exact new_disk h a1 a2 (a0.trans a3 (by simp)) a4 (fun z hz => Nat.le_trans a0.size (a5 z hz)) a6 a7)
  unfold headC newDisk at HP
  simp only at HP
  have HI := Lib.hid (IsC.new w #[.int .i64 s.pages, .int .i64 s.slots, .int .i64 s.log] 28)
  clear hP h
  generalize ((s.pages : Nat) : Int) = a at *
  generalize ((s.slots : Nat) : Int) = b at *
  generalize ((s.log : Nat) : Int) = c at *
  have HOW := Lib.hid ((Off.refl [] w).alloc (.cells #[.int .i64 a, .int .i64 b, .int .i64 c] 28))
  go_enter Tryz.func8, Tryz.ntmps8
  go_wp2_with fail
  refine HR.out.mono ?_
  rintro e w1 ⟨rfl, ho⟩
  have hbr := IsC.off (S := []) HI.out ho (by simp)
  have HO1 := Lib.hid (HOW.out.trans ho (by simp))
  have k0 := hbr.cell 0
  have k1 := hbr.cell 1
  have k2 := hbr.cell 2
  simp only [List.getElem?_toArray, List.getElem?_cons_zero, List.getElem?_cons_succ] at k0 k1 k2
  have HK : Hid (∀ W, Off [] w1 W → W.cell? ⟨w.heap.size, 0, none⟩ = some (.int .i64 a) ∧ W.cell? ⟨w.heap.size, 1, none⟩ = some (.int .i64 b) ∧ W.cell? ⟨w.heap.size, 2, none⟩ = some (.int .i64 c)) := Lib.hid (fun W hW => by
    have hb := IsC.off (S := []) hbr hW (by simp)
    exact ⟨by rw [hb.cell]; rfl, by rw [hb.cell]; rfl, by rw [hb.cell]; rfl⟩)
  clear ho HR hbr HI HOW
  generalize w.heap.size = rb at *
  go_wp2_with fail
  go_region_held3 (fun W => W.cell? ⟨rb, 0, none⟩ = some (.int .i64 a) ∧ W.cell? ⟨rb, 1, none⟩ = some (.int .i64 b) ∧ W.cell? ⟨rb, 2, none⟩ = some (.int .i64 c))
    (first | exact HK.out _ (Off.refl _ _) | exact HK.out _ (Off.refl _ _).drew | exact HK.out _ (HOB.out.alloc _) | exact HK.out _ HOB.out | exact HK.out _ HOA.out | fail)
    (first
    | (go_at_call 47; refine (HB.out _).mono ?_; rintro e wb ⟨rv, fr, rfl, p1, p2, p3⟩; obtain ⟨ro, rc, rfl⟩ := p1.val; have HPB := Lib.hid (And.intro p1 (And.intro p2 p3)); have HOB : Hid (Off [] w1 wb) := Lib.hid (HOA.out.trans p2 (by simp)); clear p1 p2 p3)
    | (go_at_call 47; refine (HB.out _).mono ?_; rintro e wa ⟨lv, fl, rfl, p1, p2, p3⟩; obtain ⟨lo, lc, rfl⟩ := p1.val; have HPA := Lib.hid (And.intro p1 (And.intro p2 p3)); have HOA : Hid (Off [] w1 wa) := Lib.hid ((Off.refl [] w1).drew.trans p2 (by simp)); clear p1 p2 p3))
  have oA : Off [] w1 wa := HOA.out
  have HF := Lib.hid (fun w3 ho3 => HP.out w1 wa wb w3 _ _ fl fr HO1.out HPA.out.1 HPB.out.1 oA (by first | exact HPB.out.2.1 | exact (Off.refl [] wa).drew.trans HPB.out.2.1 (by simp)) HPA.out.2.2 HPB.out.2.2 ho3)
  clear HPA HPB HOA HOB HP HB HK k0 k1 k2 oA
  generalize (blankG s).length = bl at *
  go_wp2_with fail
  first | exact HF.out _ (Off.refl _ _) | (go_ret2; exact HF.out _ (Off.refl _ _))
end Go.Proofs.YtfdgiblkllfpjaaGreatDoor

/- disk: a loose write laid behind the others; places' sizes. -/
set_option linter.unusedVariables false
set_option linter.unusedSimpArgs false
namespace Go.Proofs.YtfdgiblkllfpjaaGreatDoor
open Go.ChangeShapes Go.WideShapes Go.ChangeAt Go.RowKit

theorem Off.cell {S : List Nat} {w w' : World} (h : Off S w w') {b o : Nat} {v : Value} (hc : w.cell? ⟨b, o, none⟩ = some v) (hb : b ∉ S) : w'.cell? ⟨b, o, none⟩ = some v := by
  have hlt : b < w.heap.size := by
    rcases Nat.lt_or_ge b w.heap.size with q | q
    · exact q
    · simp [World.cell?, Array.getElem?_eq_none q] at hc
  unfold World.cell? at hc ⊢
  rw [h.old b hlt hb]; exact hc
theorem blk_nodup' (v : Value) : (blk v).Nodup := by unfold blk; split <;> simp
/-- Every place has as many bytes as it must. -/
def DiskM.fit (m : DiskM) : Prop :=
  (∀ k, k < m.shp.pages + 3 → ∃ l, m.lasts[k]? = some l ∧ l.length = m.shp.sizeB k) ∧ (∀ k, k < m.shp.pages + 3 → ∃ l, m.reads[k]? = some l ∧ l.length = m.shp.sizeB k) ∧
    (∀ x ∈ m.loose, x.place < m.shp.pages + 3 ∧ x.bytes.length = m.shp.sizeB x.place ∧ x.master = decide (m.shp.pages < x.place))
/-- What is read has become other bytes. -/
theorem DiskR.readsAt {w : World} {d : Nat} {m : DiskM} {fp : List Nat} (h : DiskR w d m fp) :
    ∃ rv fr, w.cell? ⟨d, 4, none⟩ = some rv ∧ Ground w rv m.reads fr ∧ (∀ z ∈ fr, z ∈ fp) ∧ d ∉ fr ∧ ∀ w' gs, Ground w' rv gs fr → Off fr w w' → gs.length = m.reads.length → DiskR w' d { m with reads := gs } fp := by
  obtain ⟨lv, rv, ov, gv, fl, fr, fo, h1, h2, h3, h4, h5, rfl, h6, h7, h8, h9⟩ := h
  obtain ⟨n1, n2⟩ := List.nodup_cons.1 h6
  obtain ⟨n3, n4, n5⟩ := List.nodup_append.1 n2
  obtain ⟨n6, n7, n8⟩ := List.nodup_append.1 n4
  have hd : d ∉ fr := fun hz => n1 (by simp [hz])
  refine ⟨rv, fr, by rw [h1.cell]; rfl, h3, fun z hz => by simp [hz], hd, fun w' gs hg ho hl => ?_⟩
  refine ⟨lv, rv, ov, gv, fl, fr, fo, h1.off ho hd, h2.off ho (fun z hz hz' => n5 z hz z (by simp [hz']) rfl), hg, h4.off ho (fun z hz hz' => n8 z hz' z (by simp [hz]) rfl), h5.off ho (fun z hz hz' => n8 z hz' z (by simp [hz]) rfl), rfl, h6, h7, h8, by rw [hl]; exact h9⟩
theorem DiskR.lastsAt {w : World} {d : Nat} {m : DiskM} {fp : List Nat} (h : DiskR w d m fp) :
    ∃ lv fl, w.cell? ⟨d, 3, none⟩ = some lv ∧ Ground w lv m.lasts fl ∧ (∀ z ∈ fl, z ∈ fp) ∧ d ∉ fl ∧ ∀ w' gs, Ground w' lv gs fl → Off fl w w' → gs.length = m.lasts.length → DiskR w' d { m with lasts := gs } fp := by
  obtain ⟨lv, rv, ov, gv, fl, fr, fo, h1, h2, h3, h4, h5, rfl, h6, h7, h8, h9⟩ := h
  obtain ⟨n1, n2⟩ := List.nodup_cons.1 h6
  obtain ⟨n3, n4, n5⟩ := List.nodup_append.1 n2
  have hd : d ∉ fl := fun hz => n1 (by simp [hz])
  refine ⟨lv, fl, by rw [h1.cell]; rfl, h2, fun z hz => by simp [hz], hd, fun w' gs hg ho hl => ?_⟩
  refine ⟨lv, rv, ov, gv, fl, fr, fo, h1.off ho hd, hg, h3.off ho (fun z hz hz' => n5 z hz' z (by simp [hz]) rfl), h4.off ho (fun z hz hz' => n5 z hz' z (by simp [hz]) rfl), h5.off ho (fun z hz hz' => n5 z hz' z (by simp [hz]) rfl), rfl, h6, h7, by rw [hl]; exact h8, h9⟩
theorem DiskR.looseAt {w : World} {d : Nat} {m : DiskM} {fp : List Nat} (h : DiskR w d m fp) :
    ∃ ao cap ps, w.cell? ⟨d, 5, none⟩ = some (.slice ao m.loose.length cap) ∧ ps.length = m.loose.length ∧ Own w 150 3 (.slice ao m.loose.length cap) m.loose.length ((m.loose.zip ps).flatMap fun q => looseC q.1 q.2) ∧ (∀ q ∈ m.loose.zip ps, HeldOk w q.1 q.2) ∧
      ((∀ z ∈ blk (.slice ao m.loose.length cap) ++ ps.flatMap Held.fp, z ∈ fp ∧ z ≠ d) ∧ (blk (.slice ao m.loose.length cap) ++ ps.flatMap Held.fp).Nodup) ∧
      (∀ (w2 : World) (ao' : Option Addr) (n' cap' : Nat) (ls : List LooseW) (qs : List Held), Off (blk (.slice ao m.loose.length cap)) w w2 → n' = ls.length → qs.length = ls.length → Own w2 150 3 (.slice ao' n' cap') n' ((ls.zip qs).flatMap fun q => looseC q.1 q.2) →
        (∀ q ∈ ls.zip qs, HeldOk w2 q.1 q.2) → (blk (.slice ao' n' cap') = blk (.slice ao m.loose.length cap) ∨ blk (.slice ao' n' cap') = [] ∨ ∃ z, blk (.slice ao' n' cap') = [z] ∧ w.heap.size ≤ z) →
        (qs.flatMap Held.fp).Nodup → (∀ z ∈ qs.flatMap Held.fp, z ∈ ps.flatMap Held.fp ∨ (z ∉ fp ∧ z < w.heap.size)) →
        ∃ fp', DiskR (w2.setCell ⟨d, 5, none⟩ (.slice ao' n' cap')) d { m with loose := ls } fp' ∧ Off fp w (w2.setCell ⟨d, 5, none⟩ (.slice ao' n' cap')) ∧ ∀ z ∈ fp', z ∈ fp ∨ z ∈ qs.flatMap Held.fp ∨ w.heap.size ≤ z) := by
  have hlt := h.lt
  obtain ⟨lv, rv, ov, gv, fl, fr, fo, h1, h2, h3, ⟨ps, k1, k2, k3, rfl⟩, h5, rfl, h6, h7, h8, h9⟩ := h
  obtain ⟨ao, cap, rfl, _⟩ := k2.val
  obtain ⟨n1, n2⟩ := List.nodup_cons.1 h6
  obtain ⟨n3, n4, n5⟩ := List.nodup_append.1 n2
  obtain ⟨n6, n7, n8⟩ := List.nodup_append.1 n4
  obtain ⟨n9, n10, n11⟩ := List.nodup_append.1 n7
  obtain ⟨n12, n13, n14⟩ := List.nodup_append.1 n9
  refine ⟨ao, cap, ps, by rw [h1.cell]; rfl, k1, k2, k3, ⟨fun z hz => ⟨by simp only [List.mem_cons, List.mem_append] at hz ⊢; rcases hz with q | q <;> simp [q], fun e => n1 (by subst e; simp only [List.mem_append] at hz ⊢; rcases hz with q | q <;> simp [q])⟩, n9⟩, ?_⟩
  intro w2 ao' n' cap' ls qs ho en eq hown hheld hbl hnd hin
  subst en
  have e1 : ∀ z ∈ fl, z ∉ blk (.slice ao m.loose.length cap) := fun z hz hz' => n5 z hz z (by simp [hz']) rfl
  have e2 : ∀ z ∈ fr, z ∉ blk (.slice ao m.loose.length cap) := fun z hz hz' => n8 z hz z (by simp [hz']) rfl
  have e3 : ∀ z ∈ blk gv, z ∉ blk (.slice ao m.loose.length cap) := fun z hz hz' => n11 z (by simp [hz']) z hz rfl
  have hdg : d ∉ blk (.slice ao m.loose.length cap) := fun hx => n1 (by simp [hx])
  have hd : Off [d] w2 (w2.setCell ⟨d, 5, none⟩ (.slice ao' ls.length cap')) := (Off.refl [d] w2).setCell (.inl (by simp)) _
  have f1 : ∀ z ∈ fl, z ∉ [d] := fun z hz hz' => by simp at hz'; subst hz'; exact n1 (by simp [hz])
  have f2 : ∀ z ∈ fr, z ∉ [d] := fun z hz hz' => by simp at hz'; subst hz'; exact n1 (by simp [hz])
  have f3 : ∀ z ∈ blk gv, z ∉ [d] := fun z hz hz' => by simp at hz'; subst hz'; exact n1 (by simp [hz])
  have hnl : ∀ z ∈ blk (.slice ao' ls.length cap'), z ∈ blk (.slice ao m.loose.length cap) ∨ w.heap.size ≤ z := fun z hz => by
    rcases hbl with q | q | ⟨y, q, hy⟩ <;> rw [q] at hz
    · exact .inl hz
    · simp at hz
    · simp at hz; subst hz; exact .inr hy
  have hn : ∀ z ∈ blk (.slice ao' ls.length cap'), z ≠ d ∧ z ∉ fl ∧ z ∉ fr ∧ z ∉ ps.flatMap Held.fp ∧ z ∉ blk gv := fun z hz => by
    rcases hnl z hz with q | q
    · exact ⟨fun e => hdg (e ▸ q), fun hz' => e1 z hz' q, fun hz' => e2 z hz' q, fun hz' => n14 z q z hz' rfl, fun hz' => e3 z hz' q⟩
    · refine ⟨fun e => ?_, fun hz' => ?_, fun hz' => ?_, fun hz' => ?_, fun hz' => ?_⟩
      · have := hlt d (by simp); omega
      · have := hlt z (by simp [hz']); omega
      · have := hlt z (by simp [hz']); omega
      · have := hlt z (by simp only [List.mem_cons, List.mem_append]; exact .inr (.inr (.inr (.inl (.inr hz'))))); omega
      · have := hlt z (by simp [hz']); omega
  have hq : ∀ z ∈ qs.flatMap Held.fp, z ≠ d ∧ z ∉ fl ∧ z ∉ fr ∧ z ∉ blk (.slice ao' ls.length cap') ∧ z ∉ blk gv := fun z hz => by
    rcases hin z hz with q | ⟨q, ql⟩
    · refine ⟨fun e => n1 (by subst e; simp only [List.mem_append]; exact .inr (.inr (.inl (.inr q)))), fun hz' => n5 z hz' z (by simp only [List.mem_append]; exact .inr (.inl (.inr q))) rfl, fun hz' => n8 z hz' z (by simp only [List.mem_append]; exact .inl (.inr q)) rfl, fun hz' => (hn z hz').2.2.2.1 q, fun hz' => n11 z (by simp only [List.mem_append]; exact .inr q) z hz' rfl⟩
    · refine ⟨fun e => q (by simp [e]), fun hz' => q (by simp [hz']), fun hz' => q (by simp [hz']), fun hz' => ?_, fun hz' => q (by simp [hz'])⟩
      rcases hnl z hz' with q' | q'
      · exact q (by simp [q'])
      · omega
  refine ⟨d :: (fl ++ (fr ++ ((blk (.slice ao' ls.length cap') ++ qs.flatMap Held.fp) ++ blk gv))), ⟨lv, rv, .slice ao' ls.length cap', gv, fl, fr, _, ?_, (h2.off ho e1).off hd f1, (h3.off ho e2).off hd f2, ⟨qs, eq, hown.setCell _ _ (fun hz => (hn d hz).1 rfl), ?_, rfl⟩, (h5.off ho e3).off hd f3, rfl, ?_, h7, h8, h9⟩, ?_, ?_⟩
  · exact (h1.off ho hdg).set 5 _
  · intro q hqm
    obtain ⟨a1, a2, a3⟩ := hheld q hqm
    have hin2 : ∀ z ∈ q.2.fp, z ∉ [d] := fun z hz hz' => by
      simp at hz'
      exact (hq z (List.mem_flatMap.2 ⟨q.2, (List.of_mem_zip hqm).2, hz⟩)).1 hz'
    exact ⟨a1.off hd (hin2 _ (by simp [Held.fp])), a2.off hd (hin2 _ (by simp [Held.fp])), a3.off hd (fun z hz => hin2 z (by simp [Held.fp, hz]))⟩
  · refine List.nodup_cons.2 ⟨fun hz => ?_, List.nodup_append.2 ⟨n3, List.nodup_append.2 ⟨n6, List.nodup_append.2 ⟨List.nodup_append.2 ⟨blk_nodup' _, hnd, fun a ha b hb e => (hq b hb).2.2.2.1 (e ▸ ha)⟩, n10, fun a ha b hb e => ?_⟩, fun a ha b hb e => ?_⟩, fun a ha b hb e => ?_⟩⟩
    · simp only [List.mem_append] at hz
      rcases hz with q | q | (q | q) | q
      · exact n1 (by simp [q])
      · exact n1 (by simp [q])
      · exact (hn d q).1 rfl
      · exact (hq d q).1 rfl
      · exact n1 (by simp [q])
    · subst e
      rcases List.mem_append.1 ha with q | q
      · exact (hn a q).2.2.2.2 hb
      · exact (hq a q).2.2.2.2 hb
    · subst e
      simp only [List.mem_append] at hb
      rcases hb with (q | q) | q
      · exact (hn a q).2.2.1 ha
      · exact (hq a q).2.2.1 ha
      · exact n8 a ha a (by simp [q]) rfl
    · subst e
      simp only [List.mem_append] at hb
      rcases hb with q | (q | q) | q
      · exact n5 a ha a (by simp [q]) rfl
      · exact (hn a q).2.1 ha
      · exact (hq a q).2.1 ha
      · exact n5 a ha a (by simp [q]) rfl
  · exact (ho.mono (fun z hz => .inl (by simp [hz]))).trans hd (fun z hz => .inl (by simp at hz; simp [hz]))
  · intro z hz
    simp only [List.mem_cons, List.mem_append] at hz
    rcases hz with q | q | q | (q | q) | q
    · exact .inl (by simp [q])
    · exact .inl (by simp [q])
    · exact .inl (by simp [q])
    · rcases hnl z q with q | q
      · exact .inl (by simp [q])
      · exact .inr (.inr q)
    · exact .inr (.inl q)
    · exact .inl (by simp [q])
end Go.Proofs.YtfdgiblkllfpjaaGreatDoor
