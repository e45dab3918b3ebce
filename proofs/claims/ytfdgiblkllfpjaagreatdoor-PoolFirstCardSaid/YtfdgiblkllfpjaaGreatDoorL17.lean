/- disk: Crash of a disk on which all lasts. -/
import Derived.Test.YtfdgiblkllfpjaaGreatDoorL16
set_option linter.unusedVariables false
set_option linter.unusedSimpArgs false
namespace Go.Proofs.YtfdgiblkllfpjaaGreatDoor
open Go.ChangeShapes Go.WideShapes Go.ChangeAt Go.RowKit

theorem Ground.sl {w : World} {v : Value} {gs : List (List UInt8)} {fp : List Nat} (h : Ground w v gs fp) : ∃ a n c, v = .slice a n c := by
  obtain ⟨vs, h1, _⟩ := h
  obtain ⟨a, c, e, _⟩ := Own.val h1
  exact ⟨a, _, c, e⟩
/-- What is left of a disk on which all lasts. -/
def DiskM.left (m : DiskM) : DiskM := ⟨m.shp, m.lasts, m.lasts, [], m.log, m.log.length, 0, 0, false⟩
theorem new_diskM {m : DiskM} (h : m.shp.ok) (hlo : m.loose = []) (hll : m.lasts.length = m.shp.pages + 3) (hrl : m.reads.length = m.shp.pages + 3) {w w1 w2 w3 w4 : World} {lv rv gv : Value} {fl fr : List Nat} (hl : Ground w1 lv m.lasts fl) (hr : Ground w2 rv m.reads fr) (hg : IsB w3 gv m.log) (o1 : Off [] w w1) (o2 : Off [] w1 w2) (o3 : Off [] w2 w3) (hf1 : ∀ z ∈ fl, w.heap.size ≤ z) (hf2 : ∀ z ∈ fr, w1.heap.size ≤ z) (hf3 : ∀ z ∈ blk gv, w2.heap.size ≤ z) (o4 : Off [] (w3.alloc (.cells (headC m lv rv (.slice none 0 0) gv) 104)) w4) :
    ∃ fp, DiskR w4 w3.heap.size m fp ∧ Off [] w w4 ∧ ∀ z ∈ fp, w.heap.size ≤ z := by
  have oa := (Off.refl [] w3).alloc (.cells (headC m lv rv (.slice none 0 0) gv) 104)
  have ol := hl.lt; have or := hr.lt; have og := hg.lt
  have s1 := o1.size; have s2 := o2.size; have s3 := o3.size
  have hn1 : fl.Nodup := by obtain ⟨_, _, _, _, q⟩ := hl; exact q
  have hn2 : fr.Nodup := by obtain ⟨_, _, _, _, q⟩ := hr; exact q
  refine ⟨w3.heap.size :: (fl ++ (fr ++ ([] ++ blk gv))), DiskR.off (S := []) ⟨lv, rv, .slice none 0 0, gv, fl, fr, [], IsC.new _ _ _, ((hl.off o2 (by simp)).off o3 (by simp)).off oa (by simp), (hr.off o3 (by simp)).off oa (by simp), by rw [hlo]; exact ⟨[], rfl, by exact Own.nil _ _ _, by simp, by simp [blk]⟩, hg.off oa (by simp), rfl, ?_, h, hll, hrl⟩ o4 (by simp), (((o1.trans o2 (by simp)).trans o3 (by simp)).trans oa (by simp)).trans o4 (by simp), ?_⟩
  · simp only [List.nil_append]
    refine List.nodup_cons.2 ⟨fun hz => ?_, List.nodup_append.2 ⟨hn1, List.nodup_append.2 ⟨hn2, blk_nodup' _, fun a ha b hb e => ?_⟩, fun a ha b hb e => ?_⟩⟩
    · rcases List.mem_append.1 hz with q | q
      · have := ol _ q; omega
      · rcases List.mem_append.1 q with q | q
        · have := or _ q; omega
        · have := og _ q; omega
    · have := or a ha; have := hf3 b hb; omega
    · have := ol a ha
      rcases List.mem_append.1 hb with q | q
      · have := hf2 b q; omega
      · have := hf3 b q; omega
  · intro z hz
    simp only [List.nil_append, List.mem_cons, List.mem_append] at hz
    rcases hz with rfl | q | q | q
    · omega
    · exact hf1 z q
    · have := hf2 z q; omega
    · have := hf3 z q; omega
set_option maxRecDepth 100000 in
theorem rest79_one (n : Int) (w : World) : Calls Tryz.prog 79 #[.int .i64 n, .int .i64 1] w fun e w' => e = .returned (.int .i64 0) ∧ w = w' := by
  have h1 : n.tmod 1 = 0 := Int.tmod_one n
  have h2 : wrap64 (0 + 1) = 1 := by unfold wrap64; omega
  have h3 : (1 : Int).tmod 1 = 0 := by decide
  go_enter Tryz.func79, Tryz.ntmps79
  go_wp2_with fail
  go_ret
  refine ⟨?_, rfl⟩
  first | rfl | (simp [h1, h2, h3]) 
set_option maxRecDepth 100000 in
set_option maxHeartbeats 8000000 in
theorem crash35 {w : World} {d : Nat} {m : DiskM} {fp : List Nat} (h : DiskR w d m fp) (hfit : m.fit) (hlo : m.loose = []) (hla : m.lasted = m.log.length) (hlg : m.log.length < 1000000) (c : Int) (ko : Option Addr) (kn kc : Nat) :
    Calls Tryz.prog 35 #[.pointer (some ⟨d, 0, none⟩), .agg #[.int .i64 c, .slice ko kn kc]] w fun e w' => ∃ d' fp', e = .returned (.pointer (some ⟨d', 0, none⟩)) ∧ DiskR w' d' m.left fp' ∧ Off [] w w' ∧ ∀ z ∈ fp', w.heap.size ≤ z := by
  have hD := Lib.hid h
  obtain ⟨lv, rv, ov, gv, fl, fr, fo, h1, h2, h3, h4, h5, rfl, h6, h7, h8, h9⟩ := h
  rw [hlo] at h4
  have hsh := h7
  obtain ⟨s1, s2, s3, s4, s5, s6⟩ := h7
  obtain ⟨ovo, ovc, rfl⟩ : ∃ a c, ov = .slice a 0 c := by obtain ⟨ps, p1, p2, _⟩ := h4; obtain ⟨a, c, e, _⟩ := Own.val p2; exact ⟨a, c, e⟩
  obtain ⟨go, gc, rfl⟩ := h5.val
  obtain ⟨lg, loff, lcap, rfl⟩ : ∃ gb goff gcap, lv = .slice (some ⟨gb, goff, none⟩) m.lasts.length gcap := by
    obtain ⟨gb, goff, gcap, _, _, e, _⟩ := h2.at 0 (m.lasts[0]'(by omega)) (List.getElem?_eq_getElem (by omega))
    exact ⟨gb, goff, gcap, e⟩
  have hbl : ∀ l ∈ m.lasts, l.length < 1000000 := fun l hl => by
    obtain ⟨i, hi, rfl⟩ := List.getElem_of_mem hl
    obtain ⟨l', e1, e2⟩ := hfit.1 i (by omega)
    rw [List.getElem?_eq_getElem hi] at e1
    injection e1 with e1
    rw [e1, e2]
    unfold Shp.sizeB Shp.pageB
    split
    · omega
    · split <;> omega
  have HC1 : Hid (∀ W, Off [] w W → Calls Tryz.prog 78 #[.slice (some ⟨lg, loff, none⟩) m.lasts.length lcap] W (GroundF W m.lasts)) := Lib.hid (fun W ho => copy78 (h2.off ho (by simp)) (by omega) hbl (by omega))
  have HC2 : Hid (∀ W v fp, Ground W v m.lasts fp → Calls Tryz.prog 78 #[v] W (GroundF W m.lasts)) := Lib.hid (fun W v fp hg => copy78 hg (by omega) hbl (by omega))
  obtain ⟨a2, c2, b2, _, l2, _, _, r2⟩ := h5.cut 0 m.log.length (by omega) (Nat.le_refl _)
  simp only [Nat.sub_zero, List.drop_zero, List.take_length] at b2 r2
  have q2 : ∀ W, (Instr.slice 22 (.slice go m.log.length gc) none (some (.int .i64 (m.log.length : Nat))) none).run Tryz.prog W = .ok (.slice a2 m.log.length c2) W := fun W => r2 trivial W _ rfl
  have HC3 : Hid (∀ W, Off [] w W → Calls Tryz.prog 80 #[.slice a2 m.log.length c2] W (FreshB W m.log)) := Lib.hid (fun W ho => clone80 _ _ W (b2.off ho (by simp)) (by omega))
  have HEND : Hid (∀ w0 w1 w2 w3 w4 lv rv gv fl fr, Off [] w w0 → Ground w1 lv m.lasts fl → Ground w2 rv m.lasts fr → IsB w3 gv m.log → Off [] w0 w1 → Off [] w1 w2 → Off [] w2 w3 → (∀ z ∈ fl, w0.heap.size ≤ z) → (∀ z ∈ fr, w1.heap.size ≤ z) → (∀ z ∈ blk gv, w2.heap.size ≤ z) → Off [] (w3.alloc (.cells (headC m.left lv rv (.slice none 0 0) gv) 104)) w4 →
      ∃ d' fp', Ending.returned (.pointer (some ⟨w3.heap.size, 0, none⟩)) = .returned (.pointer (some ⟨d', 0, none⟩)) ∧ DiskR w4 d' m.left fp' ∧ Off [] w w4 ∧ ∀ z ∈ fp', w.heap.size ≤ z) := Lib.hid (fun w0 w1 w2 w3 w4 lv rv gv fl fr p0 p1 p2 p3 p4 p5 p6 p7 p8 p9 p10 => by
    obtain ⟨fp, t1, t2, t3⟩ := new_diskM (m := m.left) hsh rfl h8 h8 p1 p2 p3 p4 p5 p6 p7 p8 p9 p10
    exact ⟨_, fp, rfl, t1, p0.trans t2 (by simp), fun z hz => by have := t3 z hz; have := p0.size; omega⟩)
  have hcell := h1.cell
  have k0 := hcell 0
  have k1 := hcell 1
  have k2 := hcell 2
  have k3 := hcell 3
  have k5 := hcell 5
  have k6 := hcell 6
  have k7 := hcell 7
  simp only [headC, List.getElem?_toArray, List.getElem?_cons_zero, List.getElem?_cons_succ] at k0 k1 k2 k3 k5 k6 k7
  rw [hla] at k7
  have HK : Hid (∀ W, Off [] w W → W.cell? ⟨d, 0, none⟩ = some (.int .i64 m.shp.pages) ∧ W.cell? ⟨d, 1, none⟩ = some (.int .i64 m.shp.slots) ∧ W.cell? ⟨d, 2, none⟩ = some (.int .i64 m.shp.log) ∧ W.cell? ⟨d, 3, none⟩ = some (.slice (some ⟨lg, loff, none⟩) m.lasts.length lcap) ∧ W.cell? ⟨d, 5, none⟩ = some (.slice ovo 0 ovc) ∧ W.cell? ⟨d, 6, none⟩ = some (.slice go m.log.length gc) ∧ W.cell? ⟨d, 7, none⟩ = some (.int .i64 (m.log.length : Nat))) := Lib.hid (fun W ho =>
    ⟨ho.cell k0 (by simp), ho.cell k1 (by simp), ho.cell k2 (by simp), ho.cell k3 (by simp), ho.cell k5 (by simp), ho.cell k6 (by simp), ho.cell k7 (by simp)⟩)
  obtain ⟨P, hP⟩ : ∃ P : Ending → World → Prop, P = fun e w' => ∃ d' fp', e = .returned (.pointer (some ⟨d', 0, none⟩)) ∧ DiskR w' d' m.left fp' ∧ Off [] w w' ∧ ∀ z ∈ fp', w.heap.size ≤ z := ⟨_, rfl⟩
  rw [← hP]
  have HP := Lib.hid hP
  have HLG := Lib.hid hlg
  have hHC : Hid (headC m.left = fun lv rv ov gv => #[.int .i64 m.shp.pages, .int .i64 m.shp.slots, .int .i64 m.shp.log, lv, rv, ov, gv, .int .i64 (m.log.length : Nat), .int .i64 0, .int .i64 0, .bool false]) := Lib.hid rfl
  rw [hHC.out] at HEND
  clear hP hcell h1 h2 h3 h4 h5 h6 h8 h9 hsh hfit hlo hla hlg b2 r2 l2 hbl hHC s1 s2 s3 s4 s5 s6
  generalize m.log.length = L at *
  generalize m.lasts.length = NL at *
  generalize (m.shp.pages : Int) = sp at *
  generalize (m.shp.slots : Int) = ss at *
  generalize (m.shp.log : Int) = sl at *
  go_enter Tryz.func35, Tryz.ntmps35
  go_upto_region 1 with fail
  refine gen_world (Φ := fun V => IsC V w.heap.size #[.int .i64 c, .slice ko kn kc] 65 ∧ Off [] w V) ⟨IsC.new _ _ _, (Off.refl [] w).alloc _⟩ ?_
  rintro V ⟨v1, v2⟩
  obtain ⟨j0, j1, j2, j3, j5, j6, j7⟩ := HK.out V v2
  have HV := Lib.hid (And.intro v1 v2)
  clear v1 v2 k0 k1 k2 k3 k5 k6 k7
  go_wp2_with fail
  refine (HC1.out _ HV.out.2).mono ?_
  rintro e w1 ⟨gv1, f1, rfl, g1, g2, g3⟩
  obtain ⟨gva, gvn, gvc, rfl⟩ := g1.sl
  have HG1 := Lib.hid (And.intro g1 (And.intro (HV.out.2.trans g2 (by simp)) (And.intro (HV.out.1.off g2 (by simp)) (And.intro g3 g2))))
  obtain ⟨n0, n1, n2, n3, n5, n6, n7⟩ := HK.out w1 HG1.out.2.1
  have nb := HG1.out.2.2.1.cell 0
  simp only [List.getElem?_toArray, List.getElem?_cons_zero] at nb
  clear g1 g2 g3 j0 j1 j2 j3 j5 j6 j7 HC1
  obtain ⟨cb, hcb⟩ : ∃ cb, cb = w.heap.size := ⟨_, rfl⟩
  rw [← hcb] at nb ⊢
  have HCB := Lib.hid hcb
  clear hcb
  go_wp2_with fail
  go_loopw [20, 6, 7, 8] (fun i _ _ _ wr => i = .int .i64 0 ∧ w1 = wr) (fun _ _ _ _ _ => 0)
  case atStart => exact ⟨rfl, rfl⟩
  case round =>
    obtain ⟨rfl, rfl⟩ := hrel
    go_wp2_with fail
    have hw0 : IntKind.i64.wrap 0 = 0 := by decide
    have hw1 : IntKind.i64.wrap 1 = 1 := by decide
    have hw2 : wrap64 ((L : Int) - (L : Int)) = 0 := by rw [show (L : Int) - (L : Int) = 0 by omega]; unfold wrap64; omega
    have hw3 : wrap64 (0 + 1) = 1 := by clear hw2; unfold wrap64; omega
    have hw4 : wrap64 (L : Int) = (L : Int) := by clear hw2 hw3; have := HLG.out; unfold wrap64; omega
    go_quiet ((go_at_call 79; exact Calls.quiet_of_same ((rest79_one _ _).mono (fun e w' hh => ⟨hh.1, hh.2.symm⟩))))
    simp only [hw4]
    clear hw0 hw1 hw2 hw3 hw4
    have HOQ : Hid (Off [] w (w1.drewN nq)) := Lib.hid (HG1.out.2.1.drewN _)
    obtain ⟨W2, hW2⟩ : ∃ W2, W2 = w1.drewN nq := ⟨_, rfl⟩
    have HGQ : Hid (Ground W2 (.slice gva gvn gvc) m.lasts f1 ∧ Off [] w1 W2) := Lib.hid (by rw [hW2]; exact ⟨HG1.out.1.off ((Off.refl [] w1).drewN _) (by simp), (Off.refl [] w1).drewN _⟩)
    rw [← hW2] at HOQ ⊢
    clear hW2
    have HK2 : Hid (∀ W, Off [] w W → W.cell? ⟨d, 0, none⟩ = some (.int .i64 sp) ∧ W.cell? ⟨d, 1, none⟩ = some (.int .i64 ss) ∧ W.cell? ⟨d, 2, none⟩ = some (.int .i64 sl) ∧ W.cell? ⟨d, 6, none⟩ = some (.slice go L gc)) := Lib.hid (fun W ho => by obtain ⟨z0, z1, z2, z3, z5, z6, z7⟩ := HK.out W ho; exact ⟨z0, z1, z2, z6⟩)
    clear n0 n1 n2 n3 n5 n6 n7 nb
    go_wp2_with fail
    go_region_held3 (fun W => W.cell? ⟨d, 0, none⟩ = some (.int .i64 sp) ∧ W.cell? ⟨d, 1, none⟩ = some (.int .i64 ss) ∧ W.cell? ⟨d, 2, none⟩ = some (.int .i64 sl) ∧ W.cell? ⟨d, 6, none⟩ = some (.slice go L gc))
      ((refine HK2.out _ ?_; (repeat (first | with_reducible exact HOQ.out | with_reducible exact HOB.out | with_reducible exact HOA.out | with_reducible refine Off.alloc ?_ _ | with_reducible refine Off.drew ?_))))
      (first
      | (go_at_call 78; refine (HC2.out _ (.slice gva gvn gvc) f1 (by first | exact HGQ.out.1 | exact HGQ.out.1.off (Off.refl _ _).drew (by simp))).mono ?_; rintro e wa ⟨rv2, f2, rfl, p1, p2, p3⟩; obtain ⟨ra, rn, rc, rfl⟩ := p1.sl; have HPA := Lib.hid (And.intro p1 p3); have HQA : Hid (Off [] W2 wa) := Lib.hid (by first | exact p2 | exact (Off.refl _ _).drew.trans p2 (by simp)); have HOA : Hid (Off [] w wa) := Lib.hid (HOQ.out.trans HQA.out (by simp)); clear p1 p2 p3)
      | (go_at_call 80; refine (HC3.out _ HOA.out).mono ?_; rintro e wb ⟨bo, bc, rfl, p1, p2, p3⟩; have HPB := Lib.hid (And.intro p1 (And.intro p2 p3)); have HOB : Hid (Off [] w wb) := Lib.hid (HOA.out.trans p2 (by simp)); clear p1 p2 p3))
    have HF : Hid (P (.returned (.pointer (some ⟨wb.heap.size, 0, none⟩))) (wb.alloc (.cells #[.int .i64 sp, .int .i64 ss, .int .i64 sl, .slice gva gvn gvc, .slice ra rn rc, .slice none 0 0, .slice bo m.log.length bc, .int .i64 (L : Int), .int .i64 0, .int .i64 0, .bool false] 104))) := Lib.hid (by
      rw [HP.out]
      exact HEND.out V W2 wa wb _ _ _ _ f1 f2 HV.out.2 HGQ.out.1 HPA.out.1 HPB.out.1 (HG1.out.2.2.2.2.trans HGQ.out.2 (by simp)) HQA.out HPB.out.2.1 HG1.out.2.2.2.1 HPA.out.2 HPB.out.2.2 (Off.refl _ _))
    clear HPA HQA HPB HEND
    go_wp2_with fail
    first | exact HF.out | (go_ret; exact HF.out)
end Go.Proofs.YtfdgiblkllfpjaaGreatDoor

/- PoolLasts: what a run keeps, plainly. -/
set_option linter.unusedVariables false
set_option linter.unusedSimpArgs false
namespace Go.Proofs.YtfdgiblkllfpjaaGreatDoor
open Go.ChangeShapes Go.WideShapes Go.ChangeAt Go.RowKit

/-- A run on a disk that never stops: cur n: what page n is; ids1, ids2: what the log has on the disk, and in memory; c n: how often page n is pinned. -/
structure LastI (t : Nat → Nat) (N : Nat) (cur : Nat → List UInt8) (ids1 ids2 : List Nat) (K : Nat) (c : Nat → Nat) (dm : DiskM) (lm : LogM) (pm : PoolM) : Prop where
  live : dm.live
  desk : DeskOk dm lm K
  loose : dm.loose = []
  lasted : dm.lasted = dm.log.length
  shp : dm.shp = ⟨N, 1, 65536⟩
  log : dm.log = logB t 1 ids1
  tail : lm.tail = logB t (1 + 34 * ids1.length) ids2
  base : lm.base = 0
  disk : lm.disk = 34 * ids1.length
  bytes : lm.bytes = 34 * (ids1.length + ids2.length)
  ents : lm.ents.length = ids1.length + ids2.length
  ids : ∀ x ∈ ids1 ++ ids2, 1 ≤ x ∧ x ≤ 64
  pages : N ≤ 15
  most : 2 ≤ pm.most ∧ pm.most ≤ 14
  dead : pm.dead = false
  len : pm.held.length ≤ pm.most
  nod : (pm.held.map (·.num)).Nodup
  fr : ∀ f ∈ pm.held, f.b = cur f.num ∧ f.num < N ∧ f.pins = c f.num ∧ (f.rc = 0 → dm.reads[f.num]? = some (cur f.num) ∧ dm.lasts[f.num]? = some (cur f.num)) ∧ (0 < f.rc → 1 ≤ (pageLsn f.b).getD 0)
  out : ∀ n, n < N → pm.find n = none → dm.reads[n]? = some (cur n) ∧ dm.lasts[n]? = some (cur n) ∧ c n = 0
  page : ∀ n, n < N → (cur n).length = 40 ∧ ∃ x, pageCheck t (cur n) (n : Int) 1 = some x ∧ pageLsn (cur n) = some x ∧ x < 65538 ∧ (x < lm.fin ∨ 500000000000000000 ≤ K)
section
variable {t : Nat → Nat} {N : Nat} {cur : Nat → List UInt8} {ids1 ids2 : List Nat} {K : Nat} {c : Nat → Nat} {dm : DiskM} {lm : LogM} {pm : PoolM}
theorem LastI.fin (h : LastI t N cur ids1 ids2 K c dm lm pm) : lm.fin = 34 * (ids1.length + ids2.length) + 1 ∧ lm.bytes ≤ 65536 := by
  have h1 := h.desk.2.2.2.2.2.1
  rw [h.shp] at h1
  exact ⟨by unfold LogM.fin; rw [h.base, h.bytes]; omega, h1⟩
theorem LastI.pageK (h : LastI t N cur ids1 ids2 K c dm lm pm) {K' fin' : Nat} (hf : lm.fin ≤ fin') (hK : K ≤ K') : ∀ n, n < N → (cur n).length = 40 ∧ ∃ x, pageCheck t (cur n) (n : Int) 1 = some x ∧ pageLsn (cur n) = some x ∧ x < 65538 ∧ (x < fin' ∨ 500000000000000000 ≤ K') := fun n hn => by
  obtain ⟨p1, x, p2, p3, p4, p5⟩ := h.page n hn
  exact ⟨p1, x, p2, p3, p4, p5.imp (fun q => by omega) (fun q => by omega)⟩
theorem LastI.mono (h : LastI t N cur ids1 ids2 K c dm lm pm) {K' : Nat} (hK : K ≤ K') : LastI t N cur ids1 ids2 K' c dm lm pm :=
  { h with desk := ⟨h.desk.1, h.desk.2.1, Nat.le_trans h.desk.2.2.1 hK, h.desk.2.2.2⟩, page := h.pageK (Nat.le_refl _) hK }
theorem LastI.sized (h : LastI t N cur ids1 ids2 K c dm lm pm) : lm.bytes = lm.disk + lm.tail.length := by
  rw [h.bytes, h.disk, h.tail, logB_len]; omega
theorem LastI.pool (h : LastI t N cur ids1 ids2 K c dm lm pm) : PoolOk t dm.shp pm := by
  intro f hf
  obtain ⟨e1, e2, e3, e4, e5⟩ := h.fr f hf
  obtain ⟨p1, x, p2, p3, p4⟩ := h.page f.num e2
  have hfin := h.fin
  have hby := h.bytes
  rw [h.shp, e1]
  refine ⟨e2, p1, x, ?_, p3, by omega, fun hr => ?_⟩
  · rw [p1, slots40]; exact p2
  · have q := e5 hr
    rw [e1, p3] at q; exact q
/-- The log is flushed. -/
theorem LastI.flush (h : LastI t N cur ids1 ids2 K c dm lm pm) (lsn : Nat) : (flushM dm lm lsn).2.2 = 0 ∧ ∃ i1 i2, LastI t N cur i1 i2 (K + 2) c (flushM dm lm lsn).1 (flushM dm lm lsn).2.1 pm := by
  have hz := h.sized
  have hf := h.live.flush (lm := lm) lsn
  have hok := flushM_ok h.desk hz hf.1
  have hg := flushM_grounds h.desk hz lsn
  have hs := flushM_shp h.desk hz lsn
  have hfin := h.fin
  refine ⟨hf.1, ?_⟩
  by_cases hc : lsn ≤ lm.base + lm.disk ∨ lm.tail = []
  · have e : flushM dm lm lsn = (dm, lm, 0) := by unfold flushM; rw [if_pos hc]
    rw [e]
    exact ⟨ids1, ids2, h.mono (by omega)⟩
  · have h1 := h.live.app lm.tail
    have hlm : (flushM dm lm lsn).2.1 = lm.flushed := by rw [hf.2.2.2, if_neg hc]
    have hdm : (flushM dm lm lsn).1 = (dm.app lm.tail).syncLog := by
      unfold flushM
      rw [if_neg hc, if_neg (by rw [h.live.stops]; simp), if_neg (by rw [h1.1.stops]; simp)]
    have ha := dm.app_fields lm.tail (by rw [h.desk.2.2.2.2.1, h.shp]; have := hfin.2; simp only; omega)
    have hb := (dm.app lm.tail).syncLog_fields
    have hlog : (flushM dm lm lsn).1.log = logB t 1 (ids1 ++ ids2) := by
      rw [hdm, hb.2.2.2.2.1, ha.2.2.2.2.1, h.log, h.tail, logB_app]
    rw [hlm] at hok ⊢
    refine ⟨ids1 ++ ids2, [], hf.2.1, hok, by rw [hg.2.2]; exact h.loose, by rw [hdm, hb.2.2.2.2.2.2, hb.2.2.2.2.1], hs.trans h.shp, hlog, rfl, h.base, ?_, ?_, ?_, ?_, h.pages, h.most, h.dead, h.len, h.nod, ?_, ?_, ?_⟩
    · show lm.bytes = _; rw [h.bytes, List.length_append]
    · show lm.bytes = _; rw [h.bytes, List.length_append, List.length_nil]; omega
    · show lm.ents.length = _; rw [h.ents, List.length_append, List.length_nil]; omega
    · rw [List.append_nil]; exact h.ids
    · rw [hg.1, hg.2.1]; exact h.fr
    · rw [hg.1, hg.2.1]; exact h.out
    · exact h.pageK (Nat.le_refl _) (by omega)
/-- A dirty frame is written out. -/
theorem LastI.write (h : LastI t N cur ids1 ids2 K c dm lm pm) {f : Fr} (hf : f ∈ pm.held) (hr : 0 < f.rc) : cleanM dm lm pm f.num = (writeM dm lm pm f ((pageLsn f.b).getD 0)) ∧ (writeM dm lm pm f ((pageLsn f.b).getD 0)).2.2.2 = 0 ∧ (writeM dm lm pm f ((pageLsn f.b).getD 0)).2.2.1 = pm.set { f with rc := 0 } ∧
    ∃ i1 i2, LastI t N cur i1 i2 (K + 6) c (writeM dm lm pm f ((pageLsn f.b).getD 0)).1 (writeM dm lm pm f ((pageLsn f.b).getD 0)).2.1 (pm.set { f with rc := 0 }) := by
  have hfind := pfind_mem h.nod hf
  have hcl : cleanM dm lm pm f.num = writeM dm lm pm f ((pageLsn f.b).getD 0) := by
    unfold cleanM; rw [hfind]; simp only [hr, if_true]
  have hlive := cleanM_live (t := t) h.live (lm := lm) hfind hr
  rw [hcl] at hlive
  obtain ⟨hc0, i1, i2, hI⟩ := h.flush ((pageLsn f.b).getD 0)
  obtain ⟨e1, e2, e3, e4, e5⟩ := h.fr f hf
  obtain ⟨p1, x, p2, p3, p4⟩ := h.page f.num e2
  refine ⟨hcl, by rw [hlive], by rw [hlive], i1, i2, ?_⟩
  rw [hlive]
  simp only
  generalize hd1 : (flushM dm lm ((pageLsn f.b).getD 0)).1 = dm1 at *
  generalize hl1 : (flushM dm lm ((pageLsn f.b).getD 0)).2.1 = lm1 at *
  clear hd1 hl1 hlive hcl
  have hpb : (pairB ((pageLsn f.b).getD 0) f.num f.b).length = 16 + dm1.shp.pageB := by rw [pairB_len, hI.shp, e1, p1]; rfl
  have hbl : f.b.length = dm1.shp.pageB := by rw [hI.shp, e1, p1]; rfl
  have hnp : f.num < dm1.shp.pages := by rw [hI.shp]; exact e2
  have hp := hI.live.pair f.num f.b (pairB ((pageLsn f.b).getD 0) f.num f.b)
  have hpo := (pairS_ok hI.desk.1 hI.desk.2.1 hnp hbl hpb).2.2.2.2
  have hpm := pairS_more (m := dm1) (n := f.num) (b := f.b) (pb := pairB ((pageLsn f.b).getD 0) f.num f.b)
  have hpg := fun j hj => pairS_grounds hI.desk.1 hI.loose hnp hbl hpb j hj
  have hset : (pm.set { f with rc := 0 }).held = pm.held.map (fun y => if y.num = f.num then { f with rc := 0 } else y) := rfl
  have hnum : ((pm.set { f with rc := 0 }).held).map (·.num) = pm.held.map (·.num) := by
    rw [hset, List.map_map]
    refine List.map_congr_left (fun y hy => ?_)
    simp only [Function.comp_apply]
    split
    · rename_i q; exact q.symm
    · rfl
  have hgj : ∀ j, j < N → (dm1.lasts[j]? = some (cur j) → (pairS dm1 f.num f.b (pairB ((pageLsn f.b).getD 0) f.num f.b) 4).lasts[j]? = some (cur j)) ∧ (dm1.reads[j]? = some (cur j) → (pairS dm1 f.num f.b (pairB ((pageLsn f.b).getD 0) f.num f.b) 4).reads[j]? = some (cur j)) := fun j hj => by
    have q := hpg j (by rw [hI.shp]; exact hj)
    rw [q.1, q.2]
    by_cases e : j = f.num
    · rw [if_pos e, if_pos e, e, e1]; exact ⟨fun _ => rfl, fun _ => rfl⟩
    · rw [if_neg e, if_neg e]; exact ⟨id, id⟩
  refine ⟨hp.2.1, ⟨hpo.2.1, hpo.2.2.1, by rw [hp.2.2]; have := hI.desk.2.2.1; omega, by rw [hpm.2]; simp, by rw [hpm.1]; exact hI.desk.2.2.2.2.1, by rw [hpo.1]; exact hI.desk.2.2.2.2.2.1, hI.desk.2.2.2.2.2.2⟩, hpm.2, by rw [pairS_lasted, hpm.1]; exact hI.lasted, hpo.1.trans hI.shp, by rw [hpm.1]; exact hI.log, hI.tail, hI.base, hI.disk, hI.bytes, hI.ents, hI.ids, hI.pages, h.most, h.dead, ?_, ?_, ?_, ?_, hI.pageK (Nat.le_refl _) (by omega)⟩
  · rw [hset, List.length_map]; exact h.len
  · rw [hnum]; exact h.nod
  · intro y hy
    rw [hset] at hy
    obtain ⟨z, hz, rfl⟩ := List.mem_map.1 hy
    by_cases q : z.num = f.num
    · rw [if_pos q]
      refine ⟨e1, e2, e3, fun _ => ?_, fun hh => absurd hh (by simp)⟩
      have qq := hpg f.num (by rw [hI.shp]; exact e2)
      rw [if_pos rfl, if_pos rfl, e1] at qq
      exact ⟨by simp only; rw [e1]; exact qq.2, by simp only; rw [e1]; exact qq.1⟩
    · rw [if_neg q]
      obtain ⟨k1, k2, k3, k4, k5⟩ := hI.fr z hz
      exact ⟨k1, k2, k3, fun hh => ⟨(hgj z.num k2).2 (k4 hh).1, (hgj z.num k2).1 (k4 hh).2⟩, k5⟩
  · intro n hn hnone
    have hno : pm.find n = none := pfind_none.2 (fun y hy e => by
      have : n ∈ ((pm.set { f with rc := 0 }).held).map (·.num) := by rw [hnum]; exact List.mem_map.2 ⟨y, hy, e⟩
      obtain ⟨y', y1, y2⟩ := List.mem_map.1 this
      exact pfind_none.1 hnone y' y1 y2)
    obtain ⟨o1, o2, o3⟩ := hI.out n hn hno
    exact ⟨(hgj n hn).2 o1, (hgj n hn).1 o2, o3⟩
/-- A frame's pins are turned. -/
theorem LastI.setP (h : LastI t N cur ids1 ids2 K c dm lm pm) {a : Nat} {f : Fr} (hf : pm.find a = some f) (x : Nat) : LastI t N cur ids1 ids2 K (fun n => if n = a then x else c n) dm lm (pm.set { f with pins := x }) := by
  obtain ⟨f1, f2⟩ := pfind_some hf
  have hset : (pm.set { f with pins := x }).held = pm.held.map (fun y => if y.num = f.num then { f with pins := x } else y) := rfl
  have hnum : ((pm.set { f with pins := x }).held).map (·.num) = pm.held.map (·.num) := by
    rw [hset, List.map_map]
    refine List.map_congr_left (fun y hy => ?_)
    simp only [Function.comp_apply]
    split
    · rename_i q; exact q.symm
    · rfl
  refine { h with len := ?_, nod := ?_, fr := ?_, out := ?_ }
  · rw [hset, List.length_map]; exact h.len
  · rw [hnum]; exact h.nod
  · intro y hy
    rw [hset] at hy
    obtain ⟨z, hz, rfl⟩ := List.mem_map.1 hy
    by_cases q : z.num = f.num
    · rw [if_pos q]
      obtain ⟨k1, k2, k3, k4, k5⟩ := h.fr f f1
      exact ⟨k1, k2, by simp only; rw [if_pos f2], k4, k5⟩
    · rw [if_neg q]
      obtain ⟨k1, k2, k3, k4, k5⟩ := h.fr z hz
      exact ⟨k1, k2, by rw [if_neg (by rw [← f2]; exact q)]; exact k3, k4, k5⟩
  · intro n hn hnone
    have hno : pm.find n = none := pfind_none.2 (fun y hy e => by
      have : n ∈ ((pm.set { f with pins := x }).held).map (·.num) := by rw [hnum]; exact List.mem_map.2 ⟨y, hy, e⟩
      obtain ⟨y', y1, y2⟩ := List.mem_map.1 this
      exact pfind_none.1 hnone y' y1 y2)
    obtain ⟨o1, o2, o3⟩ := h.out n hn hno
    exact ⟨o1, o2, by rw [if_neg (fun e => by rw [e, hf] at hno; cases hno)]; exact o3⟩
theorem LastI.act (h : LastI t N cur ids1 ids2 K c dm lm pm) : LastI t N cur ids1 ids2 (K + 1) c dm.act lm pm := by
  have ha := dm.act_fields
  have hl := h.live.act
  obtain ⟨d1, d2, d3, d4, d5, d6, d7⟩ := h.desk
  refine { h with page := h.pageK (Nat.le_refl _) (by omega), live := hl.1, desk := ⟨DiskM.act_fit d1, ?_, by rw [hl.2]; omega, by rw [ha.2.2.2.1]; exact d4, by rw [ha.2.2.2.2.1]; exact d5, by rw [ha.1]; exact d6, d7⟩, loose := by rw [ha.2.2.2.1]; exact h.loose, lasted := by rw [ha.2.2.2.2.2.1, ha.2.2.2.2.1]; exact h.lasted, shp := ha.1.trans h.shp, log := ha.2.2.2.2.1.trans h.log, fr := ?_, out := ?_ }
  · intro x hx; rw [ha.2.2.2.1] at hx; exact d2 x hx
  · rw [ha.2.1, ha.2.2.1]; exact h.fr
  · rw [ha.2.1, ha.2.2.1]; exact h.out
/-- A page comes in. -/
theorem LastI.addP (h : LastI t N cur ids1 ids2 K c dm lm pm) {a : Nat} (ha : a < N) (hf : pm.find a = none) (hr : pm.held.length < pm.most) : LastI t N cur ids1 ids2 K (bump c a) dm lm (pm.add ⟨a, cur a, 1, 0⟩) := by
  obtain ⟨o1, o2, o3⟩ := h.out a ha hf
  have hnn := pfind_none.1 hf
  refine { h with most := h.most, dead := h.dead, len := ?_, nod := ?_, fr := ?_, out := ?_ }
  · show (pm.held ++ [(⟨a, cur a, 1, 0⟩ : Fr)]).length ≤ pm.most
    rw [List.length_append]; simp only [List.length_cons, List.length_nil]; omega
  · show ((pm.held ++ [(⟨a, cur a, 1, 0⟩ : Fr)]).map (·.num)).Nodup
    rw [List.map_append]
    refine List.nodup_append.2 ⟨h.nod, by simp, fun x hx y hy e => ?_⟩
    obtain ⟨f, f1, f2⟩ := List.mem_map.1 hx
    simp at hy
    exact hnn f f1 (by rw [f2, e, hy])
  · intro f hf'
    rcases List.mem_append.1 hf' with q | q
    · obtain ⟨k1, k2, k3, k4⟩ := h.fr f q
      exact ⟨k1, k2, by unfold bump; rw [if_neg (hnn f q)]; exact k3, k4⟩
    · simp at q; subst q
      exact ⟨rfl, ha, by unfold bump; rw [if_pos rfl, o3], fun _ => ⟨o1, o2⟩, fun hh => absurd hh (by simp)⟩
  · intro n hn hnone
    have hna : n ≠ a := fun e => pfind_none.1 hnone ⟨a, cur a, 1, 0⟩ (List.mem_append.2 (.inr (by simp))) e.symm
    obtain ⟨q1, q2, q3⟩ := h.out n hn (pfind_none.2 (fun y hy => pfind_none.1 hnone y (List.mem_append.2 (.inl hy))))
    exact ⟨q1, q2, by unfold bump; rw [if_neg hna]; exact q3⟩
/-- A clean frame that is not pinned goes. -/
theorem LastI.delP (h : LastI t N cur ids1 ids2 K c dm lm pm) {v : Nat} {f : Fr} (hf : pm.find v = some f) (h0 : c v = 0) (hrc : f.rc = 0) : LastI t N cur ids1 ids2 K c dm lm (pm.del v) ∧ (pm.del v).held.length < pm.most := by
  obtain ⟨f1, f2⟩ := pfind_some hf
  have hsub : (pm.del v).held.Sublist pm.held := List.filter_sublist
  have hlt : (pm.del v).held.length < pm.held.length := by
    refine Nat.lt_of_le_of_ne hsub.length_le (fun e => ?_)
    have := hsub.eq_of_length e
    rw [← this] at f1
    have q := (List.mem_filter.1 f1).2
    simp [f2] at q
  have hl := h.len
  refine ⟨{ h with most := h.most, dead := h.dead, len := by show (pm.del v).held.length ≤ pm.most; omega, nod := h.nod.sublist (hsub.map _), fr := fun f hf => h.fr f (hsub.subset hf), out := ?_ }, by omega⟩
  intro n hn hnone
  by_cases e : n = v
  · obtain ⟨k1, k2, k3, k4, k5⟩ := h.fr f f1
    have := k4 hrc
    rw [f2, ← e] at this
    exact ⟨this.1, this.2, by rw [e]; exact h0⟩
  · refine h.out n hn (pfind_none.2 (fun y hy e2 => pfind_none.1 hnone y (List.mem_filter.2 ⟨hy, ?_⟩) e2))
    have : y.num ≠ v := fun e3 => e (by rw [← e2, e3])
    simpa using this
theorem LastI.congr (h : LastI t N cur ids1 ids2 K c dm lm pm) {c' : Nat → Nat} (hc : ∀ n, n < N → c n = c' n) : LastI t N cur ids1 ids2 K c' dm lm pm :=
  { h with fr := fun f hf => by obtain ⟨k1, k2, k3, k4⟩ := h.fr f hf; exact ⟨k1, k2, by rw [k3, hc _ k2], k4⟩, out := fun n hn hnone => by obtain ⟨k1, k2, k3⟩ := h.out n hn hnone; exact ⟨k1, k2, by rw [← hc n hn]; exact k3⟩ }
end
end Go.Proofs.YtfdgiblkllfpjaaGreatDoor

/- PoolLasts: what a run keeps, plainly: Append, Change, Clean, CleanAll. -/
set_option linter.unusedVariables false
set_option linter.unusedSimpArgs false
namespace Go.Proofs.YtfdgiblkllfpjaaGreatDoor
open Go.ChangeShapes Go.WideShapes Go.ChangeAt Go.RowKit

section
variable {t : Nat → Nat} {N : Nat} {cur : Nat → List UInt8} {ids1 ids2 : List Nat} {K : Nat} {c : Nat → Nat} {dm : DiskM} {lm : LogM} {pm : PoolM}
theorem LastI.append (h : LastI t N cur ids1 ids2 K c dm lm pm) {x : Nat} (h1 : 1 ≤ x) (h2 : x ≤ 64) (hr : lm.bytes + 34 ≤ 65536) : LastI t N cur ids1 (ids2 ++ [x]) K c dm (lm.begin t x) pm ∧ (lm.begin t x).fin = lm.fin + 34 := by
  have hf := h.fin
  have hfl : (frameB t lm.fin (beginB x)).length = 34 := by rw [frameB_len, beginB_len]
  have hb : (lm.begin t x).bytes = lm.bytes + 34 := by show lm.bytes + (frameB t lm.fin (beginB x)).length = _; rw [hfl]
  have hfin : (lm.begin t x).fin = lm.fin + 34 := by unfold LogM.fin; rw [hb]; show lm.base + _ + 1 = _; omega
  obtain ⟨d1, d2, d3, d4, d5, d6, d7⟩ := h.desk
  refine ⟨{ h with desk := ⟨d1, d2, d3, d4, d5, by rw [hb, h.shp]; exact hr, d7⟩, tail := ?_, bytes := ?_, ents := ?_, ids := ?_, page := ?_ }, hfin⟩
  · show lm.tail ++ frameB t lm.fin (beginB x) = _
    rw [logB_app, h.tail, hf.1]
    rw [show logB t (1 + 34 * ids1.length + 34 * ids2.length) [x] = frameB t (1 + 34 * ids1.length + 34 * ids2.length) (beginB x) ++ [] from rfl, List.append_nil]
    rw [show 34 * (ids1.length + ids2.length) + 1 = 1 + 34 * ids1.length + 34 * ids2.length by omega]
  · rw [hb, h.bytes, List.length_append]; simp only [List.length_cons, List.length_nil]; omega
  · show (lm.ents ++ [(lm.fin, beginB x)]).length = _
    rw [List.length_append, h.ents, List.length_append]; simp only [List.length_cons, List.length_nil]; omega
  · intro y hy
    rw [← List.append_assoc] at hy
    rcases List.mem_append.1 hy with e | e
    · exact h.ids y e
    · simp at e; subst e; exact ⟨h1, h2⟩
  · intro n hn
    obtain ⟨p1, y, p2, p3, p4⟩ := h.page n hn
    exact ⟨p1, y, p2, p3, by rw [hfin]; omega⟩
/-- A pinned page gets other bytes. -/
theorem LastI.change {w : World} (ht : Tbl t w) (h : LastI t N cur ids1 ids2 K c dm lm pm) {a : Nat} {f : Fr} (hf : pm.find a = some f) {b : List UInt8} (hb : b.length = 40) {lsn : Nat} (h1 : 1 ≤ lsn) (h2 : lsn < lm.fin) :
    LastI t N (fun n => if n = a then stampB t b a lsn else cur n) ids1 ids2 K c dm lm (pm.set { f with b := stampB t b a lsn, rc := if f.rc = 0 then lsn else f.rc }) := by
  obtain ⟨f1, f2⟩ := pfind_some hf
  obtain ⟨e1, e2, e3, e4, e5⟩ := h.fr f f1
  have hfin := h.fin
  have hby := h.bytes
  have hpg := h.pages
  have hset : (pm.set { f with b := stampB t b a lsn, rc := if f.rc = 0 then lsn else f.rc }).held = pm.held.map (fun y => if y.num = f.num then { f with b := stampB t b a lsn, rc := if f.rc = 0 then lsn else f.rc } else y) := rfl
  have hnum : ((pm.set { f with b := stampB t b a lsn, rc := if f.rc = 0 then lsn else f.rc }).held).map (·.num) = pm.held.map (·.num) := by
    rw [hset, List.map_map]
    refine List.map_congr_left (fun y hy => ?_)
    simp only [Function.comp_apply]
    split
    · rename_i q; exact q.symm
    · rfl
  have hlsn : pageLsn (stampB t b a lsn) = some lsn := pageLsn_stamp (by rw [hb, slots40]; omega) (by omega)
  refine { h with most := h.most, dead := h.dead, len := ?_, nod := ?_, fr := ?_, out := ?_, page := ?_ }
  · rw [hset, List.length_map]; exact h.len
  · rw [hnum]; exact h.nod
  · intro y hy
    rw [hset] at hy
    obtain ⟨z, hz, rfl⟩ := List.mem_map.1 hy
    by_cases q : z.num = f.num
    · rw [if_pos q]
      refine ⟨by simp only; rw [if_pos f2], e2, e3, fun hh => absurd hh ?_, fun _ => ?_⟩
      · simp only; split <;> omega
      · simp only; rw [hlsn]; exact h1
    · rw [if_neg q]
      obtain ⟨k1, k2, k3, k4, k5⟩ := h.fr z hz
      have hz2 : z.num ≠ a := by rw [← f2]; exact q
      exact ⟨by rw [if_neg hz2]; exact k1, k2, k3, by rw [if_neg hz2]; exact k4, k5⟩
  · intro n hn hnone
    have hno : pm.find n = none := pfind_none.2 (fun y hy e => by
      have : n ∈ ((pm.set { f with b := stampB t b a lsn, rc := if f.rc = 0 then lsn else f.rc }).held).map (·.num) := by rw [hnum]; exact List.mem_map.2 ⟨y, hy, e⟩
      obtain ⟨y', y1, y2⟩ := List.mem_map.1 this
      exact pfind_none.1 hnone y' y1 y2)
    have hna : n ≠ a := fun e => by rw [e, hf] at hno; cases hno
    rw [if_neg hna]
    exact h.out n hn hno
  · intro n hn
    by_cases q : n = a
    · rw [if_pos q, q]
      refine ⟨by rw [stampB_len _ _ _ _ (by omega), hb], lsn, check_stamp ht (by rw [hb, slots40]; omega) (by omega) (by rw [← f2]; omega) (by rw [hb]; rfl), hlsn, (by omega), .inl h2⟩
    · rw [if_neg q]
      exact h.page n hn
theorem LastI.clean (h : LastI t N cur ids1 ids2 K c dm lm pm) (n : Nat) : (cleanM dm lm pm n).2.2.2 = 0 ∧ ∃ i1 i2, LastI t N cur i1 i2 (K + 6) c (cleanM dm lm pm n).1 (cleanM dm lm pm n).2.1 (cleanM dm lm pm n).2.2.1 ∧ ∀ f ∈ (cleanM dm lm pm n).2.2.1.held, 0 < f.rc → f ∈ pm.held ∧ f.num ≠ n := by
  cases hf : pm.find n with
  | none =>
    have e : cleanM dm lm pm n = (dm, lm, pm, 0) := by unfold cleanM; rw [hf]
    rw [e]
    exact ⟨rfl, ids1, ids2, h.mono (by omega), fun f hf' _ => ⟨hf', pfind_none.1 hf f hf'⟩⟩
  | some f =>
    obtain ⟨f1, f2⟩ := pfind_some hf
    by_cases hr : 0 < f.rc
    · obtain ⟨w1, w2, w3, i1, i2, w4⟩ := h.write f1 hr
      rw [f2] at w1
      rw [w1, w3]
      refine ⟨w2, i1, i2, w4, fun y hy hy0 => ?_⟩
      obtain ⟨z, hz, e⟩ := List.mem_map.1 (show y ∈ pm.held.map (fun y => if y.num = f.num then { f with rc := 0 } else y) from hy)
      by_cases q : z.num = f.num
      · rw [if_pos q] at e; subst e; exact absurd hy0 (by simp)
      · rw [if_neg q] at e; subst e; exact ⟨hz, by rw [← f2]; exact q⟩
    · have e : cleanM dm lm pm n = (dm, lm, pm, 0) := by unfold cleanM; rw [hf]; simp only [hr, if_false]
      rw [e]
      refine ⟨rfl, ids1, ids2, h.mono (by omega), fun y hy hy0 => ⟨hy, fun e2 => ?_⟩⟩
      have h1 := pfind_mem h.nod hy
      rw [e2, hf] at h1
      injection h1 with h1
      rw [h1] at hr; exact hr hy0
theorem LastI.cleanAll : ∀ (ns : List Nat) {ids1 ids2 : List Nat} {K : Nat} {dm : DiskM} {lm : LogM} {pm : PoolM} (h : LastI t N cur ids1 ids2 K c dm lm pm), (cleanAllM ns dm lm pm).2.2.2 = 0 ∧ ∃ i1 i2, LastI t N cur i1 i2 (K + 6 * ns.length) c (cleanAllM ns dm lm pm).1 (cleanAllM ns dm lm pm).2.1 (cleanAllM ns dm lm pm).2.2.1 ∧ ∀ f ∈ (cleanAllM ns dm lm pm).2.2.1.held, 0 < f.rc → f ∈ pm.held ∧ f.num ∉ ns
  | [], ids1, ids2, K, dm, lm, pm, h => ⟨rfl, ids1, ids2, h.mono (by simp), fun f hf _ => ⟨hf, by simp⟩⟩
  | n :: ns, ids1, ids2, K, dm, lm, pm, h => by
    obtain ⟨h1, i1, i2, h2, h3⟩ := h.clean n
    have e : cleanAllM (n :: ns) dm lm pm = cleanAllM ns (cleanM dm lm pm n).1 (cleanM dm lm pm n).2.1 (cleanM dm lm pm n).2.2.1 := by
      show (if (cleanM dm lm pm n).2.2.2 = 0 then _ else _) = _
      rw [if_pos h1]
    rw [e]
    obtain ⟨k1, j1, j2, k2, k3⟩ := LastI.cleanAll ns h2
    refine ⟨k1, j1, j2, k2.mono (by simp only [List.length_cons]; omega), fun f hf hr => ?_⟩
    obtain ⟨q1, q2⟩ := k3 f hf hr
    obtain ⟨q3, q4⟩ := h3 f q1 hr
    exact ⟨q3, by simp only [List.mem_cons, not_or]; exact ⟨q4, q2⟩⟩
/-- Behind CleanAll nothing is dirty. -/
theorem LastI.none_dirty (h : LastI t N cur ids1 ids2 K c dm lm pm) : ∀ f ∈ (cleanAllM pm.dirtyN dm lm pm).2.2.1.held, f.rc = 0 := by
  obtain ⟨_, i1, i2, _, h3⟩ := LastI.cleanAll pm.dirtyN h
  intro f hf
  rcases Nat.eq_zero_or_pos f.rc with q | q
  · exact q
  · obtain ⟨q1, q2⟩ := h3 f hf q
    refine absurd ?_ q2
    unfold PoolM.dirtyN PoolM.pick
    refine List.mem_map.2 ⟨(f.num : Int), (srtI_perm _).mem_iff.2 (List.mem_map.2 ⟨f, List.mem_filter.2 ⟨q1, ?_⟩, rfl⟩), by simp⟩
    unfold dirty; simpa using q
theorem dirtyN_len : pm.dirtyN.length ≤ pm.held.length := by
  unfold PoolM.dirtyN PoolM.pick numsI
  rw [List.length_map, srtI_len, List.length_map]
  exact List.length_filter_le _ _
end
end Go.Proofs.YtfdgiblkllfpjaaGreatDoor

/- PoolLasts: a run over the heap: Pin, Unpin, Look. -/
set_option linter.unusedVariables false
set_option linter.unusedSimpArgs false
namespace Go.Proofs.YtfdgiblkllfpjaaGreatDoor
open Go.ChangeShapes Go.WideShapes Go.ChangeAt Go.RowKit

/-- The whole, with what it keeps. -/
def LW (w0 : World) (d g p : Nat) (t : Nat → Nat) (N : Nat) (cur : Nat → List UInt8) (K : Nat) (c : Nat → Nat) (F : Fp3) (w : World) : Prop := ∃ dm lm pm i1 i2, Since w0 d g p dm lm pm F w ∧ LastI t N cur i1 i2 K c dm lm pm
def LStep (w0 : World) (d g p : Nat) (t : Nat → Nat) (N : Nat) (cur : Nat → List UInt8) (K : Nat) (c : Nat → Nat) (F : Fp3) (w w' : World) : Prop := ∃ F', LW w0 d g p t N cur K c F' w' ∧ Acc3 F w F' w'
section
variable {t : Nat → Nat} {w0 w w' : World} {d g p N : Nat} {cur : Nat → List UInt8} {K : Nat} {c c' : Nat → Nat} {F : Fp3}
theorem LW.mono (h : LW w0 d g p t N cur K c F w) {K' : Nat} (hK : K ≤ K') (hc : ∀ n, n < N → c n = c' n) : LW w0 d g p t N cur K' c' F w := by
  obtain ⟨dm, lm, pm, i1, i2, h1, h2⟩ := h
  exact ⟨dm, lm, pm, i1, i2, h1, (h2.mono hK).congr hc⟩
theorem LW.quiet (h : LW w0 d g p t N cur K c F w) (ho : Off [] w w') : LW w0 d g p t N cur K c F w' := by
  obtain ⟨dm, lm, pm, i1, i2, h1, h2⟩ := h
  exact ⟨dm, lm, pm, i1, i2, h1.quiet ho, h2⟩
theorem LW.write {S : List Nat} (h : LW w0 d g p t N cur K c F w) (ho : Off S w w') (hS : ∀ z ∈ S, w0.heap.size ≤ z ∧ z ∉ F.d ++ F.l ++ F.p) : LW w0 d g p t N cur K c F w' := by
  obtain ⟨dm, lm, pm, i1, i2, h1, h2⟩ := h
  exact ⟨dm, lm, pm, i1, i2, h1.write ho hS, h2⟩
theorem LW.since (h : LW w0 d g p t N cur K c F w) : Off [] w0 w ∧ (∀ z ∈ F.d ++ F.l ++ F.p, w0.heap.size ≤ z ∧ z < w.heap.size) := by
  obtain ⟨dm, lm, pm, i1, i2, h1, h2⟩ := h
  exact ⟨h1.2.2, fun z hz => ⟨h1.2.1 z hz, h1.1.lt z hz⟩⟩
def LPinPost (w0 : World) (d g p : Nat) (t : Nat → Nat) (N : Nat) (cur : Nat → List UInt8) (K : Nat) (c : Nat → Nat) (a : Nat) (F : Fp3) (w : World) (e : Ending) (w' : World) : Prop :=
  ∃ F' ao cap, e = .returned (.tuple #[.slice ao 40 cap, .int .i64 0]) ∧ LW w0 d g p t N cur K c F' w' ∧ Acc3 F w F' w' ∧ IsB w' (.slice ao 40 cap) (cur a) ∧ ∀ z ∈ blk (.slice ao 40 cap), w.heap.size ≤ z ∧ z ∉ F'.d ++ F'.l ++ F'.p
theorem LW.pin (ht : Tbl t w0) (h : LW w0 d g p t N cur K c F w) (hc0 : ∀ n, n < N → c n = 0) (hK : K < 1000000000000000000) (a : Nat) (ha : a < N) (pick : Int) :
    Calls Tryz.prog 16 #[.pointer (some ⟨p, 0, none⟩), .int .i64 (a : Int), .int .i64 pick] w (LPinPost w0 d g p t N cur (K + 7) (bump c a) a F w) := by
  obtain ⟨dm, lm, pm, i1, i2, hs, hI⟩ := h
  obtain ⟨hT, z1, z2, z3⟩ := hs.zero ht
  have hn : a < dm.shp.pages := by rw [hI.shp]; exact ha
  have hpg := hI.pages
  have hac := hI.desk.2.2.1
  obtain ⟨p1, x, p2, p3, p4⟩ := hI.page a ha
  have hck : pageCheck t (cur a) (a : Int) (dm.shp.slots : Nat) = some x := by rw [hI.shp]; exact p2
  cases hf : pm.find a with
  | some f =>
    obtain ⟨f1, f2⟩ := pfind_some hf
    obtain ⟨e1, e2, e3, e4⟩ := hI.fr f f1
    have hfb : f.b = cur a := by rw [e1, f2]
    refine (pin16_held hs.1 hI.dead a hn f hf (by rw [hfb, p1]; omega) (by rw [e3, f2, hc0 a ha]; omega) pick).mono ?_
    rintro e w' ⟨F1, ao, cap, rfl, hW, hA1, hb, hfr⟩
    rw [hfb, p1] at hb hfr ⊢
    refine ⟨F1, ao, cap, rfl, ⟨dm, lm, _, i1, i2, hs.step hW hA1, ((hI.setP hf _).mono (by omega)).congr (fun n hn => ?_)⟩, hA1, hb, hfr⟩
    unfold bump
    by_cases q : n = a
    · rw [if_pos q, if_pos q, e3, f2, q]
    · rw [if_neg q, if_neg q]
  | none =>
    obtain ⟨o1, o2, o3⟩ := hI.out a ha hf
    by_cases hr : pm.held.length < pm.most
    · refine (pin16_room hT hs.1 z1 hI.dead (by omega) hI.desk.1 a hn hf hr (cur a) o1 x hck hI.live.stops pick).mono ?_
      rintro e w' ⟨F1, ao, cap, rfl, hW, hA1, hb, hfr⟩
      rw [p1] at hb hfr ⊢
      exact ⟨F1, ao, cap, rfl, ⟨_, lm, _, i1, i2, hs.step hW hA1, (hI.act.addP ha hf hr).mono (by omega)⟩, hA1, hb, hfr⟩
    · have hful : pm.held.length = pm.most := by have := hI.len; omega
      have hallidle : pm.held.filter idle = pm.held := List.filter_eq_self.2 (fun f hf' => by obtain ⟨_, k2, k3, _⟩ := hI.fr f hf'; unfold idle; rw [k3, hc0 _ k2]; rfl)
      have hlen : (pm.pick idle).length = pm.held.length := by unfold PoolM.pick numsI; rw [srtI_len, List.length_map, hallidle]
      have hil : 0 < (pm.pick idle).length := by have := hI.most.1; omega
      obtain ⟨j, hj⟩ : ∃ j : Nat, (pick.tmod ((pm.pick idle).length : Nat) + ((pm.pick idle).length : Nat)).tmod ((pm.pick idle).length : Nat) = (j : Int) ∧ j < (pm.pick idle).length := by
        have x1 := Int.lt_tmod_of_pos pick (show (0 : Int) < ((pm.pick idle).length : Nat) by omega)
        have x2 := Int.tmod_nonneg ((pm.pick idle).length : Nat) (show (0 : Int) ≤ pick.tmod ((pm.pick idle).length : Nat) + ((pm.pick idle).length : Nat) by omega)
        have x3 := Int.tmod_lt_of_pos (pick.tmod ((pm.pick idle).length : Nat) + ((pm.pick idle).length : Nat)) (show (0 : Int) < ((pm.pick idle).length : Nat) by omega)
        exact ⟨((pick.tmod ((pm.pick idle).length : Nat) + ((pm.pick idle).length : Nat)).tmod ((pm.pick idle).length : Nat)).toNat, by omega, by omega⟩
      have hx := List.getElem?_eq_getElem hj.2
      obtain ⟨fv, v1, v2, v3⟩ := pfr_mem (List.mem_of_getElem? hx)
      rw [v3] at hx
      obtain ⟨k1, k2, k3, k4, k5⟩ := hI.fr fv v1
      have hv0 : c fv.num = 0 := hc0 _ k2
      have hfv := pfind_mem hI.nod v1
      by_cases hrc : fv.rc = 0
      · refine (pin16_evict hT hs.1 z1 hI.dead (by omega) hI.desk.1 a hn pick hf hful (by have := hI.most; omega) hj.1 hx hfv hrc (cur a) o1 x hck hI.live.stops).mono ?_
        rintro e w' ⟨F1, ao, cap, rfl, hW, hA1, hb, hfr⟩
        rw [p1] at hb hfr ⊢
        obtain ⟨y1, y2⟩ := hI.act.delP hfv hv0 hrc
        exact ⟨F1, ao, cap, rfl, ⟨_, lm, _, i1, i2, hs.step hW hA1, (y1.addP ha (del_none hf) y2).mono (by omega)⟩, hA1, hb, hfr⟩
      · have hr0 : 0 < fv.rc := by omega
        have hIa := hI.act
        obtain ⟨w1, w2, w3, j1, j2, w4⟩ := hIa.write v1 hr0
        have hpage := hIa.pool.page v1 hr0
        refine (pin16_dirty hT hs.1 z1 z2 hI.dead (by omega) hI.desk.1 a hn pick hf hful (by have := hI.most; omega) hj.1 hx hfv hr0 (k := K + 1) (by omega) hIa.desk hpage w2 (cur a) o1 x hck hI.live.stops).mono ?_
        rintro e w' ⟨F1, ao, cap, rfl, hW, hA1, hb, hfr⟩
        rw [p1] at hb hfr ⊢
        have hset := set_find (f' := { fv with rc := 0 }) hfv rfl
        obtain ⟨y1, y2⟩ := w4.delP hset hv0 rfl
        refine ⟨F1, ao, cap, rfl, ⟨_, _, _, j1, j2, hs.step hW hA1, (y1.addP ha (del_none ?_) y2).mono (by omega)⟩, hA1, hb, hfr⟩
        refine pfind_none.2 (fun y hy e => ?_)
        obtain ⟨z, hz, e2⟩ := List.mem_map.1 (show y ∈ pm.held.map (fun y => if y.num = fv.num then { fv with rc := 0 } else y) from hy)
        by_cases q : z.num = fv.num
        · rw [if_pos q] at e2; subst e2
          exact pfind_none.1 hf z hz (by rw [q]; exact e)
        · rw [if_neg q] at e2; subst e2
          exact pfind_none.1 hf z hz e
theorem LW.unpin (h : LW w0 d g p t N cur K c F w) (a : Nat) (ha : a < N) (hp : 0 < c a) :
    Calls Tryz.prog 27 #[.pointer (some ⟨p, 0, none⟩), .int .i64 (a : Int)] w (fun e w' => e = .returned (.tuple #[]) ∧ LStep w0 d g p t N cur K (drop1 c a) F w w') := by
  obtain ⟨dm, lm, pm, i1, i2, hs, hI⟩ := h
  obtain ⟨mb, es, clk, qs, hat, hpf⟩ := hs.1.2.1
  refine (unpin27 hat a).mono ?_
  rintro e w' ⟨rfl, hst⟩
  rw [← hpf] at hst
  obtain ⟨Q, hW, hA⟩ := hs.1.poolAt hst
  refine ⟨rfl, _, ⟨dm, lm, _, i1, i2, hs.step hW hA, ?_⟩, hA⟩
  cases hf : pm.find a with
  | none => have := (hI.out a ha hf).2.2; omega
  | some f =>
    obtain ⟨f1, f2⟩ := pfind_some hf
    have e4 := (hI.fr f f1).2.2.1
    unfold PoolM.unpin
    rw [hf]
    simp only
    rw [if_pos (by rw [e4, f2]; exact hp)]
    refine (hI.setP hf _).congr (fun n hn => ?_)
    unfold drop1
    by_cases q : n = a
    · rw [if_pos q, if_pos q, e4, f2, q]
    · rw [if_neg q, if_neg q]
theorem LW.look (h : LW w0 d g p t N cur K c F w) (a : Nat) (ha : a < N) (hp : 0 < c a) :
    Calls Tryz.prog 20 #[.pointer (some ⟨p, 0, none⟩), .int .i64 (a : Int)] w (fun e w' => ∃ ao cap, e = .returned (.tuple #[.slice ao 40 cap, .bool true]) ∧ IsB w' (.slice ao 40 cap) (cur a) ∧ Off [] w w') := by
  obtain ⟨dm, lm, pm, i1, i2, hs, hI⟩ := h
  cases hf : pm.find a with
  | none => have := (hI.out a ha hf).2.2; omega
  | some f =>
    obtain ⟨f1, f2⟩ := pfind_some hf
    obtain ⟨e1, e2, _⟩ := hI.fr f f1
    refine (look_since hs hf (fun f hf => by obtain ⟨q1, q2, _⟩ := hI.fr f hf; rw [q1, (hI.page _ q2).1]; omega)).mono ?_
    rintro e w' ⟨ao, cap, rfl, hb, ho, _⟩
    rw [e1, f2, (hI.page a ha).1] at hb ⊢
    exact ⟨ao, cap, rfl, hb, ho⟩
end
end Go.Proofs.YtfdgiblkllfpjaaGreatDoor

/- PoolLasts: a run over the heap: Clean, CleanAll, Flush, Append, Change. -/
set_option linter.unusedVariables false
set_option linter.unusedSimpArgs false
namespace Go.Proofs.YtfdgiblkllfpjaaGreatDoor
open Go.ChangeShapes Go.WideShapes Go.ChangeAt Go.RowKit

open Go.MuLone in
set_option maxRecDepth 100000 in
set_option maxHeartbeats 8000000 in
theorem flush95_neg {w : World} {d g : Nat} {dm : DiskM} {lm : LogM} {df lf : List Nat} (h : Desk 0 w d g dm lm df lf) (hdead : lm.dead = false) (lsn : Int) (hs : lsn < 0) :
    Calls Tryz.prog 95 #[.pointer (some ⟨g, 0, none⟩), .int .i64 lsn] w (FlushPost d g df lf (dm, lm, 0) w) := by
  obtain ⟨k0, k2, k3, k6, k7, k9, kf⟩ := h.2.1.cells
  obtain ⟨ta, tc, k8, _⟩ := h.2.1.tailAt
  have hz := h.2.1.sized
  rw [hdead] at k9
  obtain ⟨l1, o1⟩ := h.2.1.turn 1
  have HH := Lib.hid h
  have HL1 := Lib.hid l1
  obtain ⟨P, hP⟩ : ∃ P, P = FlushPost d g df lf (dm, lm, 0) w := ⟨_, rfl⟩
  rw [← hP]
  have HP : Hid (∀ w', LogStep 0 g d lf lm w w' → P (.returned (.int .i64 0)) w') := Lib.hid (fun w' q => by rw [hP]; exact ⟨rfl, h.log q⟩)
  have HFIN : Hid (∀ W, Off [] (w.setCell ⟨g, 0, none⟩ (.int .i32 1)) W → LogStep 1 g d lf lm w W) := Lib.hid (fun W ho => (h.2.1.turned 1).behind ho)
  have HC : Hid (∀ n, ((w.setCell ⟨g, 0, none⟩ (.int .i32 1)).drewN n).cell? ⟨g, 0, none⟩ = some (.int .i32 1) ∧ ((w.setCell ⟨g, 0, none⟩ (.int .i32 1)).drewN n).frozen? ⟨g, 0, none⟩ = false) := Lib.hid (fun n => by
    obtain ⟨c0, _, _, _, _, _, cf⟩ := (HL1.out.off ((Off.refl [] _).drewN n) (by simp)).cells
    exact ⟨c0, cf 0⟩)
  have HT : Hid (lm.tail = [] → lm.tail.length = 0) := Lib.hid (fun q => by rw [q]; rfl)
  clear l1 o1 h hP hdead
  obtain ⟨hb1, hb2, hb3, _⟩ := hz
  generalize lm.base = bs at *
  generalize lm.disk = dk at *
  generalize htl : lm.tail.length = tl at *
  have d1 : decide (lsn ≤ (bs : Int) + (dk : Int)) = true := decide_eq_true (by omega)
  have d2 : lsn ≤ (bs : Int) + (dk : Int) := by omega
  clear hs
  go_enter_defers Tryz.func95, Tryz.ntmps95
  go_wp2_with fail
  refine (lock_free Tryz.muLib ⟨g, 0, none⟩ _ k0 (kf 0)).mono ?_
  rintro e w' ⟨rfl, rfl⟩
  go_wp2_with fail
  go_quiet (fail)
  go_wp2_with fail
  refine leaves_cons (f := 56) (args := #[.pointer (some ⟨g, 0, none⟩)]) (by simp) (by simp [go_sem]) ?_
  refine (unlock_deferred Tryz.muLib ⟨g, 0, none⟩ .returning _ (HC.out _).1 (HC.out _).2).mono ?_
  rintro e u' w'' ⟨rfl, rfl, rfl⟩
  refine ⟨_, results_tmp rfl _ _ _, ?_⟩
  exact HP.out _ ((HFIN.out _ ((Off.refl _ _).drewN _)).trans (fun fp1 h1 => h1.turned 0))

section
variable {t : Nat → Nat} {w0 w w' : World} {d g p N : Nat} {cur : Nat → List UInt8} {K : Nat} {c c' : Nat → Nat} {F : Fp3}
theorem LW.clean (ht : Tbl t w0) (h : LW w0 d g p t N cur K c F w) (hK : K < 1000000000000000000) (a : Nat) (ha : a < N) :
    Calls Tryz.prog 23 #[.pointer (some ⟨p, 0, none⟩), .int .i64 (a : Int)] w (fun e w' => e = .returned (.int .i64 0) ∧ LStep w0 d g p t N cur (K + 6) c F w w') := by
  obtain ⟨dm, lm, pm, i1, i2, hs, hI⟩ := h
  obtain ⟨hT, z1, z2, z3⟩ := hs.zero ht
  obtain ⟨q1, j1, j2, q2, _⟩ := hI.clean a
  refine (clean23 hT hs.1 ⟨z1, z2⟩ hI.dead (k := K) (by omega) hI.desk hI.pool a (by rw [hI.shp]; exact ha)).mono ?_
  rintro e w' ⟨rfl, F1, hW, hA⟩
  exact ⟨by rw [q1], F1, ⟨_, _, _, j1, j2, hs.step hW hA, q2⟩, hA⟩
/-- Behind CleanAll: the same, and nothing is dirty. -/
def LWC (w0 : World) (d g p : Nat) (t : Nat → Nat) (N : Nat) (cur : Nat → List UInt8) (K : Nat) (c : Nat → Nat) (F : Fp3) (w : World) : Prop := ∃ dm lm pm i1 i2, Since w0 d g p dm lm pm F w ∧ LastI t N cur i1 i2 K c dm lm pm ∧ ∀ f ∈ pm.held, f.rc = 0
theorem LWC.lw (h : LWC w0 d g p t N cur K c F w) : LW w0 d g p t N cur K c F w := by
  obtain ⟨dm, lm, pm, i1, i2, h1, h2, _⟩ := h
  exact ⟨dm, lm, pm, i1, i2, h1, h2⟩
theorem LW.cleanAll (ht : Tbl t w0) (h : LW w0 d g p t N cur K c F w) (hK : K < 1000000000000000000) :
    Calls Tryz.prog 31 #[.pointer (some ⟨p, 0, none⟩)] w (fun e w' => e = .returned (.int .i64 0) ∧ ∃ F', LWC w0 d g p t N cur (K + 84) c F' w' ∧ Acc3 F w F' w') := by
  obtain ⟨dm, lm, pm, i1, i2, hs, hI⟩ := h
  obtain ⟨hT, z1, z2, z3⟩ := hs.zero ht
  obtain ⟨q1, j1, j2, q2, _⟩ := LastI.cleanAll pm.dirtyN hI
  have hnd := hI.none_dirty
  have hdl := dirtyN_len (pm := pm)
  have hm := hI.most
  have hln := hI.len
  refine (cleanAll31 hT hs.1 ⟨z1, z2, z3⟩ hI.dead (a := K) (by omega) hI.desk hI.pool hI.len).mono ?_
  rintro e w' ⟨rfl, F1, hW, hA⟩
  exact ⟨by rw [q1], F1, ⟨_, _, _, j1, j2, hs.step hW hA, q2.mono (by omega), hnd⟩, hA⟩
theorem LW.flush (ht : Tbl t w0) (h : LW w0 d g p t N cur K c F w) (hK : K < 1000000000000000000) (x : Int) :
    Calls Tryz.prog 95 #[.pointer (some ⟨g, 0, none⟩), .int .i64 x] w (fun e w' => e = .returned (.int .i64 0) ∧ LStep w0 d g p t N cur (K + 2) c F w w') := by
  obtain ⟨dm, lm, pm, i1, i2, hs, hI⟩ := h
  obtain ⟨d1, d2, d3, d4, d5, d6, d7⟩ := hI.desk
  by_cases hx : x < 0
  · refine (flush95_neg hs.1.1 d7 x hx).mono ?_
    rintro e w' ⟨rfl, hst⟩
    obtain ⟨D, L, hW, hA, _⟩ := hs.1.deskAt hst
    exact ⟨rfl, _, ⟨_, _, _, i1, i2, hs.step hW hA, hI.mono (by omega)⟩, hA⟩
  · obtain ⟨n, rfl⟩ : ∃ n : Nat, x = (n : Int) := ⟨x.toNat, by omega⟩
    obtain ⟨q1, j1, j2, q2⟩ := hI.flush n
    refine (flush95 hs.1.1 d7 n d5 d6 (by omega)).mono ?_
    rintro e w' ⟨rfl, hst⟩
    obtain ⟨D, L, hW, hA, _⟩ := hs.1.deskAt hst
    exact ⟨by rw [q1], _, ⟨_, _, _, j1, j2, hs.step hW hA, q2⟩, hA⟩
/-- Behind an Append: the record's LSN is beyond all pages'. -/
def LWL (w0 : World) (d g p : Nat) (t : Nat → Nat) (N : Nat) (cur : Nat → List UInt8) (K : Nat) (c : Nat → Nat) (F : Fp3) (lsn : Nat) (w : World) : Prop := ∃ dm lm pm i1 i2, Since w0 d g p dm lm pm F w ∧ LastI t N cur i1 i2 K c dm lm pm ∧ lsn < lm.fin ∧ ∀ n, n < N → (pageLsn (cur n)).getD 0 < lsn
theorem LWL.lw {lsn : Nat} (h : LWL w0 d g p t N cur K c F lsn w) : LW w0 d g p t N cur K c F w := by
  obtain ⟨dm, lm, pm, i1, i2, h1, h2, _⟩ := h
  exact ⟨dm, lm, pm, i1, i2, h1, h2⟩
theorem LWL.quiet {lsn : Nat} (h : LWL w0 d g p t N cur K c F lsn w) (ho : Off [] w w') : LWL w0 d g p t N cur K c F lsn w' := by
  obtain ⟨dm, lm, pm, i1, i2, h1, h2, h3⟩ := h
  exact ⟨dm, lm, pm, i1, i2, h1.quiet ho, h2, h3⟩
theorem LW.append (ht : Tbl t w0) (h : LW w0 d g p t N cur K c F w) (hK : K < 500000000000000000) (x : Nat) (h1 : 1 ≤ x) (h2 : x ≤ 64) :
    Calls Tryz.prog 13 #[.pointer (some ⟨g, 0, none⟩), beginV x] w (fun e w' => (∃ lsn F', 1 ≤ lsn ∧ lsn ≤ 65537 ∧ e = .returned (.tuple #[.int .i64 (lsn : Nat), .int .i64 0]) ∧ LWL w0 d g p t N cur K c F' lsn w' ∧ Acc3 F w F' w') ∨ (e = .returned (.tuple #[.int .i64 0, .int .i64 63]) ∧ LStep w0 d g p t N cur K c F w w')) := by
  obtain ⟨dm, lm, pm, i1, i2, hs, hI⟩ := h
  obtain ⟨hT, z1, z2, z3⟩ := hs.zero ht
  have hfin := hI.fin
  have hby := hI.bytes
  refine (append13 hT hs.1.1 hI.desk.2.2.2.2.2.2 x h1 h2 (by rw [hI.ents]; omega) z2).mono ?_
  rintro e w' (⟨hr, rfl, hst⟩ | ⟨hr, rfl, hst⟩)
  · obtain ⟨D, L, hW, hA, _⟩ := hs.1.deskAt (hs.1.1.log hst)
    rw [hI.shp] at hr
    obtain ⟨k1, k2⟩ := hI.append h1 h2 hr
    refine .inl ⟨lm.fin, _, by omega, by omega, rfl, ⟨_, _, _, i1, _, hs.step hW hA, k1, by rw [k2]; omega, fun n hn => ?_⟩, hA⟩
    obtain ⟨p1, y, p2, p3, p4, p5⟩ := hI.page n hn
    rw [p3]; show y < _; rcases p5 with q | q
    · exact q
    · omega
  · obtain ⟨D, L, hW, hA, _⟩ := hs.1.deskAt (hs.1.1.log hst)
    exact .inr ⟨rfl, _, ⟨_, _, _, i1, i2, hs.step hW hA, hI⟩, hA⟩
theorem LWL.change {lsn : Nat} (ht : Tbl t w0) (h : LWL w0 d g p t N cur K c F lsn w) (hl : 1 ≤ lsn) (a : Nat) (ha : a < N) (hp : 0 < c a) (v : Value) (b : List UInt8) (hb : IsB w v b) (hb4 : b.length = 40) (hv : ∀ z ∈ blk v, z ∉ F.l) :
    Calls Tryz.prog 17 #[.pointer (some ⟨p, 0, none⟩), .int .i64 (a : Int), v, .int .i64 (lsn : Nat)] w (fun e w' => e = .returned (.int .i64 0) ∧ LStep w0 d g p t N (fun n => if n = a then stampB t b a lsn else cur n) K c F w w') := by
  obtain ⟨dm, lm, pm, i1, i2, hs, hI, hl2, hl3⟩ := h
  obtain ⟨hT, z1, z2, z3⟩ := hs.zero ht
  cases hf : pm.find a with
  | none => have := (hI.out a ha hf).2.2; omega
  | some f =>
    obtain ⟨f1, f2⟩ := pfind_some hf
    obtain ⟨e1, e2, e3, e4⟩ := hI.fr f f1
    have hfb : f.b = cur a := by rw [e1, f2]
    have hpg := hI.pages
    refine (change17 hT hs.1 z2 hI.dead a (by omega) f hf (by rw [e3, f2]; exact hp) v b hb hv (by rw [hfb, (hI.page a ha).1, hb4]) (by rw [hb4, slots40]; omega) lsn (by rw [hfb]; exact hl3 a ha) hl2).mono ?_
    rintro e w' ⟨rfl, F1, hW, hA⟩
    exact ⟨rfl, F1, ⟨_, _, _, i1, i2, hs.step hW hA, hI.change hT hf hb4 hl hl2⟩, hA⟩
end
end Go.Proofs.YtfdgiblkllfpjaaGreatDoor
