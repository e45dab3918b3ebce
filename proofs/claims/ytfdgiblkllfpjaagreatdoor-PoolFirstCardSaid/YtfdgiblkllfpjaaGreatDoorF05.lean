/- disk: Crash of a disk with one loose write at most, whatever is chosen. -/
import Derived.Test.YtfdgiblkllfpjaaGreatDoorF04
set_option linter.unusedVariables false
set_option linter.unusedSimpArgs false
namespace Go.Proofs.YtfdgiblkllfpjaaGreatDoor
open Go.ChangeShapes Go.WideShapes Go.ChangeAt Go.RowKit

theorem laid_none (gs : List (List UInt8)) (k : Nat) (l : List UInt8) : laid gs k 0 l = gs := by
  unfold laid
  rw [List.take_zero, List.nil_append, List.drop_zero]
  by_cases h : k < gs.length
  · rw [List.getD_eq_getElem?_getD, List.getElem?_eq_getElem h]
    exact List.set_getElem_self h
  · exact List.set_eq_of_length_le (by omega)
theorem rest_nat (n : Int) {m : Nat} (h : 1 ≤ m) : ∃ r : Nat, (n.tmod (m : Int) + (m : Int)).tmod (m : Int) = (r : Int) ∧ r < m := by
  have x1 := Int.lt_tmod_of_pos n (show (0 : Int) < (m : Int) by omega)
  have x2 := Int.tmod_nonneg (m : Int) (show (0 : Int) ≤ n.tmod (m : Int) + (m : Int) by omega)
  have x3 := Int.tmod_lt_of_pos (n.tmod (m : Int) + (m : Int)) (show (0 : Int) < (m : Int) by omega)
  exact ⟨((n.tmod (m : Int) + (m : Int)).tmod (m : Int)).toNat, by omega, by omega⟩
set_option maxRecDepth 100000 in
theorem rest79 (n : Int) (m : Nat) (h1 : 1 ≤ m) (h2 : m < 4611686018427387904) {r : Nat} (hr : (n.tmod (m : Int) + (m : Int)).tmod (m : Int) = (r : Int)) (w : World) : Calls Tryz.prog 79 #[.int .i64 n, .int .i64 (m : Nat)] w fun e w' => e = .returned (.int .i64 (r : Nat)) ∧ w = w' := by
  have x1 := Int.lt_tmod_of_pos n (show (0 : Int) < (m : Int) by omega)
  have x4 := Int.tmod_lt_of_pos n (show (0 : Int) < (m : Int) by omega)
  have hw : wrap64 (n.tmod (m : Int) + (m : Int)) = n.tmod (m : Int) + (m : Int) := wadd (by omega) (by unfold imax; omega)
  have hm0 : ((m : Int) == 0) = false := by rw [beq_eq_false_iff_ne]; omega
  have hm1 : ¬ m = 0 := by omega
  have HR := Lib.hid hr
  clear x1 x4 h1 h2 hr
  go_enter Tryz.func79, Tryz.ntmps79
  go_wp2_with fail
  go_ret
  refine ⟨?_, rfl⟩
  rw [← HR.out]; rfl
/-- What a crash leaves in the ground of a loose write: some of its bytes, or none. -/
def CrashIn (w1 : World) (m : DiskM) (gv : Value) (f1 : List Nat) (i : Int) (wr : World) : Prop :=
  (i = 0 ∧ w1 = wr) ∨ (i = 1 ∧ m.loose ≠ [] ∧ ∃ j, Ground wr gv (laidK m j) f1 ∧ Off f1 w1 wr)
set_option maxRecDepth 100000 in
set_option maxHeartbeats 8000000 in
theorem crashF35 {w : World} {d : Nat} {m : DiskM} {fp : List Nat} (h : DiskR w d m fp) (hfit : m.fit) (hlo : m.loose.length ≤ 1) (hla : m.lasted ≤ m.log.length) (hlg : m.log.length < 1000000) (c : Int) {kv : Value} {ks : List Int} (hks : ReadI w kv ks) (hkw : ∀ x ∈ ks, x ≤ 9223372036854775807) :
    Calls Tryz.prog 35 #[.pointer (some ⟨d, 0, none⟩), .agg #[.int .i64 c, kv]] w fun e w' => ∃ d' fp' j n, e = .returned (.pointer (some ⟨d', 0, none⟩)) ∧ DiskR w' d' (m.leftAt j n) fp' ∧ m.lasted ≤ n ∧ n ≤ m.log.length ∧ Off [] w w' ∧ ∀ z ∈ fp', w.heap.size ≤ z := by
  obtain ⟨ko, kc, rfl, hkc⟩ := id hks
  have HD := Lib.hid h
  obtain ⟨loo, loc, ps, c5', hps, hown, hheld, _⟩ := h.looseAt
  obtain ⟨lv, rv, ov, gv, fl, fr, fo, h1, h2, h3, h4, h5, rfl, h6, h7, h8, h9⟩ := h
  have hsh := h7
  obtain ⟨s1, s2, s3, s4, s5, s6⟩ := h7
  obtain ⟨go, gc, rfl⟩ := h5.val
  obtain ⟨lg, loff, lcap, rfl⟩ : ∃ gb goff gcap, lv = .slice (some ⟨gb, goff, none⟩) m.lasts.length gcap := by
    obtain ⟨gb, goff, gcap, _, _, e, _⟩ := h2.at 0 (m.lasts[0]'(by omega)) (List.getElem?_eq_getElem (by omega))
    exact ⟨gb, goff, gcap, e⟩
  have hbl : ∀ l ∈ m.lasts, l.length < 1000000 := fun l hl => by
    obtain ⟨i, hi, rfl⟩ := List.getElem_of_mem hl
    obtain ⟨l', e1, e2⟩ := hfit.1 i (by omega)
    rw [List.getElem?_eq_getElem hi] at e1
    injection e1 with e1
    rw [e1, e2]
    unfold Shp.sizeB Shp.pageB
    split
    · omega
    · split <;> omega
  obtain ⟨r, hr1, hr2⟩ := rest_nat c (m := m.log.length - m.lasted + 1) (by omega)
  obtain ⟨n, hn⟩ : ∃ n, n = m.lasted + r := ⟨_, rfl⟩
  have hnl : n ≤ m.log.length := by omega
  have HC1 : Hid (∀ W, Off [] w W → Calls Tryz.prog 78 #[.slice (some ⟨lg, loff, none⟩) m.lasts.length lcap] W (GroundF W m.lasts)) := Lib.hid (fun W ho => copy78 (h2.off ho (by simp)) (by omega) hbl (by omega))
  have hkl : ∀ j, (laidK m j).length = m.lasts.length ∧ ∀ l ∈ laidK m j, l.length < 1000000 := fun j => by
    unfold laidK
    split
    · exact ⟨rfl, hbl⟩
    · rename_i x xs hx
      refine ⟨by unfold laid; rw [List.length_set], fun l hl => ?_⟩
      obtain ⟨x1, x2, x3⟩ := hfit.2.2 x (by rw [hx]; simp)
      obtain ⟨y, y1, y2⟩ := hfit.1 x.place x1
      obtain ⟨i, hi, rfl⟩ := List.getElem_of_mem hl
      have hg := laid_tear y1 j x.bytes i
      rw [List.getElem?_eq_getElem hi] at hg
      by_cases e : i = x.place
      · rw [if_pos e] at hg; injection hg with hg; rw [hg, tear_len (by omega)]
        exact hbl y (List.mem_of_getElem? y1)
      · rw [if_neg e] at hg; exact hbl _ (List.mem_of_getElem? hg.symm)
  have HC2 : Hid (∀ j W v fp, Ground W v (laidK m j) fp → Calls Tryz.prog 78 #[v] W (GroundF W (laidK m j))) := Lib.hid (fun j W v fp hg => copy78 hg (by rw [(hkl j).1]; omega) (hkl j).2 (by rw [(hkl j).1]; omega))
  obtain ⟨a2, c2, b2, _, l2, _, _, r2⟩ := h5.cut 0 n (by omega) hnl
  simp only [Nat.sub_zero, List.drop_zero] at b2 r2 l2
  have q2 : ∀ W, (Instr.slice 22 (.slice go m.log.length gc) none (some (.int .i64 (n : Nat))) none).run Tryz.prog W = .ok (.slice a2 n c2) W := fun W => r2 trivial W _ rfl
  have HC3 : Hid (∀ W, Off [] w W → Calls Tryz.prog 80 #[.slice a2 n c2] W (FreshB W (m.log.take n))) := Lib.hid (fun W ho => clone80 _ _ W (b2.off ho (by simp)) (by omega))
  have HR79 : Hid (∀ W, Calls Tryz.prog 79 #[.int .i64 c, .int .i64 ((m.log.length - m.lasted + 1 : Nat) : Int)] W fun e w' => e = .returned (.int .i64 (r : Nat)) ∧ W = w') := Lib.hid (fun W => rest79 c _ (by omega) (by omega) hr1 W)
  have HEND : Hid (∀ j w0 w1 w2 w3 w4 lv rv gv fl fr, Off [] w w0 → Ground w1 lv (laidK m j) fl → Ground w2 rv (laidK m j) fr → IsB w3 gv (m.log.take n) → Off [] w0 w1 → Off [] w1 w2 → Off [] w2 w3 → (∀ z ∈ fl, w0.heap.size ≤ z) → (∀ z ∈ fr, w1.heap.size ≤ z) → (∀ z ∈ blk gv, w2.heap.size ≤ z) → Off [] (w3.alloc (.cells (headC (m.leftAt j n) lv rv (.slice none 0 0) gv) 104)) w4 →
      ∃ d' fp' j n, Ending.returned (.pointer (some ⟨w3.heap.size, 0, none⟩)) = .returned (.pointer (some ⟨d', 0, none⟩)) ∧ DiskR w4 d' (m.leftAt j n) fp' ∧ m.lasted ≤ n ∧ n ≤ m.log.length ∧ Off [] w w4 ∧ ∀ z ∈ fp', w.heap.size ≤ z) := Lib.hid (fun j w0 w1 w2 w3 w4 lv rv gv fl fr p0 p1 p2 p3 p4 p5 p6 p7 p8 p9 p10 => by
    obtain ⟨fp, t1, t2, t3⟩ := new_diskM (m := m.leftAt j n) hsh rfl ((hkl j).1.trans h8) ((hkl j).1.trans h8) p1 p2 p3 p4 p5 p6 p7 p8 p9 p10
    exact ⟨_, fp, j, n, rfl, t1, by omega, hnl, p0.trans t2 (by simp), fun z hz => by have := t3 z hz; have := p0.size; omega⟩)
  have hcell := h1.cell
  have k0 := hcell 0
  have k1 := hcell 1
  have k2 := hcell 2
  have k3 := hcell 3
  have k6 := hcell 6
  have k7 := hcell 7
  simp only [headC, List.getElem?_toArray, List.getElem?_cons_zero, List.getElem?_cons_succ] at k0 k1 k2 k3 k6 k7
  have k5 := c5'
  have HK : Hid (∀ W, Off [] w W → W.cell? ⟨d, 0, none⟩ = some (.int .i64 m.shp.pages) ∧ W.cell? ⟨d, 1, none⟩ = some (.int .i64 m.shp.slots) ∧ W.cell? ⟨d, 2, none⟩ = some (.int .i64 m.shp.log) ∧ W.cell? ⟨d, 3, none⟩ = some (.slice (some ⟨lg, loff, none⟩) m.lasts.length lcap) ∧ W.cell? ⟨d, 5, none⟩ = some (.slice loo m.loose.length loc) ∧ W.cell? ⟨d, 6, none⟩ = some (.slice go m.log.length gc) ∧ W.cell? ⟨d, 7, none⟩ = some (.int .i64 (m.lasted : Nat))) := Lib.hid (fun W ho =>
    ⟨ho.cell k0 (by simp), ho.cell k1 (by simp), ho.cell k2 (by simp), ho.cell k3 (by simp), ho.cell k5 (by simp), ho.cell k6 (by simp), ho.cell k7 (by simp)⟩)
  obtain ⟨P, hP⟩ : ∃ P : Ending → World → Prop, P = fun e w' => ∃ d' fp' j n, e = .returned (.pointer (some ⟨d', 0, none⟩)) ∧ DiskR w' d' (m.leftAt j n) fp' ∧ m.lasted ≤ n ∧ n ≤ m.log.length ∧ Off [] w w' ∧ ∀ z ∈ fp', w.heap.size ≤ z := ⟨_, rfl⟩
  rw [← hP]
  have HP := Lib.hid hP
  have HKW : Hid ((∀ (k : Nat) (x : Int), ks[k]? = some x → ∃ g off, ko = some ⟨g, off, none⟩ ∧ g < w.heap.size ∧ w.cell? ⟨g, off + k, none⟩ = some (.int .i64 x)) ∧ ∀ x ∈ ks, x ≤ 9223372036854775807) := Lib.hid ⟨fun k x hk => by
    obtain ⟨h1, rfl⟩ := List.getElem?_eq_some_iff.1 hk
    exact hkc k h1, hkw⟩
  have HALL := Lib.hid (And.intro hks (And.intro hfit (And.intro hlo (And.intro hown (And.intro hheld hps)))))
  have HNUM := Lib.hid (And.intro hla (And.intro hlg (And.intro hn (And.intro hr2 hnl))))
  have hHC : Hid (∀ j, headC (m.leftAt j n) = fun lv rv ov gv => #[.int .i64 m.shp.pages, .int .i64 m.shp.slots, .int .i64 m.shp.log, lv, rv, ov, gv, .int .i64 (n : Nat), .int .i64 0, .int .i64 0, .bool false]) := Lib.hid (fun j => rfl)
  have HEND2 : Hid (∀ j w0 w1 w2 w3 lv rv gv fl fr, Off [] w w0 → Ground w1 lv (laidK m j) fl → Ground w2 rv (laidK m j) fr → IsB w3 gv (m.log.take n) → Off [] w0 w1 → Off [] w1 w2 → Off [] w2 w3 → (∀ z ∈ fl, w0.heap.size ≤ z) → (∀ z ∈ fr, w1.heap.size ≤ z) → (∀ z ∈ blk gv, w2.heap.size ≤ z) → P (.returned (.pointer (some ⟨w3.heap.size, 0, none⟩))) (w3.alloc (.cells #[.int .i64 m.shp.pages, .int .i64 m.shp.slots, .int .i64 m.shp.log, lv, rv, .slice none 0 0, gv, .int .i64 (n : Nat), .int .i64 0, .int .i64 0, .bool false] 104))) := Lib.hid (fun j w0 w1 w2 w3 lv rv gv fl fr p0 p1 p2 p3 p4 p5 p6 p7 p8 p9 => by
    have q := HEND.out j w0 w1 w2 w3 _ lv rv gv fl fr p0 p1 p2 p3 p4 p5 p6 p7 p8 p9 (Off.refl _ _)
    rw [hHC.out] at q
    rw [HP.out]; exact q)
  clear hP hcell h1 h2 h3 h4 h5 h6 h8 h9 hsh hfit hlo hla hlg b2 r2 l2 hbl hHC s1 s2 s3 s4 s5 s6 HEND hkl hown hheld hps hks hkc hkw c5' hr1 hr2 hn hnl
  generalize hLL : m.loose.length = LL at *
  have HLL := Lib.hid hLL
  clear hLL
  generalize hNL : m.lasts.length = NL at *
  have HNL := Lib.hid hNL
  clear hNL
  generalize (m.shp.pages : Int) = sp at *
  generalize (m.shp.slots : Int) = ss at *
  generalize (m.shp.log : Int) = sl at *
  generalize hkn : ks.length = kn at *
  have HKN := Lib.hid hkn
  clear hkn
  go_enter Tryz.func35, Tryz.ntmps35
  go_upto_region 1 with fail
  refine gen_world (Φ := fun V => IsC V w.heap.size #[.int .i64 c, .slice ko kn kc] 65 ∧ Off [] w V) ⟨IsC.new _ _ _, (Off.refl [] w).alloc _⟩ ?_
  rintro V ⟨v1, v2⟩
  obtain ⟨j0, j1, j2, j3, j5, j6, j7⟩ := HK.out V v2
  have HV := Lib.hid (And.intro v1 v2)
  clear v1 v2 k0 k1 k2 k3 k5 k6 k7
  go_wp2_with fail
  refine (HC1.out _ HV.out.2).mono ?_
  rintro e w1 ⟨gv1, f1, rfl, g1, g2, g3⟩
  obtain ⟨gva, gvn, gvc, rfl⟩ := g1.sl
  have HG1 := Lib.hid (And.intro g1 (And.intro (HV.out.2.trans g2 (by simp)) (And.intro (HV.out.1.off g2 (by simp)) (And.intro g3 g2))))
  obtain ⟨n0, n1, n2, n3, n5, n6, n7⟩ := HK.out w1 HG1.out.2.1
  have nb0 := HG1.out.2.2.1.cell 0
  have nb1 := HG1.out.2.2.1.cell 1
  simp only [List.getElem?_toArray, List.getElem?_cons_zero, List.getElem?_cons_succ] at nb0 nb1
  clear g1 g2 g3 j0 j1 j2 j3 j5 j6 j7 HC1
  obtain ⟨cb, hcb⟩ : ∃ cb, cb = w.heap.size := ⟨_, rfl⟩
  rw [← hcb] at nb0 nb1 ⊢
  have HCB := Lib.hid hcb
  clear hcb
  go_wp2_with fail
  go_loopw [20, 6, 7, 8] (fun i _ _ _ wr => ∃ k : Int, i = .int .i64 k ∧ CrashIn w1 m (.slice gva gvn gvc) f1 k wr) (fun i _ _ _ _ => 1 - (intOf i).toNat)
  case atStart => exact ⟨0, rfl, .inl ⟨rfl, rfl⟩⟩
  case round =>
    obtain ⟨k, rfl, hin⟩ := hrel
    have hLL1 : LL ≤ 1 := HALL.out.2.2.1
    by_cases hex : k = 0 ∧ LL = 1
    · obtain ⟨rfl, hLLe⟩ := hex
      have hLL0 : (0 : Int) < (LL : Int) := by omega
      have HLE := Lib.hid hLLe
      clear hLLe
      obtain rfl : w1 = wr := by
        rcases hin with ⟨_, q⟩ | ⟨q, _⟩
        · exact q
        · cases q
      clear hin hLL1
      obtain ⟨x, hx⟩ : ∃ x, m.loose = [x] := by
        have := HLL.out.trans HLE.out
        match hm : m.loose, this with
        | [x], _ => exact ⟨x, rfl⟩
      obtain ⟨lb, loff, pb, mb, mv, rfl, q0, q1, q2, g1, g2, g3⟩ : ∃ lb loff pb mb mv, loo = some ⟨lb, loff, none⟩ ∧ w1.cell? ⟨lb, loff, none⟩ = some (.bool x.master) ∧ w1.cell? ⟨lb, loff + 1, none⟩ = some (.int .i64 (x.bytes.length : Nat)) ∧
          w1.cell? ⟨lb, loff + 2, none⟩ = some (.func (.func 259) #[] #[.pointer (some ⟨pb, 0, none⟩), .pointer (some ⟨mb, 0, none⟩)]) ∧ IsC w1 pb #[.int .i64 (x.place : Nat)] 3 ∧ IsC w1 mb #[mv] 22 ∧ IsB w1 mv x.bytes := by
        obtain ⟨a1, a2, a3, a4, a5, a6⟩ := HALL.out
        rw [hx] at a4 a5
        have hle := HLE.out
        rw [hle] at a6
        match ps, a6 with
        | [q], _ =>
          obtain ⟨g1, g2, g3⟩ := a5 (x, q) (by simp)
          have ho := HG1.out.2.1
          rcases a4.2 with ⟨e, he⟩ | ⟨lb, loff, cc, cur, e, hr⟩
          · omega
          · injection e with e1 _ e3
            subst e1; subst e3
            refine ⟨lb, loff, q.pb, q.mb, q.mv, rfl, ho.cell (by rw [show loff = loff + 0 from rfl, a4.cellAt 0 (by omega)]; rfl) (by simp), ho.cell (by rw [a4.cellAt 1 (by omega)]; rfl) (by simp), ho.cell (by rw [a4.cellAt 2 (by omega)]; rfl) (by simp), g1.off ho (by simp), g2.off ho (by simp), g3.off ho (by simp)⟩
      have hlast : ∀ j, laidK m j = laid m.lasts x.place j x.bytes := fun j => by unfold laidK; rw [hx]
      have HREL : Hid (∀ wr j, Ground wr (.slice gva gvn gvc) (laid m.lasts x.place j x.bytes) f1 → Off f1 w1 wr → CrashIn w1 m (.slice gva gvn gvc) f1 1 wr) := Lib.hid (fun wr j a b => .inr ⟨rfl, by rw [hx]; simp, j, by rw [hlast]; exact a, b⟩)
      have hxm := HALL.out.2.1.2.2 x (by rw [hx]; simp)
      obtain ⟨ld, hld1, hld2⟩ := HALL.out.2.1.1 x.place hxm.1
      have hdn := HD.out.ok
      have hsz := m.shp.size_lt hdn.1 x.place
      have HLAY : Hid (∀ W j, Off [] w1 W → j ≤ x.bytes.length → Calls Tryz.prog 259 #[.slice gva gvn gvc, .int .i64 (j : Nat), .pointer (some ⟨pb, 0, none⟩), .pointer (some ⟨mb, 0, none⟩)] W (LayPost (.slice gva gvn gvc) (laid m.lasts x.place j x.bytes) f1 W)) := Lib.hid (fun W j ho hj => lay259 (HG1.out.1.off ho (by simp)) x.place ld hld1 pb mb mv x.bytes j (g1.off ho (by simp)) (g2.off ho (by simp)) (g3.off ho (by simp)) hj (by rw [hld2, hxm.2.1]; exact Nat.le_refl _) (by rw [hxm.2.1]; omega) (by have := hdn.1.2.1; have := hdn.2.1; omega))
      have hbl : x.bytes.length ≤ 168 := by rw [hxm.2.1]; omega
      have hcbl : cb < w1.heap.size := by have := HG1.out.2.2.1.lt; have := HCB.out; omega
      have HG2 : Hid (Ground w1 (.slice gva gvn gvc) (laid m.lasts x.place 0 x.bytes) f1) := Lib.hid (by rw [laid_none]; exact HG1.out.1)
      have HXL : Hid (x.bytes.length ≤ 168) := Lib.hid hbl
      clear hlast hxm hld1 hld2 hdn hsz g1 g2 g3
      obtain ⟨bl, hble⟩ : ∃ bl, bl = x.bytes.length := ⟨_, rfl⟩
      rw [← hble] at q1 HLAY HXL hbl
      have HBL := Lib.hid hble
      clear hble hx
      generalize x.master = xm at *
      cases ks with
      | nil =>
        obtain rfl : kn = 0 := HKN.out.symm
        have HF : Hid (∀ W, Off [] w1 W → CrashIn w1 m (.slice gva gvn gvc) f1 1 W) := Lib.hid (fun W ho => HREL.out W 0 (HG2.out.off ho (by simp)) (ho.mono (by simp)))
        go_wp2_with fail
        go_roundw
        case rel => exact ⟨1, by go_num, HF.out _ ((Off.refl [] w1).alloc _)⟩
        case measure => simp [intOf]
      | cons k0 ks =>
        obtain ⟨kb, koff, rfl, hkb, hkc0⟩ := HKW.out.1 0 k0 rfl
        have hk0b := HKW.out.2 k0 (by simp)
        have c0 : w1.cell? ⟨kb, koff, none⟩ = some (.int .i64 k0) := HG1.out.2.1.cell hkc0 (by simp)
        have hkbl : kb < w1.heap.size := by have := HG1.out.2.1.size; omega
        have hkn0 : ¬ kn = 0 := by rw [← HKN.out]; simp
        have hkp : (0 : Int) < (kn : Int) := by omega
        have hknz : ((kn : Int) == 0) = false := by rw [beq_eq_false_iff_ne]; omega
        have ht0 : (0 : Int).tmod (kn : Int) = 0 := Int.zero_tmod _
        have HK0 := Lib.hid hk0b
        clear hkc0 hkb hk0b
        have hlen : ∀ W ty, (Builtin.len_ #[57] ty #[.slice (some ⟨kb, koff, none⟩) kn kc]).run Tryz.prog W = .ok (.int .i64 (kn : Nat)) W := fun W ty => by go_simp
        go_upto_region 7 with fail
        obtain ⟨W5, hW5⟩ : ∃ W5, W5 = w1.alloc (.cells #[.bool xm, .int .i64 (bl : Nat), .func (.func 259) #[] #[.pointer (some ⟨pb, 0, none⟩), .pointer (some ⟨mb, 0, none⟩)]] 150) := ⟨_, rfl⟩
        rw [← hW5]
        have ho5 : Off [] w1 W5 := by rw [hW5]; exact (Off.refl [] w1).alloc _
        have hi5 : IsC W5 w1.heap.size #[.bool xm, .int .i64 (bl : Nat), .func (.func 259) #[] #[.pointer (some ⟨pb, 0, none⟩), .pointer (some ⟨mb, 0, none⟩)]] 150 := by rw [hW5]; exact IsC.new _ _ _
        have d0 := ho5.cell nb1 (by simp)
        have d1 := ho5.cell c0 (by simp)
        have b1 := hi5.cell 1
        have b2 := hi5.cell 2
        simp only [List.getElem?_toArray, List.getElem?_cons_zero, List.getElem?_cons_succ] at b1 b2
        have HO5 := Lib.hid ho5
        have HBF : Hid (w1.heap.size ∉ f1) := Lib.hid (fun hz => by have := HG1.out.1.lt _ hz; omega)
        clear hW5 ho5 hi5 n0 n1 n2 n3 n6 n7 nb0 nb1 c0 q0 q1 q2
        generalize w1.heap.size = sb at *
        go_wp2_with fail
        go_quiet (fail)
        have HO6 : Hid (Off [] w1 (W5.drewN nq)) := Lib.hid (HO5.out.drewN _)
        have HNONE : Hid (CrashIn w1 m (.slice gva gvn gvc) f1 1 (W5.drewN nq)) := Lib.hid (HREL.out _ 0 (HG2.out.off HO6.out (by simp)) (HO6.out.mono (by simp)))
        by_cases e1 : k0 = 1
        · subst e1
          have HL := Lib.hid (HLAY.out _ bl (HO6.out) (Nat.le_refl _))
          go_wp2_with fail
          refine HL.out.mono ?_
          rintro e w7 ⟨rfl, z1, z2⟩
          have HR7 := Lib.hid (HREL.out w7 bl z1 ((HO6.out.mono (by simp)).trans z2 (fun z hz => .inl hz)))
          clear z1 z2 HL d0 d1 b1 b2
          go_wp2_with fail
          go_roundw
          case rel => exact ⟨1, by go_num, HR7.out⟩
          case measure => simp [intOf]
        · by_cases e2 : 1 < k0
          · obtain ⟨bm, hbm⟩ : ∃ bm : Nat, bm = bl + 1 := ⟨_, rfl⟩
            obtain ⟨km, hkm⟩ : ∃ km : Int, km = k0 - 1 := ⟨_, rfl⟩
            have hx1 := Int.tmod_lt_of_pos km (show (0 : Int) < (bm : Int) by omega)
            have hx2 := Int.tmod_nonneg (bm : Int) (show (0 : Int) ≤ km by omega)
            obtain ⟨jj, hjj⟩ : ∃ jj : Nat, km.tmod (bm : Int) = (jj : Int) := ⟨(km.tmod (bm : Int)).toNat, by omega⟩
            have hjb : jj ≤ bl := by omega
            have hw1 : IntKind.i64.wrap (k0 - 1) = km := by have := HK0.out; rw [hkm, IntKind.wrap_i64]; omega
            have hw2 : IntKind.i64.wrap ((bl : Int) + 1) = (bm : Int) := by clear hw1; rw [hbm, IntKind.wrap_i64]; omega
            have hnz : ¬ bm = 0 := by clear hw1 hw2; omega
            have hnz2 : ((bm : Int) == 0) = false := by clear hw1 hw2; rw [beq_eq_false_iff_ne]; omega
            clear hbm hkm
            have e3 : k0 > 1 := e2
            clear hx1 hx2
            have HS6 : Hid (∀ W, Off [] (W5.drewN nq) W → W.cell? ⟨sb, 1, none⟩ = some (.int .i64 (bl : Nat)) ∧ W.cell? ⟨sb, 2, none⟩ = some (.func (.func 259) #[] #[.pointer (some ⟨pb, 0, none⟩), .pointer (some ⟨mb, 0, none⟩)])) := Lib.hid (fun W ho => ⟨(((Off.refl [] W5).drewN nq).trans ho (by simp)).cell b1 (by simp), (((Off.refl [] W5).drewN nq).trans ho (by simp)).cell b2 (by simp)⟩)
            go_wp2_with fail
            go_region_held3 (fun W => W.cell? ⟨sb, 1, none⟩ = some (.int .i64 (bl : Nat)) ∧ W.cell? ⟨sb, 2, none⟩ = some (.func (.func 259) #[] #[.pointer (some ⟨pb, 0, none⟩), .pointer (some ⟨mb, 0, none⟩)]))
              (first | exact HS6.out _ (Off.refl _ _) | exact HS6.out _ (Off.refl _ _).drew | exact HS7.out | fail)
              (first
              | (go_at_call 259; refine (HLAY.out _ jj (by first | exact HO6.out | exact HO6.out.drew) hjb).mono ?_; rintro e w7 ⟨rfl, z1, z2⟩; have HR7 := Lib.hid (HREL.out w7 jj z1 (((by first | exact HO6.out | exact HO6.out.drew : Off [] w1 _).mono (by simp)).trans z2 (fun z hz => .inl hz))); have HS7 : Hid (w7.cell? ⟨sb, 1, none⟩ = some (.int .i64 (bl : Nat)) ∧ w7.cell? ⟨sb, 2, none⟩ = some (.func (.func 259) #[] #[.pointer (some ⟨pb, 0, none⟩), .pointer (some ⟨mb, 0, none⟩)])) := Lib.hid (by obtain ⟨y1, y2⟩ := HS6.out _ ((Off.refl [] _).drew); exact ⟨z2.cell (by first | exact y1 | exact b1) HBF.out, z2.cell (by first | exact y2 | exact b2) HBF.out⟩); clear z1 z2))
            all_goals
              go_wp2_with fail
              go_roundw
              case rel => exact ⟨1, by go_num, HR7.out⟩
              case measure => simp [intOf]
          · have e3 : ¬ (k0 > 1) := e2
            go_wp2_with fail
            go_roundw
            case rel => exact ⟨1, by go_num, HNONE.out⟩
            case measure => simp [intOf]
    · have HX : Hid (∃ j, Ground wr (.slice gva gvn gvc) (laidK m j) f1 ∧ Off [] w wr ∧ Off [] V wr) := Lib.hid (by
        rcases hin with ⟨q, rfl⟩ | ⟨_, q, j, z1, z2⟩
        · have hl0 : m.loose = [] := by
            have := HLL.out
            have h0 : ¬ LL = 1 := fun e => hex ⟨q, e⟩
            exact List.eq_nil_of_length_eq_zero (by omega)
          exact ⟨0, by unfold laidK; rw [hl0]; exact HG1.out.1, HG1.out.2.1, HG1.out.2.2.2.2⟩
        · have hsz := HV.out.2.size
          exact ⟨j, z1, HG1.out.2.1.trans z2 (fun z hz => .inr (by have := HG1.out.2.2.2.1 z hz; omega)), HG1.out.2.2.2.2.trans z2 (fun z hz => .inr (HG1.out.2.2.2.1 z hz))⟩)
      have hge : ¬ (k < (LL : Int)) := by
        rcases hin with ⟨q, _⟩ | ⟨q, _, _⟩
        · have h0 : ¬ LL = 1 := fun e => hex ⟨q, e⟩
          omega
        · omega
      clear hin hex hLL1
      obtain ⟨jj, z1, z2, z3⟩ := HX.out
      have HZ := Lib.hid (And.intro z1 (And.intro z2 z3))
      obtain ⟨y0, y1, y2, y3, y5, y6, y7⟩ := HK.out wr z2
      have hcw := HV.out.1.off z3 (by simp)
      rw [← HCB.out] at hcw
      have yb := hcw.cell 0
      simp only [List.getElem?_toArray, List.getElem?_cons_zero] at yb
      clear z1 z2 z3 hcw n0 n1 n2 n3 n5 n6 n7 nb0 nb1 HX
      obtain ⟨dl, hdl⟩ : ∃ dl : Nat, dl = m.log.length - m.lasted := ⟨_, rfl⟩
      obtain ⟨dm, hdm⟩ : ∃ dm : Nat, dm = m.log.length - m.lasted + 1 := ⟨_, rfl⟩
      rw [← hdm] at HR79
      have hw1 : IntKind.i64.wrap ((m.log.length : Int) - (m.lasted : Int)) = (dl : Int) := by have := HNUM.out; rw [IntKind.wrap_i64]; omega
      have hw2 : IntKind.i64.wrap ((dl : Int) + 1) = (dm : Int) := by clear hw1; have := HNUM.out; rw [IntKind.wrap_i64]; omega
      have hw3 : IntKind.i64.wrap ((m.lasted : Int) + (r : Int)) = (n : Int) := by clear hw1 hw2; have := HNUM.out; rw [IntKind.wrap_i64]; omega
      have hv1 : wrap64 ((m.log.length : Int) - (m.lasted : Int)) = (dl : Int) := by clear hw1 hw2 hw3; have := HNUM.out; unfold wrap64; omega
      have hv2 : wrap64 ((dl : Int) + 1) = (dm : Int) := by clear hw1 hw2 hw3 hv1; have := HNUM.out; unfold wrap64; omega
      have hv3 : wrap64 ((m.lasted : Int) + (r : Int)) = (n : Int) := by clear hw1 hw2 hw3 hv1 hv2; have := HNUM.out; unfold wrap64; omega
      clear hdl hdm
      generalize List.take n m.log = tk at *
      generalize m.log.length = L at *
      generalize m.lasted = la at *
      go_wp2_with fail
      go_quiet ((go_at_call 79; exact Calls.quiet_of_same ((HR79.out _).mono (fun e w' hh => ⟨hh.1, hh.2.symm⟩))))
      clear hw1 hw2 hw3 hv1 hv2 hv3
      have HOQ : Hid (Off [] w (wr.drewN nq)) := Lib.hid (HZ.out.2.1.drewN _)
      obtain ⟨W2, hW2⟩ : ∃ W2, W2 = wr.drewN nq := ⟨_, rfl⟩
      have HGQ : Hid (Ground W2 (.slice gva gvn gvc) (laidK m jj) f1 ∧ Off [] wr W2) := Lib.hid (by rw [hW2]; exact ⟨HZ.out.1.off ((Off.refl [] wr).drewN _) (by simp), (Off.refl [] wr).drewN _⟩)
      rw [← hW2] at HOQ ⊢
      clear hW2
      have HK2 : Hid (∀ W, Off [] w W → W.cell? ⟨d, 0, none⟩ = some (.int .i64 sp) ∧ W.cell? ⟨d, 1, none⟩ = some (.int .i64 ss) ∧ W.cell? ⟨d, 2, none⟩ = some (.int .i64 sl) ∧ W.cell? ⟨d, 6, none⟩ = some (.slice go L gc)) := Lib.hid (fun W ho => by obtain ⟨z0, z1, z2, z3, z5, z6, z7⟩ := HK.out W ho; exact ⟨z0, z1, z2, z6⟩)
      clear y0 y1 y2 y3 y5 y6 y7 yb
      go_wp2_with fail
      go_region_held3 (fun W => W.cell? ⟨d, 0, none⟩ = some (.int .i64 sp) ∧ W.cell? ⟨d, 1, none⟩ = some (.int .i64 ss) ∧ W.cell? ⟨d, 2, none⟩ = some (.int .i64 sl) ∧ W.cell? ⟨d, 6, none⟩ = some (.slice go L gc))
        ((refine HK2.out _ ?_; (repeat (first | with_reducible exact HOQ.out | with_reducible exact HOB.out | with_reducible exact HOA.out | with_reducible refine Off.alloc ?_ _ | with_reducible refine Off.drew ?_))))
        (first
        | (go_at_call 78; refine (HC2.out jj _ (.slice gva gvn gvc) f1 (by first | exact HGQ.out.1 | exact HGQ.out.1.off (Off.refl _ _).drew (by simp))).mono ?_; rintro e wa ⟨rv2, f2, rfl, p1, p2, p3⟩; obtain ⟨ra, rn, rc, rfl⟩ := p1.sl; have HPA := Lib.hid (And.intro p1 p3); have HQA : Hid (Off [] W2 wa) := Lib.hid (by first | exact p2 | exact (Off.refl _ _).drew.trans p2 (by simp)); have HOA : Hid (Off [] w wa) := Lib.hid (HOQ.out.trans HQA.out (by simp)); clear p1 p2 p3)
        | (go_at_call 80; refine (HC3.out _ HOA.out).mono ?_; rintro e wb ⟨bo, bc, rfl, p1, p2, p3⟩; have HPB := Lib.hid (And.intro p1 (And.intro p2 p3)); have HOB : Hid (Off [] w wb) := Lib.hid (HOA.out.trans p2 (by simp)); clear p1 p2 p3))
      have HF := Lib.hid (HEND2.out jj V W2 wa wb _ _ _ f1 f2 HV.out.2 HGQ.out.1 HPA.out.1 HPB.out.1 (HZ.out.2.2.trans HGQ.out.2 (by simp)) HQA.out HPB.out.2.1 HG1.out.2.2.2.1 HPA.out.2 HPB.out.2.2)
      clear HPA HQA HPB HEND2
      go_wp2_with fail
      first | exact HF.out | (go_ret; exact HF.out)
end Go.Proofs.YtfdgiblkllfpjaaGreatDoor

/- PoolFirst: first, the walk. -/
set_option linter.unusedVariables false
set_option linter.unusedSimpArgs false
namespace Go.Proofs.YtfdgiblkllfpjaaGreatDoor
open Go.ChangeShapes Go.WideShapes Go.ChangeAt Go.RowKit

/-- A disk that a crash left, in blocks from B on; the Run, in blocks below. -/
def LeftX (w0 : World) (r d g p d' : Nat) (t : Nat → Nat) (N : Nat) (was : List (List (List UInt8))) (B : Nat) (w : World) : Prop :=
  ∃ dl fp ids part dead rf, DiskR w d' dl fp ∧ LeftI t N (wfOf was) ids part dl ∧ (∀ z ∈ fp, B ≤ z) ∧ Off [] w0 w ∧ w0.heap.size ≤ B ∧ B ≤ w.heap.size ∧ RunR w r d g p N was dead rf ∧ ∀ z ∈ rf, z < B ∧ w0.heap.size ≤ z
section
variable {w0 w w' : World} {r d g p d' g' N L B K : Nat} {t : Nat → Nat} {was : List (List (List UInt8))} {pb : List UInt8}
theorem LeftX.open (ht : Tbl t w0) (h : LeftX w0 r d g p d' t N was B w) :
    Calls Tryz.prog 11 #[.pointer (some ⟨d', 0, none⟩), .int .i64 0] w fun e w' => ∃ g' L pb, e = .returned (.tuple #[.pointer (some ⟨g', 0, none⟩), .int .i64 0]) ∧ LeftW w0 r d g p d' g' t N was L pb B 1 w' ∧ L ≤ 65536 ∧ (∀ k c y, parseM t N pb = some (k, c, y) → y ≤ L) := by
  obtain ⟨dl, fp, ids, part, dead, rf, h1, h2, h3, h4, h5, h6, h7, h8⟩ := h
  have h0 : 0 ∉ fp := fun hz => by have := h3 0 hz; have := ht.1; omega
  have hsh : Short part := by
    rcases h2.part with q | ⟨x, x1, x2, q⟩
    · rw [q]; exact short_nil
    · exact short_part h2.short q
  have hll : 34 * ids.length ≤ 65536 := by
    have := h2.len
    rw [h2.log, List.length_append, logB_len] at this
    omega
  obtain ⟨pb, hj⟩ := h2.grounds
  have q := open11_part hsh (ht.off h4 (by simp)) h1 h0 (by rw [h2.acts]; omega) h2.live.stops 0 (by omega) ids (by rw [h2.log]) h2.okIds hll (by rw [h2.shp]; exact h2.len)
  refine q.mono ?_
  rintro e w' ⟨g', fl, rfl, q1, q2, q3⟩
  have hlt := h1.lt
  refine ⟨g', 34 * ids.length, pb, rfl, ⟨dl.act, _, fp, fl, dead, rf, q2.1, q1, hj.act, ?_, by have := dl.act_acts; rw [h2.acts] at this; exact this, fun z hz => ⟨h3 z hz, fun hz' => by have := q3 z hz'; have := hlt z hz; omega⟩, fun z hz => Nat.le_trans h6 (q3 z hz), h4.trans q2.2 (fun z hz => .inr (Nat.le_trans h5 (h3 z hz))), h5, h7.off q2.2 (fun z hz hz' => by have := (h8 z hz).1; have := h3 z hz'; omega), h8⟩, hll, fun k c y hk => (hj.parse k c y hk).1⟩
  unfold LogM.fin openLog
  simp only
  omega
/-- Each page on the disk is read, and none is beyond the log. -/
def PageIn (w0 : World) (r d g p d' g' : Nat) (t : Nat → Nat) (N : Nat) (was : List (List (List UInt8))) (L : Nat) (pb : List UInt8) (B k : Nat) (w : World) : Prop := LeftW w0 r d g p d' g' t N was L pb B (2 + k) w
set_option maxRecDepth 100000 in
set_option maxHeartbeats 8000000 in
theorem first45 (ht : Tbl t w0) (h : LeftX w0 r d g p d' t N was B w) (hN : 1 ≤ N ∧ N ≤ 15) :
    Calls Tryz.prog 45 #[.pointer (some ⟨r, 0, none⟩), .pointer (some ⟨d', 0, none⟩)] w fun e w' => e = .returned (.bool true) ∧ Off [] w0 w' := by
  have HT := Lib.hid ht
  have HOP := Lib.hid (h.open ht)
  have HN := Lib.hid hN
  obtain ⟨P, hP⟩ : ∃ P : Ending → World → Prop, P = fun e w' => e = .returned (.bool true) ∧ Off [] w0 w' := ⟨_, rfl⟩
  rw [← hP]
  have HP : Hid (∀ w', Off [] w0 w' → P (.returned (.bool true)) w') := Lib.hid (fun w' ho => by rw [hP]; exact ⟨rfl, ho⟩)
  clear hP h ht hN
  go_enter Tryz.func45, Tryz.ntmps45
  go_wp2_with fail
  refine HOP.out.mono ?_
  rintro e w1 ⟨g', L, pb, rfl, hL1, hLL, hLP⟩
  have HL1 := Lib.hid hL1
  have HLL := Lib.hid (And.intro hLL hLP)
  clear hL1 hLL hLP HOP
  have HRP := Lib.hid (HL1.out.readPair (by omega))
  go_wp2_with (go_at_call 9; refine (num9 _ _).mono ?_; rintro e w' ⟨rfl, rfl⟩)
  refine HRP.out.mono ?_
  rintro e w2 ⟨ao, cap, rfl, hb, hpl, hL2⟩
  have HL2 := Lib.hid hL2
  have f3 := hL2.since.2
  have HPA := Lib.hid (parse107 _ pb w2 (HT.out.off hL2.since.1 (by simp)) hb hpl N HN.out.2)
  have HPL := Lib.hid hpl
  clear hb hpl hL2 HRP HL1
  go_wp2_with (go_at_call 9; refine (num9 _ _).mono ?_; rintro e w' ⟨rfl, rfl⟩)
  refine HPA.out.mono ?_
  intro e w3 hpp
  cases hpm : parseM t N pb with
  | none =>
    rw [hpm] at hpp
    obtain ⟨rfl, o3⟩ := hpp
    have HLT : Hid (LeftW w0 r d g p d' g' t N was L pb B (2 + 0) w3) := Lib.hid (HL2.out.quiet o3)
    clear HPA hpm o3 HL2 f3
    have f3 := HLT.out.since.2
    go_wp2_with (go_at_call 9; refine (num9 _ _).mono ?_; rintro e w' ⟨rfl, rfl⟩)
    go_loopw [14] (fun i wr => ∃ k : Nat, k ≤ N ∧ i = .int .i64 (k : Int) ∧ LeftW w0 r d g p d' g' t N was L pb B (2 + k) wr) (fun i _ => N - (intOf i).toNat)
    case atStart => exact ⟨0, by omega, rfl, HLT.out⟩
    case round =>
      obtain ⟨k, hk, rfl, hin⟩ := hrel
      have HI := Lib.hid hin
      have f3 := hin.since.2
      have hN5 : N ≤ 15 := HN.out.2
      clear hin
      by_cases hkn : k < N
      · have hkn' : (k : Int) < (N : Int) := by omega
        have HRG := Lib.hid (HI.out.readPage (by omega) hkn)
        go_wp2_with fail
        refine HRG.out.mono ?_
        rintro e wa ⟨bo, bc, bb, rfl, hb, hb40, hbz, hLa⟩
        have HLa := Lib.hid hLa
        have HCK := Lib.hid (check64 _ bb (k : Int) 1 wa (HT.out.off hLa.since.1 (by simp)) hb (by omega))
        unfold CheckPost at HCK
        have HBZ := Lib.hid hbz
        clear hb hb40 hbz hLa HRG f3
        go_wp2_with fail
        refine HCK.out.mono ?_
        rintro e wb ⟨rfl, ob⟩
        have HLb := Lib.hid (HLa.out.quiet ob)
        have HEN := Lib.hid (HLb.out.end)
        clear ob HCK HLa
        cases hpc : pageCheck t bb (k : Int) 1 with
        | none =>
          have e1 : errOf (none : Option Nat) 40 = 40 := rfl
          have e2 : (none : Option Nat).getD 0 = 0 := rfl
          rw [e1, e2]
          clear hpc HBZ HEN
          go_wp2_with (go_at_call 9; refine (num9 _ _).mono ?_; rintro e w' ⟨rfl, rfl⟩)
          go_roundw
          case rel => exact ⟨k + 1, by omega, by go_num, by rw [show 2 + (k + 1) = 2 + k + 1 by omega]; exact HLb.out⟩
          case measure => simp [intOf]; omega
        | some z =>
          have e1 : errOf (some z) 40 = 0 := rfl
          have e2 : (some z).getD 0 = z := rfl
          rw [e1, e2]
          have hz := HBZ.out z hpc
          have hge : ¬ ((z : Int) ≥ (L : Int) + 1) := by omega
          have hge2 : ¬ ((L : Int) + 1 ≤ (z : Int)) := by omega
          have hlt2 : (z : Int) < (L : Int) + 1 := by omega
          clear hpc HBZ hz
          go_wp2_with (first | (go_at_call 9; refine (num9 _ _).mono ?_; rintro e w' ⟨rfl, rfl⟩) | (go_at_call 67; refine HEN.out.mono ?_; rintro e wc ⟨rfl, hLc⟩; have HLc := Lib.hid hLc; clear hLc))
          go_roundw
          case rel => exact ⟨k + 1, by omega, by go_num, by rw [show 2 + (k + 1) = 2 + k + 1 by omega]; exact HLc.out⟩
          case measure => simp [intOf]; omega
      · have hkn' : ¬ ((k : Int) < (N : Int)) := by omega
        have HRE := Lib.hid (HI.out.repair HT.out (by omega))
        clear hkn
        go_wp2_with fail
        refine HRE.out.mono ?_
        rintro e wd ⟨xx, rfl, hM0⟩
        have HM0 := Lib.hid hM0
        clear hM0 HRE f3
        go_wp2_with (go_at_call 9; refine (num9 _ _).mono ?_; rintro e w' ⟨rfl, rfl⟩)
        go_loopw [21] (fun i wr => ∃ j : Nat, j ≤ N ∧ i = .int .i64 (j : Int) ∧ MendW w0 r d g p d' N was B (100 + j) wr) (fun i _ => N - (intOf i).toNat)
        case atStart => exact ⟨0, by omega, rfl, HM0.out.mono (by omega)⟩
        case round =>
          obtain ⟨j, hj, rfl, hin⟩ := hrel
          have HI := Lib.hid hin
          have f3 := hin.since.2
          clear hin
          by_cases hjn : j < N
          · have hjn' : (j : Int) < (N : Int) := by omega
            have hj0 : (0 : Int) ≤ (j : Int) := by omega
            have HRG := Lib.hid (HI.out.readPage (by omega) hjn)
            go_wp2_with fail
            refine HRG.out.mono ?_
            rintro e wa ⟨bo, bc, bb, rfl, hb, hb40, hbw, hLa⟩
            have HLa := Lib.hid hLa
            obtain ⟨wbk, woff, wc, x, r4, wx, hst⟩ := hLa.list hjn
            have hcv := hb.str
            have HAM := Lib.hid (among110 hst hbw)
            obtain ⟨xo, xc, rfl, _⟩ := Own.val hst
            have HLQ : Hid (∀ W, Off [] wa W → MendW w0 r d g p d' N was B (100 + (j + 1)) W) := Lib.hid (fun W ho => by rw [show 100 + (j + 1) = 100 + j + 1 by omega]; exact HLa.out.quiet ho)
            have HSS : Hid (∀ W, Off [] wa W → W.cell? ⟨r, 4, none⟩ = some (.slice (some ⟨wbk, woff, none⟩) N wc) ∧ W.cell? ⟨wbk, woff + j, none⟩ = some (.slice xo (wfOf was j).length xc) ∧ (convert 22 9 (.slice bo 40 bc)).run Tryz.prog W = .ok (.string (strB bb)) W) := Lib.hid (fun W ho => ⟨ho.cell r4 (by simp), ho.cell wx (by simp), (hb.off ho (by simp)).str⟩)
            have HAM2 : Hid (∀ W, Off [] wa W → Calls Tryz.prog 110 #[.slice xo (wfOf was j).length xc, .string (strB bb)] W fun e w' => e = .returned (.bool true) ∧ Off [] W w') := Lib.hid (fun W ho => among110 (Own.off hst ho (by simp)) hbw)
            clear hb hb40 hst hLa HRG hbw f3 r4 wx hcv HAM
            generalize (wfOf was j).length = wn at *
            go_wp2_with fail
            go_region_held3 (fun W => W.cell? ⟨r, 4, none⟩ = some (.slice (some ⟨wbk, woff, none⟩) N wc) ∧ W.cell? ⟨wbk, woff + j, none⟩ = some (.slice xo wn xc) ∧ (convert 22 9 (.slice bo 40 bc)).run Tryz.prog W = .ok (.string (strB bb)) W)
              (first | exact HSS.out _ (Off.refl _ _) | exact HSS.out _ (Off.refl _ _).drew | exact HSS.out _ HOE.out | fail)
              (first
              | (go_at_call 9; refine (num9 _ _).mono ?_; rintro e wx ⟨rfl, rfl⟩)
              | (go_at_call 110; refine (HAM2.out _ (by first | exact Off.refl _ _ | exact (Off.refl _ _).drew)).mono ?_; rintro e we ⟨rfl, oe⟩; have HOE : Hid (Off [] wa we) := Lib.hid (by first | exact oe | exact ((Off.refl _ _).drew).trans oe (by simp)); clear oe))
            all_goals
              go_wp2_with fail
              go_roundw
              case rel => exact ⟨j + 1, by omega, by go_num, HLQ.out _ HOE.out⟩
              case measure => simp [intOf]; omega
          · have hjn' : ¬ ((j : Int) < (N : Int)) := by omega
            have HF := Lib.hid (HP.out wr HI.out.since.1)
            go_wp2_with fail
            first | exact HF.out | (go_ret; exact HF.out)
  | some q =>
    obtain ⟨n, c, y⟩ := q
    rw [hpm] at hpp
    obtain ⟨co, cc, rfl, hc, o3, _⟩ := hpp
    have hyL := HLL.out.2 n c y hpm
    have hlsn : pageLsn c = some y := by
      obtain ⟨h1, h2, h3, h4, h5, h6, h7, h8⟩ := parse_inv HPL.out hpm
      rcases (check_inv h8).2 with ⟨_, e⟩ | ⟨e, _⟩
      · omega
      · exact e
    have c40 := (parse_len HPL.out hpm).1
    have HLS := Lib.hid (lsn108 _ c w3 hc (by omega))
    rw [hlsn] at HLS
    have e1 : errOf (some y) 40 = 0 := rfl
    have e2 : (some y).getD 0 = y := rfl
    rw [e1, e2] at HLS
    have HL3 := Lib.hid (HL2.out.quiet o3)
    have hge : ¬ ((y : Int) ≥ (L : Int) + 1) := by omega
    have hge2 : ¬ ((L : Int) + 1 ≤ (y : Int)) := by omega
    have hlt2 : (y : Int) < (L : Int) + 1 := by omega
    clear HPA hpm o3 HL2 hc hyL hlsn c40 e1 e2 f3
    go_wp2_with (go_at_call 9; refine (num9 _ _).mono ?_; rintro e w' ⟨rfl, rfl⟩)
    refine HLS.out.mono ?_
    rintro e w4 ⟨rfl, o4⟩
    have HEN0 := Lib.hid ((HL3.out.quiet o4).end)
    clear o4 HLS HL3
    go_wp2_with (first | (go_at_call 9; refine (num9 _ _).mono ?_; rintro e w' ⟨rfl, rfl⟩) | (go_at_call 67; refine HEN0.out.mono ?_; rintro e w5 ⟨rfl, hL5⟩; have HLT : Hid (LeftW w0 r d g p d' g' t N was L pb B (2 + 0) w5) := Lib.hid hL5; have f3 := hL5.since.2; clear hL5 HEN0))
    go_loopw [14] (fun i wr => ∃ k : Nat, k ≤ N ∧ i = .int .i64 (k : Int) ∧ LeftW w0 r d g p d' g' t N was L pb B (2 + k) wr) (fun i _ => N - (intOf i).toNat)
    case atStart => exact ⟨0, by omega, rfl, HLT.out⟩
    case round =>
      obtain ⟨k, hk, rfl, hin⟩ := hrel
      have HI := Lib.hid hin
      have f3 := hin.since.2
      have hN5 : N ≤ 15 := HN.out.2
      clear hin
      by_cases hkn : k < N
      · have hkn' : (k : Int) < (N : Int) := by omega
        have HRG := Lib.hid (HI.out.readPage (by omega) hkn)
        go_wp2_with fail
        refine HRG.out.mono ?_
        rintro e wa ⟨bo, bc, bb, rfl, hb, hb40, hbz, hLa⟩
        have HLa := Lib.hid hLa
        have HCK := Lib.hid (check64 _ bb (k : Int) 1 wa (HT.out.off hLa.since.1 (by simp)) hb (by omega))
        unfold CheckPost at HCK
        have HBZ := Lib.hid hbz
        clear hb hb40 hbz hLa HRG f3
        go_wp2_with fail
        refine HCK.out.mono ?_
        rintro e wb ⟨rfl, ob⟩
        have HLb := Lib.hid (HLa.out.quiet ob)
        have HEN := Lib.hid (HLb.out.end)
        clear ob HCK HLa
        cases hpc : pageCheck t bb (k : Int) 1 with
        | none =>
          have e1 : errOf (none : Option Nat) 40 = 40 := rfl
          have e2 : (none : Option Nat).getD 0 = 0 := rfl
          rw [e1, e2]
          clear hpc HBZ HEN
          go_wp2_with (go_at_call 9; refine (num9 _ _).mono ?_; rintro e w' ⟨rfl, rfl⟩)
          go_roundw
          case rel => exact ⟨k + 1, by omega, by go_num, by rw [show 2 + (k + 1) = 2 + k + 1 by omega]; exact HLb.out⟩
          case measure => simp [intOf]; omega
        | some z =>
          have e1 : errOf (some z) 40 = 0 := rfl
          have e2 : (some z).getD 0 = z := rfl
          rw [e1, e2]
          have hz := HBZ.out z hpc
          have hge : ¬ ((z : Int) ≥ (L : Int) + 1) := by omega
          have hge2 : ¬ ((L : Int) + 1 ≤ (z : Int)) := by omega
          have hlt2 : (z : Int) < (L : Int) + 1 := by omega
          clear hpc HBZ hz
          go_wp2_with (first | (go_at_call 9; refine (num9 _ _).mono ?_; rintro e w' ⟨rfl, rfl⟩) | (go_at_call 67; refine HEN.out.mono ?_; rintro e wc ⟨rfl, hLc⟩; have HLc := Lib.hid hLc; clear hLc))
          go_roundw
          case rel => exact ⟨k + 1, by omega, by go_num, by rw [show 2 + (k + 1) = 2 + k + 1 by omega]; exact HLc.out⟩
          case measure => simp [intOf]; omega
      · have hkn' : ¬ ((k : Int) < (N : Int)) := by omega
        have HRE := Lib.hid (HI.out.repair HT.out (by omega))
        clear hkn
        go_wp2_with fail
        refine HRE.out.mono ?_
        rintro e wd ⟨xx, rfl, hM0⟩
        have HM0 := Lib.hid hM0
        clear hM0 HRE f3
        go_wp2_with (go_at_call 9; refine (num9 _ _).mono ?_; rintro e w' ⟨rfl, rfl⟩)
        go_loopw [21] (fun i wr => ∃ j : Nat, j ≤ N ∧ i = .int .i64 (j : Int) ∧ MendW w0 r d g p d' N was B (100 + j) wr) (fun i _ => N - (intOf i).toNat)
        case atStart => exact ⟨0, by omega, rfl, HM0.out.mono (by omega)⟩
        case round =>
          obtain ⟨j, hj, rfl, hin⟩ := hrel
          have HI := Lib.hid hin
          have f3 := hin.since.2
          clear hin
          by_cases hjn : j < N
          · have hjn' : (j : Int) < (N : Int) := by omega
            have hj0 : (0 : Int) ≤ (j : Int) := by omega
            have HRG := Lib.hid (HI.out.readPage (by omega) hjn)
            go_wp2_with fail
            refine HRG.out.mono ?_
            rintro e wa ⟨bo, bc, bb, rfl, hb, hb40, hbw, hLa⟩
            have HLa := Lib.hid hLa
            obtain ⟨wbk, woff, wc, x, r4, wx, hst⟩ := hLa.list hjn
            have hcv := hb.str
            have HAM := Lib.hid (among110 hst hbw)
            obtain ⟨xo, xc, rfl, _⟩ := Own.val hst
            have HLQ : Hid (∀ W, Off [] wa W → MendW w0 r d g p d' N was B (100 + (j + 1)) W) := Lib.hid (fun W ho => by rw [show 100 + (j + 1) = 100 + j + 1 by omega]; exact HLa.out.quiet ho)
            have HSS : Hid (∀ W, Off [] wa W → W.cell? ⟨r, 4, none⟩ = some (.slice (some ⟨wbk, woff, none⟩) N wc) ∧ W.cell? ⟨wbk, woff + j, none⟩ = some (.slice xo (wfOf was j).length xc) ∧ (convert 22 9 (.slice bo 40 bc)).run Tryz.prog W = .ok (.string (strB bb)) W) := Lib.hid (fun W ho => ⟨ho.cell r4 (by simp), ho.cell wx (by simp), (hb.off ho (by simp)).str⟩)
            have HAM2 : Hid (∀ W, Off [] wa W → Calls Tryz.prog 110 #[.slice xo (wfOf was j).length xc, .string (strB bb)] W fun e w' => e = .returned (.bool true) ∧ Off [] W w') := Lib.hid (fun W ho => among110 (Own.off hst ho (by simp)) hbw)
            clear hb hb40 hst hLa HRG hbw f3 r4 wx hcv HAM
            generalize (wfOf was j).length = wn at *
            go_wp2_with fail
            go_region_held3 (fun W => W.cell? ⟨r, 4, none⟩ = some (.slice (some ⟨wbk, woff, none⟩) N wc) ∧ W.cell? ⟨wbk, woff + j, none⟩ = some (.slice xo wn xc) ∧ (convert 22 9 (.slice bo 40 bc)).run Tryz.prog W = .ok (.string (strB bb)) W)
              (first | exact HSS.out _ (Off.refl _ _) | exact HSS.out _ (Off.refl _ _).drew | exact HSS.out _ HOE.out | fail)
              (first
              | (go_at_call 9; refine (num9 _ _).mono ?_; rintro e wx ⟨rfl, rfl⟩)
              | (go_at_call 110; refine (HAM2.out _ (by first | exact Off.refl _ _ | exact (Off.refl _ _).drew)).mono ?_; rintro e we ⟨rfl, oe⟩; have HOE : Hid (Off [] wa we) := Lib.hid (by first | exact oe | exact ((Off.refl _ _).drew).trans oe (by simp)); clear oe))
            all_goals
              go_wp2_with fail
              go_roundw
              case rel => exact ⟨j + 1, by omega, by go_num, HLQ.out _ HOE.out⟩
              case measure => simp [intOf]; omega
          · have hjn' : ¬ ((j : Int) < (N : Int)) := by omega
            have HF := Lib.hid (HP.out wr HI.out.since.1)
            go_wp2_with fail
            first | exact HF.out | (go_ret; exact HF.out)
end
end Go.Proofs.YtfdgiblkllfpjaaGreatDoor
