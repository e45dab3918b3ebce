/- pair: Write, the walk. -/
import Derived.Test.YtfdgiblkllfpjaaGreatDoorL06
import Derived.Test.YtfdgiblkllfpjaaGreatDoorProg
import Derived.Conc.MuLone
import Derived.KernelRfl
set_option linter.unusedVariables false
set_option linter.unusedSimpArgs false
namespace Go.Proofs.YtfdgiblkllfpjaaGreatDoor
open Go.ChangeShapes Go.WideShapes Go.ChangeAt Go.RowKit

def PairPost (d : Nat) (fp : List Nat) (r : DiskM × Int) (w : World) (e : Ending) (w' : World) : Prop := e = .returned (.int .i64 r.2) ∧ DiskStep d fp r.1 w w'
theorem DiskM.put_plain {m : DiskM} (h : m.plain) (k : Nat) (hk : k ≤ m.shp.pages) (l : List UInt8) : (m.put k l).plain := by
  intro x hx
  rw [(m.put_fields k l).2.2.2.1] at hx
  rcases List.mem_append.1 hx with q | q
  · exact h x q
  · simp at q; subst q; simp; omega
theorem DiskM.sync_plain {m : DiskM} : m.sync.plain := by
  intro x hx
  rw [m.sync_fields.2.2.2.1] at hx; simp at hx
def PairOk (m m' : DiskM) (k : Nat) : Prop := m'.shp = m.shp ∧ m'.fit ∧ m'.plain ∧ m'.acts ≤ m.acts + k ∧ m'.loose.length ≤ m.loose.length + 1
theorem pairS_ok {m : DiskM} (hfit : m.fit) (hpl : m.plain) {n : Nat} (hn : n < m.shp.pages) {b pb : List UInt8} (hb : b.length = m.shp.pageB) (hpb : pb.length = 16 + m.shp.pageB) :
    PairOk m (pairS m n b pb 0) 0 ∧ PairOk m (pairS m n b pb 1) 1 ∧ PairOk m (pairS m n b pb 2) 2 ∧ PairOk m (pairS m n b pb 3) 3 ∧ PairOk m (pairS m n b pb 4) 4 := by
  have a1 := m.put_fields m.shp.pages pb
  have b1 : (m.put m.shp.pages pb).fit := DiskM.put_fit hfit _ (by omega) _ (by rw [hpb]; unfold Shp.sizeB; rw [if_neg (by omega), if_pos rfl])
  have c1 : (m.put m.shp.pages pb).plain := DiskM.put_plain hpl _ (Nat.le_refl _) _
  have a2 := (m.put m.shp.pages pb).sync_fields
  have b2 := DiskM.sync_fit b1
  have c2 := (DiskM.sync_plain : (m.put m.shp.pages pb).sync.plain)
  have a3 := (m.put m.shp.pages pb).sync.put_fields n b
  have hs : (m.put m.shp.pages pb).sync.shp = m.shp := a2.1.trans a1.1
  have b3 : ((m.put m.shp.pages pb).sync.put n b).fit := DiskM.put_fit b2 _ (by rw [hs]; omega) _ (by rw [hb, hs]; unfold Shp.sizeB; rw [if_pos hn])
  have c3 : ((m.put m.shp.pages pb).sync.put n b).plain := DiskM.put_plain c2 _ (by rw [hs]; omega) _
  have a4 := ((m.put m.shp.pages pb).sync.put n b).sync_fields
  have b4 := DiskM.sync_fit b3
  have l1 := a1.2.2.2.1
  have l2 := a2.2.2.2.1
  have l3 := a3.2.2.2.1
  have l4 := a4.2.2.2.1
  refine ⟨⟨rfl, hfit, hpl, Nat.le_refl _, by simp [pairS]⟩, ⟨a1.1, b1, c1, a1.2.2.2.2.2.1, ?_⟩, ⟨hs, b2, c2, ?_, ?_⟩, ⟨a3.1.trans hs, b3, c3, ?_, ?_⟩, ⟨(a4.1.trans a3.1).trans hs, b4, DiskM.sync_plain, ?_, ?_⟩⟩
  · show (m.put m.shp.pages pb).loose.length ≤ _; rw [l1]; simp
  · show (m.put m.shp.pages pb).sync.acts ≤ _; have := a1.2.2.2.2.2.1; have := a2.2.2.2.2.2.1; omega
  · show (m.put m.shp.pages pb).sync.loose.length ≤ _; rw [l2]; simp
  · show ((m.put m.shp.pages pb).sync.put n b).acts ≤ _; have := a1.2.2.2.2.2.1; have := a2.2.2.2.2.2.1; have := a3.2.2.2.2.2.1; omega
  · show ((m.put m.shp.pages pb).sync.put n b).loose.length ≤ _; rw [l3, l2]; simp
  · show ((m.put m.shp.pages pb).sync.put n b).sync.acts ≤ _; have := a1.2.2.2.2.2.1; have := a2.2.2.2.2.2.1; have := a3.2.2.2.2.2.1; have := a4.2.2.2.2.2.1; omega
  · show ((m.put m.shp.pages pb).sync.put n b).sync.loose.length ≤ _; rw [l4]; simp
set_option maxRecDepth 100000 in
set_option maxHeartbeats 8000000 in
theorem write131 {t : Nat → Nat} {w : World} {d : Nat} {m : DiskM} {fp : List Nat} (ht : Tbl t w) (h : DiskR w d m fp) (hfit : m.fit) (hpl : m.plain) (ha : m.acts < 4000000000000000000) (hll : m.loose.length < 900000) (n : Nat) (hn : n < m.shp.pages) (v : Value) (b : List UInt8) (hb : IsB w v b) (hv : ∀ z ∈ blk v, z ∉ fp) (hl : b.length = m.shp.pageB)
    (lsn : Nat) (hc : pageCheck t b (n : Int) (slotsN b.length : Nat) = some lsn) (h1 : 1 ≤ lsn) (h2 : lsn ≤ 1152921504606846976) :
    Calls Tryz.prog 131 #[.pointer (some ⟨d, 0, none⟩), .int .i64 (n : Int), v] w (PairPost d fp (pairM m n b (pairB lsn n b)) w) := by
  obtain ⟨vo, vc, rfl⟩ := hb.val
  have hok := h.ok.1
  have hlt := h.lt
  obtain ⟨wb, hwb⟩ : ∃ wb, wb = ((w.alloc (.cells #[.pointer (some ⟨d, 0, none⟩)] 23)).alloc (.cells #[.int .i64 (n : Int)] 3)).alloc (.cells #[.slice vo b.length vc] 22) := ⟨_, rfl⟩
  have hob : Off [] w wb := by rw [hwb]; exact (((Off.refl [] w).alloc _).alloc _).alloc _
  have i0 : IsC wb w.heap.size #[.pointer (some ⟨d, 0, none⟩)] 23 := by rw [hwb]; exact ((IsC.new w _ _).alloc _).alloc _
  have i1 : IsC wb (w.heap.size + 1) #[.int .i64 (n : Int)] 3 := by rw [hwb]; exact (IsC.newAt _ (by simp)).alloc _
  have i2 : IsC wb (w.heap.size + 1 + 1) #[.slice vo b.length vc] 22 := by rw [hwb]; exact IsC.newAt _ (by simp)
  have hsb : wb.heap.size = w.heap.size + 1 + 1 + 1 := by rw [hwb]; simp
  have HSH := Lib.hid (shape51 (h.off hob (by simp)))
  have hpb : m.shp.pageB ≤ 152 := by unfold Shp.pageB; have := hok.2.2.2.1; omega
  have HMK : Hid (∀ W, Off [] w W → Calls Tryz.prog 197 #[.int .i64 (n : Int), .slice vo b.length vc] W (StampPost W (pairB lsn n b))) := Lib.hid (fun W ho => make197 n _ b lsn W (ht.off ho (by simp)) (hb.off ho (by simp)) (by omega) (by have := hok.2.1; omega) hc h1 h2)
  have HBY : Hid (∀ W, Calls Tryz.prog 126 #[.int .i64 (m.shp.slots : Nat)] W fun e w' => e = .returned (.int .i64 (b.length : Nat)) ∧ W = w') := Lib.hid (fun W => by
    have q := bytes126 (m.shp.slots : Int) W
    rw [show pageLen (m.shp.slots : Int) = ((b.length : Nat) : Int) by rw [hl]; unfold pageLen Shp.pageB; have := hok.2.2.1; have := hok.2.2.2.1; rw [if_neg (by omega)]; omega] at q
    exact q)
  have HALL := Lib.hid (And.intro h (And.intro hfit (And.intro hpl (And.intro hb (And.intro hv (And.intro hl (And.intro ha hll)))))))
  have HOB := Lib.hid hob
  have HI := Lib.hid (And.intro i0 (And.intro i1 i2))
  have HSB := Lib.hid hsb
  have HLT := Lib.hid hlt
  have HPL : Hid ((pairB lsn n b).length = 16 + m.shp.pageB) := Lib.hid (by rw [pairB_len, hl])
  obtain ⟨P, hP⟩ : ∃ P, P = PairPost d fp (pairM m n b (pairB lsn n b)) w := ⟨_, rfl⟩
  rw [← hP]
  have HP := Lib.hid hP
  have HOK := Lib.hid hok
  clear h hfit hpl hb hv ha hll hob hsb hlt hP hc h1 h2 ht hpb i0 i1 i2 hl hok
  generalize pairB lsn n b = pb at *
  have hn' : n < m.shp.pages := hn
  generalize hpg : m.shp.pages = pg at *
  generalize hsl : m.shp.slots = sl at *
  generalize (m.shp.log : Int) = lg at *
  go_enter Tryz.func131, Tryz.ntmps131
  go_wp2_with fail
  rw [← hwb]
  clear hwb
  obtain ⟨i0, i1, i2⟩ := HI.out
  have c0 := i0.cell 0
  have c1 := i1.cell 0
  have c2 := i2.cell 0
  simp only [List.getElem?_toArray, List.getElem?_cons_zero] at c0 c1 c2
  clear i0 i1 i2
  generalize hwz : w.heap.size = wz at *
  have HWZ := Lib.hid hwz
  clear hwz
  refine HSH.out.mono ?_
  rintro e w1 ⟨rfl, ho1⟩
  have d0 := ho1.cell c0 (by simp)
  have d1 := ho1.cell c1 (by simp)
  have d2 := ho1.cell c2 (by simp)
  have HO1 := Lib.hid ho1
  have n0 : wz < w1.heap.size := World.block_lt_of_cell? w1 _ d0
  have n1 : wz + 1 < w1.heap.size := World.block_lt_of_cell? w1 _ d1
  have n2 : wz + 1 + 1 < w1.heap.size := World.block_lt_of_cell? w1 _ d2
  clear ho1 c0 c1 c2 HSH
  go_wp2_with fail
  obtain ⟨W2, hW2⟩ : ∃ W2, W2 = w1.alloc (.cells #[.int .i64 (pg : Int), .int .i64 (sl : Int), .int .i64 lg] 28) := ⟨_, rfl⟩
  rw [← hW2]
  have ho2 : Off [] w1 W2 := by rw [hW2]; exact (Off.refl [] w1).alloc _
  have i3 : IsC W2 w1.heap.size #[.int .i64 (pg : Int), .int .i64 (sl : Int), .int .i64 lg] 28 := by rw [hW2]; exact IsC.new _ _ _
  have HN2 := Lib.hid (HO1.out.trans ho2 (by simp))
  have HO2 := Lib.hid (HOB.out.trans (HO1.out.trans ho2 (by simp)) (by simp))
  refine (HMK.out _ HO2.out).mono ?_
  rintro e w3 ⟨po, pc, rfl, hp3, ho3, hf3⟩
  have i33 := i3.off ho3 (by simp)
  have e0 := (ho2.trans ho3 (by simp)).cell d0 (by simp)
  have e1 := (ho2.trans ho3 (by simp)).cell d1 (by simp)
  have e2 := (ho2.trans ho3 (by simp)).cell d2 (by simp)
  have s0 := i33.cell 0
  have s1 := i33.cell 1
  simp only [List.getElem?_toArray, List.getElem?_cons_zero, List.getElem?_cons_succ] at s0 s1
  have HO3 := Lib.hid (HO2.out.trans ho3 (by simp))
  have HN3 := Lib.hid (HN2.out.trans ho3 (by simp))
  have HP3 := Lib.hid (And.intro hp3 (fun z hz => Nat.le_trans HO2.out.size (hf3 z hz)))
  have m0 : wz < w3.heap.size := World.block_lt_of_cell? w3 _ e0
  have m1 : wz + 1 < w3.heap.size := World.block_lt_of_cell? w3 _ e1
  have m2 : wz + 1 + 1 < w3.heap.size := World.block_lt_of_cell? w3 _ e2
  have m3 : w1.heap.size < w3.heap.size := World.block_lt_of_cell? w3 _ s0
  have HR3 : Hid (w.heap.size ≤ wz) := Lib.hid (by rw [HWZ.out]; exact Nat.le_refl _)
  clear hp3 ho3 hf3 i3 i33 ho2 hW2 d0 d1 d2 n0 n1 n2 HMK
  generalize w1.heap.size = sb at *
  obtain ⟨W4, hW4⟩ : ∃ W4, W4 = w3.alloc (.cells #[.slice po pb.length pc] 218) := ⟨_, rfl⟩
  go_wp2_with fail
  rw [← hW4]
  have ho4 : Off [] w3 W4 := by rw [hW4]; exact (Off.refl [] w3).alloc _
  have i4 : IsC W4 w3.heap.size #[.slice po pb.length pc] 218 := by rw [hW4]; exact IsC.new _ _ _
  have f0 := ho4.cell e0 (by simp)
  have f1 := ho4.cell e1 (by simp)
  have f2 := ho4.cell e2 (by simp)
  have g0 := ho4.cell s0 (by simp)
  have g1 := ho4.cell s1 (by simp)
  have HO4 := Lib.hid (HO3.out.trans ho4 (by simp))
  have HN4 := Lib.hid (HN3.out.trans ho4 (by simp))
  have HQW : Hid (w.heap.size ≤ w3.heap.size) := Lib.hid HO3.out.size
  have HI4 := Lib.hid i4
  have HP4 := Lib.hid (HP3.out.1.off ho4 (by simp))
  clear ho4 i4 hW4 e0 e1 e2 s0 s1 m0 m1 m2 m3
  generalize w3.heap.size = qb at *
  go_quiet ((go_at_call 126; exact Calls.quiet_of_same ((HBY.out _).mono (fun e w' hh => ⟨hh.1, hh.2.symm⟩))))
  go_wp2_with fail
  obtain ⟨W5, hW5⟩ : ∃ W5, W5 = (W4.drewN nq).alloc (.cells #[.func (.func 198) #[] #[.pointer (some ⟨wz, 0, none⟩), .pointer (some ⟨qb, 0, none⟩)], .func (.func 168) #[.pointer (some ⟨d, 0, none⟩)] #[], .func (.func 200) #[] #[.pointer (some ⟨wz, 0, none⟩), .pointer (some ⟨wz + 1, 0, none⟩), .pointer (some ⟨wz + 1 + 1, 0, none⟩)], .func (.func 168) #[.pointer (some ⟨d, 0, none⟩)] #[]] 74) := ⟨_, rfl⟩
  rw [← hW5]
  have ho5 : Off [] W4 W5 := by rw [hW5]; exact ((Off.refl [] W4).drewN _).alloc _
  have i5 : IsC W5 W4.heap.size #[.func (.func 198) #[] #[.pointer (some ⟨wz, 0, none⟩), .pointer (some ⟨qb, 0, none⟩)], .func (.func 168) #[.pointer (some ⟨d, 0, none⟩)] #[], .func (.func 200) #[] #[.pointer (some ⟨wz, 0, none⟩), .pointer (some ⟨wz + 1, 0, none⟩), .pointer (some ⟨wz + 1 + 1, 0, none⟩)], .func (.func 168) #[.pointer (some ⟨d, 0, none⟩)] #[]] 74 := by rw [hW5]; exact IsC.newAt _ (by simp)
  have HO5 := Lib.hid (HO4.out.trans ho5 (by simp))
  have HAL := Lib.hid HALL.out
  have HLE : Hid (∀ z, w.heap.size ≤ z → z ∉ fp) := Lib.hid (fun z hz hz' => by have := HLT.out z hz'; have := HWZ.out; omega)
  have HSO := Lib.hid (pairS_ok HAL.out.2.1 HAL.out.2.2.1 (by rw [hpg]; exact hn) (b := b) (pb := pb) HAL.out.2.2.2.2.2.1 HPL.out)
  have HPG := Lib.hid hpg
  have hacts := HAL.out.2.2.2.2.2.2.1
  have hloose := HAL.out.2.2.2.2.2.2.2
  have hsz5 := HO5.out.size
  have hqw : w.heap.size ≤ qb := HQW.out
  have hn5 := HN4.out.trans ho5 (by simp)
  have HI5 : Hid (IsC W5 wz #[.pointer (some ⟨d, 0, none⟩)] 23 ∧ IsC W5 (wz + 1) #[.int .i64 (n : Int)] 3 ∧ IsC W5 (wz + 1 + 1) #[.slice vo b.length vc] 22 ∧ IsC W5 qb #[.slice po pb.length pc] 218) := Lib.hid (by
    obtain ⟨a, b, c⟩ := HI.out
    exact ⟨a.off hn5 (by simp), b.off hn5 (by simp), c.off hn5 (by simp), HI4.out.off ho5 (by simp)⟩)
  have HP5 : Hid (IsB W5 (.slice po pb.length pc) pb ∧ (∀ z ∈ blk (.slice po pb.length pc), z ∉ fp) ∧ ∀ z ∈ blk (.slice po pb.length pc), z < W5.heap.size) := Lib.hid ⟨HP4.out.off ho5 (by simp), fun z hz => HLE.out z (HP3.out.2 z hz), fun z hz => (HP4.out.off ho5 (by simp)).lt z hz⟩
  have HB5 : Hid (IsB W5 (.slice vo b.length vc) b ∧ (∀ z ∈ blk (.slice vo b.length vc), z ∉ fp) ∧ ∀ z ∈ blk (.slice vo b.length vc), z < W5.heap.size) := Lib.hid ⟨HAL.out.2.2.2.1.off HO5.out (by simp), HAL.out.2.2.2.2.1, fun z hz => (HAL.out.2.2.2.1.off HO5.out (by simp)).lt z hz⟩
  have HBX : Hid (wz ∉ fp ∧ wz + 1 ∉ fp ∧ wz + 1 + 1 ∉ fp ∧ qb ∉ fp ∧ W4.heap.size ∉ fp) := Lib.hid (by
    have := HWZ.out; have := HO4.out.size
    exact ⟨HLE.out _ (by omega), HLE.out _ (by omega), HLE.out _ (by omega), HLE.out _ hqw, HLE.out _ (by omega)⟩)
  have HTO : Hid (∀ (m' : DiskM) (w' : World), DiskStep d fp m' W5 w' → DiskStep d fp m' w w') := Lib.hid (fun m' w' k => DiskStep.before HO5.out k)
  have x0 := i5.cell 0
  have x1 := i5.cell 1
  have x2 := i5.cell 2
  have x3 := i5.cell 3
  simp only [List.getElem?_toArray, List.getElem?_cons_zero, List.getElem?_cons_succ] at x0 x1 x2 x3
  have HX := Lib.hid (And.intro x0 (And.intro x1 (And.intro x2 x3)))
  have HD5 : Hid (DiskStep d fp (pairS m n b pb 0) W5 W5) := Lib.hid ⟨fp, HAL.out.1.off HO5.out (by simp), Off.refl _ _, fun z hz => .inl hz⟩
  clear hn5 HN2 HN3 HN4 HQW x0 x1 x2 x3 i5 ho5 hW5 f0 f1 f2 g0 g1 HI4 HP4 HP3 HO4 HO3 HO2 HO1 HOB HALL hpg hsz5 hqw HI HLT HSB HBY HOK
  generalize W4.heap.size = fb at *
  go_loopw [47, 11, 12] (fun i _ _ wr => ∃ k : Nat, k ≤ 4 ∧ i = .int .i64 (k : Int) ∧ DiskStep d fp (pairS m n b pb k) W5 wr ∧ ∀ j, j < k → (pairS m n b pb j).stops = false) (fun i _ _ _ => 4 - (intOf i).toNat)
  case atStart => exact ⟨0, by omega, rfl, HD5.out, fun j hj => by omega⟩
  case round =>
    obtain ⟨k, hk, rfl, ⟨fpk, hd, ho, hs⟩, hst2⟩ := hrel
    have HTR : Hid (∀ (m' : DiskM) (w' : World), DiskStep d fpk m' wr w' → DiskStep d fp m' W5 w') := Lib.hid (fun m' w' ⟨fp', a, b, c⟩ => ⟨fp', a, ho.trans b hs, fun z hz => by
      have := ho.size
      rcases c z hz with q | q
      · exact hs z q
      · exact .inr (by omega)⟩)
    have HST := Lib.hid hst2
    rcases (by omega : k = 0 ∨ k = 1 ∨ k = 2 ∨ k = 3 ∨ k = 4) with rfl | rfl | rfl | rfl | rfl
    · have HCALL := Lib.hid (pairW198 hd HSO.out.1.2.1 (by have := HSO.out.1.2.2.2.1; omega) _ pb (HP5.out.1.off ho HP5.out.2.1) (fun z hz hz' => (hs z hz').elim (fun q => HP5.out.2.1 z hz q) (fun q => by have := HP5.out.2.2 z hz; omega)) (by rw [HPL.out, HSO.out.1.1]) (by have := HSO.out.1.2.2.2.2; omega) wz qb ((HI5.out.1).off ho HBX.out.1) ((HI5.out.2.2.2).off ho HBX.out.2.2.2.1))
      have HSTOP : Hid (∀ w', (pairS m n b pb 0).stops = true → DiskStep d fpk (pairS m n b pb 0).act wr w' → P (.returned (.int .i64 1)) w') := Lib.hid (fun w' hs1 hk1 => by
        rw [HP.out, pairM_stop (by omega) HST.out hs1]
        exact ⟨rfl, HTO.out _ _ (HTR.out _ _ hk1)⟩)
      have HGO : Hid (∀ w', (pairS m n b pb 0).stops = false → DiskStep d fpk (pairS m n b pb 1) wr w' → DiskStep d fp (pairS m n b pb 1) W5 w' ∧ ∀ j, j < 1 → (pairS m n b pb j).stops = false) := Lib.hid (fun w' hs1 hk1 => ⟨HTR.out _ _ hk1, fun j hj => by
        rcases Nat.lt_or_ge j 0 with q | q
        · exact HST.out j q
        · obtain rfl : j = 0 := by omega
          exact hs1⟩)
      have cx := ho.cell HX.out.1 HBX.out.2.2.2.2
      clear hd ho hs HTR HST hst2
      go_wp2_with fail
      refine HCALL.out.mono ?_
      intro e w6 hq
      rcases hq with ⟨hs1, rfl, hk1⟩ | ⟨hs1, rfl, hk1⟩
      · have HF := Lib.hid (HSTOP.out w6 hs1 hk1)
        clear hs1 hk1 HCALL HSTOP HGO
        go_wp2_with fail
        first | exact HF.out | (go_ret; exact HF.out)
      · have HF := Lib.hid (HGO.out w6 hs1 hk1)
        clear hs1 hk1 HCALL HSTOP HGO
        go_wp2_with fail
        go_roundw
        case rel => exact ⟨1, by omega, by go_num, HF.out.1, HF.out.2⟩
        case measure => simp [intOf]
    · have HCALL := Lib.hid (sync168 hd HSO.out.2.1.2.1 (by have := HSO.out.2.1.2.2.2.1; omega) HSO.out.2.1.2.2.1 (by have := HSO.out.2.1.2.2.2.2; omega))
      have HSTOP : Hid (∀ w', (pairS m n b pb 1).stops = true → DiskStep d fpk (pairS m n b pb 1).act wr w' → P (.returned (.int .i64 1)) w') := Lib.hid (fun w' hs1 hk1 => by
        rw [HP.out, pairM_stop (by omega) HST.out hs1]
        exact ⟨rfl, HTO.out _ _ (HTR.out _ _ hk1)⟩)
      have HGO : Hid (∀ w', (pairS m n b pb 1).stops = false → DiskStep d fpk (pairS m n b pb 2) wr w' → DiskStep d fp (pairS m n b pb 2) W5 w' ∧ ∀ j, j < 2 → (pairS m n b pb j).stops = false) := Lib.hid (fun w' hs1 hk1 => ⟨HTR.out _ _ hk1, fun j hj => by
        rcases Nat.lt_or_ge j 1 with q | q
        · exact HST.out j q
        · obtain rfl : j = 1 := by omega
          exact hs1⟩)
      have cx := ho.cell HX.out.2.1 HBX.out.2.2.2.2
      clear hd ho hs HTR HST hst2
      go_wp2_with fail
      refine HCALL.out.mono ?_
      intro e w6 hq
      rcases hq with ⟨hs1, rfl, hk1⟩ | ⟨hs1, rfl, hk1⟩
      · have HF := Lib.hid (HSTOP.out w6 hs1 hk1)
        clear hs1 hk1 HCALL HSTOP HGO
        go_wp2_with fail
        first | exact HF.out | (go_ret; exact HF.out)
      · have HF := Lib.hid (HGO.out w6 hs1 hk1)
        clear hs1 hk1 HCALL HSTOP HGO
        go_wp2_with fail
        go_roundw
        case rel => exact ⟨2, by omega, by go_num, HF.out.1, HF.out.2⟩
        case measure => simp [intOf]
    · have HCALL := Lib.hid (pairW200 hd HSO.out.2.2.1.2.1 (by have := HSO.out.2.2.1.2.2.2.1; omega) n (by rw [HSO.out.2.2.1.1, HPG.out]; exact hn) _ b (HB5.out.1.off ho HB5.out.2.1) (fun z hz hz' => (hs z hz').elim (fun q => HB5.out.2.1 z hz q) (fun q => by have := HB5.out.2.2 z hz; omega)) (by rw [HSO.out.2.2.1.1]; exact HAL.out.2.2.2.2.2.1) (by have := HSO.out.2.2.1.2.2.2.2; omega) wz (wz + 1) (wz + 1 + 1) ((HI5.out.1).off ho HBX.out.1) ((HI5.out.2.1).off ho HBX.out.2.1) ((HI5.out.2.2.1).off ho HBX.out.2.2.1))
      have HSTOP : Hid (∀ w', (pairS m n b pb 2).stops = true → DiskStep d fpk (pairS m n b pb 2).act wr w' → P (.returned (.int .i64 1)) w') := Lib.hid (fun w' hs1 hk1 => by
        rw [HP.out, pairM_stop (by omega) HST.out hs1]
        exact ⟨rfl, HTO.out _ _ (HTR.out _ _ hk1)⟩)
      have HGO : Hid (∀ w', (pairS m n b pb 2).stops = false → DiskStep d fpk (pairS m n b pb 3) wr w' → DiskStep d fp (pairS m n b pb 3) W5 w' ∧ ∀ j, j < 3 → (pairS m n b pb j).stops = false) := Lib.hid (fun w' hs1 hk1 => ⟨HTR.out _ _ hk1, fun j hj => by
        rcases Nat.lt_or_ge j 2 with q | q
        · exact HST.out j q
        · obtain rfl : j = 2 := by omega
          exact hs1⟩)
      have cx := ho.cell HX.out.2.2.1 HBX.out.2.2.2.2
      clear hd ho hs HTR HST hst2
      go_wp2_with fail
      refine HCALL.out.mono ?_
      intro e w6 hq
      rcases hq with ⟨hs1, rfl, hk1⟩ | ⟨hs1, rfl, hk1⟩
      · have HF := Lib.hid (HSTOP.out w6 hs1 hk1)
        clear hs1 hk1 HCALL HSTOP HGO
        go_wp2_with fail
        first | exact HF.out | (go_ret; exact HF.out)
      · have HF := Lib.hid (HGO.out w6 hs1 hk1)
        clear hs1 hk1 HCALL HSTOP HGO
        go_wp2_with fail
        go_roundw
        case rel => exact ⟨3, by omega, by go_num, HF.out.1, HF.out.2⟩
        case measure => simp [intOf]
    · have HCALL := Lib.hid (sync168 hd HSO.out.2.2.2.1.2.1 (by have := HSO.out.2.2.2.1.2.2.2.1; omega) HSO.out.2.2.2.1.2.2.1 (by have := HSO.out.2.2.2.1.2.2.2.2; omega))
      have HSTOP : Hid (∀ w', (pairS m n b pb 3).stops = true → DiskStep d fpk (pairS m n b pb 3).act wr w' → P (.returned (.int .i64 1)) w') := Lib.hid (fun w' hs1 hk1 => by
        rw [HP.out, pairM_stop (by omega) HST.out hs1]
        exact ⟨rfl, HTO.out _ _ (HTR.out _ _ hk1)⟩)
      have HGO : Hid (∀ w', (pairS m n b pb 3).stops = false → DiskStep d fpk (pairS m n b pb 4) wr w' → DiskStep d fp (pairS m n b pb 4) W5 w' ∧ ∀ j, j < 4 → (pairS m n b pb j).stops = false) := Lib.hid (fun w' hs1 hk1 => ⟨HTR.out _ _ hk1, fun j hj => by
        rcases Nat.lt_or_ge j 3 with q | q
        · exact HST.out j q
        · obtain rfl : j = 3 := by omega
          exact hs1⟩)
      have cx := ho.cell HX.out.2.2.2 HBX.out.2.2.2.2
      clear hd ho hs HTR HST hst2
      go_wp2_with fail
      refine HCALL.out.mono ?_
      intro e w6 hq
      rcases hq with ⟨hs1, rfl, hk1⟩ | ⟨hs1, rfl, hk1⟩
      · have HF := Lib.hid (HSTOP.out w6 hs1 hk1)
        clear hs1 hk1 HCALL HSTOP HGO
        go_wp2_with fail
        first | exact HF.out | (go_ret; exact HF.out)
      · have HF := Lib.hid (HGO.out w6 hs1 hk1)
        clear hs1 hk1 HCALL HSTOP HGO
        go_wp2_with fail
        go_roundw
        case rel => exact ⟨4, by omega, by go_num, HF.out.1, HF.out.2⟩
        case measure => simp [intOf]
    · have HF : Hid (P (.returned (.int .i64 0)) wr) := Lib.hid (by
        rw [HP.out, pairM_done HST.out]
        exact ⟨rfl, HTO.out _ _ ⟨fpk, hd, ho, hs⟩⟩)
      clear hd ho hs HTR HST hst2
      go_wp2_with fail
      first | exact HF.out | (go_ret; exact HF.out)
end Go.Proofs.YtfdgiblkllfpjaaGreatDoor

/- The numbers under which this program holds sync.Mutex, and that it holds it. -/
namespace Go.Proofs
abbrev Tryz.muLink : Go.Conc.Locks.MuLink := { lock := 55, unlock := 56, ilock := 119, iunlock := 120, lockSlow := 186, unlockSlow := 189, disable := 182, enable := 184, acquire := 185, relMerge := 187, cas32 := 183, add32 := 188, tMutex := 114, tIMutex := 112, tPMutex := 193, tPIMutex := 233, tPI32 := 235, tUP := 237, tNoCopy := 109, tU32 := 110 }
theorem Tryz.muLib : Go.Conc.Locks.MuLib Tryz.prog Tryz.muLink :=
  ⟨Tryz.func55, Tryz.func56, Tryz.func119, Tryz.func120, Tryz.func182, Tryz.func184, Tryz.func185, Tryz.func187, Tryz.func183, Tryz.func188, Tryz.underlying112, Tryz.runUnderlying112, Tryz.sizeOf112, Tryz.isAgg112, Tryz.zeroValue112, Tryz.underlying114, Tryz.runUnderlying114, Tryz.sizeOf114, Tryz.isAgg114, Tryz.zeroValue114, Tryz.underlying193, Tryz.runUnderlying193, Tryz.sizeOf193, Tryz.isAgg193, Tryz.zeroValue193, Tryz.underlying233, Tryz.runUnderlying233, Tryz.sizeOf233, Tryz.isAgg233, Tryz.zeroValue233, Tryz.underlying235, Tryz.runUnderlying235, Tryz.sizeOf235, Tryz.isAgg235, Tryz.zeroValue235, Tryz.underlying237, Tryz.runUnderlying237, Tryz.sizeOf237, Tryz.isAgg237, Tryz.zeroValue237, Tryz.underlying109, Tryz.runUnderlying109, Tryz.sizeOf109, Tryz.isAgg109, Tryz.zeroValue109, Tryz.underlying21, Tryz.runUnderlying21, Tryz.sizeOf21, Tryz.isAgg21, Tryz.zeroValue21, (by kernel_rfl)⟩
end Go.Proofs

/- Maps keyed by int, whatever their elements: a map's block read as a list of pairs; look-up, store and delete as equations on the operation's run, in whatever world holds that block. -/
namespace Go.Proofs.YtfdgiblkllfpjaaGreatDoor
open Go.ChangeMaps (setBlock)
open Go.MapKept (IsKey)

section lists
variable {α β : Type}
def mget : List (Int × α) → Int → Option α
  | [], _ => none
  | p :: l, k => if p.1 = k then some p.2 else mget l k
def mput : List (Int × α) → Int → α → List (Int × α)
  | [], k, v => [(k, v)]
  | p :: l, k, v => if p.1 = k then (k, v) :: l else p :: mput l k v
def mdel : List (Int × α) → Int → List (Int × α)
  | [], _ => []
  | p :: l, k => if p.1 = k then l else p :: mdel l k

theorem mget_put (l : List (Int × α)) (k j : Int) (v : α) : mget (mput l k v) j = if k = j then some v else mget l j := by
  induction l with
  | nil => simp [mput, mget]
  | cons p l ih =>
    by_cases h : p.1 = k
    · simp only [mput, if_pos h, mget]; by_cases h2 : k = j <;> simp [h2]; intro hh; omega
    · simp only [mput, if_neg h, mget, ih]
      by_cases h2 : k = j
      · simp [h2, show ¬ p.1 = j by omega]
      · simp [h2]
theorem mget_none (l : List (Int × α)) (k : Int) : mget l k = none ↔ k ∉ l.map (·.1) := by
  induction l with
  | nil => simp [mget]
  | cons p l ih =>
    by_cases h : p.1 = k
    · simp [mget, h]
    · simp [mget, h, ih, Ne.symm h]
theorem mput_new (l : List (Int × α)) (k : Int) (v : α) (h : mget l k = none) : mput l k v = l ++ [(k, v)] := by
  induction l with
  | nil => rfl
  | cons p l ih =>
    by_cases h1 : p.1 = k
    · simp [mget, h1] at h
    · simp only [mget, if_neg h1] at h
      simp [mput, h1, ih h]
theorem mget_map (f : α → β) (l : List (Int × α)) (k : Int) : mget (l.map fun p => (p.1, f p.2)) k = (mget l k).map f := by
  induction l with
  | nil => rfl
  | cons p l ih => by_cases h : p.1 = k <;> simp [mget, h, ih]
theorem mput_map (f : α → β) (l : List (Int × α)) (k : Int) (v : α) : mput (l.map fun p => (p.1, f p.2)) k (f v) = (mput l k v).map fun p => (p.1, f p.2) := by
  induction l with
  | nil => rfl
  | cons p l ih => by_cases h : p.1 = k <;> simp [mput, h, ih]
theorem mdel_map (f : α → β) (l : List (Int × α)) (k : Int) : mdel (l.map fun p => (p.1, f p.2)) k = (mdel l k).map fun p => (p.1, f p.2) := by
  induction l with
  | nil => rfl
  | cons p l ih => by_cases h : p.1 = k <;> simp [mdel, h, ih]
theorem mput_split {l : List (Int × α)} {k : Int} {u v : α} (h : mget l k = some u) : ∃ a b, l = a ++ (k, u) :: b ∧ mput l k v = a ++ (k, v) :: b ∧ mdel l k = a ++ b ∧ mget a k = none := by
  induction l with
  | nil => simp [mget] at h
  | cons p l ih =>
    by_cases h1 : p.1 = k
    · simp only [mget, if_pos h1, Option.some.injEq] at h
      subst h; subst h1
      exact ⟨[], l, rfl, by simp [mput], by simp [mdel], rfl⟩
    · simp only [mget, if_neg h1] at h
      obtain ⟨a, b, e1, e2, e3, e4⟩ := ih h
      exact ⟨p :: a, b, by simp [e1], by simp [mput, h1, e2], by simp [mdel, h1, e3], by simp [mget, h1, e4]⟩
theorem mdel_none {l : List (Int × α)} {k : Int} (h : mget l k = none) : mdel l k = l := by
  induction l with
  | nil => rfl
  | cons p l ih =>
    by_cases h1 : p.1 = k
    · simp [mget, h1] at h
    · simp only [mget, if_neg h1] at h
      simp [mdel, h1, ih h]
theorem mem_of_mget {l : List (Int × α)} {k : Int} {v : α} (h : mget l k = some v) : (k, v) ∈ l := by
  obtain ⟨a, b, e, _⟩ := mput_split (v := v) h
  simp [e]
end lists

/-- The map's block reads as the list l. -/
def Ent (es : Array MapEntry) (l : List (Int × Value)) : Prop := es.toList.map (fun e => (e.key, e.val)) = l.map (fun p => (Value.int .i64 p.1, p.2))

theorem Ent.nil : Ent #[] [] := rfl
theorem Ent.isKey {es : Array MapEntry} {l : List (Int × Value)} (h : Ent es l) : ∀ x ∈ es.toList, IsKey (.int .i64) x.key := by
  intro x hx
  have : (x.key, x.val) ∈ l.map (fun p => (Value.int .i64 p.1, p.2)) := by rw [← h]; exact List.mem_map.2 ⟨x, hx, rfl⟩
  obtain ⟨p, _, hp⟩ := List.mem_map.1 this
  simp only [Prod.mk.injEq] at hp
  rw [← hp.1]; rfl

theorem findNow_none (k : Int) : ∀ (es : List MapEntry) (l : List (Int × Value)) (i : Nat), es.map (fun e => (e.key, e.val)) = l.map (fun p => (Value.int .i64 p.1, p.2)) → mget l k = none →
    Instr.findNow (.int .i64) (.int .i64 k) es i = some none
  | [], _, _, _, _ => rfl
  | e :: es, [], _, h, _ => by simp at h
  | e :: es, p :: l, i, h, hn => by
    simp only [List.map_cons, List.cons.injEq, Prod.mk.injEq] at h
    by_cases h1 : p.1 = k
    · simp [mget, h1] at hn
    · simp only [mget, if_neg h1] at hn
      have hne : (k == p.1) = false := by simp; exact fun q => h1 q.symm
      simp [Instr.findNow, h.1.1, Instr.sameNow, hne, findNow_none k es l (i + 1) h.2 hn]

theorem findNow_some (k : Int) (v : Value) : ∀ (es : List MapEntry) (l : List (Int × Value)) (i : Nat), es.map (fun e => (e.key, e.val)) = l.map (fun p => (Value.int .i64 p.1, p.2)) → mget l k = some v →
    ∃ j e, Instr.findNow (.int .i64) (.int .i64 k) es i = some (some (i + j, v)) ∧ es[j]? = some e ∧ e.key = .int .i64 k ∧ e.val = v ∧
      (∀ x born, (es.set j ⟨.int .i64 k, x, born⟩).map (fun e => (e.key, e.val)) = (mput l k x).map (fun p => (Value.int .i64 p.1, p.2))) ∧
      (es.eraseIdx j).map (fun e => (e.key, e.val)) = (mdel l k).map (fun p => (Value.int .i64 p.1, p.2))
  | [], [], _, _, hn => by simp [mget] at hn
  | [], p :: l, _, h, hn => by simp at h
  | e :: es, [], _, h, _ => by simp at h
  | e :: es, p :: l, i, h, hn => by
    simp only [List.map_cons, List.cons.injEq, Prod.mk.injEq] at h
    by_cases h1 : p.1 = k
    · simp only [mget, if_pos h1, Option.some.injEq] at hn
      refine ⟨0, e, ?_, rfl, by rw [h.1.1, h1], by rw [h.1.2, hn], ?_, ?_⟩
      · simp [Instr.findNow, h.1.1, Instr.sameNow, h1, h.1.2, hn]
      · intro x born; simp [mput, h1, h.2]
      · simp [mdel, h1, h.2]
    · simp only [mget, if_neg h1] at hn
      have hne : (k == p.1) = false := by simp; exact fun q => h1 q.symm
      obtain ⟨j, e', a1, a2, a3, a4, a5, a6⟩ := findNow_some k v es l (i + 1) h.2 hn
      refine ⟨j + 1, e', ?_, by simpa using a2, a3, a4, ?_, ?_⟩
      · simp [Instr.findNow, h.1.1, Instr.sameNow, hne, a1]; omega
      · intro x born; simp [mput, h1, a5 x born, h.1.1, h.1.2]
      · simp [mdel, h1, a6, h.1.1, h.1.2]

section
variable {P : Program} {t k e : TypeId}

theorem run_lookup_map {es : Array MapEntry} {clk : Nat} {l : List (Int × Value)} (ht : P.underlying t = some (.map k e)) (hk : P.underlying k = some (.int .i64)) {z : Value} (hz : ∀ W, (zeroValue e).run P W = .ok z W) (hl : Ent es l) (m : Nat) (key : Int) (c : Bool)
    (W : World) (hb : IsM W m es clk) :
    (Instr.lookup t (.map (some m)) (.int .i64 key) c).run P W = .ok (if c then .tuple #[(mget l key).getD z, .bool (mget l key).isSome] else (mget l key).getD z) W := by
  have hkey : IsKey (.int .i64) (.int .i64 key) := rfl
  unfold IsM at hb
  cases hg : mget l key with
  | none =>
    have h1 := findNow_none key es.toList l 0 hl hg
    simp [Instr.lookup, run_underlying ht, MapKept.run_getObj_map hb, MapKept.run_checkKey hk hkey, MapKept.run_findKey hk h1, hz, Result.andThen]
  | some v =>
    obtain ⟨j, e0, h1, h2, h3, h4, _, _⟩ := findNow_some key v es.toList l 0 hl hg
    simp [Instr.lookup, run_underlying ht, MapKept.run_getObj_map hb, MapKept.run_checkKey hk hkey, MapKept.run_findKey hk h1, Result.andThen]

theorem run_update_map {es : Array MapEntry} {clk : Nat} {l : List (Int × Value)} (ht : P.underlying t = some (.map k e)) (hk : P.underlying k = some (.int .i64)) (hl : Ent es l) (m : Nat) (key : Int) (v : Value) :
    ∃ es' clk', Ent es' (mput l key v) ∧ ∀ W : World, IsM W m es clk → (Instr.mapUpdate t (.map (some m)) (.int .i64 key) v).run P W = .ok () (setBlock W m (.map es' clk')) := by
  have hkey : IsKey (.int .i64) (.int .i64 key) := rfl
  cases hg : mget l key with
  | none =>
    have h1 := findNow_none key es.toList l 0 hl hg
    refine ⟨es.push ⟨.int .i64 key, v, clk⟩, clk + 1, ?_, fun W (hb : W.heap[m]? = some (.map es clk)) => ?_⟩
    · rw [mput_new l key v hg]; unfold Ent at hl ⊢; simp [hl]
    · simp [Instr.mapUpdate, run_underlying ht, MapKept.run_getObj_map hb, MapKept.run_checkKey hk hkey, MapKept.run_findKey hk h1, MapKept.run_setObj_map _ hb, Result.andThen, setBlock]
  | some u =>
    obtain ⟨j, e0, h1, h2, h3, h4, h5, _⟩ := findNow_some key u es.toList l 0 hl hg
    have hj : es[j]? = some e0 := by simpa using h2
    refine ⟨es.modify j (fun e' => { e' with key := .int .i64 key, val := v }), clk, ?_, fun W (hb : W.heap[m]? = some (.map es clk)) => ?_⟩
    · unfold Ent
      rw [Array.toList_modify, ← h5 v e0.born]
      congr 1
      exact ChangeMaps.modify_eq_set _ _ _ _ h2
    · simp [Instr.mapUpdate, run_underlying ht, MapKept.run_getObj_map hb, MapKept.run_checkKey hk hkey, MapKept.run_findKey hk h1, hj, h3, MapKept.run_keyThatStays hkey, MapKept.run_setObj_map _ hb, Result.andThen, setBlock]

theorem run_update_any {es : Array MapEntry} {clk : Nat} {l : List (Int × Value)} (ht : P.underlying t = some (.map k e)) (hk : P.underlying k = some (.int .i64)) (hl : Ent es l) (m : Nat) (key : Int) :
    ∃ f : Value → Array MapEntry × Nat, (∀ v, Ent (f v).1 (mput l key v)) ∧ ∀ v, ∀ W : World, IsM W m es clk → (Instr.mapUpdate t (.map (some m)) (.int .i64 key) v).run P W = .ok () (setBlock W m (.map (f v).1 (f v).2)) := by
  have h : ∀ v, ∃ y : Array MapEntry × Nat, Ent y.1 (mput l key v) ∧ ∀ W : World, IsM W m es clk → (Instr.mapUpdate t (.map (some m)) (.int .i64 key) v).run P W = .ok () (setBlock W m (.map y.1 y.2)) := fun v => by
    obtain ⟨es', clk', h1, h2⟩ := run_update_map (clk := clk) ht hk hl m key v
    exact ⟨(es', clk'), h1, h2⟩
  obtain ⟨f, hf⟩ := Classical.skolem.1 h
  exact ⟨f, fun v => (hf v).1, fun v => (hf v).2⟩

theorem run_delete_map {es : Array MapEntry} {clk : Nat} {l : List (Int × Value)} (ht : P.underlying t = some (.map k e)) (hk : P.underlying k = some (.int .i64)) (hl : Ent es l) (m : Nat) (key : Int) :
    ∃ es', Ent es' (mdel l key) ∧ ∀ (W : World) (ty : TypeId), IsM W m es clk → (Builtin.delete_ #[t, k] ty #[.map (some m), .int .i64 key]).run P W = .ok (.tuple #[]) (setBlock W m (.map es' clk)) := by
  have hkey : IsKey (.int .i64) (.int .i64 key) := rfl
  cases hg : mget l key with
  | none =>
    have h1 := findNow_none key es.toList l 0 hl hg
    refine ⟨es, by rw [mdel_none hg]; exact hl, fun W ty (hb : W.heap[m]? = some (.map es clk)) => ?_⟩
    simp [Builtin.delete_, run_underlying ht, MapKept.run_getObj_map hb, MapKept.run_checkKey hk hkey, MapKept.run_findKey hk h1, MapKept.run_setObj_map _ hb, Result.andThen, setBlock]
  | some u =>
    obtain ⟨j, e0, h1, h2, h3, h4, _, h6⟩ := findNow_some key u es.toList l 0 hl hg
    have hj : j < es.size := by simpa using (List.getElem?_eq_some_iff.1 h2).1
    refine ⟨es.eraseIdxIfInBounds j, ?_, fun W ty (hb : W.heap[m]? = some (.map es clk)) => ?_⟩
    · unfold Ent Array.eraseIdxIfInBounds
      rw [dif_pos hj]; simpa using h6
    · simp [Builtin.delete_, run_underlying ht, MapKept.run_getObj_map hb, MapKept.run_checkKey hk hkey, MapKept.run_findKey hk h1, MapKept.run_setObj_map _ hb, Result.andThen, setBlock]

theorem run_len_map {es : Array MapEntry} {clk : Nat} {l : List (Int × Value)} (ht : P.underlying t = some (.map k e)) (hl : Ent es l) (m : Nat) (ty : TypeId) (W : World) (hb : IsM W m es clk) :
    (Builtin.len_ #[t] ty #[.map (some m)]).run P W = .ok (.int .i64 l.length) W := by
  unfold IsM at hb
  have : es.size = l.length := by have := congrArg List.length hl; simpa using this
  simp [Builtin.len_, run_underlying ht, MapKept.run_getObj_map hb, goInt, Result.andThen, this]
end

end Go.Proofs.YtfdgiblkllfpjaaGreatDoor

/- wal: the log's manager as a plain model over the heap; end, End. -/
set_option linter.unusedVariables false
set_option linter.unusedSimpArgs false
namespace Go.Proofs.YtfdgiblkllfpjaaGreatDoor
open Go.ChangeShapes Go.WideShapes Go.ChangeAt Go.RowKit

structure LogM where
  base : Nat
  ents : List (Nat × List UInt8)
  bytes : Nat
  disk : Nat
  tail : List UInt8
  dead : Bool
def LogM.fin (m : LogM) : Nat := m.base + m.bytes + 1
/-- The records' places and bodies. -/
def Ents (w : World) (v : Value) (es : List (Nat × List UInt8)) (fp : List Nat) : Prop :=
  ∃ bs : List Value, bs.length = es.length ∧ Own w 192 2 v es.length ((es.zip bs).flatMap fun q => [.int .i64 (q.1.1 : Nat), q.2]) ∧ (∀ q ∈ es.zip bs, IsB w q.2 q.1.2) ∧ fp = blk v ++ bs.flatMap blk
def logC (st : Int) (m : LogM) (d : Nat) (sema : Int) (av tv : Value) (mb : Nat) : Array Value :=
  #[.int .i32 st, .int .u32 sema, .pointer (some ⟨d, 0, none⟩), .int .i64 (m.base : Nat), av, .map (some mb), .int .i64 (m.bytes : Nat), .int .i64 (m.disk : Nat), tv, .bool m.dead]
/-- The log's manager lies here, in these blocks (its disk's apart); st: the lock's word. -/
def LogS (st : Int) (w : World) (g d : Nat) (m : LogM) (fp : List Nat) : Prop :=
  ∃ sema av tv mb es clk ml fa, IsC w g (logC st m d sema av tv mb) 117 ∧ Ents w av m.ents fa ∧ IsB w tv m.tail ∧ IsM w mb es clk ∧ Ent es ml ∧
    fp = g :: mb :: (fa ++ blk tv) ∧ fp.Nodup ∧ m.base ≤ 1152921504606715904 ∧ m.bytes ≤ 65536 ∧ m.disk ≤ m.bytes ∧ m.bytes = m.disk + m.tail.length
abbrev LogR := LogS 0
theorem Ents.off {w w' : World} {v : Value} {es : List (Nat × List UInt8)} {fp S : List Nat} (h : Ents w v es fp) (ho : Off S w w') (hn : ∀ z ∈ fp, z ∉ S) : Ents w' v es fp := by
  obtain ⟨bs, h1, h2, h3, rfl⟩ := h
  refine ⟨bs, h1, h2.off ho (fun z hz => hn z (by simp [hz])), fun q hq => (h3 q hq).off ho (fun z hz => hn z ?_), rfl⟩
  exact List.mem_append_right _ (List.mem_flatMap.2 ⟨q.2, (List.of_mem_zip hq).2, hz⟩)
theorem LogS.off {st : Int} {w w' : World} {g d : Nat} {m : LogM} {fp S : List Nat} (h : LogS st w g d m fp) (ho : Off S w w') (hn : ∀ z ∈ fp, z ∉ S) : LogS st w' g d m fp := by
  obtain ⟨sema, av, tv, mb, es, clk, ml, fa, h1, h2, h3, h4, h5, rfl, h6⟩ := h
  exact ⟨sema, av, tv, mb, es, clk, ml, fa, h1.off ho (hn g (by simp)), h2.off ho (fun z hz => hn z (by simp [hz])), h3.off ho (fun z hz => hn z (by simp [hz])), h4.off ho (hn mb (by simp)), h5, rfl, h6⟩
/-- The lock's word turned. -/
theorem LogS.turn {st : Int} {w : World} {g d : Nat} {m : LogM} {fp : List Nat} (h : LogS st w g d m fp) (st' : Int) : LogS st' (w.setCell ⟨g, 0, none⟩ (.int .i32 st')) g d m fp ∧ Off [g] w (w.setCell ⟨g, 0, none⟩ (.int .i32 st')) := by
  obtain ⟨sema, av, tv, mb, es, clk, ml, fa, h1, h2, h3, h4, h5, rfl, h6, h7⟩ := h
  have ho : Off [g] w (w.setCell ⟨g, 0, none⟩ (.int .i32 st')) := (Off.refl [g] w).setCell (.inl (by simp)) _
  obtain ⟨n1, n2⟩ := List.nodup_cons.1 h6
  have hin : ∀ z, z ∈ mb :: (fa ++ blk tv) → z ∉ [g] := fun z hz hz' => by simp at hz'; subst hz'; exact n1 hz
  refine ⟨⟨sema, av, tv, mb, es, clk, ml, fa, ?_, h2.off ho (fun z hz => hin z (by simp [hz])), h3.off ho (fun z hz => hin z (by simp [hz])), h4.off ho (hin mb (by simp)), h5, rfl, h6, h7⟩, ho⟩
  have q := h1.set 0 (.int .i32 st')
  exact q
theorem LogS.cells {st : Int} {w : World} {g d : Nat} {m : LogM} {fp : List Nat} (h : LogS st w g d m fp) :
    w.cell? ⟨g, 0, none⟩ = some (.int .i32 st) ∧ w.cell? ⟨g, 2, none⟩ = some (.pointer (some ⟨d, 0, none⟩)) ∧ w.cell? ⟨g, 3, none⟩ = some (.int .i64 (m.base : Nat)) ∧ w.cell? ⟨g, 6, none⟩ = some (.int .i64 (m.bytes : Nat)) ∧ w.cell? ⟨g, 7, none⟩ = some (.int .i64 (m.disk : Nat)) ∧ w.cell? ⟨g, 9, none⟩ = some (.bool m.dead) ∧ ∀ o, w.frozen? ⟨g, o, none⟩ = false := by
  obtain ⟨sema, av, tv, mb, es, clk, ml, fa, h1, _⟩ := h
  refine ⟨?_, ?_, ?_, ?_, ?_, ?_, fun o => h1.unfrozen o⟩ <;> rw [h1.cell] <;> rfl
theorem LogS.small {st : Int} {w : World} {g d : Nat} {m : LogM} {fp : List Nat} (h : LogS st w g d m fp) : m.base ≤ 1152921504606715904 ∧ m.bytes ≤ 65536 ∧ m.disk ≤ m.bytes := by
  obtain ⟨_, _, _, _, _, _, _, _, _, _, _, _, _, _, _, h1, h2, h3, _⟩ := h
  exact ⟨h1, h2, h3⟩
set_option maxRecDepth 100000 in
set_option maxHeartbeats 2000000 in
theorem end57 {st : Int} {w : World} {g d : Nat} {m : LogM} {fp : List Nat} (h : LogS st w g d m fp) : Calls Tryz.prog 57 #[.pointer (some ⟨g, 0, none⟩)] w fun e w' => e = .returned (.int .i64 (m.fin : Nat)) ∧ Off [] w w' := by
  obtain ⟨_, _, k3, k6, _, _, _⟩ := h.cells
  obtain ⟨s1, s2, _⟩ := h.small
  have HF : Hid (((m.fin : Nat) : Int) = (m.base : Int) + m.bytes + 1) := Lib.hid (by unfold LogM.fin; omega)
  generalize m.fin = f at *
  generalize m.base = b at *
  generalize m.bytes = n at *
  clear h
  go_enter Tryz.func57, Tryz.ntmps57
  go_wp2_with fail
  go_quiet (fail)
  go_wp2_with fail
  go_ret
  exact ⟨by rw [HF.out]; rfl, (Off.refl _ _).drewN _⟩
open Go.MuLone in
set_option maxRecDepth 100000 in
set_option maxHeartbeats 2000000 in
theorem end67 {w : World} {g d : Nat} {m : LogM} {fp : List Nat} (h : LogR w g d m fp) : Calls Tryz.prog 67 #[.pointer (some ⟨g, 0, none⟩)] w fun e w' => e = .returned (.int .i64 (m.fin : Nat)) ∧ LogR w' g d m fp ∧ Off [g] w w' := by
  obtain ⟨k0, _, _, _, _, _, kf⟩ := h.cells
  obtain ⟨h1, o1⟩ := h.turn 1
  have HE := Lib.hid (end57 h1)
  have HH := Lib.hid h1
  have HO := Lib.hid o1
  clear h h1 o1
  go_enter_defers Tryz.func67, Tryz.ntmps67
  go_wp2_with (go_at_call 55; refine (lock_free Tryz.muLib ⟨g, 0, none⟩ _ k0 (kf 0)).mono ?_; rintro e w' ⟨rfl, rfl⟩)
  refine HE.out.mono ?_
  rintro e w2 ⟨rfl, ho2⟩
  have h2 := HH.out.off ho2 (by simp)
  have HO2 := Lib.hid (HO.out.trans ho2 (by simp))
  have HH2 := Lib.hid h2
  clear ho2 h2 HE HH HO
  go_wp2_with fail
  obtain ⟨k0, _, _, _, _, _, kf⟩ := HH2.out.cells
  refine leaves_cons (f := 56) (args := #[.pointer (some ⟨g, 0, none⟩)]) (by simp) (by simp [go_sem]) ?_
  refine (unlock_deferred Tryz.muLib ⟨g, 0, none⟩ .returning _ k0 (kf 0)).mono ?_
  rintro e u' w'' ⟨rfl, rfl, rfl⟩
  obtain ⟨p1, p2⟩ := HH2.out.turn 0
  exact ⟨_, results_tmp rfl _ _ _, rfl, p1, HO2.out.trans p2 (fun z hz => .inl hz)⟩
end Go.Proofs.YtfdgiblkllfpjaaGreatDoor

/- wal: take. -/
set_option linter.unusedVariables false
set_option linter.unusedSimpArgs false
namespace Go.Proofs.YtfdgiblkllfpjaaGreatDoor
open Go.ChangeShapes Go.WideShapes Go.ChangeAt Go.RowKit

theorem iinfo192 : (Tryz.prog.info? 192).map (fun i => (i.zero, i.size, i.bytes)) = some (some (.agg #[.int .i64 0, .slice none 0 0]), 2, 32) := by kernel_rfl
def LogM.plus (m : LogM) (lsn : Nat) (l : List UInt8) : LogM := { m with ents := m.ents ++ [(lsn, l)] }
def TakePost (st : Int) (g d : Nat) (m : LogM) (fp : List Nat) (lsn : Nat) (l : List UInt8) (bv : Value) (w : World) (e : Ending) (w' : World) : Prop :=
  e = .returned (.tuple #[]) ∧ ∃ fp', LogS st w' g d (m.plus lsn l) fp' ∧ Off fp w w' ∧ ∀ z ∈ fp', z ∈ fp ∨ z ∈ blk bv ∨ w.heap.size ≤ z
theorem blk_nodup (v : Value) : (blk v).Nodup := by unfold blk; split <;> simp
/-- Behind the map's turn and the append. -/
theorem take_end {st : Int} {w w1 w2 : World} {g d mb lsn : Nat} {m : LogM} {sema : Int} {av tv bv : Value} {ao' : Option Addr} {cap' : Nat} {es' : Array MapEntry} {clk' : Nat} {ml' : List (Int × Value)} {bs : List Value} {l : List UInt8}
    (h1 : IsC w g (logC st m d sema av tv mb) 117) (k1 : bs.length = m.ents.length) (k3 : ∀ q ∈ m.ents.zip bs, IsB w q.2 q.1.2) (hav : ∀ z ∈ blk av, z < w.heap.size) (h3 : IsB w tv m.tail) (h6 : (g :: mb :: ((blk av ++ bs.flatMap blk) ++ blk tv)).Nodup)
    (h7 : m.base ≤ 1152921504606715904 ∧ m.bytes ≤ 65536 ∧ m.disk ≤ m.bytes ∧ m.bytes = m.disk + m.tail.length)
    (hlt : ∀ z ∈ g :: mb :: ((blk av ++ bs.flatMap blk) ++ blk tv), z < w.heap.size) (hb : IsB w bv l) (hbd : ∀ z ∈ blk bv, z ∉ g :: mb :: ((blk av ++ bs.flatMap blk) ++ blk tv))
    (o1 : Off [mb] w w1) (hm1 : IsM w1 mb es' clk') (he1 : Ent es' ml')
    (o2 : Off (blk av) w1 w2) (hown : Own w2 192 2 (.slice ao' (m.ents.length + 1) cap') (m.ents.length + 1) (((m.ents.zip bs).flatMap fun q => [.int .i64 (q.1.1 : Nat), q.2]) ++ [.int .i64 (lsn : Nat), bv]))
    (hbl : blk (.slice ao' (m.ents.length + 1) cap') = blk av ∨ ∃ z, blk (.slice ao' (m.ents.length + 1) cap') = [z] ∧ w.heap.size ≤ z) :
    TakePost st g d m (g :: mb :: ((blk av ++ bs.flatMap blk) ++ blk tv)) lsn l bv w (.returned (.tuple #[])) (w2.setCell ⟨g, 4, none⟩ (.slice ao' (m.ents.length + 1) cap')) := by
  obtain ⟨n1, n2⟩ := List.nodup_cons.1 h6
  obtain ⟨n3, n4⟩ := List.nodup_cons.1 n2
  obtain ⟨n5, n6, n7⟩ := List.nodup_append.1 n4
  obtain ⟨n8, n9, n10⟩ := List.nodup_append.1 n5
  have ha : Off (mb :: blk av) w w2 := (o1.mono (by simp)).trans o2 (fun z hz => .inl (by simp [hz]))
  have hd : Off [g] w2 (w2.setCell ⟨g, 4, none⟩ (.slice ao' (m.ents.length + 1) cap')) := (Off.refl [g] w2).setCell (.inl (by simp)) _
  have hg2 : g ∉ mb :: blk av := fun hz => n1 (by simp only [List.mem_cons, List.mem_append] at hz ⊢; rcases hz with q | q <;> simp [q])
  have hto : ∀ z ∈ blk tv, z ∉ mb :: blk av ∧ z ∉ [g] := fun z hz => by
    refine ⟨fun hz' => ?_, fun hz' => ?_⟩
    · rcases List.mem_cons.1 hz' with rfl | q
      · exact n3 (by simp [hz])
      · exact n7 z (by simp [q]) z hz rfl
    · simp at hz'; subst hz'; exact n1 (by simp [hz])
  have hbo : ∀ z ∈ bs.flatMap blk, z ∉ mb :: blk av ∧ z ∉ [g] := fun z hz => by
    refine ⟨fun hz' => ?_, fun hz' => ?_⟩
    · rcases List.mem_cons.1 hz' with rfl | q
      · exact n3 (List.mem_append_left _ (List.mem_append_right _ hz))
      · exact n10 z q z hz rfl
    · simp at hz'; subst hz'; exact n1 (List.mem_cons_of_mem _ (List.mem_append_left _ (List.mem_append_right _ hz)))
  have hvo : ∀ z ∈ blk bv, z ∉ mb :: blk av ∧ z ∉ [g] := fun z hz => by
    have q := hbd z hz
    exact ⟨fun hz' => q (by simp only [List.mem_cons, List.mem_append] at hz' ⊢; rcases hz' with a | a <;> simp [a]), fun hz' => q (by simp at hz'; simp [hz'])⟩
  have hnl : ∀ z ∈ blk (.slice ao' (m.ents.length + 1) cap'), z ∈ blk av ∨ w.heap.size ≤ z := fun z hz => by
    rcases hbl with q | ⟨y, q, hy⟩ <;> rw [q] at hz
    · exact .inl hz
    · simp at hz; subst hz; exact .inr hy
  have hvl := hb.lt
  refine ⟨rfl, g :: mb :: ((blk (.slice ao' (m.ents.length + 1) cap') ++ (bs ++ [bv]).flatMap blk) ++ blk tv), ⟨sema, .slice ao' (m.ents.length + 1) cap', tv, mb, es', clk', ml', _, ?_, ⟨bs ++ [bv], by simp [LogM.plus, k1], ?_, ?_, rfl⟩, (h3.off ha (fun z hz => (hto z hz).1)).off hd (fun z hz => (hto z hz).2), ?_, he1, rfl, ?_, h7⟩, ?_, ?_⟩
  · exact (h1.off ha hg2).set 4 _
  · have q := hown.setCell ⟨g, 4, none⟩ (.slice ao' (m.ents.length + 1) cap') (fun hz => by
      rcases hnl g hz with q | q
      · exact hg2 (by simp [q])
      · have := hlt g (by simp); omega)
    have e : ((m.plus lsn l).ents.zip (bs ++ [bv])).flatMap (fun q => [Value.int .i64 (q.1.1 : Nat), q.2]) = ((m.ents.zip bs).flatMap fun q => [.int .i64 (q.1.1 : Nat), q.2]) ++ [.int .i64 (lsn : Nat), bv] := by
      unfold LogM.plus
      rw [List.zip_append k1.symm, List.flatMap_append]; rfl
    rw [e]
    have e2 : (m.plus lsn l).ents.length = m.ents.length + 1 := by simp [LogM.plus]
    rw [e2]; exact q
  · intro q hq
    unfold LogM.plus at hq
    rw [List.zip_append k1.symm] at hq
    rcases List.mem_append.1 hq with hq | hq
    · have hz : ∀ z ∈ blk q.2, z ∈ bs.flatMap blk := fun z hz => List.mem_flatMap.2 ⟨q.2, (List.of_mem_zip hq).2, hz⟩
      exact ((k3 q hq).off ha (fun z hz' => (hbo z (hz z hz')).1)).off hd (fun z hz' => (hbo z (hz z hz')).2)
    · simp at hq; subst hq
      exact (hb.off ha (fun z hz => (hvo z hz).1)).off hd (fun z hz => (hvo z hz).2)
  · exact IsM.setCell _ _ (hm1.off o2 (fun hz => n3 (by simp [hz])))
  · have hx : (bs ++ [bv]).flatMap blk = bs.flatMap blk ++ blk bv := by simp
    rw [hx]
    have hn : ∀ z ∈ blk (.slice ao' (m.ents.length + 1) cap'), z ≠ g ∧ z ≠ mb ∧ z ∉ bs.flatMap blk ∧ z ∉ blk bv ∧ z ∉ blk tv := fun z hz => by
      rcases hnl z hz with q | q
      · exact ⟨fun e => n1 (by rw [← e]; simp [q]), fun e => n3 (by rw [← e]; simp [q]), fun hz' => n10 z q z hz' rfl, fun hz' => (hvo z hz').1 (by simp [q]), fun hz' => (hto z hz').1 (by simp [q])⟩
      · refine ⟨fun e => ?_, fun e => ?_, fun hz' => ?_, fun hz' => ?_, fun hz' => ?_⟩
        · have := hlt g (by simp); omega
        · have := hlt mb (by simp); omega
        · have := hlt z (by simp only [List.mem_cons, List.mem_append]; exact .inr (.inr (.inl (.inr hz')))); omega
        · have := hvl z hz'; omega
        · have := hlt z (by simp only [List.mem_cons, List.mem_append]; exact .inr (.inr (.inr hz'))); omega
    have hv : ∀ z ∈ blk bv, z ≠ g ∧ z ≠ mb ∧ z ∉ bs.flatMap blk ∧ z ∉ blk tv := fun z hz => by
      have q := hbd z hz
      simp only [List.mem_cons, List.mem_append, not_or] at q
      exact ⟨q.1, q.2.1, q.2.2.1.2, q.2.2.2⟩
    have hX : ∀ z ∈ bs.flatMap blk, z ≠ g ∧ z ≠ mb ∧ z ∉ blk tv := fun z hz => ⟨fun e => n1 (by rw [← e]; exact List.mem_cons_of_mem _ (List.mem_append_left _ (List.mem_append_right _ hz))), fun e => n3 (by rw [← e]; exact List.mem_append_left _ (List.mem_append_right _ hz)), fun hz' => n7 z (List.mem_append_right _ hz) z hz' rfl⟩
    have hT : ∀ z ∈ blk tv, z ≠ g ∧ z ≠ mb := fun z hz => ⟨fun e => n1 (by rw [← e]; simp [hz]), fun e => n3 (by rw [← e]; simp [hz])⟩
    refine List.nodup_cons.2 ⟨fun hz => ?_, List.nodup_cons.2 ⟨fun hz => ?_, List.nodup_append.2 ⟨List.nodup_append.2 ⟨blk_nodup _, List.nodup_append.2 ⟨n9, blk_nodup _, fun a ha' b hb' e => (hv b hb').2.2.1 (e ▸ ha')⟩, fun a ha' b hb' e => ?_⟩, n6, fun a ha' b hb' e => ?_⟩⟩⟩
    · simp only [List.mem_cons, List.mem_append] at hz
      rcases hz with q | (q | q | q) | q
      · exact n1 (by simp [q])
      · exact (hn g q).1 rfl
      · exact (hX g q).1 rfl
      · exact (hv g q).1 rfl
      · exact (hT g q).1 rfl
    · simp only [List.mem_append] at hz
      rcases hz with (q | q | q) | q
      · exact (hn mb q).2.1 rfl
      · exact (hX mb q).2.1 rfl
      · exact (hv mb q).2.1 rfl
      · exact (hT mb q).2 rfl
    · subst e
      rcases List.mem_append.1 hb' with q | q
      · exact (hn a ha').2.2.1 q
      · exact (hn a ha').2.2.2.1 q
    · subst e
      simp only [List.mem_append] at ha'
      rcases ha' with q | q | q
      · exact (hn a q).2.2.2.2 hb'
      · exact (hX a q).2.2 hb'
      · exact (hv a q).2.2.2 hb'
  · exact (ha.mono (fun z hz => .inl (by simp only [List.mem_cons, List.mem_append] at hz ⊢; rcases hz with q | q <;> simp [q]))).trans hd (fun z hz => .inl (by simp at hz; simp [hz]))
  · intro z hz
    simp only [List.mem_cons, List.mem_append, List.flatMap_append] at hz
    rcases hz with q | q | (q | q | q) | q
    · exact .inl (by simp [q])
    · exact .inl (by simp [q])
    · rcases hnl z q with q | q
      · exact .inl (by simp [q])
      · exact .inr (.inr q)
    · exact .inl (by simp only [List.mem_cons, List.mem_append]; exact .inr (.inr (.inl (.inr q))))
    · exact .inr (.inl (by simpa using q))
    · exact .inl (by simp only [List.mem_cons, List.mem_append]; exact .inr (.inr (.inr q)))

set_option maxRecDepth 100000 in
set_option maxHeartbeats 4000000 in
theorem take54 {st : Int} {w : World} {g d : Nat} {m : LogM} {fp : List Nat} (h : LogS st w g d m fp) (lsn : Nat) (bv : Value) (l : List UInt8) (hb : IsB w bv l) (hbd : ∀ z ∈ blk bv, z ∉ fp) (hen : m.ents.length < 1000000) :
    Calls Tryz.prog 54 #[.pointer (some ⟨g, 0, none⟩), .int .i64 (lsn : Nat), bv] w (TakePost st g d m fp lsn l bv w) := by
  obtain ⟨sema, av, tv, mb, es, clk, ml, fa, h1, ⟨bs, k1, k2, k3, rfl⟩, h3, h4, h5, rfl, h6, h7⟩ := h
  obtain ⟨ao, cap, rfl, _⟩ := k2.val
  obtain ⟨bo, bc, rfl⟩ := hb.val
  obtain ⟨f, hf1, hup⟩ := run_update_any (P := Tryz.prog) (clk := clk) Tryz.underlying107 Tryz.underlying3 h5 mb (lsn : Nat)
  have hlt : ∀ z ∈ g :: mb :: ((blk (.slice ao m.ents.length cap) ++ bs.flatMap blk) ++ blk tv), z < w.heap.size := by
    intro z hz
    simp only [List.mem_cons, List.mem_append] at hz
    rcases hz with rfl | rfl | (q | q) | q
    · exact h1.lt
    · exact h4.lt
    · exact k2.lt z q
    · obtain ⟨x, hx, hz⟩ := List.mem_flatMap.1 q
      obtain ⟨i, hi, rfl⟩ := List.getElem_of_mem hx
      have hzip : (m.ents[i]'(by omega), bs[i]) ∈ m.ents.zip bs := by
        have q := List.getElem_mem (l := m.ents.zip bs) (n := i) (by rw [List.length_zip]; omega)
        rw [List.getElem_zip] at q; exact q
      exact (k3 _ hzip).lt z hz
    · exact h3.lt z q
  have hgm : g ≠ mb := fun e => (List.nodup_cons.1 h6).1 (by simp [e])
  have hga : g ∉ blk (.slice ao m.ents.length cap) := fun hz => (List.nodup_cons.1 h6).1 (by simp [hz])
  have hma : mb ∉ blk (.slice ao m.ents.length cap) := fun hz => (List.nodup_cons.1 (List.nodup_cons.1 h6).2).1 (by simp [hz])
  have HEND := Lib.hid (fun (w1 w2 : World) ao' cap' (es' : Array MapEntry) clk' ml' o1 hm1 he1 o2 hown hbl => take_end (w1 := w1) (w2 := w2) (lsn := lsn) (ao' := ao') (cap' := cap') (es' := es') (clk' := clk') (ml' := ml') h1 k1 k3 (fun z hz => k2.lt z hz) h3 h6 h7 hlt hb hbd o1 hm1 he1 o2 hown hbl)
  have c4 := h1.cell 4
  have c5 := h1.cell 5
  simp only [logC, List.getElem?_toArray, List.getElem?_cons_zero, List.getElem?_cons_succ] at c4 c5
  have HC1 := Lib.hid h1
  have HM := Lib.hid h4
  have HK2 := Lib.hid k2
  have HF1 := Lib.hid hf1
  have hup' := fun W => hup (.int .i64 (m.ents.length : Nat)) W
  have hfree : ∀ o, w.frozen? ⟨g, o, none⟩ = false := fun o => h1.unfrozen o
  have HW : Hid (g ≠ mb ∧ g ∉ blk (.slice ao m.ents.length cap) ∧ mb ∉ blk (.slice ao m.ents.length cap)) := Lib.hid ⟨hgm, hga, hma⟩
  obtain ⟨P, hP⟩ : ∃ P, P = TakePost st g d m (g :: mb :: ((blk (.slice ao m.ents.length cap) ++ bs.flatMap blk) ++ blk tv)) lsn l (.slice bo l.length bc) w := ⟨_, rfl⟩
  rw [← hP] at HEND ⊢
  clear h1 k1 k2 k3 h3 h5 h6 h7 hlt hb hbd hP hup hf1 hgm hga hma
  generalize hkn : m.ents.length = n at *
  generalize l.length = k at *
  go_enter Tryz.func54, Tryz.ntmps54
  go_wp2_with fail
  go_region
  obtain ⟨W5, hW5⟩ : ∃ W5, W5 = ChangeMaps.setBlock w.drew mb (Obj.map (f (Value.int IntKind.i64 ↑n)).fst (f (Value.int IntKind.i64 ↑n)).snd) := ⟨_, rfl⟩
  rw [← hW5]
  have ho5 : Off [mb] w W5 := by rw [hW5]; exact ((Off.refl [mb] w).drew).setBlock (.inl (by simp)) _
  have hm5 : IsM W5 mb (f (Value.int IntKind.i64 ↑n)).fst (f (Value.int IntKind.i64 ↑n)).snd := by rw [hW5]; exact IsM.setSame (IsM.drew_iff.2 HM.out)
  have hk5 := HK2.out.off ho5 (fun z hz hz' => by simp at hz'; subst hz'; exact HW.out.2.2 hz)
  have h15 := HC1.out.off ho5 (by simp; exact HW.out.1)
  have c45 := h15.cell 4
  simp only [logC, List.getElem?_toArray, List.getElem?_cons_zero, List.getElem?_cons_succ] at c45
  have hf5 : ∀ o, W5.frozen? ⟨g, o, none⟩ = false := fun o => h15.unfrozen o
  have HOA := Lib.hid (hk5.alloc (.cells #[.int .i64 (lsn : Int), .slice bo k bc] 192))
  have HSRC := Lib.hid (src_new (P := Tryz.prog) W5 (t := 115) (e := 192) (e' := 192) (sz := 2) #[.int .i64 (lsn : Int), .slice bo k bc] 1 Tryz.underlying115 (by decide) rfl (by simp [Value.oneCell']))
  have HBD := Lib.hid (show (n + 1) * 32 ≤ 140737488355328 by omega)
  have HO5 := Lib.hid ho5
  have HM5 := Lib.hid (And.intro hm5 (HF1.out (.int .i64 (n : Nat))))
  have HI5 := Lib.hid h15
  clear hW5 ho5 hm5 hk5 h15 c4 c5 hfree hup' HC1 HM HK2 HF1
  go_wp2_with (at_builtin; go_loud (refine wp_app rfl _ _ 115 115 rfl rfl HOA.out Tryz.underlying115 iinfo192 rfl (by decide) rfl HSRC.out HBD.out ?_))
  intro ao4 cap4 w4 q1 q2 q3
  have h54 : Off (blk (.slice ao n cap)) W5 w4 := ((Off.refl [] W5).alloc _ |>.mono (by simp)).trans q2 (fun z hz => .inl hz)
  have hi4 := HI5.out.off h54 HW.out.2.1
  have c44 := hi4.cell 4
  simp only [logC, List.getElem?_toArray, List.getElem?_cons_zero, List.getElem?_cons_succ] at c44
  have hf4 : ∀ o, w4.frozen? ⟨g, o, none⟩ = false := fun o => hi4.unfrozen o
  have HF := Lib.hid (HEND.out W5 w4 ao4 cap4 _ _ _ HO5.out HM5.out.1 HM5.out.2 h54 q1 (q3.imp_right fun q => ⟨_, q, by have := HO5.out.size; omega⟩))
  clear q1 q2 q3 h54 hi4 HEND HO5 HM5 HI5 HOA HSRC c45 hf5 hkn
  go_wp2_with fail
  go_end0
  exact HF.out
end Go.Proofs.YtfdgiblkllfpjaaGreatDoor
