/- PoolFirst: began: a new run. -/
import Derived.Test.YtfdgiblkllfpjaaGreatDoorF06
set_option linter.unusedVariables false
set_option linter.unusedSimpArgs false
namespace Go.Proofs.YtfdgiblkllfpjaaGreatDoor
open Go.ChangeShapes Go.WideShapes Go.ChangeAt Go.RowKit

theorem wfOf_first {N n : Nat} (h : n < N) : wfOf (List.replicate N [zA]) n = [zA] := by
  unfold wfOf; rw [List.getElem?_replicate, if_pos h]; rfl
theorem FirI.first (t : Nat → Nat) {N m : Nat} (hN : N ≤ 15) (h1 : 2 ≤ m) (h2 : m ≤ 14) : FirI t N (fun _ => zA) (wfOf (List.replicate N [zA])) [] [] 1 (fun _ => 0) (newDisk (shN N)).act (newLog 0) ⟨m, [], false⟩ := by
  have hl : (newDisk (shN N)).live := ⟨rfl, rfl⟩
  obtain ⟨e1, e2, e3, e4, e5, e6, e7⟩ := (newDisk (shN N)).act_fields
  have hr : (newDisk (shN N)).act.run = (newDisk (shN N)).act := by rw [DiskM.act_go hl.stops]; rfl
  have h56 : (blankG (shN N))[N]? = some (List.replicate 56 0) := by
    rw [blankG_at _ _ (by unfold shN; simp only; omega)]
    unfold Shp.sizeB Shp.pageB shN
    simp only
    rw [if_neg (by omega), if_pos trivial]
  refine { main := by rw [hr]; exact LastI.first t hN h1 h2, small := by omega, dead := (DiskM.act_run hl.stops).2, page := fun n hn => ?_, pair := ?_, same := by rw [e2, e3]; rfl, cur := fun n hn => by rw [wfOf_first hn]; simp, old := fun f hf => (by cases hf), diff := fun f hf => (by cases hf) }
  · rw [e2]
    exact ⟨zA, 0, shN_zero hn, ⟨zA_40, check_zeros t n 1 (by omega) (by omega) (by omega), zA_lsn⟩, Nat.zero_le _, by rw [wfOf_first hn]; simp⟩
  · rw [e2]
    exact ⟨_, h56, by rw [List.length_replicate], .inl (fun v hv => (List.mem_replicate.1 hv).2)⟩
theorem FW.first {w0 w3 : World} {d g p m N : Nat} {t : Nat → Nat} {D L Q : List Nat} (hN : N ≤ 15) (h1 : 2 ≤ m) (h2 : m ≤ 14) (hW : Since w0 d g p (newDisk (shN N)).act (newLog 0) ⟨m, [], false⟩ ⟨D, L, Q⟩ w3) : FW w0 d g p t N (fun _ => zA) (wfOf (List.replicate N [zA])) 1 (fun _ => 0) ⟨D, L, Q⟩ w3 :=
  ⟨_, _, _, [], [], hW, FirI.first t hN h1 h2⟩
/-- A run that has just begun. -/
def BeganF (w : World) (t : Nat → Nat) (N : Nat) (e : Ending) (w' : World) : Prop :=
  ∃ r d g p F rf, e = .returned (.pointer (some ⟨r, 0, none⟩)) ∧ RunF w r d g p t N (fun _ => zA) 1 0 (fun _ => 0) (List.replicate N [zA]) F rf w'
/-- While it begins. -/
def BeginF (w : World) (r d g p : Nat) (t : Nat → Nat) (N k : Nat) (w' : World) : Prop :=
  ∃ F wv fw, FW w d g p t N (fun _ => zA) (wfOf (List.replicate N [zA])) 1 (fun _ => 0) F w' ∧ IsC w' r (runC d g p N wv false) 73 ∧ WasAt w' wv (List.replicate k [zA]) fw ∧ (r :: fw).Nodup ∧ ∀ z ∈ r :: fw, w.heap.size ≤ z ∧ z ∉ F.d ++ F.l ++ F.p
theorem BeginF.push {w wr : World} {r d g p N k : Nat} {t : Nat → Nat} (h : BeginF w r d g p t N k wr) :
    ∃ ao cap vs, Own wr 140 1 (.slice ao k cap) k vs ∧ IsC wr r (runC d g p N (.slice ao k cap) false) 73 ∧
      ∀ U B ao' cap' W2, Off [] wr U → wr.heap.size ≤ B → Own U 9 1 (.slice (some ⟨B, 0, none⟩) 1 1) 1 [.string (strB zA)] → Own W2 140 1 (.slice ao' (k + 1) cap') (k + 1) (vs ++ [.slice (some ⟨B, 0, none⟩) 1 1]) → Off (blk (.slice ao k cap)) U W2 →
        (blk (.slice ao' (k + 1) cap') = blk (.slice ao k cap) ∨ blk (.slice ao' (k + 1) cap') = [U.heap.size]) →
        IsC W2 r (runC d g p N (.slice ao k cap) false) 73 ∧ BeginF w r d g p t N (k + 1) (W2.setCell ⟨r, 4, none⟩ (.slice ao' (k + 1) cap')) := by
  obtain ⟨F, wv, fw, hL, hC, hW, hn, hS⟩ := h
  obtain ⟨vs, h1, h2, h3, rfl, h4⟩ := hW
  rw [List.length_replicate] at h1 h2
  obtain ⟨ao, cap, rfl, _⟩ := h1.val
  refine ⟨ao, cap, vs, h1, hC, fun U B ao' cap' W2 o1 hB hstr hnew o2 hbl => ?_⟩
  obtain ⟨n1, n2⟩ := List.nodup_cons.1 hn
  have hlt1 := h1.lt
  have hltv : ∀ z ∈ vs.flatMap blk, z < wr.heap.size := by
    intro z hz
    obtain ⟨x, hx, hzx⟩ := List.mem_flatMap.1 hz
    obtain ⟨i, hi, he⟩ := List.getElem_of_mem hx
    obtain ⟨x', hx', hsx⟩ := h3 i [zA] (by rw [List.getElem?_replicate, if_pos (by omega)])
    rw [List.getElem?_eq_getElem hi, he] at hx'
    cases hx'
    exact Own.lt hsx z hzx
  have o3 : Off (blk (.slice ao k cap)) wr W2 := (o1.mono (by simp)).trans o2 (fun z hz => .inl hz)
  have hrb : r ∉ blk (.slice ao k cap) := fun hz => n1 (by simp [hz])
  have hCW := hC.off o3 hrb
  have hBb : ∀ z ∈ blk (.slice (some ⟨B, 0, none⟩) 1 1), z ∉ blk (.slice ao k cap) := fun z hz hz' => by
    simp [blk] at hz; subst hz; have := hlt1 _ hz'; omega
  have hBU : B < U.heap.size := hstr.lt B (by simp [blk])
  have hsz := o1.size
  have hFlt := hL.since.2
  have hnd := List.nodup_append.1 h4
  have hnewb : ∀ z ∈ blk (.slice ao' (k + 1) cap'), z ∈ blk (.slice ao k cap) ∨ z = U.heap.size := fun z hz => by
    rcases hbl with q | q
    · exact .inl (by rw [← q]; exact hz)
    · rw [q] at hz; exact .inr (List.mem_singleton.1 hz)
  have oS : Off [r] W2 (W2.setCell ⟨r, 4, none⟩ (.slice ao' (k + 1) cap')) := (Off.refl [r] W2).setCell (.inl (by simp)) _
  have oW : Off (r :: blk (.slice ao k cap)) wr (W2.setCell ⟨r, 4, none⟩ (.slice ao' (k + 1) cap')) := (o3.mono (fun z hz => .inl (by simp [hz]))).trans oS (fun z hz => .inl (by simp at hz; simp [hz]))
  have hrlt := hC.lt
  have hrn : r ∉ blk (.slice ao' (k + 1) cap') := fun hz => by
    rcases hnewb _ hz with q | q
    · exact hrb q
    · omega
  have hrv : r ∉ vs.flatMap blk := fun hz => n1 (by simp only [List.mem_append]; exact .inr hz)
  have hrB : r ≠ B := by omega
  have hND : (blk (.slice ao' (k + 1) cap') ++ (vs ++ [Value.slice (some ⟨B, 0, none⟩) 1 1]).flatMap blk).Nodup := by
    rw [List.flatMap_append]
    simp only [List.flatMap_cons, List.flatMap_nil, List.append_nil]
    have hb1 : (blk (.slice ao' (k + 1) cap')).Nodup := by cases ao' <;> simp [blk]
    refine List.nodup_append.2 ⟨hb1, List.nodup_append.2 ⟨hnd.2.1, by simp [blk], fun a ha b hb e => ?_⟩, fun a ha b hb e => ?_⟩
    · simp [blk] at hb; have := hltv a ha; omega
    · subst e
      rcases List.mem_append.1 hb with q | q
      · rcases hnewb _ ha with q2 | q2
        · exact hnd.2.2 a q2 a q rfl
        · have := hltv a q; omega
      · simp [blk] at q
        rcases hnewb _ ha with q2 | q2
        · have := hlt1 a q2; omega
        · omega
  refine ⟨hCW, F, .slice ao' (k + 1) cap', blk (.slice ao' (k + 1) cap') ++ (vs ++ [Value.slice (some ⟨B, 0, none⟩) 1 1]).flatMap blk, hL.write oW (fun z hz => hS z (by simp only [List.mem_cons, List.mem_append] at hz ⊢; rcases hz with q | q; exact .inl q; exact .inr (.inl q))), hCW.set 4 _, ⟨vs ++ [.slice (some ⟨B, 0, none⟩) 1 1], ?_, by simp [h2], fun i l hi => ?_, rfl, ?_⟩, ?_, fun z hz => ?_⟩
  · rw [List.length_replicate]
    exact hnew.off oS (fun z hz hz' => by simp at hz'; subst hz'; exact hrn hz)
  · rw [List.getElem?_replicate] at hi
    by_cases hik : i < k
    · rw [if_pos (by omega)] at hi
      cases hi
      obtain ⟨x, hx, hsx⟩ := h3 i [zA] (by rw [List.getElem?_replicate, if_pos hik])
      refine ⟨x, by rw [List.getElem?_append_left (by omega)]; exact hx, ?_⟩
      have hxm : x ∈ vs := List.mem_of_getElem? hx
      exact (Own.off hsx o3 (fun z hz hz' => hnd.2.2 z hz' z (List.mem_flatMap.2 ⟨x, hxm, hz⟩) rfl)).off oS (fun z hz hz' => by simp at hz'; subst hz'; exact hrv (List.mem_flatMap.2 ⟨x, hxm, hz⟩))
    · by_cases hik2 : i < k + 1
      · rw [if_pos hik2] at hi
        cases hi
        obtain rfl : i = k := by omega
        refine ⟨_, by rw [List.getElem?_append_right (by omega), h2, Nat.sub_self]; rfl, ?_⟩
        exact (Own.off hstr o2 hBb).off oS (fun z hz hz' => by simp [blk] at hz hz'; omega)
      · rw [if_neg hik2] at hi; cases hi
  · exact hND
  · refine List.nodup_cons.2 ⟨fun hz => ?_, ?_⟩
    · rw [List.flatMap_append] at hz
      simp only [List.flatMap_cons, List.flatMap_nil, List.append_nil, List.mem_append] at hz
      rcases hz with q | q | q
      · exact hrn q
      · exact hrv q
      · simp [blk] at q; exact hrB q
    · exact hND
  · rw [List.flatMap_append] at hz
    simp only [List.flatMap_cons, List.flatMap_nil, List.append_nil, List.mem_append, List.mem_cons] at hz
    have hbig : ∀ y, wr.heap.size ≤ y → w.heap.size ≤ y ∧ y ∉ F.d ++ F.l ++ F.p := fun y hy => ⟨Nat.le_trans hL.since.1.size hy, fun hy' => by have := (hFlt y hy').2; omega⟩
    rcases hz with q | q | q | q
    · exact hS z (by simp [q])
    · rcases hnewb _ q with q2 | q2
      · exact hS z (by simp [q2])
      · exact hbig z (by omega)
    · exact hS z (by simp only [List.mem_cons, List.mem_append]; exact .inr (.inr q))
    · simp [blk] at q; exact hbig z (by omega)
set_option maxRecDepth 100000 in
set_option maxHeartbeats 16000000 in
theorem beganF29 {w : World} {t : Nat → Nat} (ht : Tbl t w) (pgs frs st ch : Int) (tv kv : Value) (N : Nat) (hN : pgs.emod 5 + 1 = (N : Int)) :
    Calls Tryz.prog 29 #[planV pgs frs tv st ch kv] w (BeganF w t N) := by
  have HT := Lib.hid ht
  obtain ⟨r1, hr1, hr1'⟩ : ∃ r : Nat, pgs.emod 5 = (r : Int) ∧ r < 5 := emod_natN pgs (N := 5) (by omega)
  obtain ⟨r3, hr3, hr3'⟩ : ∃ r : Nat, frs.emod 3 = (r : Int) ∧ r < 3 := emod_natN frs (N := 3) (by omega)
  obtain ⟨m, hm⟩ : ∃ m, m = 2 + r3 := ⟨_, rfl⟩
  obtain rfl : N = 1 + r1 := by omega
  obtain ⟨N, hN2⟩ : ∃ N, N = 1 + r1 := ⟨_, rfl⟩
  rw [← hN2]
  have HR1 : Hid (∀ W, Calls Tryz.prog 25 #[.int .i64 pgs, .int .i64 5] W fun e w' => e = .returned (.int .i64 (r1 : Int)) ∧ W = w') := Lib.hid (fun W => by rw [← hr1]; exact rest25 pgs 5 (by decide) (by decide) W)
  have HR3 : Hid (∀ W, Calls Tryz.prog 25 #[.int .i64 frs, .int .i64 3] W fun e w' => e = .returned (.int .i64 (r3 : Int)) ∧ W = w') := Lib.hid (fun W => by rw [← hr3]; exact rest25 frs 3 (by decide) (by decide) W)
  have HB : Hid (1 ≤ N ∧ N ≤ 5 ∧ 2 ≤ m ∧ m ≤ 4) := Lib.hid ⟨by omega, by omega, by omega, by omega⟩
  have HNEW : Hid (∀ W, Calls Tryz.prog 8 #[.agg #[.int .i64 (N : Int), .int .i64 1, .int .i64 65536]] W (NewPost (shN N) W)) := Lib.hid (fun W => new8 (shN N) (by unfold Shp.ok shN; simp only; omega) W)
  have HNP : Hid (∀ d g W, Calls Tryz.prog 12 #[.pointer (some ⟨d, 0, none⟩), .pointer (some ⟨g, 0, none⟩), .int .i64 (m : Int)] W (NewPool d g m W)) := Lib.hid (fun d g W => new12 d g m (by omega) (by omega) W)
  have hwp : wrap64 (1 + (r1 : Int)) = (N : Int) := by rw [wadd (by omega) (by unfold imax; omega)]; omega
  have hwm : wrap64 (2 + (r3 : Int)) = (m : Int) := by rw [wadd (by omega) (by unfold imax; omega)]; omega
  obtain ⟨P, hP⟩ : ∃ P, P = BeganF w t N := ⟨_, rfl⟩
  rw [← hP]
  have HP := Lib.hid hP
  clear hP hr1 hr3 hr1' hr3' hm hN hN2 ht
  unfold planV
  go_enter Tryz.func29, Tryz.ntmps29
  go_wp2_with fail
  refine (HR1.out _).mono ?_
  rintro e w' ⟨rfl, rfl⟩
  go_wp2_with fail
  have hv : ∃ V, V = ((w.alloc (.cells #[.int .i64 pgs, .int .i64 frs, tv, .int .i64 st, .int .i64 ch, kv] 67)).alloc (.cells #[.pointer none, .pointer none, .pointer none, .int .i64 (N : Int), .slice none 0 0, .bool false] 73)) ∧ IsC V w.heap.size #[.int .i64 pgs, .int .i64 frs, tv, .int .i64 st, .int .i64 ch, kv] 67 ∧ IsC V (w.heap.size + 1) #[.pointer none, .pointer none, .pointer none, .int .i64 (N : Int), .slice none 0 0, .bool false] 73 ∧ Off [] w V ∧ w.heap.size + 2 ≤ V.heap.size := ⟨_, rfl, (IsC.new w _ _).off (S := []) ((Off.refl _ _).alloc _) (by simp), IsC.newAt _ (by simp), ((Off.refl [] w).alloc _).alloc _, by simp⟩
  obtain ⟨V, hv0, v1, v2, v3, v4⟩ := hv
  rw [← hv0]
  clear hv0
  have HV := Lib.hid (And.intro v1 (And.intro v2 (And.intro v3 v4)))
  clear v1 v2 v3 v4
  obtain ⟨pb, hpb⟩ : ∃ pb, pb = w.heap.size := ⟨_, rfl⟩
  rw [← hpb] at HV ⊢
  obtain ⟨r, hr⟩ : ∃ r, r = pb + 1 := ⟨_, rfl⟩
  rw [← hr] at HV ⊢
  have HPB : Hid (pb = w.heap.size ∧ r = pb + 1) := Lib.hid ⟨hpb, hr⟩
  clear hpb hr
  refine (HNEW.out V).mono ?_
  rintro e w1 ⟨d, D, rfl, hd1, ho1, hD1⟩
  have HD1 : Hid (DiskR w1 d (newDisk (shN N)) D ∧ Off [] V w1 ∧ (∀ z ∈ D, V.heap.size ≤ z) ∧ ∀ z ∈ D, z < w1.heap.size) := Lib.hid ⟨hd1, ho1, hD1, fun z hz => hd1.lt z hz⟩
  have HOP : Hid (Calls Tryz.prog 11 #[.pointer (some ⟨d, 0, none⟩), .int .i64 0] w1 (OpenPost d D (newDisk (shN N)) 0 w1)) := Lib.hid (open11_nil hd1 (by show 0 < _; decide) rfl rfl 0 (by omega))
  clear hd1 ho1 hD1 HNEW
  go_wp2_with (go_at_call 9; refine (num9 _ _).mono ?_; rintro e w' ⟨rfl, rfl⟩)
  refine HOP.out.mono ?_
  rintro e w2 ⟨g, L, rfl, hl2, hk2, hL2⟩
  have HL2 : Hid (LogR w2 g d (newLog 0) L ∧ DiskKeep d D (newDisk (shN N)).act w1 w2 ∧ (∀ z ∈ L, w1.heap.size ≤ z) ∧ ∀ z ∈ L, z < w2.heap.size) := Lib.hid ⟨hl2, hk2, hL2, fun z hz => hl2.lt z hz⟩
  clear hl2 hk2 hL2 HOP
  have HO2 : Hid (Off [] V w2) := Lib.hid (HD1.out.2.1.trans HL2.out.2.1.2 (fun z hz => .inr (HD1.out.2.2.1 z hz)))
  have b1 : w2.cell? ⟨pb, 1, none⟩ = some (.int .i64 frs) := by rw [(HV.out.1.off HO2.out (by simp)).cell]; rfl
  go_wp2_with (go_at_call 9; refine (num9 _ _).mono ?_; rintro e w' ⟨rfl, rfl⟩)
  refine (HR3.out _).mono ?_
  rintro e w' ⟨rfl, rfl⟩
  go_wp2_with fail
  (try rw [hwm])
  refine (HNP.out d g w2).mono ?_
  rintro e w3 ⟨p, Q, rfl, hp3, ho3, hQ3⟩
  have HW3 : Hid (FW w d g p t N (fun _ => zA) (wfOf (List.replicate N [zA])) 1 (fun _ => 0) ⟨D, L, Q⟩ w3 ∧ IsC w3 r #[.pointer none, .pointer none, .pointer none, .int .i64 (N : Int), .slice none 0 0, .bool false] 73 ∧ r < w3.heap.size ∧ r ∉ D ++ L ++ Q) := Lib.hid (by
    have a0 := HV.out
    have a1 := HD1.out
    have a2 := HL2.out
    have ap := HPB.out
    have s0 := a0.2.2.1.size
    have s1 := a1.2.1.size
    have s2 := a2.2.1.2.size
    have s3 := ho3.size
    obtain ⟨x1, x2⟩ := Whole.start (w := V) (w1 := w1) (w2 := w2) (w3 := w3) a2.2.1.1 (fun z hz => ⟨a1.2.2.1 z hz, a1.2.2.2 z hz⟩) a2.1 (fun z hz => ⟨a2.2.2.1 z hz, a2.2.2.2 z hz⟩) s1 hp3 ho3 hQ3 s2
    refine ⟨FW.first (by have := HB.out; omega) HB.out.2.2.1 (by have := HB.out; omega) ⟨x1, fun z hz => Nat.le_trans s0 (x2 z hz), a0.2.2.1.trans (HO2.out.trans ho3 (by simp)) (by simp)⟩, (a0.2.1.off HO2.out (by simp)).off ho3 (by simp), by have := a0.2.2.2; omega, fun hz => by have := x2 _ hz; have := a0.2.2.2; omega⟩)
  have kc := HW3.out.2.1
  have k0 := kc.reads
  have k1 := kc.free
  clear hp3 ho3 hQ3 HD1 HL2 b1 HO2
  go_wp2_with (go_at_call 9; refine (num9 _ _).mono ?_; rintro e w' ⟨rfl, rfl⟩)
  have hx : ∃ X, X = ((w3.setCell ⟨r, 0, none⟩ (.pointer (some ⟨d, 0, none⟩))).setCell ⟨r, 1, none⟩ (.pointer (some ⟨g, 0, none⟩))).setCell ⟨r, 2, none⟩ (.pointer (some ⟨p, 0, none⟩)) ∧ BeginF w r d g p t N 0 X := ⟨_, rfl, by
    have hw := HW3.out
    have ho : Off [r] w3 (((w3.setCell ⟨r, 0, none⟩ (.pointer (some ⟨d, 0, none⟩))).setCell ⟨r, 1, none⟩ (.pointer (some ⟨g, 0, none⟩))).setCell ⟨r, 2, none⟩ (.pointer (some ⟨p, 0, none⟩))) := (((Off.refl [r] w3).setCell (.inl (by simp)) _).setCell (.inl (by simp)) _).setCell (.inl (by simp)) _
    have hwr : w.heap.size ≤ r := by have := HPB.out; omega
    refine ⟨_, .slice none 0 0, [], hw.1.write ho (fun z hz => by simp at hz; subst hz; exact ⟨hwr, hw.2.2.2⟩), ((hw.2.1.set 0 _).set 1 _).set 2 _, ⟨[], Own.nil _ _ _, rfl, fun i l hi => by simp at hi, by simp [blk], List.nodup_nil⟩, by simp, fun z hz => ?_⟩
    simp at hz; subst hz; exact ⟨hwr, hw.2.2.2⟩⟩
  obtain ⟨w4, hx0, hx1⟩ := hx
  rw [← hx0]
  have HX := Lib.hid hx1
  clear hx0 hx1 kc k0 k1 HW3
  go_loopw [10] (fun i wr => ∃ k : Nat, k ≤ N ∧ i = .int .i64 (k : Int) ∧ BeginF w r d g p t N k wr) (fun i _ => N - (intOf i).toNat)
  case atStart => exact ⟨0, by omega, rfl, HX.out⟩
  case round =>
    obtain ⟨k, hk, rfl, F, wv, fw, q1, q2, q3, q4, q5⟩ := hrel
    have HQ := Lib.hid (And.intro q1 (And.intro q2 (And.intro q3 (And.intro q4 q5))))
    have c3 := q2.cell 3
    unfold runC at c3
    simp only [List.getElem?_toArray, List.getElem?_cons_zero, List.getElem?_cons_succ] at c3
    have hN5 : N ≤ 5 := HB.out.2.1
    by_cases hkn : k < N
    · have hkn' : (k : Int) < (N : Int) := by omega
      obtain ⟨ao, cap, vs, o1, hC, hpush⟩ := (show BeginF w r d g p t N k wr from ⟨F, wv, fw, HQ.out⟩).push
      have HPU := Lib.hid hpush
      have HO := Lib.hid o1
      have HRL : Hid (r < wr.heap.size) := Lib.hid hC.lt
      unfold runC at hC
      have kr := hC.reads
      have kf := hC.free
      clear q1 q2 q3 q4 q5 HX o1 hpush c3
      have c3 := hC.cell 3
      simp only [List.getElem?_toArray, List.getElem?_cons_zero, List.getElem?_cons_succ] at c3
      go_wp2_with fail
      clear c3
      apply region_meetV (Φ := fun _ W => BeginF w r d g p t N (k + 1) W)
      case h =>
        have hmk : ∀ W, (Instr.makeSlice 22 (.int .i64 40) (.int .i64 40)).run Tryz.prog W = .ok (.slice (some ⟨W.heap.size, 0, none⟩) 40 40) (W.alloc (.cells (Array.replicate 40 (.int .u8 0)) 5)) := fun W => makeB 40 (by omega) W
        have hcv : ∀ W, IsC W wr.heap.size (Array.replicate 40 (.int .u8 0)) 5 → (convert 22 9 (.slice (some ⟨wr.heap.size, 0, none⟩) 40 40)).run Tryz.prog W = .ok (.string (strB zA)) W := fun W h => IsB.str (w := W) (v := .slice (some ⟨wr.heap.size, 0, none⟩) 40 40) (l := zA) ⟨by rw [zA_40, bytesV_len, zA_40], .inr ⟨wr.heap.size, 0, 40, _, by rw [zA_40], h, by rw [zA_40]; omega, by decide, by simp, by rw [zA_40]; unfold zA; rw [bytesV_zeros]; simp⟩⟩
        have HUO : Hid (Off [] wr (((wr.alloc (.cells (Array.replicate 40 (.int .u8 0)) 5)).alloc (.cells #[.string (strB zA)] 9)).alloc (.cells #[.slice (some ⟨wr.heap.size + 1, 0, none⟩) 1 1] 140)).drew) := Lib.hid (by exact ((((Off.refl [] wr).alloc _).alloc _).alloc _).drew)
        have HOWN : Hid (Own (((wr.alloc (.cells (Array.replicate 40 (.int .u8 0)) 5)).alloc (.cells #[.string (strB zA)] 9)).alloc (.cells #[.slice (some ⟨wr.heap.size + 1, 0, none⟩) 1 1] 140)).drew 140 1 (.slice ao k cap) k vs) := Lib.hid (HO.out.off HUO.out (by simp))
        have HSTR : Hid (Own (((wr.alloc (.cells (Array.replicate 40 (.int .u8 0)) 5)).alloc (.cells #[.string (strB zA)] 9)).alloc (.cells #[.slice (some ⟨wr.heap.size + 1, 0, none⟩) 1 1] 140)).drew 9 1 (.slice (some ⟨wr.heap.size + 1, 0, none⟩) 1 1) 1 [.string (strB zA)]) := Lib.hid (by
          have q := Own.new (wr.alloc (.cells (Array.replicate 40 (.int .u8 0)) 5)) 9 1 #[.string (strB zA)] 1 (by decide) rfl
          rw [show (wr.alloc (.cells (Array.replicate 40 (.int .u8 0)) 5)).heap.size = wr.heap.size + 1 from by simp] at q
          exact Own.off q (S := []) (((Off.refl _ _).alloc _).drew) (by simp))
        have HSRC : Hid (Src Tryz.prog 1 71 (.slice (some ⟨wr.heap.size + 1 + 1, 0, none⟩) 1 1) 1 [.slice (some ⟨wr.heap.size + 1, 0, none⟩) 1 1] (((wr.alloc (.cells (Array.replicate 40 (.int .u8 0)) 5)).alloc (.cells #[.string (strB zA)] 9)).alloc (.cells #[.slice (some ⟨wr.heap.size + 1, 0, none⟩) 1 1] 140)).drew) := Lib.hid (by
          have q := Own.new ((wr.alloc (.cells (Array.replicate 40 (.int .u8 0)) 5)).alloc (.cells #[.string (strB zA)] 9)) 140 1 #[.slice (some ⟨wr.heap.size + 1, 0, none⟩) 1 1] 1 (by decide) rfl
          rw [show ((wr.alloc (.cells (Array.replicate 40 (.int .u8 0)) 5)).alloc (.cells #[.string (strB zA)] 9)).heap.size = wr.heap.size + 1 + 1 from by simp] at q
          exact Own.src (Own.off q (S := []) ((Off.refl _ _).drew) (by simp)) Tryz.underlying71 (by simp [Value.oneCell']))
        have HBD : Hid ((k + 1) * 24 ≤ 140737488355328) := Lib.hid (by have := HB.out; omega)
        have hrl : r < wr.heap.size := HRL.out
        have hnew : IsC (wr.alloc (.cells (Array.replicate 40 (.int .u8 0)) 5)) wr.heap.size (Array.replicate 40 (.int .u8 0)) 5 := IsC.new _ _ _
        have hcva := hcv _ hnew
        have hcvb := hcv _ (hnew.off (S := []) ((Off.refl [] _).drew) (by simp))
        go_region_law (first | (go_must (refine step_app rfl _ _ 71 71 rfl rfl HOWN.out Tryz.underlying71 iinfo140 rfl (by decide) rfl HSRC.out HBD.out ?_; intro ao' cap' W2 q1 q2 q3; obtain ⟨z1, z2⟩ := HPU.out _ (wr.heap.size + 1) ao' cap' W2 HUO.out (Nat.le_succ _) HSTR.out q1 q2 q3; unfold runC at z1; have z3 := z1.reads; have z4 := z1.free; have Z2 := Lib.hid z2; clear q1 q2 q3 z2)) | fail)
        all_goals
          have hz := Z2.out
          revert hz
          generalize W2.setCell ⟨r, 4, none⟩ (.slice ao' (k + 1) cap') = U
          generalize (Value.slice ao' (k + 1) cap') = v
          intro hz
          exact ⟨v, rfl, hz⟩
      case k =>
        intro v w5 h5
        have H5 := Lib.hid h5
        clear h5
        go_wp2_with fail
        go_roundw
        case rel => exact ⟨k + 1, by omega, by go_num, H5.out⟩
        case measure => simp [intOf]; omega
    · have hkn' : ¬ ((k : Int) < (N : Int)) := by omega
      obtain rfl : k = N := by omega
      have HF : Hid (P (.returned (.pointer (some ⟨r, 0, none⟩))) wr) := Lib.hid (by
        rw [HP.out]
        have hq := HQ.out
        refine ⟨r, d, g, p, F, r :: fw, rfl, hq.1, ⟨wv, fw, hq.2.1, hq.2.2.1, rfl, hq.2.2.2.1, by simp⟩, hq.2.2.2.2, fun n hn => ⟨[], by simp [hn], by simp⟩⟩)
      clear HQ hk hkn q1 q2 q3 q4 q5
      go_wp2_with fail
      first | exact HF.out | (go_ret; exact HF.out)
end Go.Proofs.YtfdgiblkllfpjaaGreatDoor

/- disk: Stop. -/
set_option linter.unusedVariables false
set_option linter.unusedSimpArgs false
namespace Go.Proofs.YtfdgiblkllfpjaaGreatDoor
open Go.ChangeShapes Go.WideShapes Go.ChangeAt Go.RowKit

theorem DiskR.stopAt {w : World} {d : Nat} {m : DiskM} {fp : List Nat} (h : DiskR w d m fp) (s : Int) : DiskKeep d fp { m with stop := s } w (w.setCell ⟨d, 9, none⟩ (.int .i64 s)) :=
  DiskR.head (m' := { m with stop := s }) h 9 (.int .i64 s) rfl (fun _ _ _ _ => rfl) rfl rfl rfl rfl rfl
theorem DiskKeep.then {d : Nat} {fp : List Nat} {m m' : DiskM} {w w1 w2 : World} (h : DiskKeep d fp m w w1) (k : DiskKeep d fp m' w1 w2) : DiskKeep d fp m' w w2 := ⟨k.1, h.2.trans k.2 (fun z hz => .inl hz)⟩
set_option maxRecDepth 100000 in
set_option maxHeartbeats 2000000 in
theorem stop44 {w : World} {d : Nat} {m : DiskM} {fp : List Nat} (h : DiskR w d m fp) (hd : m.dead = false) (n : Int) :
    Calls Tryz.prog 44 #[.pointer (some ⟨d, 0, none⟩), .int .i64 n] w fun e w' => e = .returned (.tuple #[]) ∧ ∃ s, DiskKeep d fp { m with stop := s } w w' := by
  obtain ⟨lv, rv, ov, gv, fl, fr, fo, h1, _⟩ := id h
  have c8 := h1.cell 8
  have c9 := h1.cell 9
  have c10 := h1.cell 10
  have kf := fun o => h1.unfrozen o
  simp only [headC, List.getElem?_toArray, List.getElem?_cons_zero, List.getElem?_cons_succ] at c8 c9 c10
  rw [hd] at c10
  obtain ⟨P, hP⟩ : ∃ P : Ending → World → Prop, P = fun e w' => e = .returned (.tuple #[]) ∧ ∃ s, DiskKeep d fp { m with stop := s } w w' := ⟨_, rfl⟩
  rw [← hP]
  have H1 : Hid (P (.returned (.tuple #[])) (w.setCell ⟨d, 9, none⟩ (.int .i64 0))) := Lib.hid (by rw [hP]; exact ⟨rfl, 0, h.stopAt 0⟩)
  have H2 : Hid (∀ x, P (.returned (.tuple #[])) ((w.setCell ⟨d, 9, none⟩ (.int .i64 0)).setCell ⟨d, 9, none⟩ (.int .i64 x))) := Lib.hid (fun x => by rw [hP]; exact ⟨rfl, x, (h.stopAt 0).then ((h.stopAt 0).1.stopAt x)⟩)
  have H3 : Hid (∀ x W y, Off [] ((w.setCell ⟨d, 9, none⟩ (.int .i64 0)).setCell ⟨d, 9, none⟩ (.int .i64 x)) W → P (.returned (.tuple #[])) (W.setCell ⟨d, 9, none⟩ (.int .i64 y))) := Lib.hid (fun x W y ho => by
    have k := (h.stopAt 0).then ((h.stopAt 0).1.stopAt x)
    have k2 : DiskKeep d fp { m with stop := x } w W := ⟨k.1.off ho (by simp), k.2.trans ho (by simp)⟩
    rw [hP]; exact ⟨rfl, y, k2.then (k2.1.stopAt y)⟩)
  clear hP h h1 hd
  generalize (m.acts : Int) = ac at *
  generalize m.stop = st at *
  by_cases n1 : 1 ≤ n
  · by_cases n2 : n ≤ 4611686018427387904
    · go_enter Tryz.func44, Tryz.ntmps44
      go_wp2_with fail
      go_region
      all_goals
        go_wp2_with fail
        refine bodyPost_ret (results_none rfl _ _ _) rfl ?_
        first | exact H3.out _ _ _ (Off.refl _ _) | exact H3.out _ _ _ (Off.refl _ _).drew | exact H3.out _ _ _ ((Off.refl _ _).drewN _)
    · have n3 : ¬ n ≤ 4611686018427387904 := n2
      go_enter Tryz.func44, Tryz.ntmps44
      go_wp2_with fail
      first | exact H2.out _ | (refine bodyPost_ret (results_none rfl _ _ _) rfl ?_; exact H2.out _)
  · have n3 : ¬ (n ≥ 1) := n1
    go_enter Tryz.func44, Tryz.ntmps44
    go_wp2_with fail
    first | exact H1.out | (refine bodyPost_ret (results_none rfl _ _ _) rfl ?_; exact H1.out)
theorem FirI.stop {t : Nat → Nat} {N : Nat} {cur : Nat → List UInt8} {wf : Nat → List (List UInt8)} {ids1 ids2 : List Nat} {K : Nat} {c : Nat → Nat} {dm : DiskM} {lm : LogM} {pm : PoolM} (h : FirI t N cur wf ids1 ids2 K c dm lm pm) (s : Int) : FirI t N cur wf ids1 ids2 K c { dm with stop := s } lm pm :=
  ⟨h.main, h.small, h.dead, h.page, h.pair, h.same, h.cur, h.old, h.diff⟩
theorem FW.stop {t : Nat → Nat} {w0 w : World} {d g p N : Nat} {cur : Nat → List UInt8} {wf : Nat → List (List UInt8)} {K : Nat} {c : Nat → Nat} {F : Fp3} (h : FW w0 d g p t N cur wf K c F w) (n : Int) :
    Calls Tryz.prog 44 #[.pointer (some ⟨d, 0, none⟩), .int .i64 n] w fun e w' => e = .returned (.tuple #[]) ∧ FW w0 d g p t N cur wf K c F w' ∧ Acc3 F w F w' := by
  obtain ⟨dm, lm, pm, i1, i2, hs, hJ⟩ := h
  refine (stop44 hs.1.1.1 hJ.dead n).mono ?_
  rintro e w' ⟨rfl, s, hk⟩
  obtain ⟨h1, h2⟩ := hs.1.keep hk
  exact ⟨rfl, ⟨_, lm, pm, i1, i2, hs.step h1 h2, hJ.stop s⟩, h2⟩
end Go.Proofs.YtfdgiblkllfpjaaGreatDoor

/- PoolFirst: the law's own function, the walk. -/
set_option linter.unusedVariables false
set_option linter.unusedSimpArgs false
namespace Go.Proofs.YtfdgiblkllfpjaaGreatDoor
open Go.ChangeShapes Go.WideShapes Go.ChangeAt Go.RowKit

theorem TurnsAt.offF {w w' : World} {v : Value} {l : List Tn} (h : TurnsAt w v l) (ho : Off [] w w') : TurnsAt w' v l := by
  obtain ⟨ao, cap, rfl, h2⟩ := h
  refine ⟨ao, cap, rfl, fun i x hi => ?_⟩
  obtain ⟨⟨b, off, e, hb, hc⟩, h5, h6⟩ := h2 i x hi
  refine ⟨⟨b, off, e, Nat.lt_of_lt_of_le hb ho.size, fun j hj => ?_⟩, h5.off ho, h6⟩
  rw [World.cell?_of_block (a := ⟨b, off + (i * 4 + j), none⟩) (ho.old b hb (by simp))]; exact hc j hj
section
variable {w0 w w' : World} {r d g p N : Nat} {t : Nat → Nat} {was : List (List (List UInt8))} {F : Fp3} {rf : List Nat} {dead : Bool}
theorem RunX.crash (h : RunX w0 r d g p t N dead was F rf w) (c : Int) {kv : Value} {ks : List Int} (hk : ReadI w kv ks) (hkw : ∀ x ∈ ks, x ≤ 9223372036854775807) :
    Calls Tryz.prog 35 #[.pointer (some ⟨d, 0, none⟩), .agg #[.int .i64 c, kv]] w fun e w' => ∃ d', e = .returned (.pointer (some ⟨d', 0, none⟩)) ∧ LeftX w0 r d g p d' t N was w.heap.size w' ∧ Off [] w w' := by
  obtain ⟨⟨dm, lm, pm, hs, hsf⟩, hr, hrf⟩ := h
  have hlo : dm.loose.length ≤ 1 := by
    rcases hsf.loose with q | ⟨_, _, _, _, _, _, _, _, ⟨q, _⟩ | ⟨q, _⟩⟩ <;> rw [q] <;> simp
  obtain ⟨i1, i2, l1, l2, l3, l4⟩ := hsf.log
  have hla : dm.lasted ≤ dm.log.length := by rw [l2, logB_len, l3, List.length_append]; omega
  have hlt := hr.lt
  refine (crashF35 hs.1.1.1 hsf.fit hlo hla (by omega) c hk hkw).mono ?_
  rintro e w' ⟨d', fp', j, n, rfl, h1, h2, h3, h4, h5⟩
  obtain ⟨ids, part, hL⟩ := hsf.left j n h2 h3
  exact ⟨d', rfl, ⟨_, fp', ids, part, dead, rf, h1, hL, h5, hs.2.2.trans h4 (by simp), hs.2.2.size, h4.size, hr.off h4 (by simp), fun z hz => ⟨hlt z hz, (hrf z hz).1⟩⟩, h4⟩
theorem RunF.stop {cur : Nat → List UInt8} {K M : Nat} {c : Nat → Nat} (h : RunF w0 r d g p t N cur K M c was F rf w) (n : Int) :
    Calls Tryz.prog 44 #[.pointer (some ⟨d, 0, none⟩), .int .i64 n] w fun e w' => e = .returned (.tuple #[]) ∧ RunF w0 r d g p t N cur K M c was F rf w' := by
  refine (h.1.stop n).mono ?_
  rintro e w' ⟨rfl, h1, h2⟩
  exact ⟨rfl, h.step h1 h2⟩
end
set_option maxRecDepth 100000 in
set_option maxHeartbeats 16000000 in
theorem first_walk {t : Nat → Nat} {w : World} (ht : Tbl t w) (pgs frs st ch : Int) {tv : Value} {l : List Tn} (hl : TurnsAt w tv l) (hll : l.length ≤ 2940000000000) {kv : Value} {ks : List Int} (hk : ReadI w kv ks) (hkw : ∀ x ∈ ks, x ≤ 9223372036854775807) :
    Calls Tryz.prog 7 #[planV pgs frs tv st ch kv] w fun e w' => e = .returned (.bool true) ∧ Off [] w w' := by
  obtain ⟨r1, hr1, hr1'⟩ : ∃ r : Nat, pgs.emod 5 = (r : Int) ∧ r < 5 := emod_natN pgs (N := 5) (by omega)
  obtain ⟨N, hN⟩ : ∃ N, N = r1 + 1 := ⟨_, rfl⟩
  obtain ⟨ko, kc, rfl, hkc⟩ := id hk
  have HB : Hid (1 ≤ N ∧ N ≤ 5 ∧ l.length ≤ 2940000000000) := Lib.hid ⟨by omega, by omega, hll⟩
  have HBG : Hid (∀ W, Off [] w W → Calls Tryz.prog 29 #[planV pgs frs tv st ch (.slice ko ks.length kc)] W (BeganF W t N)) := Lib.hid (fun W ho => beganF29 (ht.off ho (by simp)) pgs frs st ch tv _ N (by rw [hr1, hN]; rfl))
  have HT := Lib.hid ht
  have HL := Lib.hid hl
  have HKV : Hid (∀ d r dead was F rf g p W V c, Off [] w W → RunX V r d g p t N dead was F rf W → Calls Tryz.prog 35 #[.pointer (some ⟨d, 0, none⟩), .agg #[.int .i64 c, .slice ko ks.length kc]] W fun e w' => ∃ d', e = .returned (.pointer (some ⟨d', 0, none⟩)) ∧ LeftX V r d g p d' t N was W.heap.size w' ∧ Off [] W w') := Lib.hid (fun d r dead was F rf g p W V c ho hx => hx.crash c (hk.off ho) hkw)
  obtain ⟨ao, cap, rfl⟩ := hl.val
  obtain ⟨P, hP⟩ : ∃ P : Ending → World → Prop, P = fun e w' => e = .returned (.bool true) ∧ Off [] w w' := ⟨_, rfl⟩
  rw [← hP]
  have HP := Lib.hid hP
  clear hP hr1 hr1' hN ht hl hll hk hkw hkc
  generalize hn : l.length = n at *
  have HN := Lib.hid hn
  clear hn
  generalize ks.length = kn at *
  unfold planV at HBG ⊢
  go_enter Tryz.func7, Tryz.ntmps7
  go_upto_region 1 with fail
  have hv : ∃ V, V = w.alloc (.cells #[.int .i64 pgs, .int .i64 frs, .slice ao n cap, .int .i64 st, .int .i64 ch, .slice ko kn kc] 67) ∧ IsC V w.heap.size #[.int .i64 pgs, .int .i64 frs, .slice ao n cap, .int .i64 st, .int .i64 ch, .slice ko kn kc] 67 ∧ Off [] w V := ⟨_, rfl, IsC.new _ _ _, (Off.refl [] w).alloc _⟩
  obtain ⟨V, hv0, v1, v2⟩ := hv
  rw [← hv0]
  have hvs : w.heap.size < V.heap.size := by rw [hv0]; simp
  clear hv0
  obtain ⟨pb, hpb⟩ : ∃ pb, pb = w.heap.size := ⟨_, rfl⟩
  rw [← hpb] at v1 hvs ⊢
  clear hpb
  have HV := Lib.hid (And.intro v1 (And.intro v2 hvs))
  have b0 := v1.cell 0
  have b1 := v1.cell 1
  have b2 := v1.cell 2
  have b3 := v1.cell 3
  have b4 := v1.cell 4
  have b5 := v1.cell 5
  simp only [List.getElem?_toArray, List.getElem?_cons_zero, List.getElem?_cons_succ] at b0 b1 b2 b3 b4 b5
  clear v1 v2 hvs
  go_wp2_with fail
  refine (HBG.out V HV.out.2.1).mono ?_
  rintro e w1 ⟨r, d, g, p, F, rf, rfl, h1⟩
  have HR1 := Lib.hid h1
  clear h1 b0 b1 b2 b3 b4 b5 HBG
  have HTV : Hid (Tbl t V ∧ TurnsAt V (.slice ao n cap) l) := Lib.hid ⟨HT.out.off HV.out.2.1 (by simp), HL.out.offF HV.out.2.1⟩
  have HAL : Hid (∀ W, Off [] V W → Calls Tryz.prog 10 #[] W fun e w' => e = .returned (.bool true) ∧ Off [] W w') := Lib.hid (fun W ho => alive10 (HTV.out.1.off ho (by simp)))
  go_wp2_with fail
  refine (HAL.out w1 HR1.out.off0).mono ?_
  rintro e w2 ⟨rfl, o2⟩
  have HR2 := Lib.hid (HR1.out.quiet o2)
  obtain ⟨f0, f1, f2, f3, f5⟩ := HR2.out.cells
  have HPB : Hid (∀ W, Off [] V W → W.cell? ⟨pb, 3, none⟩ = some (.int .i64 st) ∧ W.cell? ⟨pb, 2, none⟩ = some (.slice ao n cap) ∧ W.cell? ⟨pb, 4, none⟩ = some (.int .i64 ch) ∧ W.cell? ⟨pb, 5, none⟩ = some (.slice ko kn kc)) := Lib.hid (fun W ho => by
    have hc := HV.out.1.off ho (by simp)
    exact ⟨by rw [hc.cell]; rfl, by rw [hc.cell]; rfl, by rw [hc.cell]; rfl, by rw [hc.cell]; rfl⟩)
  clear o2 HAL HR1
  have HST := Lib.hid (HR2.out.stop st)
  obtain ⟨b3, b2, b4, b5⟩ := HPB.out w2 HR2.out.off0
  have HSA : Hid (∀ W, Off [] w2 W → W.cell? ⟨r, 0, none⟩ = some (.pointer (some ⟨d, 0, none⟩)) ∧ W.cell? ⟨pb, 3, none⟩ = some (.int .i64 st)) := Lib.hid (fun W ho => ⟨ho.cell f0 (by simp), ho.cell b3 (by simp)⟩)
  have HST2 : Hid (∀ W, Off [] w2 W → Calls Tryz.prog 44 #[.pointer (some ⟨d, 0, none⟩), .int .i64 st] W fun e w' => e = .returned (.tuple #[]) ∧ RunF V r d g p t N (fun _ => zA) 1 0 (fun _ => 0) (List.replicate N [zA]) F rf w') := Lib.hid (fun W ho => (HR2.out.quiet ho).stop st)
  clear f0 f1 f2 f3 f5 b2 b3 b4 b5 HST
  go_wp2_with fail
  go_region_held3 (fun W => W.cell? ⟨r, 0, none⟩ = some (.pointer (some ⟨d, 0, none⟩)) ∧ W.cell? ⟨pb, 3, none⟩ = some (.int .i64 st))
    (first | exact HSA.out _ (Off.refl _ _) | exact HSA.out _ (Off.refl _ _).drew | exact HSB.out | fail)
    (first
    | (go_at_call 44; refine (HST2.out _ (by first | exact Off.refl _ _ | exact (Off.refl _ _).drew)).mono ?_; rintro e w3 ⟨rfl, h3⟩; have HR3 := Lib.hid h3; have HSB : Hid (w3.cell? ⟨r, 0, none⟩ = some (.pointer (some ⟨d, 0, none⟩)) ∧ w3.cell? ⟨pb, 3, none⟩ = some (.int .i64 st)) := Lib.hid ⟨h3.cells.1, (HPB.out w3 h3.off0).1⟩; clear h3))
  clear HSA HSB HST2 HR2
  have HDN : Hid (∀ W, Off [] w3 W → Calls Tryz.prog 30 #[.pointer (some ⟨r, 0, none⟩), .slice ao n cap] W (DoneF V r d g p t N)) := Lib.hid (fun W ho => doneF30 HTV.out.1 (HR3.out.quiet ho) (by omega) (by omega) ⟨HB.out.1, by have := HB.out; omega⟩ HTV.out.2 (by rw [HN.out]; exact HB.out.2.2))
  have b2 := (HPB.out w3 HR3.out.off0).2.1
  go_wp2_with fail
  refine (HDN.out _ (Off.refl _ _)).mono ?_
  rintro e w4 ⟨rfl, dead, was, F4, rf4, h4⟩
  have HX4 := Lib.hid h4
  obtain ⟨f0, f3, f5, _⟩ := h4.cells
  obtain ⟨_, _, b4, b5⟩ := HPB.out w4 h4.off0
  have HSC : Hid (∀ W, Off [] w4 W → W.cell? ⟨r, 0, none⟩ = some (.pointer (some ⟨d, 0, none⟩)) ∧ W.cell? ⟨pb, 4, none⟩ = some (.int .i64 ch) ∧ W.cell? ⟨pb, 5, none⟩ = some (.slice ko kn kc)) := Lib.hid (fun W ho => ⟨ho.cell f0 (by simp), ho.cell b4 (by simp), ho.cell b5 (by simp)⟩)
  have HCR : Hid (∀ W, Off [] w4 W → Calls Tryz.prog 35 #[.pointer (some ⟨d, 0, none⟩), .agg #[.int .i64 ch, .slice ko kn kc]] W fun e w' => ∃ d', e = .returned (.pointer (some ⟨d', 0, none⟩)) ∧ LeftX V r d g p d' t N was W.heap.size w' ∧ Off [] W w') := Lib.hid (fun W ho => HKV.out d r dead was F4 rf4 g p W V ch (HV.out.2.1.trans (HX4.out.off0.trans ho (by simp)) (by simp)) (HX4.out.quiet ho))
  clear h4 f0 f3 f5 b2 b4 b5 HDN HR3 HKV
  go_wp2_with fail
  go_region_held3 (fun W => W.cell? ⟨r, 0, none⟩ = some (.pointer (some ⟨d, 0, none⟩)) ∧ W.cell? ⟨pb, 4, none⟩ = some (.int .i64 ch) ∧ W.cell? ⟨pb, 5, none⟩ = some (.slice ko kn kc))
    (first | exact HSC.out _ (Off.refl _ _) | exact HSC.out _ (Off.refl _ _).drew | exact HSC.out _ HOX.out | fail)
    (first
    | (go_at_call 35; refine (HCR.out _ (by first | exact Off.refl _ _ | exact (Off.refl _ _).drew)).mono ?_; rintro e w5 ⟨d', rfl, hleft, hox⟩; have HLD := Lib.hid hleft; have HOX : Hid (Off [] w4 w5) := Lib.hid (by first | exact hox | exact ((Off.refl _ _).drew).trans hox (by simp)); clear hox hleft))
  have HFI := Lib.hid (first45 HTV.out.1 HLD.out ⟨HB.out.1, by have := HB.out; omega⟩)
  clear HSC HCR HX4 HOX HLD
  go_wp2_with fail
  refine HFI.out.mono ?_
  rintro e w6 ⟨rfl, o6⟩
  have HF : Hid (P (.returned (.bool true)) w6) := Lib.hid (by rw [HP.out]; exact ⟨rfl, HV.out.2.1.trans o6 (by simp)⟩)
  clear o6 HFI
  go_wp2_with fail
  first | exact HF.out | (go_ret; exact HF.out)
end Go.Proofs.YtfdgiblkllfpjaaGreatDoor

/- PoolFirst: a Plan, as it comes in, opened, with what the crash keeps. -/
set_option linter.unusedVariables false
set_option linter.unusedSimpArgs false
namespace Go.Proofs.YtfdgiblkllfpjaaGreatDoor
open Go.ChangeShapes Go.WideShapes Go.ChangeAt Go.RowKit Go.Deep

section
variable {H : Type} {enc : TypeId × Value → H} {P : Program} {w : World} {base : Nat} {spare : Nat → Bool} {held : Bool}
/-- Ints within something that came in. -/
theorem trod_intsR {t e : TypeId} {n : Nat} {cs : List Value} {x : DataW H × List MemPlace} (ht : P.underlying t = some (.slice e)) (he : P.underlying e = some (.int .i64)) (hce : P.cellsOf e = 1) (h : DataW.trod enc P w base spare held n t cs = some x) :
    ∃ (bo : Option Addr) (bc : Nat) (l : List Int), cs = [.slice bo l.length bc] ∧ ReadI w (.slice bo l.length bc) l ∧ ∀ x ∈ l, x ≤ 9223372036854775807 := by
  rcases open_ints ht he hce h with ⟨hcs, _⟩ | ⟨a, len, cap, zs, hcs, _, hl, hm, hzl, hx, hc, hw⟩
  · exact ⟨none, 0, [], hcs, ⟨none, 0, rfl, fun k hk => by simp at hk⟩, fun x hx => by cases hx⟩
  · have hlz : len ≤ zs.length := by rw [hzl]; split <;> omega
    have hlen : (zs.take len).length = len := by rw [List.length_take]; omega
    refine ⟨some a, cap, zs.take len, by rw [hlen]; exact hcs, ⟨some a, cap, by rw [hlen], fun k hk => ?_⟩, fun x hx => by have := bounds_i64 (hw x (List.mem_of_mem_take hx)); omega⟩
    rw [hlen] at hk
    have c := hc k (by omega)
    obtain ⟨b, off, spot⟩ := a
    have hspot : spot = none := by have := World.cell?_spot (hc 0 (by omega)); simpa [Addr.add] using this
    subst hspot
    rw [Addr.add_lit] at c
    refine ⟨b, off, rfl, World.block_lt_of_cell? w ⟨b, off + k, none⟩ c, ?_⟩
    have hg : zs.getD k 0 = zs[k]'(by omega) := by simp [List.getD, List.getElem?_eq_getElem (show k < zs.length by omega)]
    rw [c, hg, List.getElem_take]
/-- A plan by value. -/
theorem open_plan2 {tp ts tt tb eb tc tk ek : TypeId} {f0 f1 f2 f3 g0 g1 g2 g3 g4 c0 c1 : Field} {v : Value} {d : DataW H} {p : List MemPlace} {r : Reach} {b0 : Nat}
    (hp : P.underlying tp = some (.struct #[g0, g1, g2, g3, g4])) (hpC : P.cellsOf tp = 6) (go : [g0, g1, g2, g3, g4].map (fun f => (f.offset, P.cellsOf f.type)) = [(0, 1), (1, 1), (2, 1), (3, 1), (4, 2)]) (gi : (P.underlying g0.type, P.underlying g1.type, g2.type, P.underlying g3.type, g4.type) = (some (.int .i64), some (.int .i64), ts, some (.int .i64), tc))
    (hc : P.underlying tc = some (.struct #[c0, c1])) (co : [c0, c1].map (fun f => (f.offset, P.cellsOf f.type)) = [(0, 1), (1, 1)]) (ci : (P.underlying c0.type, c1.type) = (some (.int .i64), tk)) (hk : P.underlying tk = some (.slice ek)) (hek : P.underlying ek = some (.int .i64)) (hcek : P.cellsOf ek = 1)
    (hts : P.underlying ts = some (.slice tt)) (hC : P.cellsOf tt = 4) (hB : P.bytesOf tt = 48) (ht : P.underlying tt = some (.struct #[f0, f1, f2, f3]))
    (ho : [f0, f1, f2, f3].map (fun f => (f.offset, P.cellsOf f.type)) = [(0, 1), (1, 1), (2, 1), (3, 1)]) (hi : (P.underlying f0.type, P.underlying f1.type, P.underlying f2.type, f3.type) = (some (.int .i64), some (.int .i64), some (.int .i64), tb))
    (hb : P.underlying tb = some (.slice eb)) (he : P.underlying eb = some (.int .u8)) (hce : P.cellsOf eb = 1) (hbe : P.bytesOf eb = 1)
    (hv : Value.okWide P w r b0 tp v) (h : DataW.Trod enc P w base spare held tp v d p) {tss : List TypeId} {ds : List (DataW H)} (hsz : (DataW.weightsEach P tss ds).all (· ≤ reachBytes) = true) {j : Nat} (htj : tss[j]? = some tp) (hdj : ds[j]? = some d) :
    ∃ (pgs frs : Int) (tv : Value) (st ch : Int) (kv : Value) (l : List Tn) (ks : List Int), v = planV pgs frs tv st ch kv ∧ TurnsAt w tv l ∧ l.length ≤ 2940000000000 ∧ ReadI w kv ks ∧ ∀ x ∈ ks, x ≤ 9223372036854775807 := by
  obtain ⟨cs, rfl, hs⟩ := okWide_struct hp hv
  obtain ⟨fuel, hf⟩ := h
  have hz : Fits P tp d := Fits.of hsz htj hdj
  rw [hpC] at hs
  have hs' : cs.toList.length = 6 := by simpa using hs
  obtain ⟨ys, m, _, hx, _, hyl, hq⟩ := DataW.trod_struct hp hf
  simp only [Prod.mk.injEq] at hx
  rw [hx.1] at hz
  simp only [List.map_cons, List.map_nil, List.cons.injEq, Prod.mk.injEq, and_true] at go gi co ci
  obtain ⟨⟨o0, k0⟩, ⟨o1, k1⟩, ⟨o2, k2⟩, ⟨o3, k3⟩, o4, k4⟩ := go
  obtain ⟨t0, t1, t2, t3, t4⟩ := gi
  obtain ⟨⟨co0, ck0⟩, co1, ck1⟩ := co
  obtain ⟨ct0, ct1⟩ := ci
  have hcl : (Value.agg cs).cells.toList = cs.toList := rfl
  rw [hcl] at hq
  have hcs : cs = cs.toList.toArray := by simp
  rw [hcs]
  generalize cs.toList = L at *
  match L, hs' with
  | [u0, u1, u2, u3, u4, u5], _ =>
    match ys, hyl with
    | [y0, y1, y2, y3, y4], _ =>
      have q0 := hq 0 g0 rfl
      have q1 := hq 1 g1 rfl
      have q2 := hq 2 g2 rfl
      have q3 := hq 3 g3 rfl
      have q4 := hq 4 g4 rfl
      have z2 : Fits P g2.type y2.1 := hz.part hp (j := 2) (f := g2) rfl rfl
      rw [o0, k0] at q0; rw [o1, k1] at q1; rw [o2, k2, t2] at q2; rw [o3, k3] at q3; rw [o4, k4, t4] at q4
      rw [t2] at z2
      obtain ⟨a, e0, _⟩ := DataW.trod_int t0 q0
      obtain ⟨b, e1, _⟩ := DataW.trod_int t1 q1
      obtain ⟨tv, l, e2, hl1, hl2⟩ := trod_turns hts hC hB ht ho hi hb he hce hbe q2 z2
      obtain ⟨c, e3, _⟩ := DataW.trod_int t3 q3
      obtain ⟨xs, m', _, _, _, hxl, hxf⟩ := DataW.trod_struct hc q4
      match xs, hxl with
      | [x0, x1], _ =>
        have r0 := hxf 0 c0 rfl
        have r1 := hxf 1 c1 rfl
        rw [co0, ck0] at r0; rw [co1, ck1, ct1] at r1
        obtain ⟨ch, e4, _⟩ := DataW.trod_int ct0 r0
        simp at e0 e1 e2 e3 e4
        obtain ⟨ko, kc, ks, e5, hks, hkw⟩ := trod_intsR hk hek hcek r1
        simp at e5
        subst e0; subst e1; subst e2; subst e3; subst e4; subst e5
        exact ⟨a, b, u2, c, ch, _, l, ks, rfl, hl1, hl2, hks, hkw⟩
end
end Go.Proofs.YtfdgiblkllfpjaaGreatDoor
