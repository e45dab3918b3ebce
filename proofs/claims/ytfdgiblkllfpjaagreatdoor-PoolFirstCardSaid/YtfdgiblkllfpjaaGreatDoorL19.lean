/- PoolLasts: a run's first state; a list of turns; done. -/
import Derived.Test.YtfdgiblkllfpjaaGreatDoorL18
set_option linter.unusedVariables false
set_option linter.unusedSimpArgs false
namespace Go.Proofs.YtfdgiblkllfpjaaGreatDoor
open Go.ChangeShapes Go.WideShapes Go.ChangeAt Go.RowKit

/-- The shape of a run's disk. -/
def shN (N : Nat) : Shp := ⟨N, 1, 65536⟩
theorem shN_zero {N n : Nat} (hn : n < N) : (blankG (shN N))[n]? = some zA := by
  rw [blankG_at _ _ (by unfold shN; simp only; omega)]
  unfold Shp.sizeB Shp.pageB shN zA
  simp only
  rw [if_pos hn]
theorem zA_lsn : pageLsn zA = some 0 := by decide
theorem LastI.first (t : Nat → Nat) {N m : Nat} (hN : N ≤ 15) (h1 : 2 ≤ m) (h2 : m ≤ 14) : LastI t N (fun _ => zA) [] [] 1 (fun _ => 0) (newDisk (shN N)).act (newLog 0) ⟨m, [], false⟩ := by
  have hl : (newDisk (shN N)).live := ⟨rfl, rfl⟩
  obtain ⟨e1, e2, e3, e4, e5, e6, e7⟩ := (newDisk (shN N)).act_fields
  have hr : ∀ n, n < N → (newDisk (shN N)).act.reads[n]? = some zA ∧ (newDisk (shN N)).act.lasts[n]? = some zA := fun n hn => by
    rw [e2, e3]; exact ⟨shN_zero hn, shN_zero hn⟩
  exact {
    live := hl.act.1
    desk := ⟨DiskM.act_fit (newDisk_fit _), (fun x hx => by rw [e4] at hx; cases hx), by rw [hl.act.2]; exact Nat.le_refl _, by rw [e4]; exact Nat.zero_le _, by rw [e5]; rfl, Nat.zero_le _, rfl⟩
    loose := e4
    lasted := by rw [e6, e5]; rfl
    shp := e1
    log := by rw [e5]; rfl
    tail := rfl
    base := rfl
    disk := rfl
    bytes := rfl
    ents := rfl
    ids := fun x hx => by cases hx
    pages := hN
    most := ⟨h1, h2⟩
    dead := rfl
    len := Nat.zero_le _
    nod := List.nodup_nil
    fr := fun f hf => by cases hf
    out := fun n hn _ => ⟨(hr n hn).1, (hr n hn).2, rfl⟩
    page := fun n hn => ⟨zA_40, 0, check_zeros t n 1 (by omega) (by omega) (by omega), zA_lsn, by omega, .inl (by unfold LogM.fin; show 0 < 0 + 0 + 1; omega)⟩ }
theorem LW.first {w0 w3 : World} {d g p m N : Nat} {t : Nat → Nat} {D L Q : List Nat} (hN : N ≤ 15) (h1 : 2 ≤ m) (h2 : m ≤ 14) (hW : Since w0 d g p (newDisk (shN N)).act (newLog 0) ⟨m, [], false⟩ ⟨D, L, Q⟩ w3) : LW w0 d g p t N (fun _ => zA) 1 (fun _ => 0) ⟨D, L, Q⟩ w3 :=
  ⟨_, _, _, [], [], hW, LastI.first t hN h1 h2⟩
/-- One turn. -/
structure Tn where
  kind : Int
  n : Int
  pick : Int
  bo : Option Addr
  bc : Nat
  bl : List UInt8
def Tn.sl (x : Tn) : Value := .slice x.bo x.bl.length x.bc
def Tn.cells (x : Tn) : List Value := [.int .i64 x.kind, .int .i64 x.n, .int .i64 x.pick, x.sl]
/-- A slice of turns. -/
def TurnsAt (w : World) (v : Value) (l : List Tn) : Prop :=
  ∃ ao cap, v = .slice ao l.length cap ∧ ∀ (i : Nat) (x : Tn), l[i]? = some x → (∃ b off, ao = some ⟨b, off, none⟩ ∧ b < w.heap.size ∧ ∀ j, j < 4 → w.cell? ⟨b, off + (i * 4 + j), none⟩ = x.cells[j]?) ∧ ReadB w x.sl x.bl ∧ x.bl.length ≤ 140737488355328
theorem TurnsAt.at_ {w : World} {ao : Option Addr} {n cap : Nat} {l : List Tn} (h : TurnsAt w (.slice ao n cap) l) {i : Nat} (hi : i < l.length) :
    ∃ (b off : Nat) (x : Tn), ao = some ⟨b, off, none⟩ ∧ b < w.heap.size ∧ (∀ j, j < 4 → w.cell? ⟨b, off + (i * 4 + j), none⟩ = x.cells[j]?) ∧ ReadB w x.sl x.bl ∧ x.bl.length ≤ 140737488355328 := by
  obtain ⟨ao', cap', he, h2⟩ := h
  simp only [Value.slice.injEq] at he
  obtain ⟨⟨b, off, h0, h3, h4⟩, h5, h6⟩ := h2 i _ (List.getElem?_eq_getElem hi)
  exact ⟨b, off, _, he.1.trans h0, h3, h4, h5, h6⟩
theorem TurnsAt.val {w : World} {v : Value} {l : List Tn} (h : TurnsAt w v l) : ∃ ao cap, v = .slice ao l.length cap := by
  obtain ⟨ao, cap, rfl, _⟩ := h; exact ⟨ao, cap, rfl⟩
/-- Any turn. -/
theorem does74 {w0 w : World} {r d g p N : Nat} {t : Nat → Nat} {cur : Nat → List UInt8} {K M : Nat} {was : List (List (List UInt8))} {F : Fp3} {rf : List Nat} (ht : Tbl t w0) (h : RunW w0 r d g p t N cur K M (fun _ => 0) was F rf w) (hK : K < 100000000000000000) (hM : M < 3000000000000) (hN : 1 ≤ N ∧ N ≤ 15) (x : Tn) (hbl : x.bl.length ≤ 140737488355328) (hb : ReadB w0 x.sl x.bl) :
    Calls Tryz.prog 74 #[.pointer (some ⟨r, 0, none⟩), turnV x.kind x.n x.pick x.sl] w (DoesPost w0 r d g p t N (K + 100) (M + 1) w) := by
  by_cases h3 : x.kind = 3 ∨ x.kind = 1 ∨ x.kind = 2
  · exact does74_pin ht h hK hM hN x.kind x.n x.pick x.bo x.bc x.bl hbl hb h3
  · refine does74_other ht h (by omega) hN x.kind x.n x.pick x.bo x.bl.length x.bc ?_
    by_cases h4 : x.kind = 4
    · exact .inl h4
    · by_cases h5 : x.kind = 5
      · exact .inr (.inl h5)
      · by_cases h6 : x.kind = 6
        · exact .inr (.inr (.inl h6))
        · refine .inr (.inr (.inr ⟨fun e => h3 (.inr (.inl e)), fun e => h3 (.inr (.inr e)), fun e => h3 (.inl e), h4, h5, h6⟩))
/-- All turns are done. -/
def DonePost (w0 : World) (r d g p : Nat) (t : Nat → Nat) (N K M : Nat) (e : Ending) (w' : World) : Prop :=
  e = .returned (.bool true) ∧ ∃ cur was F rf, RunW w0 r d g p t N cur K M (fun _ => 0) was F rf w'
set_option maxRecDepth 100000 in
set_option maxHeartbeats 8000000 in
theorem done30 {w0 w : World} {r d g p N : Nat} {t : Nat → Nat} {cur : Nat → List UInt8} {K M : Nat} {was : List (List (List UInt8))} {F : Fp3} {rf : List Nat} (ht : Tbl t w0) (h : RunW w0 r d g p t N cur K M (fun _ => 0) was F rf w) (hK : K ≤ 1000) (hM : M ≤ 10) (hN : 1 ≤ N ∧ N ≤ 15) {tv : Value} {l : List Tn} (hl : TurnsAt w0 tv l) (hll : l.length ≤ 2940000000000) :
    Calls Tryz.prog 30 #[.pointer (some ⟨r, 0, none⟩), tv] w (DonePost w0 r d g p t N (K + 100 * l.length) (M + l.length)) := by
  obtain ⟨ao, cap, rfl⟩ := hl.val
  have HH := Lib.hid h
  have HT := Lib.hid ht
  have HL := Lib.hid hl
  have HB := Lib.hid (And.intro hK (And.intro hM (And.intro hN hll)))
  obtain ⟨P, hP⟩ : ∃ P, P = DonePost w0 r d g p t N (K + 100 * l.length) (M + l.length) := ⟨_, rfl⟩
  rw [← hP]
  have HP := Lib.hid hP
  clear hP ht h hl hK hM hN
  generalize hn : l.length = n at *
  have HN := Lib.hid hn
  clear hn
  go_enter Tryz.func30, Tryz.ntmps30
  go_wp2_with fail
  go_loopw [5] (fun i wr => ∃ k : Nat, k ≤ n ∧ i = .int .i64 (k : Int) ∧ ∃ cur was F rf, RunW w0 r d g p t N cur (K + 100 * k) (M + k) (fun _ => 0) was F rf wr) (fun i _ => n - (intOf i).toNat)
  case atStart => exact ⟨0, by omega, rfl, _, _, _, _, HH.out⟩
  case round =>
    obtain ⟨k, hk, rfl, cur1, was1, F1, rf1, hw1⟩ := hrel
    have HW := Lib.hid hw1
    obtain ⟨f0, f1, f2, f3, f5⟩ := hw1.cells
    clear hw1 HH
    by_cases hkn : k < n
    · have hkn' : (k : Int) < (n : Int) := by omega
      have hk0 : (0 : Int) ≤ (k : Int) := by omega
      obtain ⟨b, off, x, rfl, hb, hc, hrb, hxl⟩ := HL.out.at_ (i := k) (by rw [HN.out]; exact hkn)
      have HDO : Hid (Calls Tryz.prog 74 #[.pointer (some ⟨r, 0, none⟩), turnV x.kind x.n x.pick x.sl] wr (DoesPost w0 r d g p t N (K + 100 * k + 100) (M + k + 1) wr)) := Lib.hid (does74 HT.out HW.out (by have := HB.out; omega) (by have := HB.out; omega) HB.out.2.2.1 x hxl hrb)
      have c0 : wr.cell? ⟨b, off + k * 4, none⟩ = some (.int .i64 x.kind) := (World.cell?_of_block (a := ⟨b, off + k * 4, none⟩) (HW.out.off0.old b hb (by simp))).trans (hc 0 (by omega))
      have c1 : wr.cell? ⟨b, off + k * 4 + 1, none⟩ = some (.int .i64 x.n) := (World.cell?_of_block (a := ⟨b, off + k * 4 + 1, none⟩) (HW.out.off0.old b hb (by simp))).trans (hc 1 (by omega))
      have c2 : wr.cell? ⟨b, off + k * 4 + 2, none⟩ = some (.int .i64 x.pick) := (World.cell?_of_block (a := ⟨b, off + k * 4 + 2, none⟩) (HW.out.off0.old b hb (by simp))).trans (hc 2 (by omega))
      have c3 : wr.cell? ⟨b, off + k * 4 + 3, none⟩ = some x.sl := (World.cell?_of_block (a := ⟨b, off + k * 4 + 3, none⟩) (HW.out.off0.old b hb (by simp))).trans (hc 3 (by omega))
      unfold Tn.sl at c3 HDO
      unfold turnV at HDO
      clear hc hrb hxl
      go_wp2_with fail
      refine HDO.out.mono ?_
      rintro e w2 ⟨rfl, cur2, was2, F2, rf2, h2, _⟩
      have HW2 := Lib.hid h2
      clear h2 HDO HW f0 f1 f2 f3 f5 c0 c1 c2 c3
      go_wp2_with fail
      go_roundw
      case rel => exact ⟨k + 1, by omega, by go_num, cur2, was2, F2, rf2, HW2.out.mono (by omega) (by omega) (fun _ _ => rfl)⟩
      case measure => simp [intOf]; omega
    · have hkn' : ¬ ((k : Int) < (n : Int)) := by omega
      obtain rfl : k = n := by omega
      have HF : Hid (P (.returned (.bool true)) wr) := Lib.hid (by rw [HP.out]; exact ⟨rfl, cur1, was1, F1, rf1, HW.out⟩)
      clear HW hk hkn f0 f1 f2 f3 f5
      go_wp2_with fail
      first | exact HF.out | (go_ret; exact HF.out)
end Go.Proofs.YtfdgiblkllfpjaaGreatDoor

/- PoolLasts: began: a new run. -/
set_option linter.unusedVariables false
set_option linter.unusedSimpArgs false
namespace Go.Proofs.YtfdgiblkllfpjaaGreatDoor
open Go.ChangeShapes Go.WideShapes Go.ChangeAt Go.RowKit

/-- A plan, as it came in. -/
def planV (pgs frs : Int) (tv : Value) (st ch : Int) (kv : Value) : Value := .agg #[.int .i64 pgs, .int .i64 frs, tv, .int .i64 st, .int .i64 ch, kv]
/-- A run that has just begun. -/
def BeganPost (w : World) (t : Nat → Nat) (N : Nat) (e : Ending) (w' : World) : Prop :=
  ∃ r d g p F rf, e = .returned (.pointer (some ⟨r, 0, none⟩)) ∧ RunW w r d g p t N (fun _ => zA) 1 0 (fun _ => 0) (List.replicate N [zA]) F rf w'
/-- While it begins. -/
def BeginW (w : World) (r d g p : Nat) (t : Nat → Nat) (N k : Nat) (w' : World) : Prop :=
  ∃ F wv fw, LW w d g p t N (fun _ => zA) 1 (fun _ => 0) F w' ∧ IsC w' r (runC d g p N wv false) 73 ∧ WasAt w' wv (List.replicate k [zA]) fw ∧ (r :: fw).Nodup ∧ ∀ z ∈ r :: fw, w.heap.size ≤ z ∧ z ∉ F.d ++ F.l ++ F.p
theorem BeginW.push {w wr : World} {r d g p N k : Nat} {t : Nat → Nat} (h : BeginW w r d g p t N k wr) :
    ∃ ao cap vs, Own wr 140 1 (.slice ao k cap) k vs ∧ IsC wr r (runC d g p N (.slice ao k cap) false) 73 ∧
      ∀ U B ao' cap' W2, Off [] wr U → wr.heap.size ≤ B → Own U 9 1 (.slice (some ⟨B, 0, none⟩) 1 1) 1 [.string (strB zA)] → Own W2 140 1 (.slice ao' (k + 1) cap') (k + 1) (vs ++ [.slice (some ⟨B, 0, none⟩) 1 1]) → Off (blk (.slice ao k cap)) U W2 →
        (blk (.slice ao' (k + 1) cap') = blk (.slice ao k cap) ∨ blk (.slice ao' (k + 1) cap') = [U.heap.size]) →
        IsC W2 r (runC d g p N (.slice ao k cap) false) 73 ∧ BeginW w r d g p t N (k + 1) (W2.setCell ⟨r, 4, none⟩ (.slice ao' (k + 1) cap')) := by
  obtain ⟨F, wv, fw, hL, hC, hW, hn, hS⟩ := h
  obtain ⟨vs, h1, h2, h3, rfl, h4⟩ := hW
  rw [List.length_replicate] at h1 h2
  obtain ⟨ao, cap, rfl, _⟩ := h1.val
  refine ⟨ao, cap, vs, h1, hC, fun U B ao' cap' W2 o1 hB hstr hnew o2 hbl => ?_⟩
  obtain ⟨n1, n2⟩ := List.nodup_cons.1 hn
  have hlt1 := h1.lt
  have hltv : ∀ z ∈ vs.flatMap blk, z < wr.heap.size := by
    intro z hz
    obtain ⟨x, hx, hzx⟩ := List.mem_flatMap.1 hz
    obtain ⟨i, hi, he⟩ := List.getElem_of_mem hx
    obtain ⟨x', hx', hsx⟩ := h3 i [zA] (by rw [List.getElem?_replicate, if_pos (by omega)])
    rw [List.getElem?_eq_getElem hi, he] at hx'
    cases hx'
    exact Own.lt hsx z hzx
  have o3 : Off (blk (.slice ao k cap)) wr W2 := (o1.mono (by simp)).trans o2 (fun z hz => .inl hz)
  have hrb : r ∉ blk (.slice ao k cap) := fun hz => n1 (by simp [hz])
  have hCW := hC.off o3 hrb
  have hBb : ∀ z ∈ blk (.slice (some ⟨B, 0, none⟩) 1 1), z ∉ blk (.slice ao k cap) := fun z hz hz' => by
    simp [blk] at hz; subst hz; have := hlt1 _ hz'; omega
  have hBU : B < U.heap.size := hstr.lt B (by simp [blk])
  have hsz := o1.size
  have hFlt := hL.since.2
  have hnd := List.nodup_append.1 h4
  have hnewb : ∀ z ∈ blk (.slice ao' (k + 1) cap'), z ∈ blk (.slice ao k cap) ∨ z = U.heap.size := fun z hz => by
    rcases hbl with q | q
    · exact .inl (by rw [← q]; exact hz)
    · rw [q] at hz; exact .inr (List.mem_singleton.1 hz)
  have oS : Off [r] W2 (W2.setCell ⟨r, 4, none⟩ (.slice ao' (k + 1) cap')) := (Off.refl [r] W2).setCell (.inl (by simp)) _
  have oW : Off (r :: blk (.slice ao k cap)) wr (W2.setCell ⟨r, 4, none⟩ (.slice ao' (k + 1) cap')) := (o3.mono (fun z hz => .inl (by simp [hz]))).trans oS (fun z hz => .inl (by simp at hz; simp [hz]))
  have hrlt := hC.lt
  have hrn : r ∉ blk (.slice ao' (k + 1) cap') := fun hz => by
    rcases hnewb _ hz with q | q
    · exact hrb q
    · omega
  have hrv : r ∉ vs.flatMap blk := fun hz => n1 (by simp only [List.mem_append]; exact .inr hz)
  have hrB : r ≠ B := by omega
  have hND : (blk (.slice ao' (k + 1) cap') ++ (vs ++ [Value.slice (some ⟨B, 0, none⟩) 1 1]).flatMap blk).Nodup := by
    rw [List.flatMap_append]
    simp only [List.flatMap_cons, List.flatMap_nil, List.append_nil]
    have hb1 : (blk (.slice ao' (k + 1) cap')).Nodup := by cases ao' <;> simp [blk]
    refine List.nodup_append.2 ⟨hb1, List.nodup_append.2 ⟨hnd.2.1, by simp [blk], fun a ha b hb e => ?_⟩, fun a ha b hb e => ?_⟩
    · simp [blk] at hb; have := hltv a ha; omega
    · subst e
      rcases List.mem_append.1 hb with q | q
      · rcases hnewb _ ha with q2 | q2
        · exact hnd.2.2 a q2 a q rfl
        · have := hltv a q; omega
      · simp [blk] at q
        rcases hnewb _ ha with q2 | q2
        · have := hlt1 a q2; omega
        · omega
  refine ⟨hCW, F, .slice ao' (k + 1) cap', blk (.slice ao' (k + 1) cap') ++ (vs ++ [Value.slice (some ⟨B, 0, none⟩) 1 1]).flatMap blk, hL.write oW (fun z hz => hS z (by simp only [List.mem_cons, List.mem_append] at hz ⊢; rcases hz with q | q; exact .inl q; exact .inr (.inl q))), hCW.set 4 _, ⟨vs ++ [.slice (some ⟨B, 0, none⟩) 1 1], ?_, by simp [h2], fun i l hi => ?_, rfl, ?_⟩, ?_, fun z hz => ?_⟩
  · rw [List.length_replicate]
    exact hnew.off oS (fun z hz hz' => by simp at hz'; subst hz'; exact hrn hz)
  · rw [List.getElem?_replicate] at hi
    by_cases hik : i < k
    · rw [if_pos (by omega)] at hi
      cases hi
      obtain ⟨x, hx, hsx⟩ := h3 i [zA] (by rw [List.getElem?_replicate, if_pos hik])
      refine ⟨x, by rw [List.getElem?_append_left (by omega)]; exact hx, ?_⟩
      have hxm : x ∈ vs := List.mem_of_getElem? hx
      exact (Own.off hsx o3 (fun z hz hz' => hnd.2.2 z hz' z (List.mem_flatMap.2 ⟨x, hxm, hz⟩) rfl)).off oS (fun z hz hz' => by simp at hz'; subst hz'; exact hrv (List.mem_flatMap.2 ⟨x, hxm, hz⟩))
    · by_cases hik2 : i < k + 1
      · rw [if_pos hik2] at hi
        cases hi
        obtain rfl : i = k := by omega
        refine ⟨_, by rw [List.getElem?_append_right (by omega), h2, Nat.sub_self]; rfl, ?_⟩
        exact (Own.off hstr o2 hBb).off oS (fun z hz hz' => by simp [blk] at hz hz'; omega)
      · rw [if_neg hik2] at hi; cases hi
  · exact hND
  · refine List.nodup_cons.2 ⟨fun hz => ?_, ?_⟩
    · rw [List.flatMap_append] at hz
      simp only [List.flatMap_cons, List.flatMap_nil, List.append_nil, List.mem_append] at hz
      rcases hz with q | q | q
      · exact hrn q
      · exact hrv q
      · simp [blk] at q; exact hrB q
    · exact hND
  · rw [List.flatMap_append] at hz
    simp only [List.flatMap_cons, List.flatMap_nil, List.append_nil, List.mem_append, List.mem_cons] at hz
    have hbig : ∀ y, wr.heap.size ≤ y → w.heap.size ≤ y ∧ y ∉ F.d ++ F.l ++ F.p := fun y hy => ⟨Nat.le_trans hL.since.1.size hy, fun hy' => by have := (hFlt y hy').2; omega⟩
    rcases hz with q | q | q | q
    · exact hS z (by simp [q])
    · rcases hnewb _ q with q2 | q2
      · exact hS z (by simp [q2])
      · exact hbig z (by omega)
    · exact hS z (by simp only [List.mem_cons, List.mem_append]; exact .inr (.inr q))
    · simp [blk] at q; exact hbig z (by omega)
set_option maxRecDepth 100000 in
set_option maxHeartbeats 16000000 in
theorem began29 {w : World} {t : Nat → Nat} (ht : Tbl t w) (pgs frs st ch : Int) (tv kv : Value) (N : Nat) (hN : pgs.emod 5 + 1 = (N : Int)) :
    Calls Tryz.prog 29 #[planV pgs frs tv st ch kv] w (BeganPost w t N) := by
  have HT := Lib.hid ht
  obtain ⟨r1, hr1, hr1'⟩ : ∃ r : Nat, pgs.emod 5 = (r : Int) ∧ r < 5 := emod_natN pgs (N := 5) (by omega)
  obtain ⟨r3, hr3, hr3'⟩ : ∃ r : Nat, frs.emod 3 = (r : Int) ∧ r < 3 := emod_natN frs (N := 3) (by omega)
  obtain ⟨m, hm⟩ : ∃ m, m = 2 + r3 := ⟨_, rfl⟩
  obtain rfl : N = 1 + r1 := by omega
  obtain ⟨N, hN2⟩ : ∃ N, N = 1 + r1 := ⟨_, rfl⟩
  rw [← hN2]
  have HR1 : Hid (∀ W, Calls Tryz.prog 25 #[.int .i64 pgs, .int .i64 5] W fun e w' => e = .returned (.int .i64 (r1 : Int)) ∧ W = w') := Lib.hid (fun W => by rw [← hr1]; exact rest25 pgs 5 (by decide) (by decide) W)
  have HR3 : Hid (∀ W, Calls Tryz.prog 25 #[.int .i64 frs, .int .i64 3] W fun e w' => e = .returned (.int .i64 (r3 : Int)) ∧ W = w') := Lib.hid (fun W => by rw [← hr3]; exact rest25 frs 3 (by decide) (by decide) W)
  have HB : Hid (1 ≤ N ∧ N ≤ 5 ∧ 2 ≤ m ∧ m ≤ 4) := Lib.hid ⟨by omega, by omega, by omega, by omega⟩
  have HNEW : Hid (∀ W, Calls Tryz.prog 8 #[.agg #[.int .i64 (N : Int), .int .i64 1, .int .i64 65536]] W (NewPost (shN N) W)) := Lib.hid (fun W => new8 (shN N) (by unfold Shp.ok shN; simp only; omega) W)
  have HNP : Hid (∀ d g W, Calls Tryz.prog 12 #[.pointer (some ⟨d, 0, none⟩), .pointer (some ⟨g, 0, none⟩), .int .i64 (m : Int)] W (NewPool d g m W)) := Lib.hid (fun d g W => new12 d g m (by omega) (by omega) W)
  have hwp : wrap64 (1 + (r1 : Int)) = (N : Int) := by rw [wadd (by omega) (by unfold imax; omega)]; omega
  have hwm : wrap64 (2 + (r3 : Int)) = (m : Int) := by rw [wadd (by omega) (by unfold imax; omega)]; omega
  obtain ⟨P, hP⟩ : ∃ P, P = BeganPost w t N := ⟨_, rfl⟩
  rw [← hP]
  have HP := Lib.hid hP
  clear hP hr1 hr3 hr1' hr3' hm hN hN2 ht
  unfold planV
  go_enter Tryz.func29, Tryz.ntmps29
  go_wp2_with fail
  refine (HR1.out _).mono ?_
  rintro e w' ⟨rfl, rfl⟩
  go_wp2_with fail
  have hv : ∃ V, V = ((w.alloc (.cells #[.int .i64 pgs, .int .i64 frs, tv, .int .i64 st, .int .i64 ch, kv] 67)).alloc (.cells #[.pointer none, .pointer none, .pointer none, .int .i64 (N : Int), .slice none 0 0, .bool false] 73)) ∧ IsC V w.heap.size #[.int .i64 pgs, .int .i64 frs, tv, .int .i64 st, .int .i64 ch, kv] 67 ∧ IsC V (w.heap.size + 1) #[.pointer none, .pointer none, .pointer none, .int .i64 (N : Int), .slice none 0 0, .bool false] 73 ∧ Off [] w V ∧ w.heap.size + 2 ≤ V.heap.size := ⟨_, rfl, (IsC.new w _ _).off (S := []) ((Off.refl _ _).alloc _) (by simp), IsC.newAt _ (by simp), ((Off.refl [] w).alloc _).alloc _, by simp⟩
  obtain ⟨V, hv0, v1, v2, v3, v4⟩ := hv
  rw [← hv0]
  clear hv0
  have HV := Lib.hid (And.intro v1 (And.intro v2 (And.intro v3 v4)))
  clear v1 v2 v3 v4
  obtain ⟨pb, hpb⟩ : ∃ pb, pb = w.heap.size := ⟨_, rfl⟩
  rw [← hpb] at HV ⊢
  obtain ⟨r, hr⟩ : ∃ r, r = pb + 1 := ⟨_, rfl⟩
  rw [← hr] at HV ⊢
  have HPB : Hid (pb = w.heap.size ∧ r = pb + 1) := Lib.hid ⟨hpb, hr⟩
  clear hpb hr
  refine (HNEW.out V).mono ?_
  rintro e w1 ⟨d, D, rfl, hd1, ho1, hD1⟩
  have HD1 : Hid (DiskR w1 d (newDisk (shN N)) D ∧ Off [] V w1 ∧ (∀ z ∈ D, V.heap.size ≤ z) ∧ ∀ z ∈ D, z < w1.heap.size) := Lib.hid ⟨hd1, ho1, hD1, fun z hz => hd1.lt z hz⟩
  have HOP : Hid (Calls Tryz.prog 11 #[.pointer (some ⟨d, 0, none⟩), .int .i64 0] w1 (OpenPost d D (newDisk (shN N)) 0 w1)) := Lib.hid (open11_nil hd1 (by show 0 < _; decide) rfl rfl 0 (by omega))
  clear hd1 ho1 hD1 HNEW
  go_wp2_with (go_at_call 9; refine (num9 _ _).mono ?_; rintro e w' ⟨rfl, rfl⟩)
  refine HOP.out.mono ?_
  rintro e w2 ⟨g, L, rfl, hl2, hk2, hL2⟩
  have HL2 : Hid (LogR w2 g d (newLog 0) L ∧ DiskKeep d D (newDisk (shN N)).act w1 w2 ∧ (∀ z ∈ L, w1.heap.size ≤ z) ∧ ∀ z ∈ L, z < w2.heap.size) := Lib.hid ⟨hl2, hk2, hL2, fun z hz => hl2.lt z hz⟩
  clear hl2 hk2 hL2 HOP
  have HO2 : Hid (Off [] V w2) := Lib.hid (HD1.out.2.1.trans HL2.out.2.1.2 (fun z hz => .inr (HD1.out.2.2.1 z hz)))
  have b1 : w2.cell? ⟨pb, 1, none⟩ = some (.int .i64 frs) := by rw [(HV.out.1.off HO2.out (by simp)).cell]; rfl
  go_wp2_with (go_at_call 9; refine (num9 _ _).mono ?_; rintro e w' ⟨rfl, rfl⟩)
  refine (HR3.out _).mono ?_
  rintro e w' ⟨rfl, rfl⟩
  go_wp2_with fail
  (try rw [hwm])
  refine (HNP.out d g w2).mono ?_
  rintro e w3 ⟨p, Q, rfl, hp3, ho3, hQ3⟩
  have HW3 : Hid (LW w d g p t N (fun _ => zA) 1 (fun _ => 0) ⟨D, L, Q⟩ w3 ∧ IsC w3 r #[.pointer none, .pointer none, .pointer none, .int .i64 (N : Int), .slice none 0 0, .bool false] 73 ∧ r < w3.heap.size ∧ r ∉ D ++ L ++ Q) := Lib.hid (by
    have a0 := HV.out
    have a1 := HD1.out
    have a2 := HL2.out
    have ap := HPB.out
    have s0 := a0.2.2.1.size
    have s1 := a1.2.1.size
    have s2 := a2.2.1.2.size
    have s3 := ho3.size
    obtain ⟨x1, x2⟩ := Whole.start (w := V) (w1 := w1) (w2 := w2) (w3 := w3) a2.2.1.1 (fun z hz => ⟨a1.2.2.1 z hz, a1.2.2.2 z hz⟩) a2.1 (fun z hz => ⟨a2.2.2.1 z hz, a2.2.2.2 z hz⟩) s1 hp3 ho3 hQ3 s2
    refine ⟨LW.first (by have := HB.out; omega) HB.out.2.2.1 (by have := HB.out; omega) ⟨x1, fun z hz => Nat.le_trans s0 (x2 z hz), a0.2.2.1.trans (HO2.out.trans ho3 (by simp)) (by simp)⟩, (a0.2.1.off HO2.out (by simp)).off ho3 (by simp), by have := a0.2.2.2; omega, fun hz => by have := x2 _ hz; have := a0.2.2.2; omega⟩)
  have kc := HW3.out.2.1
  have k0 := kc.reads
  have k1 := kc.free
  clear hp3 ho3 hQ3 HD1 HL2 b1 HO2
  go_wp2_with (go_at_call 9; refine (num9 _ _).mono ?_; rintro e w' ⟨rfl, rfl⟩)
  have hx : ∃ X, X = ((w3.setCell ⟨r, 0, none⟩ (.pointer (some ⟨d, 0, none⟩))).setCell ⟨r, 1, none⟩ (.pointer (some ⟨g, 0, none⟩))).setCell ⟨r, 2, none⟩ (.pointer (some ⟨p, 0, none⟩)) ∧ BeginW w r d g p t N 0 X := ⟨_, rfl, by
    have hw := HW3.out
    have ho : Off [r] w3 (((w3.setCell ⟨r, 0, none⟩ (.pointer (some ⟨d, 0, none⟩))).setCell ⟨r, 1, none⟩ (.pointer (some ⟨g, 0, none⟩))).setCell ⟨r, 2, none⟩ (.pointer (some ⟨p, 0, none⟩))) := (((Off.refl [r] w3).setCell (.inl (by simp)) _).setCell (.inl (by simp)) _).setCell (.inl (by simp)) _
    have hwr : w.heap.size ≤ r := by have := HPB.out; omega
    refine ⟨_, .slice none 0 0, [], hw.1.write ho (fun z hz => by simp at hz; subst hz; exact ⟨hwr, hw.2.2.2⟩), ((hw.2.1.set 0 _).set 1 _).set 2 _, ⟨[], Own.nil _ _ _, rfl, fun i l hi => by simp at hi, by simp [blk], List.nodup_nil⟩, by simp, fun z hz => ?_⟩
    simp at hz; subst hz; exact ⟨hwr, hw.2.2.2⟩⟩
  obtain ⟨w4, hx0, hx1⟩ := hx
  rw [← hx0]
  have HX := Lib.hid hx1
  clear hx0 hx1 kc k0 k1 HW3
  go_loopw [10] (fun i wr => ∃ k : Nat, k ≤ N ∧ i = .int .i64 (k : Int) ∧ BeginW w r d g p t N k wr) (fun i _ => N - (intOf i).toNat)
  case atStart => exact ⟨0, by omega, rfl, HX.out⟩
  case round =>
    obtain ⟨k, hk, rfl, F, wv, fw, q1, q2, q3, q4, q5⟩ := hrel
    have HQ := Lib.hid (And.intro q1 (And.intro q2 (And.intro q3 (And.intro q4 q5))))
    have c3 := q2.cell 3
    unfold runC at c3
    simp only [List.getElem?_toArray, List.getElem?_cons_zero, List.getElem?_cons_succ] at c3
    have hN5 : N ≤ 5 := HB.out.2.1
    by_cases hkn : k < N
    · have hkn' : (k : Int) < (N : Int) := by omega
      obtain ⟨ao, cap, vs, o1, hC, hpush⟩ := (show BeginW w r d g p t N k wr from ⟨F, wv, fw, HQ.out⟩).push
      have HPU := Lib.hid hpush
      have HO := Lib.hid o1
      have HRL : Hid (r < wr.heap.size) := Lib.hid hC.lt
      unfold runC at hC
      have kr := hC.reads
      have kf := hC.free
      clear q1 q2 q3 q4 q5 HX o1 hpush c3
      have c3 := hC.cell 3
      simp only [List.getElem?_toArray, List.getElem?_cons_zero, List.getElem?_cons_succ] at c3
      go_wp2_with fail
      clear c3
      apply region_meetV (Φ := fun _ W => BeginW w r d g p t N (k + 1) W)
      case h =>
        have hmk : ∀ W, (Instr.makeSlice 22 (.int .i64 40) (.int .i64 40)).run Tryz.prog W = .ok (.slice (some ⟨W.heap.size, 0, none⟩) 40 40) (W.alloc (.cells (Array.replicate 40 (.int .u8 0)) 5)) := fun W => makeB 40 (by omega) W
        have hcv : ∀ W, IsC W wr.heap.size (Array.replicate 40 (.int .u8 0)) 5 → (convert 22 9 (.slice (some ⟨wr.heap.size, 0, none⟩) 40 40)).run Tryz.prog W = .ok (.string (strB zA)) W := fun W h => IsB.str (w := W) (v := .slice (some ⟨wr.heap.size, 0, none⟩) 40 40) (l := zA) ⟨by rw [zA_40, bytesV_len, zA_40], .inr ⟨wr.heap.size, 0, 40, _, by rw [zA_40], h, by rw [zA_40]; omega, by decide, by simp, by rw [zA_40]; unfold zA; rw [bytesV_zeros]; simp⟩⟩
        have HUO : Hid (Off [] wr (((wr.alloc (.cells (Array.replicate 40 (.int .u8 0)) 5)).alloc (.cells #[.string (strB zA)] 9)).alloc (.cells #[.slice (some ⟨wr.heap.size + 1, 0, none⟩) 1 1] 140)).drew) := Lib.hid (by exact ((((Off.refl [] wr).alloc _).alloc _).alloc _).drew)
        have HOWN : Hid (Own (((wr.alloc (.cells (Array.replicate 40 (.int .u8 0)) 5)).alloc (.cells #[.string (strB zA)] 9)).alloc (.cells #[.slice (some ⟨wr.heap.size + 1, 0, none⟩) 1 1] 140)).drew 140 1 (.slice ao k cap) k vs) := Lib.hid (HO.out.off HUO.out (by simp))
        have HSTR : Hid (Own (((wr.alloc (.cells (Array.replicate 40 (.int .u8 0)) 5)).alloc (.cells #[.string (strB zA)] 9)).alloc (.cells #[.slice (some ⟨wr.heap.size + 1, 0, none⟩) 1 1] 140)).drew 9 1 (.slice (some ⟨wr.heap.size + 1, 0, none⟩) 1 1) 1 [.string (strB zA)]) := Lib.hid (by
          have q := Own.new (wr.alloc (.cells (Array.replicate 40 (.int .u8 0)) 5)) 9 1 #[.string (strB zA)] 1 (by decide) rfl
          rw [show (wr.alloc (.cells (Array.replicate 40 (.int .u8 0)) 5)).heap.size = wr.heap.size + 1 from by simp] at q
          exact Own.off q (S := []) (((Off.refl _ _).alloc _).drew) (by simp))
        have HSRC : Hid (Src Tryz.prog 1 71 (.slice (some ⟨wr.heap.size + 1 + 1, 0, none⟩) 1 1) 1 [.slice (some ⟨wr.heap.size + 1, 0, none⟩) 1 1] (((wr.alloc (.cells (Array.replicate 40 (.int .u8 0)) 5)).alloc (.cells #[.string (strB zA)] 9)).alloc (.cells #[.slice (some ⟨wr.heap.size + 1, 0, none⟩) 1 1] 140)).drew) := Lib.hid (by
          have q := Own.new ((wr.alloc (.cells (Array.replicate 40 (.int .u8 0)) 5)).alloc (.cells #[.string (strB zA)] 9)) 140 1 #[.slice (some ⟨wr.heap.size + 1, 0, none⟩) 1 1] 1 (by decide) rfl
          rw [show ((wr.alloc (.cells (Array.replicate 40 (.int .u8 0)) 5)).alloc (.cells #[.string (strB zA)] 9)).heap.size = wr.heap.size + 1 + 1 from by simp] at q
          exact Own.src (Own.off q (S := []) ((Off.refl _ _).drew) (by simp)) Tryz.underlying71 (by simp [Value.oneCell']))
        have HBD : Hid ((k + 1) * 24 ≤ 140737488355328) := Lib.hid (by have := HB.out; omega)
        have hrl : r < wr.heap.size := HRL.out
        have hnew : IsC (wr.alloc (.cells (Array.replicate 40 (.int .u8 0)) 5)) wr.heap.size (Array.replicate 40 (.int .u8 0)) 5 := IsC.new _ _ _
        have hcva := hcv _ hnew
        have hcvb := hcv _ (hnew.off (S := []) ((Off.refl [] _).drew) (by simp))
        go_region_law (first | (go_must (refine step_app rfl _ _ 71 71 rfl rfl HOWN.out Tryz.underlying71 iinfo140 rfl (by decide) rfl HSRC.out HBD.out ?_; intro ao' cap' W2 q1 q2 q3; obtain ⟨z1, z2⟩ := HPU.out _ (wr.heap.size + 1) ao' cap' W2 HUO.out (Nat.le_succ _) HSTR.out q1 q2 q3; unfold runC at z1; have z3 := z1.reads; have z4 := z1.free; have Z2 := Lib.hid z2; clear q1 q2 q3 z2)) | fail)
        all_goals
          have hz := Z2.out
          revert hz
          generalize W2.setCell ⟨r, 4, none⟩ (.slice ao' (k + 1) cap') = U
          generalize (Value.slice ao' (k + 1) cap') = v
          intro hz
          exact ⟨v, rfl, hz⟩
      case k =>
        intro v w5 h5
        have H5 := Lib.hid h5
        clear h5
        go_wp2_with fail
        go_roundw
        case rel => exact ⟨k + 1, by omega, by go_num, H5.out⟩
        case measure => simp [intOf]; omega
    · have hkn' : ¬ ((k : Int) < (N : Int)) := by omega
      obtain rfl : k = N := by omega
      have HF : Hid (P (.returned (.pointer (some ⟨r, 0, none⟩))) wr) := Lib.hid (by
        rw [HP.out]
        have hq := HQ.out
        refine ⟨r, d, g, p, F, r :: fw, rfl, hq.1, ⟨wv, fw, hq.2.1, hq.2.2.1, rfl, hq.2.2.2.1, by simp⟩, hq.2.2.2.2, fun n hn => ⟨[], by simp [hn], by simp⟩⟩)
      clear HQ hk hkn q1 q2 q3 q4 q5
      go_wp2_with fail
      first | exact HF.out | (go_ret; exact HF.out)
end Go.Proofs.YtfdgiblkllfpjaaGreatDoor

/- PoolLasts: nothing is dirty; what a crash leaves of a run whose pages are all clean. -/
set_option linter.unusedVariables false
set_option linter.unusedSimpArgs false
namespace Go.Proofs.YtfdgiblkllfpjaaGreatDoor
open Go.ChangeShapes Go.WideShapes Go.ChangeAt Go.RowKit

theorem pick_none {pm : PoolM} (h : ∀ f ∈ pm.held, f.rc = 0) : pm.pick dirty = [] := by
  have : pm.held.filter dirty = [] := List.filter_eq_nil_iff.2 (fun f hf => by unfold dirty; rw [h f hf]; decide)
  refine List.eq_nil_of_length_eq_zero ?_
  unfold PoolM.pick
  rw [srtI_len, this]; rfl
set_option maxRecDepth 100000 in
set_option maxHeartbeats 4000000 in
theorem dirty32_none {w : World} {p d g : Nat} {pm : PoolM} {pf : List Nat} (h : PoolR w p d g pm pf) (hq : pm.held.length ≤ 16) (hz : ∀ f ∈ pm.held, f.rc = 0) :
    Calls Tryz.prog 32 #[.pointer (some ⟨p, 0, none⟩)] w fun e w' => e = .returned (.slice none 0 0) ∧ Off [] w w' := by
  obtain ⟨mb, es, clk, qs, hp, hpf⟩ := h
  have HG := Lib.hid (gathered61 hp (by have := hp.len; have := hp.most; omega) 76 ent76 dirty (fun W' q _ hq => dirty76 W' q hq))
  rw [pick_none hz] at HG
  clear hp hpf hz
  obtain ⟨P, hP⟩ : ∃ P : Ending → World → Prop, P = fun e w' => e = .returned (.slice none 0 0) ∧ Off [] w w' := ⟨_, rfl⟩
  rw [← hP]
  have HF : Hid (∀ W, Off [] w W → P (.returned (.slice none 0 0)) W) := Lib.hid (fun W ho => by rw [hP]; exact ⟨rfl, ho⟩)
  clear hP
  go_enter Tryz.func32, Tryz.ntmps32
  go_wp2_with fail
  refine HG.out.mono ?_
  rintro e w1 ⟨ao, cap, rfl, q1, q2, q3⟩
  have HQ := Lib.hid q2
  clear q1 q2 q3 HG
  rw [show ([] : List Int).length = 0 from rfl]
  go_wp2_with fail
  go_loopw [3, 9] (fun o i wr => o = .slice none 0 0 ∧ i = .int .i64 0 ∧ w1 = wr) (fun _ _ _ => 0)
  case atStart => exact ⟨rfl, rfl, rfl⟩
  case round =>
    obtain ⟨rfl, rfl, rfl⟩ := hrel
    have HF1 := Lib.hid (HF.out w1 HQ.out)
    go_wp2_with fail
    first | exact HF1.out | (go_ret; exact HF1.out)
section
variable {t : Nat → Nat} {N : Nat} {cur : Nat → List UInt8} {ids1 ids2 : List Nat} {K : Nat} {c : Nat → Nat} {dm : DiskM} {lm : LogM} {pm : PoolM}
theorem LastI.atRest (h : LastI t N cur ids1 ids2 K c dm lm pm) (hz : ∀ f ∈ pm.held, f.rc = 0) : ∀ n, n < N → dm.lasts[n]? = some (cur n) := fun n hn => by
  cases hf : pm.find n with
  | none => exact (h.out n hn hf).2.1
  | some f =>
    obtain ⟨f1, f2⟩ := pfind_some hf
    obtain ⟨e1, e2, e3, e4, e5⟩ := h.fr f f1
    rw [← f2]
    exact (e4 (hz f f1)).2
theorem LastI.logLen (h : LastI t N cur ids1 ids2 K c dm lm pm) : dm.log.length = 34 * ids1.length ∧ 34 * ids1.length ≤ 65536 := by
  have h1 := h.desk.2.2.2.2.1
  rw [h.disk] at h1
  have h2 := h.fin.2
  rw [h.bytes] at h2
  exact ⟨h1, by omega⟩
theorem LastI.leftFit (h : LastI t N cur ids1 ids2 K c dm lm pm) : dm.left.fit := ⟨h.desk.1.1, h.desk.1.1, fun x hx => by cases hx⟩
/-- What is left, with its log opened and a new pool. -/
theorem LastI.left (h : LastI t N cur ids1 ids2 K c dm lm pm) (hz : ∀ f ∈ pm.held, f.rc = 0) {m : Nat} (h1 : 2 ≤ m) (h2 : m ≤ 14) :
    LastI t N cur ids1 [] 500000000000000000 (fun _ => 0) dm.left.act (openLog 0 (itemsB (0 + 1) ids1) (34 * ids1.length)) ⟨m, [], false⟩ := by
  have hl : dm.left.live := ⟨rfl, rfl⟩
  obtain ⟨e1, e2, e3, e4, e5, e6, e7⟩ := dm.left.act_fields
  have hll := h.logLen
  have hr : ∀ n, n < N → dm.left.act.reads[n]? = some (cur n) ∧ dm.left.act.lasts[n]? = some (cur n) := fun n hn => by
    rw [e2, e3]; exact ⟨h.atRest hz n hn, h.atRest hz n hn⟩
  exact {
    live := hl.act.1
    desk := ⟨DiskM.act_fit h.leftFit, (fun x hx => by rw [e4] at hx; cases hx), by rw [hl.act.2]; show 0 + 1 ≤ _; omega, by rw [e4]; exact Nat.zero_le _, by rw [e5]; exact hll.1, by rw [e1]; show 34 * ids1.length ≤ dm.shp.log; rw [h.shp]; exact hll.2, rfl⟩
    loose := e4
    lasted := by rw [e6, e5]; rfl
    shp := e1.trans h.shp
    log := e5.trans h.log
    tail := rfl
    base := rfl
    disk := rfl
    bytes := by show 34 * ids1.length = 34 * (ids1.length + 0); omega
    ents := by show ((itemsB (0 + 1) ids1).map _).length = ids1.length + 0; rw [List.length_map, itemsB_len]; rfl
    ids := fun x hx => h.ids x (by rw [List.append_nil] at hx; exact List.mem_append_left _ hx)
    pages := h.pages
    most := ⟨h1, h2⟩
    dead := rfl
    len := Nat.zero_le _
    nod := List.nodup_nil
    fr := fun f hf => by cases hf
    out := fun n hn _ => ⟨(hr n hn).1, (hr n hn).2, rfl⟩
    page := fun n hn => by
      obtain ⟨p1, x, p2, p3, p4, p5⟩ := h.page n hn
      exact ⟨p1, x, p2, p3, p4, .inr (Nat.le_refl _)⟩ }
end
section
variable {t : Nat → Nat} {w0 w w' : World} {d g p N : Nat} {cur : Nat → List UInt8} {K : Nat} {c : Nat → Nat} {F : Fp3}
theorem LWC.quiet (h : LWC w0 d g p t N cur K c F w) (ho : Off [] w w') : LWC w0 d g p t N cur K c F w' := by
  obtain ⟨dm, lm, pm, i1, i2, h1, h2, h3⟩ := h
  exact ⟨dm, lm, pm, i1, i2, h1.quiet ho, h2, h3⟩
theorem LWC.dirty (h : LWC w0 d g p t N cur K c F w) :
    Calls Tryz.prog 32 #[.pointer (some ⟨p, 0, none⟩)] w fun e w' => e = .returned (.slice none 0 0) ∧ Off [] w w' := by
  obtain ⟨dm, lm, pm, i1, i2, hs, hI, hz⟩ := h
  exact dirty32_none hs.1.2.1 (by have := hI.len; have := hI.most; omega) hz
theorem LWC.lasts (h : LWC w0 d g p t N cur K c F w) : ∃ gs l, gs.length = N + 3 ∧ (∀ n, n < N → gs[n]? = some (cur n)) ∧
    Calls Tryz.prog 33 #[.pointer (some ⟨d, 0, none⟩)] w (ImagePost gs N l w) := by
  obtain ⟨dm, lm, pm, i1, i2, hs, hI, hz⟩ := h
  have hll := hI.logLen
  have q := lasts33 hs.1.1.1 hI.desk.1 (by rw [hI.lasted]; exact Nat.le_refl _) (by omega)
  rw [hI.shp] at q
  have hk := hs.1.1.1.ok.2.1
  rw [hI.shp] at hk
  exact ⟨dm.lasts, _, hk, hI.atRest hz, q⟩
/-- A disk that a crash left. -/
def LeftD (w0 : World) (d : Nat) (t : Nat → Nat) (N : Nat) (cur : Nat → List UInt8) (B : Nat) (w : World) : Prop :=
  ∃ i1 i2 K c dm lm pm fp, LastI t N cur i1 i2 K c dm lm pm ∧ (∀ f ∈ pm.held, f.rc = 0) ∧ DiskR w d dm.left fp ∧ (∀ z ∈ fp, B ≤ z) ∧ Off [] w0 w ∧ w0.heap.size ≤ B ∧ B ≤ w.heap.size
theorem LWC.crash (h : LWC w0 d g p t N cur K c F w) (ch : Int) (ko : Option Addr) (kn kc : Nat) :
    Calls Tryz.prog 35 #[.pointer (some ⟨d, 0, none⟩), .agg #[.int .i64 ch, .slice ko kn kc]] w fun e w' => ∃ d', e = .returned (.pointer (some ⟨d', 0, none⟩)) ∧ LeftD w0 d' t N cur w.heap.size w' ∧ Off [] w w' := by
  obtain ⟨dm, lm, pm, i1, i2, hs, hI, hz⟩ := h
  have hll := hI.logLen
  refine (crash35 hs.1.1.1 hI.desk.1 hI.loose hI.lasted (by omega) ch ko kn kc).mono ?_
  rintro e w' ⟨d', fp', rfl, h1, h2, h3⟩
  exact ⟨d', rfl, ⟨i1, i2, K, c, dm, lm, pm, fp', hI, hz, h1, h3, hs.2.2.trans h2 (by simp), hs.2.2.size, h2.size⟩, h2⟩
/-- Its log opened. -/
def LeftL (w0 : World) (d g : Nat) (t : Nat → Nat) (N : Nat) (cur : Nat → List UInt8) (B : Nat) (w : World) : Prop :=
  ∃ i1 i2 K c dm lm pm fp fl, LastI t N cur i1 i2 K c dm lm pm ∧ (∀ f ∈ pm.held, f.rc = 0) ∧ DiskR w d dm.left.act fp ∧ LogR w g d (openLog 0 (itemsB (0 + 1) i1) (34 * i1.length)) fl ∧ (∀ z ∈ fp, B ≤ z ∧ z ∉ fl) ∧ (∀ z ∈ fl, B ≤ z) ∧ Off [] w0 w ∧ w0.heap.size ≤ B ∧ B ≤ w.heap.size
theorem LeftD.quiet {B : Nat} (h : LeftD w0 d t N cur B w) (ho : Off [] w w') : LeftD w0 d t N cur B w' := by
  obtain ⟨i1, i2, K, c, dm, lm, pm, fp, h1, h2, h3, h4, h5, h6, h7⟩ := h
  exact ⟨i1, i2, K, c, dm, lm, pm, fp, h1, h2, h3.off ho (by simp), h4, h5.trans ho (by simp), h6, Nat.le_trans h7 ho.size⟩
theorem LeftD.open {B : Nat} (ht : Tbl t w0) (h : LeftD w0 d t N cur B w) :
    Calls Tryz.prog 11 #[.pointer (some ⟨d, 0, none⟩), .int .i64 0] w fun e w' => ∃ g fp, e = .returned (.tuple #[.pointer (some ⟨g, 0, none⟩), .int .i64 0]) ∧ LeftL w0 d g t N cur B w' ∧ Off fp w w' ∧ ∀ z ∈ fp, B ≤ z := by
  obtain ⟨i1, i2, K, c, dm, lm, pm, fp, h1, h2, h3, h4, h5, h6, h7⟩ := h
  have hll := h1.logLen
  have h0 : 0 ∉ fp := fun hz => by have := h4 0 hz; have := ht.1; omega
  have q := open11_begins (ht.off h5 (by simp)) h3 h0 (by show 0 < _; omega) rfl 0 (by omega) i1 (by show dm.log = _; exact h1.log) (fun x hx => h1.ids x (List.mem_append_left _ hx)) hll.2 (by show dm.log.length ≤ dm.shp.log; rw [h1.shp, hll.1]; exact hll.2)
  refine q.mono ?_
  rintro e w' ⟨g, fl, rfl, q1, q2, q3⟩
  have hlt := h3.lt
  exact ⟨g, fp, rfl, ⟨i1, i2, K, c, dm, lm, pm, fp, fl, h1, h2, q2.1, q1, fun z hz => ⟨h4 z hz, fun hz' => by have := q3 z hz'; have := hlt z hz; omega⟩, fun z hz => Nat.le_trans h7 (q3 z hz), h5.trans q2.2 (fun z hz => .inr (Nat.le_trans h6 (h4 z hz))), h6, Nat.le_trans h7 q2.2.size⟩, q2.2, h4⟩
theorem LeftL.pool {B : Nat} (h : LeftL w0 d g t N cur B w) :
    Calls Tryz.prog 12 #[.pointer (some ⟨d, 0, none⟩), .pointer (some ⟨g, 0, none⟩), .int .i64 2] w fun e w' => ∃ p F, e = .returned (.tuple #[.pointer (some ⟨p, 0, none⟩), .int .i64 0]) ∧ LW w0 d g p t N cur 500000000000000000 (fun _ => 0) F w' ∧ (∀ z ∈ F.d ++ F.l ++ F.p, B ≤ z) ∧ Off [] w w' := by
  obtain ⟨i1, i2, K, c, dm, lm, pm, fp, fl, h1, h2, h3, h4, h5, h6, h7, h8, h9⟩ := h
  refine (new12 d g 2 (by omega) (by omega) w).mono ?_
  rintro e w' ⟨p, pf, rfl, q1, q2, q3⟩
  have l1 := h3.lt
  have l2 := h4.lt
  have hB : ∀ z ∈ fp ++ fl ++ pf, B ≤ z := fun z hz => by
    simp only [List.mem_append] at hz
    rcases hz with (q | q) | q
    · exact (h5 z q).1
    · exact h6 z q
    · exact Nat.le_trans h9 (q3 z q)
  refine ⟨p, ⟨fp, fl, pf⟩, rfl, ⟨_, _, _, i1, [], ⟨⟨⟨h3.off q2 (by simp), h4.off q2 (by simp), fun z hz => (h5 z hz).2⟩, q1, fun z hz => ⟨fun hz' => ?_, fun hz' => ?_⟩⟩, fun z hz => Nat.le_trans h8 (hB z hz), h7.trans q2 (by simp)⟩, h1.left h2 (by omega) (by omega)⟩, hB, q2⟩
  · have := q3 z hz; have := l1 z hz'; omega
  · have := q3 z hz; have := l2 z hz'; omega
end
end Go.Proofs.YtfdgiblkllfpjaaGreatDoor

/- PoolLasts: the walk. -/
set_option linter.unusedVariables false
set_option linter.unusedSimpArgs false
namespace Go.Proofs.YtfdgiblkllfpjaaGreatDoor
open Go.ChangeShapes Go.WideShapes Go.ChangeAt Go.RowKit

theorem TurnsAt.off {w w' : World} {v : Value} {l : List Tn} (h : TurnsAt w v l) (ho : Off [] w w') : TurnsAt w' v l := by
  obtain ⟨ao, cap, rfl, h2⟩ := h
  refine ⟨ao, cap, rfl, fun i x hi => ?_⟩
  obtain ⟨⟨b, off, e, hb, hc⟩, h5, h6⟩ := h2 i x hi
  refine ⟨⟨b, off, e, Nat.lt_of_lt_of_le hb ho.size, fun j hj => ?_⟩, h5.off ho, h6⟩
  rw [World.cell?_of_block (a := ⟨b, off + (i * 4 + j), none⟩) (ho.old b hb (by simp))]; exact hc j hj
/-- The pages of an image, one by one. -/
theorem PagesIs.item {W : World} {pv : Value} {gs : List (List UInt8)} (h : PagesIs W pv gs) {k : Nat} {l : List UInt8} (hk : gs[k]? = some l) :
    ∃ (pb poff pc : Nat) (x : Value), pv = .slice (some ⟨pb, poff, none⟩) gs.length pc ∧ W.cell? ⟨pb, poff + k, none⟩ = some x ∧ IsB W x l := by
  obtain ⟨vs, hown, hit⟩ := h
  obtain ⟨x, hx1, hx2⟩ := hit.2 k l hk
  have hkl := (List.getElem?_eq_some_iff.1 hk).1
  rcases hown.2 with ⟨e, h0⟩ | ⟨pb, poff, c, cu, e, _⟩
  · omega
  · refine ⟨pb, poff, c, x, e, ?_, hx2⟩
    rw [e] at hown
    rw [Own.cellAt hown k (by omega)]; exact hx1
/-- A run, beside what a crash left of its disk. -/
def BesideW (w0 : World) (d' g' p' r d g p : Nat) (t : Nat → Nat) (N : Nat) (cur : Nat → List UInt8) (K M : Nat) (was : List (List (List UInt8))) (rf : List Nat) (w : World) : Prop :=
  ∃ F, LW w0 d' g' p' t N cur K (fun _ => 0) F w ∧ RunR w r d g p N was false rf ∧ (∀ z ∈ rf, w0.heap.size ≤ z ∧ z ∉ F.d ++ F.l ++ F.p) ∧ Cur N cur M was
theorem RunR.lastAt {w : World} {r d g p N M : Nat} {cur : Nat → List UInt8} {was : List (List (List UInt8))} {rf : List Nat} (h : RunR w r d g p N was false rf) (hC : Cur N cur M was) (hM : M < 4000000000000) {a : Nat} (ha : a < N) :
    Calls Tryz.prog 34 #[.pointer (some ⟨r, 0, none⟩), .int .i64 (a : Nat)] w fun e w' => e = .returned (.string (strB (cur a))) ∧ Off [] w w' := by
  obtain ⟨l, h1, h2⟩ := hC a ha
  exact last34 h h1 (by omega)
theorem BesideW.quiet {w0 w w' : World} {d' g' p' r d g p N K M : Nat} {t : Nat → Nat} {cur : Nat → List UInt8} {was : List (List (List UInt8))} {rf : List Nat} (h : BesideW w0 d' g' p' r d g p t N cur K M was rf w) (ho : Off [] w w') : BesideW w0 d' g' p' r d g p t N cur K M was rf w' := by
  obtain ⟨F, h1, h2, h3, h4⟩ := h
  exact ⟨F, h1.quiet ho, h2.off ho (by simp), h3, h4⟩
/-- A page of a pool beside a run is pinned. -/
def BPost (w0 : World) (d' g' p' r d g p : Nat) (t : Nat → Nat) (N : Nat) (cur : Nat → List UInt8) (K M : Nat) (was : List (List (List UInt8))) (rf : List Nat) (a : Nat) (w : World) : Prop :=
  ∃ F, LW w0 d' g' p' t N cur K (bump (fun _ => 0) a) F w ∧ RunR w r d g p N was false rf ∧ (∀ z ∈ rf, w0.heap.size ≤ z ∧ z ∉ F.d ++ F.l ++ F.p) ∧ Cur N cur M was
theorem BPost.quiet {w0 w w' : World} {d' g' p' r d g p N K M a : Nat} {t : Nat → Nat} {cur : Nat → List UInt8} {was : List (List (List UInt8))} {rf : List Nat} (h : BPost w0 d' g' p' r d g p t N cur K M was rf a w) (ho : Off [] w w') : BPost w0 d' g' p' r d g p t N cur K M was rf a w' := by
  obtain ⟨F, h1, h2, h3, h4⟩ := h
  exact ⟨F, h1.quiet ho, h2.off ho (by simp), h3, h4⟩
theorem BesideW.pin {w0 w : World} {d' g' p' r d g p N K M : Nat} {t : Nat → Nat} {cur : Nat → List UInt8} {was : List (List (List UInt8))} {rf : List Nat} (ht : Tbl t w0) (h : BesideW w0 d' g' p' r d g p t N cur K M was rf w) (hK : K < 1000000000000000000) {a : Nat} (ha : a < N) :
    Calls Tryz.prog 16 #[.pointer (some ⟨p', 0, none⟩), .int .i64 (a : Int), .int .i64 0] w fun e w' => ∃ ao cap, e = .returned (.tuple #[.slice ao 40 cap, .int .i64 0]) ∧ IsB w' (.slice ao 40 cap) (cur a) ∧ BPost w0 d' g' p' r d g p t N cur (K + 7) M was rf a w' := by
  obtain ⟨F, h1, h2, h3, h4⟩ := h
  refine (h1.pin ht (fun _ _ => rfl) hK a ha 0).mono ?_
  rintro e w' ⟨F', ao, cap, rfl, hL, hA, hB, hF⟩
  have hlt := h2.lt
  exact ⟨ao, cap, rfl, hB, F', hL, h2.off hA.1 (fun z hz => (h3 z hz).2), fun z hz => ⟨(h3 z hz).1, hA.beside (S := rf) (fun z hz => ⟨hlt z hz, (h3 z hz).2⟩) z hz⟩, h4⟩
theorem BPost.unpin {w0 w : World} {d' g' p' r d g p N K M a : Nat} {t : Nat → Nat} {cur : Nat → List UInt8} {was : List (List (List UInt8))} {rf : List Nat} (h : BPost w0 d' g' p' r d g p t N cur K M was rf a w) (ha : a < N) :
    Calls Tryz.prog 27 #[.pointer (some ⟨p', 0, none⟩), .int .i64 (a : Int)] w fun e w' => e = .returned (.tuple #[]) ∧ BesideW w0 d' g' p' r d g p t N cur K M was rf w' := by
  obtain ⟨F, h1, h2, h3, h4⟩ := h
  refine (h1.unpin a ha (by unfold bump; rw [if_pos rfl]; omega)).mono ?_
  rintro e w' ⟨rfl, F', hL, hA⟩
  have hlt := h2.lt
  exact ⟨rfl, F', hL.mono (Nat.le_refl _) (fun n _ => by unfold drop1 bump; split <;> rfl), h2.off hA.1 (fun z hz => (h3 z hz).2), fun z hz => ⟨(h3 z hz).1, hA.beside (S := rf) (fun z hz => ⟨hlt z hz, (h3 z hz).2⟩) z hz⟩, h4⟩
theorem BesideW.since {w0 w : World} {d' g' p' r d g p N K M : Nat} {t : Nat → Nat} {cur : Nat → List UInt8} {was : List (List (List UInt8))} {rf : List Nat} (h : BesideW w0 d' g' p' r d g p t N cur K M was rf w) : Off [] w0 w ∧ w.cell? ⟨r, 3, none⟩ = some (.int .i64 (N : Nat)) := by
  obtain ⟨F, h1, h2, h3, h4⟩ := h
  exact ⟨h1.since.1, h2.cells0.2.2.2.1⟩
set_option maxRecDepth 100000 in
set_option maxHeartbeats 16000000 in
theorem lasts_walk {t : Nat → Nat} {w : World} (ht : Tbl t w) (pgs frs st ch : Int) {tv : Value} {l : List Tn} (hl : TurnsAt w tv l) (hll : l.length ≤ 2940000000000) (ko : Option Addr) (kn kc : Nat) :
    Calls Tryz.prog 5 #[planV pgs frs tv st ch (.slice ko kn kc)] w fun e w' => e = .returned (.bool true) ∧ Off [] w w' := by
  obtain ⟨r1, hr1, hr1'⟩ : ∃ r : Nat, pgs.emod 5 = (r : Int) ∧ r < 5 := emod_natN pgs (N := 5) (by omega)
  obtain ⟨N, hN⟩ : ∃ N, N = r1 + 1 := ⟨_, rfl⟩
  have HB : Hid (1 ≤ N ∧ N ≤ 5 ∧ l.length ≤ 2940000000000) := Lib.hid ⟨by omega, by omega, hll⟩
  have HBG : Hid (∀ W, Off [] w W → Calls Tryz.prog 29 #[planV pgs frs tv st ch (.slice ko kn kc)] W (BeganPost W t N)) := Lib.hid (fun W ho => began29 (ht.off ho (by simp)) pgs frs st ch tv _ N (by rw [hr1, hN]; rfl))
  have HT := Lib.hid ht
  have HL := Lib.hid hl
  obtain ⟨ao, cap, rfl⟩ := hl.val
  obtain ⟨P, hP⟩ : ∃ P : Ending → World → Prop, P = fun e w' => e = .returned (.bool true) ∧ Off [] w w' := ⟨_, rfl⟩
  rw [← hP]
  have HP := Lib.hid hP
  clear hP hr1 hr1' hN ht hl hll
  generalize hn : l.length = n at *
  have HN := Lib.hid hn
  clear hn
  unfold planV at HBG ⊢
  go_enter Tryz.func5, Tryz.ntmps5
  go_upto_region 1 with fail
  have hv : ∃ V, V = w.alloc (.cells #[.int .i64 pgs, .int .i64 frs, .slice ao n cap, .int .i64 st, .int .i64 ch, .slice ko kn kc] 67) ∧ IsC V w.heap.size #[.int .i64 pgs, .int .i64 frs, .slice ao n cap, .int .i64 st, .int .i64 ch, .slice ko kn kc] 67 ∧ Off [] w V := ⟨_, rfl, IsC.new _ _ _, (Off.refl [] w).alloc _⟩
  obtain ⟨V, hv0, v1, v2⟩ := hv
  rw [← hv0]
  have hvs : w.heap.size < V.heap.size := by rw [hv0]; simp
  clear hv0
  obtain ⟨pb, hpb⟩ : ∃ pb, pb = w.heap.size := ⟨_, rfl⟩
  rw [← hpb] at v1 hvs ⊢
  clear hpb
  have HV := Lib.hid (And.intro v1 (And.intro v2 hvs))
  have b0 := v1.cell 0
  have b1 := v1.cell 1
  have b2 := v1.cell 2
  have b3 := v1.cell 3
  have b4 := v1.cell 4
  have b5 := v1.cell 5
  simp only [List.getElem?_toArray, List.getElem?_cons_zero, List.getElem?_cons_succ] at b0 b1 b2 b3 b4 b5
  clear v1 v2 hvs
  go_wp2_with fail
  refine (HBG.out V HV.out.2.1).mono ?_
  rintro e w1 ⟨r, d, g, p, F, rf, rfl, h1⟩
  have HR1 := Lib.hid h1
  clear h1 b0 b1 b2 b3 b4 b5 HBG
  have HTV : Hid (Tbl t V ∧ TurnsAt V (.slice ao n cap) l) := Lib.hid ⟨HT.out.off HV.out.2.1 (by simp), HL.out.off HV.out.2.1⟩
  have HAL : Hid (∀ W, Off [] V W → Calls Tryz.prog 10 #[] W fun e w' => e = .returned (.bool true) ∧ Off [] W w') := Lib.hid (fun W ho => alive10 (HTV.out.1.off ho (by simp)))
  have HDN : Hid (∀ W, Off [] w1 W → Calls Tryz.prog 30 #[.pointer (some ⟨r, 0, none⟩), .slice ao n cap] W (DonePost V r d g p t N (1 + 100 * l.length) (0 + l.length))) := Lib.hid (fun W ho => done30 HTV.out.1 (HR1.out.quiet ho) (by omega) (by omega) ⟨HB.out.1, by have := HB.out; omega⟩ HTV.out.2 (by rw [HN.out]; exact HB.out.2.2))
  go_wp2_with fail
  refine (HAL.out w1 HR1.out.off0).mono ?_
  rintro e w2 ⟨rfl, o2⟩
  have HO2 := Lib.hid o2
  have b2 : w2.cell? ⟨pb, 2, none⟩ = some (.slice ao n cap) := by rw [(HV.out.1.off (HR1.out.off0.trans o2 (by simp)) (by simp)).cell]; rfl
  clear o2 HAL
  go_wp2_with fail
  refine (HDN.out w2 HO2.out).mono ?_
  rintro e w3 ⟨rfl, cur, was, F3, rf3, h3⟩
  have HR3 := Lib.hid h3
  obtain ⟨f0, f1, f2, f3, f5⟩ := h3.cells
  clear h3 b2 HDN HR1 HO2
  have HCA : Hid (Calls Tryz.prog 31 #[.pointer (some ⟨p, 0, none⟩)] w3 (fun e w' => e = .returned (.int .i64 0) ∧ ∃ F', LWC V d g p t N cur ((1 + 100 * l.length) + 84) (fun _ => 0) F' w' ∧ Acc3 F3 w3 F' w')) := Lib.hid (HR3.out.1.cleanAll HTV.out.1 (by have := HB.out; have := HN.out; omega))
  go_wp2_with fail
  refine HCA.out.mono ?_
  rintro e w4 ⟨rfl, F4, h4, a4⟩
  have HC4 := Lib.hid h4
  have HW4 := Lib.hid (HR3.out.step h4.lw a4)
  clear h4 a4 HCA f0 f1 f2 f3 f5
  obtain ⟨f0, f1, f2, f3, f5⟩ := HW4.out.cells
  go_wp2_with (go_at_call 9; refine (num9 _ _).mono ?_; rintro e w' ⟨rfl, rfl⟩)
  refine (HC4.out.dirty).mono ?_
  rintro e w5 ⟨rfl, o5⟩
  have HC5 := Lib.hid (HC4.out.quiet o5)
  have HW5 := Lib.hid (HW4.out.quiet o5)
  obtain ⟨gs, ll, hg1, hg2, hg3⟩ := HC5.out.lasts
  have HLA := Lib.hid hg3
  have HGS := Lib.hid (And.intro hg1 hg2)
  clear o5 HC4 HW4 hg1 hg2 hg3 f0 f1 f2 f3 f5
  obtain ⟨f0, f1, f2, f3, f5⟩ := HW5.out.cells
  go_wp2_with fail
  refine HLA.out.mono ?_
  rintro e w6 ⟨pv, xv, lv, m0, m1, rfl, hlive, ho6, ⟨pa, pn, pc, rfl⟩, ⟨xa, xn, xc, rfl⟩, ⟨la, ln, lc, rfl⟩, ⟨ma, mn, mc, rfl⟩, ⟨na, nn, nc, rfl⟩⟩
  have HPG := Lib.hid hlive.now.1
  have HC6 := Lib.hid (HC5.out.quiet ho6)
  have HW6 := Lib.hid (HW5.out.quiet ho6)
  clear hlive ho6 HLA HC5 HW5 f0 f1 f2 f3 f5
  go_wp2_with fail
  have hv7 : ∃ W, W = w6.alloc (.cells #[.slice pa pn pc, .slice xa xn xc, .slice la ln lc, .slice ma mn mc, .slice na nn nc] 78) ∧ IsC W w6.heap.size #[.slice pa pn pc, .slice xa xn xc, .slice la ln lc, .slice ma mn mc, .slice na nn nc] 78 ∧ Off [] w6 W := ⟨_, rfl, IsC.new _ _ _, (Off.refl [] w6).alloc _⟩
  obtain ⟨W7, hv0, v1, v2⟩ := hv7
  rw [← hv0]
  obtain ⟨mb, hmb⟩ : ∃ mb, mb = w6.heap.size := ⟨_, rfl⟩
  rw [← hmb] at v1 ⊢
  clear hv0 hmb
  have HV7 := Lib.hid (And.intro v1 v2)
  clear v1 v2
  have HPG7 : Hid (∀ W, Off [] W7 W → ∀ k, k < N → ∃ (qb qoff qc : Nat) (x : Value), Value.slice pa pn pc = .slice (some ⟨qb, qoff, none⟩) N qc ∧ W.cell? ⟨qb, qoff + k, none⟩ = some x ∧ IsB W x (cur k)) := Lib.hid (fun W ho k hk => by
    have q := (HPG.out.off (HV7.out.2.trans ho (by simp))).item (k := k) (l := cur k) (by rw [List.getElem?_take, if_pos hk]; exact HGS.out.2 k hk)
    rw [show (gs.take N).length = N from by rw [List.length_take, HGS.out.1]; omega] at q
    exact q)
  have HC7 := Lib.hid (HC6.out.quiet HV7.out.2)
  have HW7 := Lib.hid (HW6.out.quiet HV7.out.2)
  clear HC6 HW6 HPG
  go_loopw [5] (fun i wr => ∃ k : Nat, k ≤ N ∧ i = .int .i64 (k : Int) ∧ Off [] W7 wr) (fun i _ => N - (intOf i).toNat)
  case atStart => exact ⟨0, by omega, rfl, Off.refl _ _⟩
  case round =>
    obtain ⟨k, hk, rfl, ho⟩ := hrel
    have HO := Lib.hid ho
    have HWr := Lib.hid (HW7.out.quiet ho)
    obtain ⟨f0, f1, f2, f3, f5⟩ := HWr.out.cells
    have m0' := (HV7.out.1.off ho (by simp)).cell 0
    simp only [List.getElem?_toArray, List.getElem?_cons_zero] at m0'
    have hN5 : N ≤ 5 := HB.out.2.1
    by_cases hkn : k < N
    · have hkn' : (k : Int) < (N : Int) := by omega
      have hk0 : (0 : Int) ≤ (k : Int) := by omega
      have hdk : decide ((N : Int) ≤ (k : Int)) = false := by rw [decide_eq_false_iff_not]; omega
      have hdk2 : decide ((k : Int) ≥ (N : Int)) = false := by rw [decide_eq_false_iff_not]; omega
      have hdk3 : decide (N ≤ k) = false := by rw [decide_eq_false_iff_not]; omega
      have hdk4 : decide (k ≥ N) = false := by rw [decide_eq_false_iff_not]; omega
      have hdk5 : (!decide ((k : Int) < (N : Int))) = false := by rw [decide_eq_true hkn']; rfl
      obtain ⟨qb, qoff, qc, x, hps, hcx, hxb⟩ := HPG7.out wr ho k hkn
      rw [hps] at m0'
      obtain ⟨xo, xcp, rfl⟩ := hxb.val
      rw [(HWr.out.1.since.1 |> fun _ => show (cur k).length = 40 from by
        obtain ⟨dm, lm, pm, i1, i2, hs, hI⟩ := HWr.out.1
        exact (hI.page k hkn).1)] at hcx hxb
      have HST : Hid (∀ W, Off [] wr W → W.cell? ⟨mb, 0, none⟩ = some (.slice (some ⟨qb, qoff, none⟩) N qc) ∧ W.cell? ⟨qb, qoff + k, none⟩ = some (.slice xo 40 xcp) ∧ (convert 22 9 (.slice xo 40 xcp)).run Tryz.prog W = .ok (.string (strB (cur k))) W) := Lib.hid (fun W hoW => ⟨hoW.cell m0' (by simp), hoW.cell hcx (by simp), (hxb.off hoW (by simp)).str⟩)
      have HLS : Hid (∀ W, Off [] wr W → Calls Tryz.prog 34 #[.pointer (some ⟨r, 0, none⟩), .int .i64 (k : Nat)] W fun e w' => e = .returned (.string (strB (cur k))) ∧ Off [] W w') := Lib.hid (fun W hoW => (HWr.out.quiet hoW).lastAt (by have := HB.out; have := HN.out; omega) hkn)
      clear ho HWr m0' hcx hxb hps
      go_wp2_with fail
      go_region_held3 (fun W => W.cell? ⟨mb, 0, none⟩ = some (.slice (some ⟨qb, qoff, none⟩) N qc) ∧ W.cell? ⟨qb, qoff + k, none⟩ = some (.slice xo 40 xcp) ∧ (convert 22 9 (.slice xo 40 xcp)).run Tryz.prog W = .ok (.string (strB (cur k))) W)
        (first | exact HST.out _ (Off.refl _ _) | exact HST.out _ (Off.refl _ _).drew | exact HST.out _ HOX.out | fail)
        (first
        | (go_at_call 34; refine (HLS.out _ (by first | exact Off.refl _ _ | exact (Off.refl _ _).drew)).mono ?_; rintro e wx ⟨rfl, hox⟩; have HOX : Hid (Off [] wr wx) := Lib.hid (by first | exact hox | exact ((Off.refl _ _).drew).trans hox (by simp)); clear hox))
      all_goals
        go_wp2_with fail
        go_roundw
        case rel => exact ⟨k + 1, by omega, by go_num, HO.out.trans HOX.out (by simp)⟩
        case measure => simp [intOf]; omega
    · have hkn' : ¬ ((k : Int) < (N : Int)) := by omega
      have hkN : N = k := by omega
      subst hkN
      have HWE := Lib.hid (HW7.out.quiet HO.out)
      have HCE := Lib.hid (HC7.out.quiet HO.out)
      have hp4 := (HV.out.1.off HWE.out.off0 (by simp)).cell 4
      have hp5 := (HV.out.1.off HWE.out.off0 (by simp)).cell 5
      simp only [List.getElem?_toArray, List.getElem?_cons_zero, List.getElem?_cons_succ] at hp4 hp5
      have HSC : Hid (∀ W, Off [] wr W → W.cell? ⟨r, 0, none⟩ = some (.pointer (some ⟨d, 0, none⟩)) ∧ W.cell? ⟨pb, 4, none⟩ = some (.int .i64 ch) ∧ W.cell? ⟨pb, 5, none⟩ = some (.slice ko kn kc)) := Lib.hid (fun W hoW => ⟨hoW.cell f0 (by simp), hoW.cell hp4 (by simp), hoW.cell hp5 (by simp)⟩)
      have HCR : Hid (∀ W, Off [] wr W → Calls Tryz.prog 35 #[.pointer (some ⟨d, 0, none⟩), .agg #[.int .i64 ch, .slice ko kn kc]] W fun e w' => ∃ d', e = .returned (.pointer (some ⟨d', 0, none⟩)) ∧ LeftD V d' t N cur W.heap.size w' ∧ Off [] W w') := Lib.hid (fun W hoW => (HCE.out.quiet hoW).crash ch ko kn kc)
      clear hkn hk f0 f1 f2 f5 m0' ho HWr hp4 hp5
      go_wp2_with fail
      go_region_held3 (fun W => W.cell? ⟨r, 0, none⟩ = some (.pointer (some ⟨d, 0, none⟩)) ∧ W.cell? ⟨pb, 4, none⟩ = some (.int .i64 ch) ∧ W.cell? ⟨pb, 5, none⟩ = some (.slice ko kn kc))
        (first | exact HSC.out _ (Off.refl _ _) | exact HSC.out _ (Off.refl _ _).drew | exact HSC.out _ HOX.out | fail)
        (first
        | (go_at_call 35; refine (HCR.out _ (by first | exact Off.refl _ _ | exact (Off.refl _ _).drew)).mono ?_; rintro e w8 ⟨d', rfl, hleft, hox⟩; have HLD := Lib.hid hleft; have HOX : Hid (Off [] wr w8) := Lib.hid (by first | exact hox | exact ((Off.refl _ _).drew).trans hox (by simp)); clear hox hleft))
      have HLE : Hid (LeftD V d' t N cur wr.heap.size w8) := Lib.hid HLD.out
      have HW8 := Lib.hid (HWE.out.quiet HOX.out)
      obtain ⟨g0, g1, g2, g3, g5⟩ := HW8.out.cells
      have HOP := Lib.hid (HLE.out.open HTV.out.1)
      clear HLD f3
      go_wp2_with fail
      refine HOP.out.mono ?_
      rintro e w9 ⟨g', fp', rfl, hll9, ho9, hfp9⟩
      have HL9 := Lib.hid hll9
      have HR9 : Hid (RunR w9 r d g p N was false rf3 ∧ (∀ z ∈ rf3, V.heap.size ≤ z ∧ z < wr.heap.size)) := Lib.hid (by
        have h1 := HWE.out.2.1.lt
        exact ⟨HW8.out.2.1.off ho9 (fun z hz hz' => by have := hfp9 z hz'; have := h1 z hz; omega), fun z hz => ⟨(HWE.out.2.2.1 z hz).1, h1 z hz⟩⟩)
      have HPO := Lib.hid (HL9.out.pool)
      clear hll9 ho9 hfp9 HOP g0 g1 g2 g3 g5
      go_wp2_with fail
      refine HPO.out.mono ?_
      rintro e wA ⟨p', FA, rfl, hLA, hFA, hoA⟩
      have HBE : Hid (BesideW V d' g' p' r d g p t N cur 500000000000000000 (0 + l.length) was rf3 wA) := Lib.hid ⟨FA, hLA, HR9.out.1.off hoA (by simp), fun z hz => ⟨(HR9.out.2 z hz).1, fun hz' => by have := hFA z hz'; have := (HR9.out.2 z hz).2; omega⟩, HWE.out.2.2.2⟩
      clear hLA hFA hoA HPO HL9 HR9 HLE HW8 HOX HSC HCR HWE HCE HW7 HC7 HPG7 HGS HV7
      go_wp2_with (go_at_call 9; refine (num9 _ _).mono ?_; rintro e w' ⟨rfl, rfl⟩)
      go_loopw [11] (fun i wr => ∃ k : Nat, k ≤ N ∧ i = .int .i64 (k : Int) ∧ BesideW V d' g' p' r d g p t N cur (500000000000000000 + 7 * k) (0 + l.length) was rf3 wr) (fun i _ => N - (intOf i).toNat)
      case atStart => exact ⟨0, by omega, rfl, HBE.out⟩
      case round =>
        obtain ⟨k, hk, rfl, hw⟩ := hrel
        have HW := Lib.hid hw
        have f3 := hw.since.2
        clear hw HBE
        by_cases hkn : k < N
        · have hkn' : (k : Int) < (N : Int) := by omega
          have HPI := Lib.hid (HW.out.pin HTV.out.1 (by omega) hkn)
          go_wp2_with fail
          refine HPI.out.mono ?_
          rintro e wB ⟨xo, xc, rfl, hb, hbp⟩
          have HBP := Lib.hid hbp
          have HCV : Hid (∀ W, Off [] wB W → (convert 22 9 (.slice xo 40 xc)).run Tryz.prog W = .ok (.string (strB (cur k))) W) := Lib.hid (fun W ho => (hb.off ho (by simp)).str)
          have HLS : Hid (∀ W, Off [] wB W → Calls Tryz.prog 34 #[.pointer (some ⟨r, 0, none⟩), .int .i64 (k : Nat)] W fun e w' => e = .returned (.string (strB (cur k))) ∧ Off [] W w') := Lib.hid (fun W ho => by
            obtain ⟨F, h1, h2, h3, h4⟩ := HBP.out
            exact (h2.off ho (by simp)).lastAt h4 (by have := HB.out; have := HN.out; omega) hkn)
          clear hb hbp HPI f3
          go_wp2_with fail
          go_region_held3 (fun W => (convert 22 9 (.slice xo 40 xc)).run Tryz.prog W = .ok (.string (strB (cur k))) W)
            (first | exact HCV.out _ (Off.refl _ _) | exact HCV.out _ (Off.refl _ _).drew | exact HCV.out _ HOX.out | fail)
            (first
            | (go_at_call 9; refine (num9 _ _).mono ?_; rintro e wx ⟨rfl, rfl⟩)
            | (go_at_call 34; refine (HLS.out _ (by first | exact Off.refl _ _ | exact (Off.refl _ _).drew)).mono ?_; rintro e wx ⟨rfl, hox⟩; have HOX : Hid (Off [] wB wx) := Lib.hid (by first | exact hox | exact ((Off.refl _ _).drew).trans hox (by simp)); clear hox))
          all_goals
            have HUN := Lib.hid ((HBP.out.quiet HOX.out).unpin hkn)
            clear HCV HLS
            go_wp2_with fail
            refine HUN.out.mono ?_
            rintro e wC ⟨rfl, hC⟩
            have HC := Lib.hid hC
            clear hC HUN
            go_wp2_with fail
            go_roundw
            case rel => exact ⟨k + 1, by omega, by go_num, by rw [show 500000000000000000 + 7 * (k + 1) = 500000000000000000 + 7 * k + 7 by omega]; exact HC.out⟩
            case measure => simp [intOf]; omega
        · have hkn' : ¬ ((k : Int) < (N : Int)) := by omega
          have HF : Hid (P (.returned (.bool true)) wr) := Lib.hid (by rw [HP.out]; exact ⟨rfl, HV.out.2.1.trans HW.out.since.1 (by simp)⟩)
          clear HW
          go_wp2_with fail
          first | exact HF.out | (go_ret; exact HF.out)
end Go.Proofs.YtfdgiblkllfpjaaGreatDoor
