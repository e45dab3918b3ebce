/- PoolFirst: a run over the heap: Clean, CleanAll, Flush, Append, Change. -/
import Derived.Test.YtfdgiblkllfpjaaGreatDoorF03
set_option linter.unusedVariables false
set_option linter.unusedSimpArgs false
namespace Go.Proofs.YtfdgiblkllfpjaaGreatDoor
open Go.ChangeShapes Go.WideShapes Go.ChangeAt Go.RowKit

/-- A call answers OK and the run goes on, or it finds the disk dead. -/
def FCode (w0 : World) (d g p : Nat) (t : Nat → Nat) (N : Nat) (cur : Nat → List UInt8) (wf : Nat → List (List UInt8)) (K : Nat) (c : Nat → Nat) (F : Fp3) (w : World) (e : Ending) (w' : World) : Prop :=
  (e = .returned (.int .i64 0) ∧ FStep w0 d g p t N cur wf K c F w w') ∨ (e = .returned (.int .i64 1) ∧ XStep w0 d g p t N wf F w w')
section
variable {t : Nat → Nat} {w0 w w' : World} {d g p N : Nat} {cur : Nat → List UInt8} {wf : Nat → List (List UInt8)} {K : Nat} {c c' : Nat → Nat} {F : Fp3}
theorem FW.clean (ht : Tbl t w0) (h : FW w0 d g p t N cur wf K c F w) (hK : K + 6 < 400000000000000000) (a : Nat) (ha : a < N) :
    Calls Tryz.prog 23 #[.pointer (some ⟨p, 0, none⟩), .int .i64 (a : Int)] w (FCode w0 d g p t N cur wf (K + 6) c F w) := by
  obtain ⟨dm, lm, pm, i1, i2, hs, hJ⟩ := h
  have hI := hJ.main
  obtain ⟨hT, z1, z2, z3⟩ := hs.zero ht
  have hsh : dm.shp = ⟨N, 1, 65536⟩ := hI.shp
  refine (clean23 hT hs.1 ⟨z1, z2⟩ hI.dead (k := K) (by omega) hJ.deskOk hI.pool a (by rw [hsh]; exact ha)).mono ?_
  rintro e w' ⟨rfl, F1, hW, hA⟩
  rcases hJ.clean a hK with ⟨q1, j1, j2, q2⟩ | ⟨q1, q2⟩
  · exact .inl ⟨by rw [q1], F1, ⟨_, _, _, j1, j2, hs.step hW hA, q2⟩, hA⟩
  · exact .inr ⟨by rw [q1], F1, ⟨_, _, _, hs.step hW hA, q2⟩, hA⟩
theorem FW.cleanAll (ht : Tbl t w0) (h : FW w0 d g p t N cur wf K c F w) (hK : K + 90 < 400000000000000000) :
    Calls Tryz.prog 31 #[.pointer (some ⟨p, 0, none⟩)] w (FCode w0 d g p t N cur wf (K + 84) c F w) := by
  obtain ⟨dm, lm, pm, i1, i2, hs, hJ⟩ := h
  have hI := hJ.main
  obtain ⟨hT, z1, z2, z3⟩ := hs.zero ht
  have hdl := dirtyN_len (pm := pm)
  have hm := hI.most
  have hln := hI.len
  refine (cleanAll31 hT hs.1 ⟨z1, z2, z3⟩ hI.dead (a := K) (by omega) hJ.deskOk hI.pool hI.len).mono ?_
  rintro e w' ⟨rfl, F1, hW, hA⟩
  rcases FirI.cleanAll pm.dirtyN hJ (by omega) with ⟨q1, j1, j2, q2⟩ | ⟨q1, q2⟩
  · exact .inl ⟨by rw [q1], F1, ⟨_, _, _, j1, j2, hs.step hW hA, q2.mono (by omega) (by omega)⟩, hA⟩
  · exact .inr ⟨by rw [q1], F1, ⟨_, _, _, hs.step hW hA, q2⟩, hA⟩
theorem FW.flush (ht : Tbl t w0) (h : FW w0 d g p t N cur wf K c F w) (hK : K + 2 < 400000000000000000) (x : Int) :
    Calls Tryz.prog 95 #[.pointer (some ⟨g, 0, none⟩), .int .i64 x] w (FCode w0 d g p t N cur wf (K + 2) c F w) := by
  obtain ⟨dm, lm, pm, i1, i2, hs, hJ⟩ := h
  obtain ⟨d1, d2, d3, d4, d5, d6, d7⟩ := hJ.deskOk
  by_cases hx : x < 0
  · refine (flush95_neg hs.1.1 d7 x hx).mono ?_
    rintro e w' ⟨rfl, hst⟩
    obtain ⟨D, L, hW, hA, _⟩ := hs.1.deskAt hst
    exact .inl ⟨rfl, _, ⟨_, _, _, i1, i2, hs.step hW hA, hJ.mono (by omega) hK⟩, hA⟩
  · obtain ⟨n, rfl⟩ : ∃ n : Nat, x = (n : Int) := ⟨x.toNat, by omega⟩
    refine (flush95 hs.1.1 d7 n d5 d6 (by omega)).mono ?_
    rintro e w' ⟨rfl, hst⟩
    obtain ⟨D, L, hW, hA, _⟩ := hs.1.deskAt hst
    rcases hJ.flush n hK with ⟨q1, ⟨j1, j2, q2⟩, _, _⟩ | ⟨q1, q2⟩
    · exact .inl ⟨by rw [q1], _, ⟨_, _, _, j1, j2, hs.step hW hA, q2⟩, hA⟩
    · exact .inr ⟨by rw [q1], _, ⟨_, _, _, hs.step hW hA, q2⟩, hA⟩
/-- Behind an Append: the record's LSN is beyond all pages', and beyond what lasts. -/
def FWL (w0 : World) (d g p : Nat) (t : Nat → Nat) (N : Nat) (cur : Nat → List UInt8) (wf : Nat → List (List UInt8)) (K : Nat) (c : Nat → Nat) (F : Fp3) (lsn : Nat) (w : World) : Prop := ∃ dm lm pm i1 i2, Since w0 d g p dm lm pm F w ∧ FirI t N cur wf i1 i2 K c dm lm pm ∧ lsn < lm.fin ∧ dm.lasted < lsn ∧ ∀ n, n < N → lsnN (cur n) < lsn
theorem FWL.fw {lsn : Nat} (h : FWL w0 d g p t N cur wf K c F lsn w) : FW w0 d g p t N cur wf K c F w := by
  obtain ⟨dm, lm, pm, i1, i2, h1, h2, _⟩ := h
  exact ⟨dm, lm, pm, i1, i2, h1, h2⟩
theorem FWL.quiet {lsn : Nat} (h : FWL w0 d g p t N cur wf K c F lsn w) (ho : Off [] w w') : FWL w0 d g p t N cur wf K c F lsn w' := by
  obtain ⟨dm, lm, pm, i1, i2, h1, h2, h3⟩ := h
  exact ⟨dm, lm, pm, i1, i2, h1.quiet ho, h2, h3⟩
theorem FW.append (ht : Tbl t w0) (h : FW w0 d g p t N cur wf K c F w) (x : Nat) (h1 : 1 ≤ x) (h2 : x ≤ 64) :
    Calls Tryz.prog 13 #[.pointer (some ⟨g, 0, none⟩), beginV x] w (fun e w' => (∃ lsn F', 1 ≤ lsn ∧ lsn ≤ 65537 ∧ e = .returned (.tuple #[.int .i64 (lsn : Nat), .int .i64 0]) ∧ FWL w0 d g p t N cur wf K c F' lsn w' ∧ Acc3 F w F' w') ∨ (e = .returned (.tuple #[.int .i64 0, .int .i64 63]) ∧ FStep w0 d g p t N cur wf K c F w w')) := by
  obtain ⟨dm, lm, pm, i1, i2, hs, hJ⟩ := h
  have hI := hJ.main
  have hK := hJ.small
  obtain ⟨hT, z1, z2, z3⟩ := hs.zero ht
  have hfin := hI.fin
  have hby := hI.bytes
  obtain ⟨l1, l2, l3, l4, l5, l6⟩ := hJ.logs
  have hsh : dm.shp = ⟨N, 1, 65536⟩ := hI.shp
  refine (append13 hT hs.1.1 hI.desk.2.2.2.2.2.2 x h1 h2 (by rw [hI.ents]; omega) z2).mono ?_
  rintro e w' (⟨hr, rfl, hst⟩ | ⟨hr, rfl, hst⟩)
  · obtain ⟨D, L, hW, hA, _⟩ := hs.1.deskAt (hs.1.1.log hst)
    rw [hsh] at hr
    obtain ⟨k1, k2⟩ := hJ.append h1 h2 hr
    refine .inl ⟨lm.fin, _, by omega, by omega, rfl, ⟨_, _, _, i1, _, hs.step hW hA, k1, by rw [k2]; omega, by omega, fun n hn => ?_⟩, hA⟩
    obtain ⟨p1, y, p2, p3, p4, p5⟩ := hI.page n hn
    unfold lsnN
    rw [p3]; show y < _; rcases p5 with q | q
    · exact q
    · omega
  · obtain ⟨D, L, hW, hA, _⟩ := hs.1.deskAt (hs.1.1.log hst)
    exact .inr ⟨rfl, _, ⟨_, _, _, i1, i2, hs.step hW hA, hJ⟩, hA⟩
theorem FWL.change {lsn : Nat} (ht : Tbl t w0) (h : FWL w0 d g p t N cur wf K c F lsn w) (hl : 1 ≤ lsn) (a : Nat) (ha : a < N) (hp : 0 < c a) (v : Value) (b : List UInt8) (hb : IsB w v b) (hb4 : b.length = 40) (hv : ∀ z ∈ blk v, z ∉ F.l) {wf' : Nat → List (List UInt8)} (hw : ∀ n x, x ∈ wf n → x ∈ wf' n) (hwa : stampB t b a lsn ∈ wf' a) :
    Calls Tryz.prog 17 #[.pointer (some ⟨p, 0, none⟩), .int .i64 (a : Int), v, .int .i64 (lsn : Nat)] w (fun e w' => e = .returned (.int .i64 0) ∧ FStep w0 d g p t N (fun n => if n = a then stampB t b a lsn else cur n) wf' K c F w w') := by
  obtain ⟨dm, lm, pm, i1, i2, hs, hJ, hl2, hl3, hl4⟩ := h
  have hI := hJ.main
  obtain ⟨hT, z1, z2, z3⟩ := hs.zero ht
  cases hf : pm.find a with
  | none => have := (hI.out a ha hf).2.2; omega
  | some f =>
    obtain ⟨f1, f2⟩ := pfind_some hf
    obtain ⟨e1, e2, e3, e4⟩ := hI.fr f f1
    have hfb : f.b = cur a := by rw [e1, f2]
    have hpg := hI.pages
    refine (change17 hT hs.1 z2 hI.dead a (by omega) f hf (by rw [e3, f2]; exact hp) v b hb hv (by rw [hfb, (hI.page a ha).1, hb4]) (by rw [hb4, slots40]; omega) lsn (by rw [hfb]; exact hl4 a ha) hl2).mono ?_
    rintro e w' ⟨rfl, F1, hW, hA⟩
    exact ⟨rfl, F1, ⟨_, _, _, i1, i2, hs.step hW hA, hJ.change hT hf hb4 hl hl2 hl3 hl4 hw hwa⟩, hA⟩
end
end Go.Proofs.YtfdgiblkllfpjaaGreatDoor

/- PoolFirst: a Run beside its disk, log and pool, as long as the disk lives; does of the turns that pin nothing. -/
set_option linter.unusedVariables false
set_option linter.unusedSimpArgs false
namespace Go.Proofs.YtfdgiblkllfpjaaGreatDoor
open Go.ChangeShapes Go.WideShapes Go.ChangeAt Go.RowKit

def wfOf (was : List (List (List UInt8))) (n : Nat) : List (List UInt8) := (was[n]?).getD []
def RunF (w0 : World) (r d g p : Nat) (t : Nat → Nat) (N : Nat) (cur : Nat → List UInt8) (K M : Nat) (c : Nat → Nat) (was : List (List (List UInt8))) (F : Fp3) (rf : List Nat) (w : World) : Prop :=
  FW w0 d g p t N cur (wfOf was) K c F w ∧ RunR w r d g p N was false rf ∧ (∀ z ∈ rf, w0.heap.size ≤ z ∧ z ∉ F.d ++ F.l ++ F.p) ∧ Cur N cur M was
/-- The disk is dead, or may be; the Run says so, or does not. -/
def RunX (w0 : World) (r d g p : Nat) (t : Nat → Nat) (N : Nat) (dead : Bool) (was : List (List (List UInt8))) (F : Fp3) (rf : List Nat) (w : World) : Prop :=
  XW w0 d g p t N (wfOf was) F w ∧ RunR w r d g p N was dead rf ∧ (∀ z ∈ rf, w0.heap.size ≤ z ∧ z ∉ F.d ++ F.l ++ F.p)
section
variable {w0 w w' : World} {r d g p N : Nat} {t : Nat → Nat} {cur cur' : Nat → List UInt8} {wf wf' : Nat → List (List UInt8)} {K M : Nat} {c c' : Nat → Nat} {was : List (List (List UInt8))} {F F' : Fp3} {rf : List Nat} {dead : Bool}
theorem FW.more (h : FW w0 d g p t N cur wf K c F w) (hw : ∀ n x, x ∈ wf n → x ∈ wf' n) : FW w0 d g p t N cur wf' K c F w := by
  obtain ⟨dm, lm, pm, i1, i2, h1, h2⟩ := h
  exact ⟨dm, lm, pm, i1, i2, h1, { h2 with page := h2.page.more (Nat.le_refl _) hw, pair := h2.pair.more (Nat.le_refl _) hw, cur := fun n hn => hw n _ (h2.cur n hn) }⟩
theorem RunF.quiet (h : RunF w0 r d g p t N cur K M c was F rf w) (ho : Off [] w w') : RunF w0 r d g p t N cur K M c was F rf w' :=
  ⟨h.1.quiet ho, h.2.1.off ho (by simp), h.2.2.1, h.2.2.2⟩
theorem RunF.mono (h : RunF w0 r d g p t N cur K M c was F rf w) {K' M' : Nat} (hK : K ≤ K') (hK' : K' < 400000000000000000) (hM : M ≤ M') (hc : ∀ n, n < N → c n = c' n) : RunF w0 r d g p t N cur K' M' c' was F rf w :=
  ⟨h.1.mono hK hK' hc, h.2.1, h.2.2.1, fun n hn => by obtain ⟨l, h1, h2⟩ := h.2.2.2 n hn; exact ⟨l, h1, by omega⟩⟩
theorem RunF.step (h : RunF w0 r d g p t N cur K M c was F rf w) {K' : Nat} (h1 : FW w0 d g p t N cur (wfOf was) K' c' F' w') (hA : Acc3 F w F' w') : RunF w0 r d g p t N cur K' M c' was F' rf w' := by
  have hlt := h.2.1.lt
  exact ⟨h1, h.2.1.off hA.1 (fun z hz => (h.2.2.1 z hz).2), fun z hz => ⟨(h.2.2.1 z hz).1, hA.beside (S := rf) (fun z hz => ⟨hlt z hz, (h.2.2.1 z hz).2⟩) z hz⟩, h.2.2.2⟩
theorem RunF.cells (h : RunF w0 r d g p t N cur K M c was F rf w) : w.cell? ⟨r, 0, none⟩ = some (.pointer (some ⟨d, 0, none⟩)) ∧ w.cell? ⟨r, 1, none⟩ = some (.pointer (some ⟨g, 0, none⟩)) ∧ w.cell? ⟨r, 2, none⟩ = some (.pointer (some ⟨p, 0, none⟩)) ∧ w.cell? ⟨r, 3, none⟩ = some (.int .i64 (N : Nat)) ∧ w.cell? ⟨r, 5, none⟩ = some (.bool false) := by
  obtain ⟨wv, fw, h1, _⟩ := h.2.1
  refine ⟨?_, ?_, ?_, ?_, ?_⟩ <;> rw [h1.cell] <;> rfl
theorem RunF.off0 (h : RunF w0 r d g p t N cur K M c was F rf w) : Off [] w0 w := h.1.since.1
theorem RunX.quiet (h : RunX w0 r d g p t N dead was F rf w) (ho : Off [] w w') : RunX w0 r d g p t N dead was F rf w' :=
  ⟨h.1.quiet ho, h.2.1.off ho (by simp), h.2.2⟩
theorem RunX.off0 (h : RunX w0 r d g p t N dead was F rf w) : Off [] w0 w := h.1.since.1
theorem RunX.cells (h : RunX w0 r d g p t N dead was F rf w) : w.cell? ⟨r, 0, none⟩ = some (.pointer (some ⟨d, 0, none⟩)) ∧ w.cell? ⟨r, 3, none⟩ = some (.int .i64 (N : Nat)) ∧ w.cell? ⟨r, 5, none⟩ = some (.bool dead) ∧ ∀ o, w.frozen? ⟨r, o, none⟩ = false := by
  obtain ⟨wv, fw, h1, _⟩ := h.2.1
  refine ⟨?_, ?_, ?_, fun o => h1.unfrozen o⟩ <;> rw [h1.cell] <;> rfl
theorem RunF.rest (h : RunF w0 r d g p t N cur K M c was F rf w) : RunX w0 r d g p t N false was F rf w := ⟨h.1.rest, h.2.1, h.2.2.1⟩
theorem RunF.dies (h : RunF w0 r d g p t N cur K M c was F rf w) (h1 : XW w0 d g p t N (wfOf was) F' w') (hA : Acc3 F w F' w') : RunX w0 r d g p t N false was F' rf w' := by
  have hlt := h.2.1.lt
  exact ⟨h1, h.2.1.off hA.1 (fun z hz => (h.2.2.1 z hz).2), fun z hz => ⟨(h.2.2.1 z hz).1, hA.beside (S := rf) (fun z hz => ⟨hlt z hz, (h.2.2.1 z hz).2⟩) z hz⟩⟩
theorem RunX.die (h : RunX w0 r d g p t N dead was F rf w) : RunX w0 r d g p t N true was F rf (w.setCell ⟨r, 5, none⟩ (.bool true)) := by
  obtain ⟨h1, ⟨wv, fw, i1, i2, rfl, i3, i4⟩, h3⟩ := h
  have ho : Off [r] w (w.setCell ⟨r, 5, none⟩ (.bool true)) := (Off.refl [r] w).setCell (.inl (by simp)) _
  obtain ⟨n1, n2⟩ := List.nodup_cons.1 i3
  exact ⟨h1.write ho (fun z hz => by simp at hz; subst hz; exact h3 z (by simp)), ⟨wv, fw, i1.set 5 _, i2.off ho (fun z hz hz' => by simp at hz'; subst hz'; exact n1 hz), rfl, i3, i4⟩, h3⟩
end
/-- What a turn comes to. -/
def DoesF (w0 : World) (r d g p : Nat) (t : Nat → Nat) (N K M : Nat) (e : Ending) (w' : World) : Prop :=
  e = .returned (.bool true) ∧ ∃ was F rf, (∃ cur, RunF w0 r d g p t N cur K M (fun _ => 0) was F rf w') ∨ RunX w0 r d g p t N true was F rf w'
set_option maxRecDepth 100000 in
set_option maxHeartbeats 8000000 in
theorem doesF_other {w0 w : World} {r d g p N : Nat} {t : Nat → Nat} {cur : Nat → List UInt8} {K M : Nat} {was : List (List (List UInt8))} {F : Fp3} {rf : List Nat} (ht : Tbl t w0) (h : RunF w0 r d g p t N cur K M (fun _ => 0) was F rf w) (hK : K + 200 < 400000000000000000) (hN : 1 ≤ N ∧ N ≤ 15) (kd tn pk : Int) (bo : Option Addr) (bn bc : Nat) (hk : kd = 4 ∨ kd = 5 ∨ kd = 6 ∨ (kd ≠ 1 ∧ kd ≠ 2 ∧ kd ≠ 3 ∧ kd ≠ 4 ∧ kd ≠ 5 ∧ kd ≠ 6)) :
    Calls Tryz.prog 74 #[.pointer (some ⟨r, 0, none⟩), turnV kd tn pk (.slice bo bn bc)] w (DoesF w0 r d g p t N (K + 100) (M + 1)) := by
  have HH := Lib.hid h
  have HT := Lib.hid ht
  obtain ⟨a, ha, ha'⟩ : ∃ a : Nat, tn.emod (N : Int) = (a : Int) ∧ a < N := by
    have h1 := Int.emod_nonneg tn (show (N : Int) ≠ 0 by omega)
    have h2 := Int.emod_lt_of_pos tn (show (0 : Int) < (N : Int) by omega)
    exact ⟨(tn % (N : Int)).toNat, by show tn % (N : Int) = _; omega, by omega⟩
  have HRE : Hid (∀ W, Calls Tryz.prog 25 #[.int .i64 tn, .int .i64 (N : Int)] W fun e w' => e = .returned (.int .i64 (a : Int)) ∧ W = w') := Lib.hid (fun W => by rw [← ha]; exact rest25 tn N (by omega) (by omega) W)
  obtain ⟨P, hP⟩ : ∃ P, P = DoesF w0 r d g p t N (K + 100) (M + 1) := ⟨_, rfl⟩
  rw [← hP]
  have HFIN : Hid (∀ K' F' W, K' ≤ K + 100 → RunF w0 r d g p t N cur K' M (fun _ => 0) was F' rf W → P (.returned (.bool true)) W) := Lib.hid (fun K' F' W hk' hh => by
    rw [hP]
    exact ⟨rfl, was, F', rf, .inl ⟨cur, hh.mono hk' (by omega) (by omega) (fun _ _ => rfl)⟩⟩)
  have HDIE : Hid (∀ F' W, RunX w0 r d g p t N false was F' rf W → P (.returned (.bool true)) (W.setCell ⟨r, 5, none⟩ (.bool true))) := Lib.hid (fun F' W hh => by
    rw [hP]
    exact ⟨rfl, was, F', rf, .inr hh.die⟩)
  clear hP h ht ha hN
  have HA := Lib.hid ha'
  have HKK := Lib.hid hK
  clear ha' hK
  unfold turnV
  go_enter Tryz.func74, Tryz.ntmps74
  go_upto_region 1 with fail
  refine gen_world (Φ := fun V => IsC V w.heap.size #[.int .i64 kd, .int .i64 tn, .int .i64 pk, .slice bo bn bc] 143 ∧ RunF w0 r d g p t N cur K M (fun _ => 0) was F rf V ∧ ∀ z ∈ F.d ++ F.l ++ F.p, z ≠ w.heap.size) ⟨IsC.new _ _ _, HH.out.quiet ((Off.refl [] w).alloc _), fun z hz e => by have := (HH.out.1.since.2 z hz).2; omega⟩ ?_
  rintro V ⟨v1, v2, v3⟩
  have HV := Lib.hid (And.intro v1 (And.intro v2 v3))
  obtain ⟨c0, c1, c2, c3, c5⟩ := v2.cells
  have b0 := v1.cell 0
  have b1 := v1.cell 1
  have b2 := v1.cell 2
  simp only [List.getElem?_toArray, List.getElem?_cons_zero, List.getElem?_cons_succ] at b0 b1 b2
  clear v1 v2 v3
  generalize w.heap.size = tb at *
  go_wp2_with fail
  go_quiet ((go_at_call 25; exact Calls.quiet_of_same ((HRE.out _).mono (fun e w' hh => ⟨hh.1, hh.2.symm⟩))))
  have HQ : Hid (RunF w0 r d g p t N cur K M (fun _ => 0) was F rf (V.drewN nq)) := Lib.hid (HV.out.2.1.quiet ((Off.refl [] V).drewN nq))
  rcases hk with rfl | rfl | rfl | ⟨k1, k2, k3, k4, k5, k6⟩
  · have HCL := Lib.hid (HQ.out.1.clean HT.out (by have := HKK.out; omega) a HA.out)
    go_wp2_with fail
    refine HCL.out.mono ?_
    rintro e w1 (⟨rfl, F1, hL, hA⟩ | ⟨rfl, F1, hL, hA⟩)
    · have HF := Lib.hid (HFIN.out _ _ w1 (by omega) (HQ.out.step hL hA))
      clear hL hA HCL
      go_wp2_with (go_at_call 9; refine (num9 _ _).mono ?_; rintro e w' ⟨rfl, rfl⟩)
      first | exact HF.out | (go_ret; exact HF.out)
    · have hx := HQ.out.dies hL hA
      obtain ⟨_, _, x5, xf⟩ := hx.cells
      have HF := Lib.hid (HDIE.out _ w1 hx)
      clear hL hA HCL hx
      go_wp2_with (go_at_call 9; refine (num9 _ _).mono ?_; rintro e w' ⟨rfl, rfl⟩)
      first | exact HF.out | (go_ret; exact HF.out)
  · have HCL := Lib.hid (HQ.out.1.cleanAll HT.out (by have := HKK.out; omega))
    go_wp2_with fail
    refine HCL.out.mono ?_
    rintro e w1 (⟨rfl, F1, hL, hA⟩ | ⟨rfl, F1, hL, hA⟩)
    · have HF := Lib.hid (HFIN.out _ _ w1 (by omega) (HQ.out.step hL hA))
      clear hL hA HCL
      go_wp2_with (go_at_call 9; refine (num9 _ _).mono ?_; rintro e w' ⟨rfl, rfl⟩)
      first | exact HF.out | (go_ret; exact HF.out)
    · have hx := HQ.out.dies hL hA
      obtain ⟨_, _, x5, xf⟩ := hx.cells
      have HF := Lib.hid (HDIE.out _ w1 hx)
      clear hL hA HCL hx
      go_wp2_with (go_at_call 9; refine (num9 _ _).mono ?_; rintro e w' ⟨rfl, rfl⟩)
      first | exact HF.out | (go_ret; exact HF.out)
  · have HFL : Hid (∀ W, Off [] (V.drewN nq) W → Calls Tryz.prog 95 #[.pointer (some ⟨g, 0, none⟩), .int .i64 pk] W fun e w' => ∃ er : Int, e = .returned (.int .i64 er) ∧ ∃ F1, Acc3 F W F1 w' ∧ ((er = 0 ∧ FW w0 d g p t N cur (wfOf was) (K + 2) (fun _ => 0) F1 w') ∨ (er = 1 ∧ XW w0 d g p t N (wfOf was) F1 w'))) := Lib.hid (fun W ho => by
      refine ((HQ.out.1.quiet ho).flush HT.out (by have := HKK.out; omega) pk).mono ?_
      rintro e w' (⟨rfl, F1, hL, hA⟩ | ⟨rfl, F1, hL, hA⟩)
      · exact ⟨0, rfl, F1, hA, .inl ⟨rfl, hL⟩⟩
      · exact ⟨1, rfl, F1, hA, .inr ⟨rfl, hL⟩⟩)
    have HKS : Hid (∀ W, Off (F.d ++ F.l ++ F.p) (V.drewN nq) W → W.cell? ⟨r, 1, none⟩ = some (.pointer (some ⟨g, 0, none⟩)) ∧ W.cell? ⟨tb, 2, none⟩ = some (.int .i64 pk)) := Lib.hid (fun W ho => by
      obtain ⟨wv, fw, _, _, rfl, _⟩ := HQ.out.2.1
      exact ⟨ho.cell HQ.out.cells.2.1 (HQ.out.2.2.1 r (by simp)).2, ho.cell (by rw [(HV.out.1.off ((Off.refl [] V).drewN nq) (by simp)).cell]; rfl) (fun hz => HV.out.2.2 tb hz rfl)⟩)
    go_wp2_with fail
    go_region_held3 (fun W => W.cell? ⟨r, 1, none⟩ = some (.pointer (some ⟨g, 0, none⟩)) ∧ W.cell? ⟨tb, 2, none⟩ = some (.int .i64 pk))
      (first | exact HKS.out _ (Off.refl _ _) | exact HKS.out _ (Off.refl _ _).drew | exact HKS.out _ HOL.out | fail)
      (first
      | (go_at_call 95; refine (HFL.out _ (by first | exact Off.refl _ _ | exact (Off.refl _ _).drew)).mono ?_; rintro e w1 ⟨er, rfl, F1, hA, hor⟩; have HOR := Lib.hid hor; have HLA := Lib.hid hA; have HOL : Hid (Off (F.d ++ F.l ++ F.p) (V.drewN nq) w1) := Lib.hid (by first | exact hA.1 | exact ((Off.refl _ _).drew).trans hA.1 (fun z hz => .inl hz)); clear hor hA))
    rcases HOR.out with ⟨rfl, hL⟩ | ⟨rfl, hL⟩
    · have HF := Lib.hid (HFIN.out _ _ w1 (by omega) ((HQ.out.quiet ((Off.refl [] _).drew)).step hL HLA.out))
      clear HLA HFL HOR hL
      go_wp2_with (go_at_call 9; refine (num9 _ _).mono ?_; rintro e w' ⟨rfl, rfl⟩)
      first | exact HF.out | (go_ret; exact HF.out)
    · have hx := (HQ.out.quiet ((Off.refl [] _).drew)).dies hL HLA.out
      obtain ⟨_, _, x5, xf⟩ := hx.cells
      have HF := Lib.hid (HDIE.out _ w1 hx)
      clear HLA HFL HOR hL hx
      go_wp2_with (go_at_call 9; refine (num9 _ _).mono ?_; rintro e w' ⟨rfl, rfl⟩)
      first | exact HF.out | (go_ret; exact HF.out)
  · have HF := Lib.hid (HFIN.out _ _ _ (by omega) HQ.out)
    go_wp2_with (go_at_call 9; refine (num9 _ _).mono ?_; rintro e w' ⟨rfl, rfl⟩)
    first | exact HF.out | (go_ret; exact HF.out)
end Go.Proofs.YtfdgiblkllfpjaaGreatDoor

/- PoolFirst: what first asks of a disk that a crash left. -/
set_option linter.unusedVariables false
set_option linter.unusedSimpArgs false
namespace Go.Proofs.YtfdgiblkllfpjaaGreatDoor
open Go.ChangeShapes Go.WideShapes Go.ChangeAt Go.RowKit

/-- A disk that a crash left, its log opened, in blocks from B on; the Run, in blocks below. -/
def LeftW (w0 : World) (r d g p d' g' : Nat) (t : Nat → Nat) (N : Nat) (was : List (List (List UInt8))) (L : Nat) (pb : List UInt8) (B K : Nat) (w : World) : Prop :=
  ∃ dm lm fp fl dead rf, DiskR w d' dm fp ∧ LogR w g' d' lm fl ∧ LeftJ t N (wfOf was) L pb dm ∧ lm.fin = L + 1 ∧ dm.acts ≤ K ∧ (∀ z ∈ fp, B ≤ z ∧ z ∉ fl) ∧ (∀ z ∈ fl, B ≤ z) ∧ Off [] w0 w ∧ w0.heap.size ≤ B ∧ RunR w r d g p N was dead rf ∧ ∀ z ∈ rf, z < B ∧ w0.heap.size ≤ z
/-- The same behind Repair. -/
def MendW (w0 : World) (r d g p d' : Nat) (N : Nat) (was : List (List (List UInt8))) (B K : Nat) (w : World) : Prop :=
  ∃ dm fp dead rf, DiskR w d' dm fp ∧ Mended N (wfOf was) dm ∧ dm.acts ≤ K ∧ (∀ z ∈ fp, B ≤ z) ∧ Off [] w0 w ∧ w0.heap.size ≤ B ∧ RunR w r d g p N was dead rf ∧ ∀ z ∈ rf, z < B ∧ w0.heap.size ≤ z
section
variable {w0 w w' : World} {r d g p d' g' N L B K : Nat} {t : Nat → Nat} {was : List (List (List UInt8))} {pb : List UInt8}
theorem LeftW.quiet (h : LeftW w0 r d g p d' g' t N was L pb B K w) (ho : Off [] w w') : LeftW w0 r d g p d' g' t N was L pb B K w' := by
  obtain ⟨dm, lm, fp, fl, dead, rf, h1, h2, h3, h4, h5, h6, h7, h8, h9, h10, h11⟩ := h
  exact ⟨dm, lm, fp, fl, dead, rf, h1.off ho (by simp), h2.off ho (by simp), h3, h4, h5, h6, h7, h8.trans ho (by simp), h9, h10.off ho (by simp), h11⟩
theorem MendW.quiet (h : MendW w0 r d g p d' N was B K w) (ho : Off [] w w') : MendW w0 r d g p d' N was B K w' := by
  obtain ⟨dm, fp, dead, rf, h1, h2, h3, h4, h5, h6, h7, h8⟩ := h
  exact ⟨dm, fp, dead, rf, h1.off ho (by simp), h2, h3, h4, h5.trans ho (by simp), h6, h7.off ho (by simp), h8⟩
theorem MendW.mono (h : MendW w0 r d g p d' N was B K w) {K' : Nat} (hK : K ≤ K') : MendW w0 r d g p d' N was B K' w := by
  obtain ⟨dm, fp, dead, rf, h1, h2, h3, h4⟩ := h
  exact ⟨dm, fp, dead, rf, h1, h2, Nat.le_trans h3 hK, h4⟩
theorem LeftW.since (h : LeftW w0 r d g p d' g' t N was L pb B K w) : Off [] w0 w ∧ w.cell? ⟨r, 3, none⟩ = some (.int .i64 (N : Nat)) := by
  obtain ⟨dm, lm, fp, fl, dead, rf, h1, h2, h3, h4, h5, h6, h7, h8, h9, ⟨wv, fw, i1, _⟩, h11⟩ := h
  exact ⟨h8, by rw [i1.cell]; rfl⟩
theorem MendW.since (h : MendW w0 r d g p d' N was B K w) : Off [] w0 w ∧ w.cell? ⟨r, 3, none⟩ = some (.int .i64 (N : Nat)) := by
  obtain ⟨dm, fp, dead, rf, h1, h2, h3, h4, h5, h6, ⟨wv, fw, i1, _⟩, h8⟩ := h
  exact ⟨h5, by rw [i1.cell]; rfl⟩
theorem LeftW.readPair (h : LeftW w0 r d g p d' g' t N was L pb B K w) (hK : K < 1000000) :
    Calls Tryz.prog 106 #[.pointer (some ⟨d', 0, none⟩)] w fun e w' => ∃ ao cap, e = .returned (.tuple #[.slice ao 56 cap, .int .i64 0]) ∧ IsB w' (.slice ao 56 cap) pb ∧ pb.length = 56 ∧ LeftW w0 r d g p d' g' t N was L pb B (K + 1) w' := by
  have h' := h
  obtain ⟨dm, lm, fp, fl, dead, rf, h1, h2, h3, h4, h5, h6, h7, h8, h9, h10, h11⟩ := h
  have hl := h3.pair
  have hpg : dm.shp.pages = N := by rw [h3.shp]
  refine (readPair106 h1 (by omega) pb (by rw [hpg]; exact hl.1) (by rw [hl.2]; omega)).mono ?_
  rintro e w' ⟨hk, ⟨hs, _⟩ | ⟨_, ao, cap, rfl, hb, hf⟩⟩
  · rw [h3.live.stops] at hs; cases hs
  · rw [hl.2] at hb ⊢
    refine ⟨ao, cap, rfl, hb, rfl, ⟨dm.act, lm, fp, fl, dead, rf, hk.1, h2.off hk.2 (fun z hz hz' => (h6 z hz').2 hz), h3.act, h4, by have := dm.act_acts; omega, h6, h7, h8.trans hk.2 (fun z hz => .inr (Nat.le_trans h9 (h6 z hz).1)), h9, h10.off hk.2 (fun z hz hz' => by have := (h11 z hz).1; have := (h6 z hz').1; omega), h11⟩⟩
theorem LeftW.readPage (h : LeftW w0 r d g p d' g' t N was L pb B K w) (hK : K < 1000000) {n : Nat} (hn : n < N) :
    Calls Tryz.prog 24 #[.pointer (some ⟨d', 0, none⟩), .int .i64 (n : Int)] w fun e w' => ∃ ao cap b, e = .returned (.tuple #[.slice ao 40 cap, .int .i64 0]) ∧ IsB w' (.slice ao 40 cap) b ∧ b.length = 40 ∧ (∀ z, pageCheck t b (n : Int) 1 = some z → z ≤ L) ∧ LeftW w0 r d g p d' g' t N was L pb B (K + 1) w' := by
  obtain ⟨dm, lm, fp, fl, dead, rf, h1, h2, h3, h4, h5, h6, h7, h8, h9, h10, h11⟩ := h
  obtain ⟨b, b1, b2, b3⟩ := h3.page n hn
  refine (readPage24 h1 (by omega) n (by rw [h3.shp]; exact hn) b b1 (by omega)).mono ?_
  rintro e w' ⟨hk, ⟨hs, _⟩ | ⟨_, ao, cap, rfl, hb, hf⟩⟩
  · rw [h3.live.stops] at hs; cases hs
  · rw [b2] at hb ⊢
    exact ⟨ao, cap, b, rfl, hb, b2, b3, ⟨dm.act, lm, fp, fl, dead, rf, hk.1, h2.off hk.2 (fun z hz hz' => (h6 z hz').2 hz), h3.act, h4, by have := dm.act_acts; omega, h6, h7, h8.trans hk.2 (fun z hz => .inr (Nat.le_trans h9 (h6 z hz).1)), h9, h10.off hk.2 (fun z hz hz' => by have := (h11 z hz).1; have := (h6 z hz').1; omega), h11⟩⟩
theorem LeftW.end (h : LeftW w0 r d g p d' g' t N was L pb B K w) :
    Calls Tryz.prog 67 #[.pointer (some ⟨g', 0, none⟩)] w fun e w' => e = .returned (.int .i64 ((L : Int) + 1)) ∧ LeftW w0 r d g p d' g' t N was L pb B K w' := by
  obtain ⟨dm, lm, fp, fl, dead, rf, h1, h2, h3, h4, h5, h6, h7, h8, h9, h10, h11⟩ := h
  have hgf : g' ∈ fl := by obtain ⟨_, _, _, _, _, q⟩ := LogS.tailAt h2; exact q
  refine (end67 h2).mono ?_
  rintro e w' ⟨rfl, q1, q2⟩
  have hin : ∀ z ∈ [g'], z = g' := fun z hz => by simpa using hz
  refine ⟨by rw [h4]; push_cast; rfl, ⟨dm, lm, fp, fl, dead, rf, h1.off q2 (fun z hz hz' => (h6 z hz).2 (by rw [hin z hz']; exact hgf)), q1, h3, h4, h5, h6, h7, h8.trans q2 (fun z hz => .inr (by rw [hin z hz]; exact Nat.le_trans h9 (h7 g' hgf))), h9, h10.off q2 (fun z hz hz' => by rw [hin z hz'] at hz; have := (h11 _ hz).1; have := h7 g' hgf; omega), h11⟩⟩
theorem MendW.readPage (h : MendW w0 r d g p d' N was B K w) (hK : K < 1000000) {n : Nat} (hn : n < N) :
    Calls Tryz.prog 24 #[.pointer (some ⟨d', 0, none⟩), .int .i64 (n : Int)] w fun e w' => ∃ ao cap b, e = .returned (.tuple #[.slice ao 40 cap, .int .i64 0]) ∧ IsB w' (.slice ao 40 cap) b ∧ b.length = 40 ∧ b ∈ wfOf was n ∧ MendW w0 r d g p d' N was B (K + 1) w' := by
  obtain ⟨dm, fp, dead, rf, h1, h2, h3, h4, h5, h6, h7, h8⟩ := h
  obtain ⟨b, b1, b2, b3⟩ := h2.2.2 n hn
  refine (readPage24 h1 (by omega) n (by rw [h2.2.1]; exact hn) b b1 (by omega)).mono ?_
  rintro e w' ⟨hk, ⟨hs, _⟩ | ⟨_, ao, cap, rfl, hb, hf⟩⟩
  · rw [h2.1.stops] at hs; cases hs
  · rw [b2] at hb ⊢
    exact ⟨ao, cap, b, rfl, hb, b2, b3, ⟨dm.act, fp, dead, rf, hk.1, h2.act, by have := dm.act_acts; omega, h4, h5.trans hk.2 (fun z hz => .inr (Nat.le_trans h6 (h4 z hz))), h6, h7.off hk.2 (fun z hz hz' => by have := (h8 z hz).1; have := h4 z hz'; omega), h8⟩⟩
/-- Where a page's list lies. -/
theorem MendW.list (h : MendW w0 r d g p d' N was B K w) {n : Nat} (hn : n < N) : ∃ wb woff wc x, w.cell? ⟨r, 4, none⟩ = some (.slice (some ⟨wb, woff, none⟩) N wc) ∧ w.cell? ⟨wb, woff + n, none⟩ = some x ∧ StrsAt w x (wfOf was n) := by
  obtain ⟨dm, fp, dead, rf, h1, h2, h3, h4, h5, h6, ⟨wv, fw, i1, i2, i3, i4, i5⟩, h8⟩ := h
  have hl : was[n]? = some (wfOf was n) := by
    unfold wfOf
    rw [List.getElem?_eq_getElem (by omega)]; rfl
  obtain ⟨wb, woff, wc, x, rfl, e1, e2, _⟩ := i2.at hl
  rw [i5] at i1
  exact ⟨wb, woff, wc, x, by rw [i1.cell]; rfl, e1, e2⟩
end
end Go.Proofs.YtfdgiblkllfpjaaGreatDoor

/- pair: cleared, Repair. -/
set_option linter.unusedVariables false
set_option linter.unusedSimpArgs false
namespace Go.Proofs.YtfdgiblkllfpjaaGreatDoor
open Go.ChangeShapes Go.WideShapes Go.ChangeAt Go.RowKit

/-- What cleared leaves. -/
def ClearPost (d : Nat) (fp : List Nat) (m : DiskM) (w : World) (e : Ending) (w' : World) : Prop := e = .returned (.tuple #[.int .i64 (-1), .int .i64 0]) ∧ ∃ m', (m' = m ∨ ∃ z : List UInt8, m' = (m.put m.shp.pages z).sync) ∧ m'.acts ≤ m.acts + 2 ∧ DiskStep d fp m' w w'
set_option maxRecDepth 100000 in
set_option maxHeartbeats 4000000 in
theorem cleared166 {w : World} {d : Nat} {m : DiskM} {fp : List Nat} (h : DiskR w d m fp) (hfit : m.fit) (hl : m.live) (hlo : m.loose = []) (ha : m.acts < 1000000000) (v : Value) (pb : List UInt8) (hb : IsB w v pb) (hpl : pb.length = 56) (hpg : 16 + m.shp.pageB = 56) :
    Calls Tryz.prog 166 #[.pointer (some ⟨d, 0, none⟩), v] w (ClearPost d fp m w) := by
  obtain ⟨vo, vc, rfl⟩ := hb.val
  have hm1 : (m.put m.shp.pages (List.replicate 56 0)).fit := DiskM.put_fit hfit _ (by omega) _ (by rw [List.length_replicate]; unfold Shp.sizeB; rw [if_neg (by omega), if_pos rfl]; omega)
  have HW : Hid (∀ W zv, Off [] w W → IsB W zv (List.replicate 56 0) → (∀ z ∈ blk zv, z ∉ fp) → Calls Tryz.prog 199 #[.pointer (some ⟨d, 0, none⟩), zv] W fun e w' => e = .returned (.int .i64 0) ∧ DiskStep d fp (m.put m.shp.pages (List.replicate 56 0)) W w') := Lib.hid (fun W zv ho hz hzf => by
    refine (writePair199 (h.off ho (by simp)) hfit (by omega) zv _ hz hzf (by rw [List.length_replicate]; omega) (by rw [hlo]; simp)).mono ?_
    rintro e w' (⟨hs, _⟩ | ⟨_, rfl, k⟩)
    · rw [hl.stops] at hs; cases hs
    · exact ⟨rfl, k⟩)
  have hact1 := (m.put_fields m.shp.pages (List.replicate 56 0)).2.2.2.2.2.1
  have hact2 := (m.put m.shp.pages (List.replicate 56 0)).sync_fields.2.2.2.2.2.1
  have HS : Hid (∀ W W1 fp1, DiskR W d (m.put m.shp.pages (List.replicate 56 0)) fp1 → Off [] W W1 → Calls Tryz.prog 168 #[.pointer (some ⟨d, 0, none⟩)] W1 fun e w' => e = .returned (.int .i64 0) ∧ DiskStep d fp1 (m.put m.shp.pages (List.replicate 56 0)).sync W1 w') := Lib.hid (fun W W1 fp1 hr ho => by
    refine (sync168 (hr.off ho (by simp)) hm1 (by omega) (fun x hx => by
      rw [(m.put_fields m.shp.pages (List.replicate 56 0)).2.2.2.1, hlo] at hx
      simp at hx; subst hx; simp) (by rw [(m.put_fields m.shp.pages (List.replicate 56 0)).2.2.2.1, hlo]; simp)).mono ?_
    rintro e w' (⟨hs, _⟩ | ⟨_, rfl, k⟩)
    · rw [(hl.put m.shp.pages (List.replicate 56 0)).1.stops] at hs; cases hs
    · exact ⟨rfl, k⟩)
  have HC : Hid (∀ k x, pb[k]? = some x → ∃ g off, vo = some ⟨g, off, none⟩ ∧ w.cell? ⟨g, off + k, none⟩ = some (bv x)) := Lib.hid (fun k x hk => by
    have hk1 := (List.getElem?_eq_some_iff.1 hk).1
    rcases hb.2 with ⟨q, e0⟩ | ⟨g, off, c, cur, q, hc, _⟩
    · omega
    · injection q with q1 _ q3
      subst q1; subst q3
      refine ⟨g, off, rfl, ?_⟩
      rw [Own.cellAt hb k (by omega)]
      unfold bytesV
      rw [List.getElem?_map, hk]; rfl)
  obtain ⟨P, hP⟩ : ∃ P, P = ClearPost d fp m w := ⟨_, rfl⟩
  rw [← hP]
  have HF0 : Hid (∀ W, Off [] w W → P (.returned (.tuple #[.int .i64 (-1), .int .i64 0])) W) := Lib.hid (fun W ho => by
    rw [hP]; exact ⟨rfl, m, .inl rfl, by omega, ⟨fp, h.off ho (by simp), ho.mono (by simp), fun z hz => .inl hz⟩⟩)
  have HF1 : Hid (∀ W, DiskStep d fp (m.put m.shp.pages (List.replicate 56 0)).sync w W → P (.returned (.tuple #[.int .i64 (-1), .int .i64 0])) W) := Lib.hid (fun W k => by
    rw [hP]; exact ⟨rfl, _, .inr ⟨_, rfl⟩, by omega, k⟩)
  have HLT := Lib.hid h.lt
  have HPL := Lib.hid hpl
  clear h hfit hl hlo ha hb hpg hP hm1 hact1 hact2
  rw [hpl]
  clear hpl
  go_enter Tryz.func166, Tryz.ntmps166
  go_wp2_with fail
  go_loopw [12, 7] (fun i _ wr => ∃ k : Nat, k ≤ 56 ∧ i = .int .i64 (k : Int) ∧ w = wr) (fun i _ _ => 56 - (intOf i).toNat)
  case atStart => exact ⟨0, by omega, rfl, rfl⟩
  case round =>
    obtain ⟨k, hk, rfl, rfl⟩ := hrel
    by_cases hkn : k < 56
    · have hkn' : (k : Int) < 56 := by omega
      have hk0 : (0 : Int) ≤ (k : Int) := by omega
      obtain ⟨x, hx⟩ : ∃ x, pb[k]? = some x := ⟨_, List.getElem?_eq_getElem (by rw [HPL.out]; exact hkn)⟩
      obtain ⟨g, off, rfl, hc⟩ := HC.out k x hx
      unfold bv at hc
      by_cases h0 : x.toNat = 0
      · rw [h0] at hc
        clear hx
        go_wp2_with fail
        go_roundw
        case rel => exact ⟨k + 1, by omega, by go_num, by trivial⟩
        case measure => simp [intOf]; omega
      · have hnz : ((x.toNat : Int) == 0) = false := by rw [beq_eq_false_iff_ne]; omega
        have hmk : ∀ W, (Instr.makeSlice 22 (.int .i64 56) (.int .i64 56)).run Tryz.prog W = .ok (.slice (some ⟨W.heap.size, 0, none⟩) 56 56) (W.alloc (.cells (Array.replicate 56 (.int .u8 0)) 5)) := fun W => makeB 56 (by omega) W
        have hz : IsB (w.alloc (.cells (Array.replicate 56 (.int .u8 0)) 5)) (.slice (some ⟨w.heap.size, 0, none⟩) 56 56) (List.replicate 56 0) := ⟨by rw [List.length_replicate, bytesV_len, List.length_replicate], .inr ⟨w.heap.size, 0, 56, _, by rw [List.length_replicate], IsC.new _ _ _, by rw [List.length_replicate]; omega, by decide, by simp, by rw [bytesV_zeros]; simp⟩⟩
        have HW1 := Lib.hid (HW.out _ _ ((Off.refl [] w).alloc (.cells (Array.replicate 56 (.int .u8 0)) 5)) hz (fun z hz' hzf => by simp [blk] at hz'; subst hz'; have := HLT.out _ hzf; omega))
        clear hz hx
        go_wp2_with fail
        refine HW1.out.mono ?_
        rintro e w1 ⟨rfl, fp1, y1, y2, y3⟩
        have HS1 := Lib.hid (HS.out w1 w1 fp1 y1 (Off.refl _ _))
        have HY := Lib.hid (And.intro y2 y3)
        clear y1 y2 y3 HW1
        go_wp2_with fail
        refine HS1.out.mono ?_
        rintro e w2 ⟨rfl, fp2, y1, y2, y3⟩
        have HF := Lib.hid (HF1.out w2 ⟨fp2, y1, (((Off.refl [] w).alloc (.cells (Array.replicate 56 (.int .u8 0)) 5)).mono (by simp) |>.trans HY.out.1 (fun z hz => .inl hz)).trans y2 (fun z hz => (HY.out.2 z hz).imp_right (fun q => by simp only [World.size_alloc] at q; omega)), fun z hz => by
          have hs := HY.out.1.size
          rcases y3 z hz with q | q
          · rcases HY.out.2 z q with q | q
            · exact .inl q
            · exact .inr (by simp only [World.size_alloc] at q; omega)
          · exact .inr (by simp only [World.size_alloc] at hs; omega)⟩)
        clear y1 y2 y3 HS1
        go_wp2_with fail
        first | exact HF.out | (go_ret2; exact HF.out)
    · have hkn' : ¬ ((k : Int) < 56) := by omega
      have HF := Lib.hid (HF0.out w (Off.refl _ _))
      go_wp2_with fail
      first | exact HF.out | (go_ret2; exact HF.out)
end Go.Proofs.YtfdgiblkllfpjaaGreatDoor

/- pair: Repair of a disk that a crash left. -/
set_option linter.unusedVariables false
set_option linter.unusedSimpArgs false
namespace Go.Proofs.YtfdgiblkllfpjaaGreatDoor
open Go.ChangeShapes Go.WideShapes Go.ChangeAt Go.RowKit

section
variable {w0 w w' : World} {r d g p d' g' N L B K : Nat} {t : Nat → Nat} {was : List (List (List UInt8))} {pb : List UInt8}
theorem LeftW.disk (h : LeftW w0 r d g p d' g' t N was L pb B K w) : ∃ dm fp, DiskR w d' dm fp ∧ LeftJ t N (wfOf was) L pb dm ∧ dm.acts ≤ K ∧ ∀ m' w', Mended N (wfOf was) m' → m'.acts ≤ K + 4 → DiskStep d' fp m' w w' → MendW w0 r d g p d' N was B (K + 4) w' := by
  obtain ⟨dm, lm, fp, fl, dead, rf, h1, h2, h3, h4, h5, h6, h7, h8, h9, h10, h11⟩ := h
  refine ⟨dm, fp, h1, h3, h5, fun m' w' hm ha hk => ?_⟩
  obtain ⟨fp', k1, k2, k3⟩ := hk
  have hB : B ≤ w.heap.size := by
    have hgf : g' ∈ fl := by obtain ⟨_, _, _, _, _, q⟩ := LogS.tailAt h2; exact q
    have := h7 g' hgf; have := h2.lt g' hgf; omega
  exact ⟨m', fp', dead, rf, k1, hm, ha, fun z hz => by
    rcases k3 z hz with q | q
    · exact (h6 z q).1
    · omega, h8.trans k2 (fun z hz => .inr (Nat.le_trans h9 (h6 z hz).1)), h9, h10.off k2 (fun z hz hz' => by have := (h11 z hz).1; have := (h6 z hz').1; omega), h11⟩
set_option maxRecDepth 100000 in
set_option maxHeartbeats 4000000 in
theorem LeftW.repair (ht : Tbl t w0) (h : LeftW w0 r d g p d' g' t N was L pb B K w) (hK : K < 1000000) :
    Calls Tryz.prog 109 #[.pointer (some ⟨d', 0, none⟩)] w fun e w' => ∃ x : Int, e = .returned (.tuple #[.int .i64 x, .int .i64 0]) ∧ MendW w0 r d g p d' N was B (K + 5) w' := by
  have HT := Lib.hid ht
  have HRP := Lib.hid (h.readPair hK)
  obtain ⟨P, hP⟩ : ∃ P : Ending → World → Prop, P = fun e w' => ∃ x : Int, e = .returned (.tuple #[.int .i64 x, .int .i64 0]) ∧ MendW w0 r d g p d' N was B (K + 5) w' := ⟨_, rfl⟩
  rw [← hP]
  have HP : Hid (∀ x w', MendW w0 r d g p d' N was B (K + 5) w' → P (.returned (.tuple #[.int .i64 x, .int .i64 0])) w') := Lib.hid (fun x w' hm => by rw [hP]; exact ⟨x, rfl, hm⟩)
  have HKK := Lib.hid hK
  clear hP h ht hK
  go_enter Tryz.func109, Tryz.ntmps109
  go_wp2_with fail
  refine HRP.out.mono ?_
  rintro e w1 ⟨ao, cap, rfl, hb, hpl, hL⟩
  have HL1 := Lib.hid hL
  obtain ⟨dm, fp, d1, d2, d3, d4⟩ := hL.disk
  have HD := Lib.hid (And.intro d1 (And.intro d2 (And.intro d3 d4)))
  have hsh := d2.shp
  have HSH := Lib.hid (shape51 d1)
  rw [hsh] at HSH
  have HB1 := Lib.hid (And.intro hb hpl)
  have hN : N ≤ 15 := d2.small
  have HPA : Hid (∀ W, Off [] w1 W → Calls Tryz.prog 107 #[.slice ao 56 cap, .int .i64 (N : Nat), .int .i64 1] W (ParsePost W (parseM t N pb))) := Lib.hid (fun W ho => parse107 _ pb W (HT.out.off (HL1.out.since.1.trans ho (by simp)) (by simp)) (HB1.out.1.off ho (by simp)) HB1.out.2 N hN)
  have HN := Lib.hid hN
  have hf0 := field28_0
  have hf1 := field28_1
  clear hb hpl hL d1 d2 d3 d4 hsh HRP hN
  go_wp2_with fail
  refine HSH.out.mono ?_
  rintro e w2 ⟨rfl, o2⟩
  have HO2 := Lib.hid o2
  clear o2 HSH
  go_wp2_with fail
  have HO3 : Hid (Off [] w1 (w2.alloc (.cells #[.int .i64 (N : Nat), .int .i64 1, .int .i64 65536] 28))) := Lib.hid (HO2.out.alloc _)
  refine (HPA.out _ HO3.out).mono ?_
  intro e w3 hpp
  cases hpm : parseM t N pb with
  | none =>
    rw [hpm] at hpp
    obtain ⟨rfl, o3⟩ := hpp
    have HCL : Hid (Calls Tryz.prog 166 #[.pointer (some ⟨d', 0, none⟩), .slice ao 56 cap] w3 fun e w' => e = .returned (.tuple #[.int .i64 (-1), .int .i64 0]) ∧ MendW w0 r d g p d' N was B (K + 5) w') := Lib.hid (by
      obtain ⟨d1, d2, d3, d4⟩ := HD.out
      have ho := HO3.out.trans o3 (by simp)
      refine (cleared166 (d1.off ho (by simp)) d2.fit d2.live d2.loose (by have := HKK.out; omega) _ pb (HB1.out.1.off ho (by simp)) HB1.out.2 (by rw [d2.shp]; rfl)).mono ?_
      rintro e w' ⟨rfl, m', hm', ha', hk⟩
      refine ⟨rfl, d4 m' w' ?_ (by omega) ?_⟩
      · rcases hm' with rfl | ⟨z, rfl⟩
        · exact d2.rest hpm
        · rw [show dm.shp.pages = N by rw [d2.shp]]; exact d2.cleared hpm z
      · obtain ⟨fp', k1, k2, k3⟩ := hk
        have hs := ho.size
        exact ⟨fp', k1, (ho.mono (by simp)).trans k2 (fun z hz => .inl hz), fun z hz => (k3 z hz).imp_right (fun q => by omega)⟩)
    clear o3 HPA hpm
    go_wp2_with fail
    refine HCL.out.mono ?_
    rintro e w4 ⟨rfl, hm⟩
    have HF := Lib.hid (HP.out (-1) w4 hm)
    clear hm HCL
    go_wp2_with fail
    first | exact HF.out | (go_ret2; exact HF.out)
  | some q =>
    obtain ⟨n, c, y⟩ := q
    rw [hpm] at hpp
    obtain ⟨bo, bc, rfl, hc, o3, hcf⟩ := hpp
    obtain ⟨c40, hnN⟩ := parse_len HB1.out.2 hpm
    have HW3 : Hid (Off [] w1 w3) := Lib.hid (HO3.out.trans o3 (by simp))
    have HWP : Hid (Calls Tryz.prog 167 #[.pointer (some ⟨d', 0, none⟩), .int .i64 (n : Int), .slice bo 40 bc] w3 fun e w' => e = .returned (.int .i64 0) ∧ DiskStep d' fp (dm.put n c) w3 w') := Lib.hid (by
      obtain ⟨d1, d2, d3, d4⟩ := HD.out
      refine (writePage167 (d1.off HW3.out (by simp)) d2.fit (by have := HKK.out; omega) n (by rw [d2.shp]; exact hnN) _ c hc (fun z hz hzf => ?_) (by rw [c40, d2.shp]; rfl) (by rw [d2.loose]; simp)).mono ?_
      · have a := hcf z hz
        have b := d1.lt z hzf
        have := HO3.out.size
        omega
      · rintro e w' (⟨hs, _⟩ | ⟨_, rfl, k⟩)
        · rw [d2.live.stops] at hs; cases hs
        · exact ⟨rfl, k⟩)
    have HSY : Hid (∀ W fp1, DiskR W d' (dm.put n c) fp1 → Calls Tryz.prog 168 #[.pointer (some ⟨d', 0, none⟩)] W fun e w' => e = .returned (.int .i64 0) ∧ DiskStep d' fp1 (dm.put n c).sync W w') := Lib.hid (fun W fp1 hr => by
      obtain ⟨d1, d2, d3, d4⟩ := HD.out
      have hpf := dm.put_fields n c
      have hpg : dm.shp.pages = N := by rw [d2.shp]
      refine (sync168 hr (DiskM.put_fit d2.fit n (by omega) c (by rw [c40, d2.size n hnN])) (by have := HKK.out; have := hpf.2.2.2.2.2.1; omega) (fun x hx => by
        rw [hpf.2.2.2.1, d2.loose] at hx
        simp at hx; subst hx; simp; omega) (by rw [hpf.2.2.2.1, d2.loose]; simp)).mono ?_
      rintro e w' (⟨hs, _⟩ | ⟨_, rfl, k⟩)
      · rw [(d2.live.put n c).1.stops] at hs; cases hs
      · exact ⟨rfl, k⟩)
    have HEND : Hid (∀ w', DiskStep d' fp (dm.put n c).sync w1 w' → P (.returned (.tuple #[.int .i64 (n : Nat), .int .i64 0])) w') := Lib.hid (fun w' hk => by
      obtain ⟨d1, d2, d3, d4⟩ := HD.out
      have a1 := (dm.put_fields n c).2.2.2.2.2.1
      have a2 := (dm.put n c).sync_fields.2.2.2.2.2.1
      exact HP.out _ w' (d4 _ w' (d2.repair hpm) (by omega) hk))
    clear hc o3 hcf c40 hnN HPA hpm
    go_wp2_with fail
    refine HWP.out.mono ?_
    rintro e w4 ⟨rfl, fp4, k1, k2, k3⟩
    have HS4 := Lib.hid (HSY.out w4 fp4 k1)
    have HK4 := Lib.hid (And.intro k2 k3)
    clear k1 k2 k3 HWP HSY
    go_wp2_with fail
    refine HS4.out.mono ?_
    rintro e w5 ⟨rfl, fp5, k1, k2, k3⟩
    have HF := Lib.hid (HEND.out w5 (by
      obtain ⟨j2, j3⟩ := HK4.out
      have s1 := HW3.out.size
      have s2 := j2.size
      exact ⟨fp5, k1, (((HW3.out.mono (by simp)).trans j2 (fun z hz => .inl hz))).trans k2 (fun z hz => (j3 z hz).imp_right (fun q => by omega)), fun z hz => by
        rcases k3 z hz with q | q
        · rcases j3 z q with q | q
          · exact .inl q
          · exact .inr (by omega)
        · exact .inr (by omega)⟩))
    clear k1 k2 k3 HS4 HEND
    go_wp2_with fail
    first | exact HF.out | (go_ret2; exact HF.out)
end
end Go.Proofs.YtfdgiblkllfpjaaGreatDoor

/- PoolPins: the walk. -/
set_option linter.unusedVariables false
set_option linter.unusedSimpArgs false
namespace Go.Proofs.YtfdgiblkllfpjaaGreatDoor
open Go.ChangeShapes Go.WideShapes Go.ChangeAt Go.RowKit

/-- Ints that came in: they are read, no more. -/
def ReadI (w : World) (v : Value) (l : List Int) : Prop :=
  ∃ ao cap, v = .slice ao l.length cap ∧ ∀ k (hk : k < l.length), ∃ g off, ao = some ⟨g, off, none⟩ ∧ g < w.heap.size ∧ w.cell? ⟨g, off + k, none⟩ = some (.int .i64 l[k])
theorem ReadI.off {w w' : World} {v : Value} {l : List Int} (h : ReadI w v l) (ho : Off [] w w') : ReadI w' v l := by
  obtain ⟨ao, cap, e, hc⟩ := h
  refine ⟨ao, cap, e, fun k hk => ?_⟩
  obtain ⟨g, off, e1, e2, e3⟩ := hc k hk
  exact ⟨g, off, e1, Nat.lt_of_lt_of_le e2 ho.size, by rw [World.cell?_of_block (a := ⟨g, off + k, none⟩) (ho.old g e2 (by simp))]; exact e3⟩
theorem ReadI.val {w : World} {v : Value} {l : List Int} (h : ReadI w v l) : ∃ ao cap, v = .slice ao l.length cap := by obtain ⟨a, c, e, _⟩ := h; exact ⟨a, c, e⟩
theorem ReadI.cellAt {w : World} {ao : Option Addr} {n cap : Nat} {l : List Int} (h : ReadI w (.slice ao n cap) l) {k : Nat} (hk : k < l.length) : ∃ g off, ao = some ⟨g, off, none⟩ ∧ w.cell? ⟨g, off + k, none⟩ = some (.int .i64 l[k]) := by
  obtain ⟨ao', cap', e, hc⟩ := h
  injection e with e1 e2 e3
  subst e1
  obtain ⟨g, off, q1, _, q3⟩ := hc k hk
  exact ⟨g, off, q1, q3⟩
def shm (m : Nat) : Shp := ⟨m + 1, 1, 1024⟩
theorem new8_m (m : Nat) (hm : m ≤ 14) (w : World) : Calls Tryz.prog 8 #[.agg #[.int .i64 ((m + 1 : Nat) : Int), .int .i64 1, .int .i64 1024]] w (NewPost (shm m) w) := new8 (shm m) (by unfold Shp.ok shm; simp only; omega) w
/-- The whole, played with so far. -/
def PW (w0 : World) (d g p : Nat) (c : Nat → Nat) (A m : Nat) (dm : DiskM) (w : World) : Prop := ∃ pm F, Since w0 d g p dm (newLog 0) pm F w ∧ PinsI c A m dm pm
section
variable {t : Nat → Nat} {w0 w : World} {d g p : Nat} {dm : DiskM} {c c' : Nat → Nat} {A m : Nat}
theorem PW.congr (h : PW w0 d g p c A m dm w) {A' : Nat} (hA : A ≤ A') (hc : ∀ n, n < m + 1 → c n = c' n) : PW w0 d g p c' A' m dm w := by
  obtain ⟨pm, F, h1, h2⟩ := h
  exact ⟨pm, F, h1, h2.congr hA hc⟩
theorem PW.quiet (h : PW w0 d g p c A m dm w) {w' : World} (ho : Off [] w w') : PW w0 d g p c A m dm w' := by
  obtain ⟨pm, F, h1, h2⟩ := h
  exact ⟨pm, F, h1.quiet ho, h2⟩
theorem PW.since (h : PW w0 d g p c A m dm w) : Off [] w0 w := by
  obtain ⟨pm, F, h1, h2⟩ := h
  exact h1.2.2
theorem PW.pin (ht : Tbl t w0) (h : PW w0 d g p c A m dm w) (hm : m ≤ 14) (hA : A < 1000000) (hc : ∀ n, n < m + 1 → c n < 1000000) (a : Nat) (ha : a < m + 1) (hb : ∃ b, b < m + 1 ∧ b ≠ a ∧ c b = 0) (pick : Int) :
    Calls Tryz.prog 16 #[.pointer (some ⟨p, 0, none⟩), .int .i64 (a : Int), .int .i64 pick] w (fun e w' => ∃ ao cap dm', e = .returned (.tuple #[.slice ao 40 cap, .int .i64 0]) ∧ PW w0 d g p (bump c a) (A + 1) m dm' w') := by
  obtain ⟨pm, F, h1, h2⟩ := h
  refine (pin_any ht h1 h2 hm hA hc a ha hb pick).mono ?_
  rintro e w' ⟨dm', pm', F', ao, cap, rfl, k1, k2⟩
  exact ⟨ao, cap, dm', rfl, pm', F', k1, k2⟩
theorem PW.unpin (h : PW w0 d g p c A m dm w) (a : Nat) (ha : a < m + 1) (hp : 0 < c a) :
    Calls Tryz.prog 27 #[.pointer (some ⟨p, 0, none⟩), .int .i64 (a : Int)] w (fun e w' => e = .returned (.tuple #[]) ∧ PW w0 d g p (drop1 c a) A m dm w') := by
  obtain ⟨pm, F, h1, h2⟩ := h
  refine (unpin_any h1 h2 a ha hp).mono ?_
  rintro e w' ⟨rfl, pm', F', k1, k2⟩
  exact ⟨rfl, pm', F', k1, k2⟩
theorem PW.pinNot (h : PW w0 d g p c A m dm w) (x : Nat) (hx : x < m + 1) (hc : ∀ n, n < m + 1 → n ≠ x → 0 < c n) (pick : Int) :
    Calls Tryz.prog 16 #[.pointer (some ⟨p, 0, none⟩), .int .i64 (x : Int), .int .i64 pick] w (fun e w' => e = .returned (.tuple #[.slice none 0 0, .int .i64 141]) ∧ PW w0 d g p c A m dm w') := by
  obtain ⟨pm, F, h1, h2⟩ := h
  refine (pin_not h1 h2 x hx hc pick).mono ?_
  rintro e w' ⟨rfl, k1⟩
  exact ⟨rfl, pm, F, k1, h2⟩
theorem PW.heldSome (h : PW w0 d g p c A m dm w) (hm : m ≤ 14) :
    Calls Tryz.prog 26 #[.pointer (some ⟨p, 0, none⟩)] w (fun e w' => ∃ ao n cap, n ≤ m ∧ e = .returned (.slice ao n cap) ∧ PW w0 d g p c A m dm w') := by
  obtain ⟨pm, F, h1, h2⟩ := h
  refine (held_any h1 h2 hm).mono ?_
  rintro e w' ⟨ao, cap, rfl, k1⟩
  exact ⟨ao, _, cap, h2.len, rfl, pm, F, k1, h2⟩
theorem PW.heldAll (h : PW w0 d g p c A m dm w) (hm : m ≤ 14) (x : Nat) (hx : x < m + 1) (hc : ∀ n, n < m + 1 → n ≠ x → 0 < c n) :
    Calls Tryz.prog 26 #[.pointer (some ⟨p, 0, none⟩)] w (fun e w' => ∃ ao cap, e = .returned (.slice ao m cap) ∧ PW w0 d g p c A m dm w') := by
  obtain ⟨pm, F, h1, h2⟩ := h
  obtain ⟨f1, f2, f3⟩ := h2.full hx hc
  refine (held_any h1 h2 hm).mono ?_
  rintro e w' ⟨ao, cap, rfl, k1⟩
  rw [f1]
  exact ⟨ao, cap, rfl, pm, F, k1, h2⟩
theorem PW.look (h : PW w0 d g p c A m dm w) (n : Nat) (hn : n < m + 1) (hp : 0 < c n) :
    Calls Tryz.prog 20 #[.pointer (some ⟨p, 0, none⟩), .int .i64 (n : Int)] w (fun e w' => ∃ ao cap, e = .returned (.tuple #[.slice ao 40 cap, .bool true]) ∧ PW w0 d g p c A m dm w') := by
  obtain ⟨pm, F, h1, h2⟩ := h
  refine (look_any h1 h2 n hn hp).mono ?_
  rintro e w' ⟨ao, cap, rfl, k1⟩
  exact ⟨ao, cap, rfl, pm, F, k1, h2⟩
theorem PW.lookNot (h : PW w0 d g p c A m dm w) (x : Nat) (hx : x < m + 1) (hc : ∀ n, n < m + 1 → n ≠ x → 0 < c n) :
    Calls Tryz.prog 20 #[.pointer (some ⟨p, 0, none⟩), .int .i64 (x : Int)] w (fun e w' => e = .returned (.tuple #[.slice none 0 0, .bool false]) ∧ PW w0 d g p c A m dm w') := by
  obtain ⟨pm, F, h1, h2⟩ := h
  obtain ⟨f1, f2, f3⟩ := h2.full hx hc
  refine (look_not h1 h2 x f2).mono ?_
  rintro e w' ⟨rfl, k1⟩
  exact ⟨rfl, pm, F, k1, h2⟩
theorem PW.acts (h : PW w0 d g p c A m dm w) : Calls Tryz.prog 28 #[.pointer (some ⟨d, 0, none⟩)] w fun e w' => e = .returned (.int .i64 (dm.acts : Nat)) ∧ w = w' := by
  obtain ⟨pm, F, h1, h2⟩ := h
  exact acts28 h1.1.1.1
end
theorem PW.first {w0 w3 : World} {d g p m : Nat} {D L Q : List Nat} (hW : Since w0 d g p (newDisk (shm m)).act (newLog 0) ⟨m, [], false⟩ ⟨D, L, Q⟩ w3) : PW w0 d g p (cc m 0 0 0) 1 m (newDisk (shm m)).act w3 := by
  have hl : (newDisk (shm m)).live := ⟨rfl, rfl⟩
  have hz : ∀ n, cc m 0 0 0 n = 0 := fun n => by unfold cc ring; simp
  refine ⟨_, _, hW, hl.act.1, DiskM.act_fit (newDisk_fit _), by rw [(act_shp _).1]; rfl, fun n hn => ?_, by rw [hl.act.2]; exact Nat.le_refl _, rfl, rfl, Nat.zero_le _, List.nodup_nil, fun f hf => absurd hf (List.not_mem_nil), fun n hn hp => by rw [hz] at hp; omega⟩
  rw [(newDisk (shm m)).act_fields.2.2.1]
  show (blankG (shm m))[n]? = _
  rw [blankG_at _ _ (by unfold shm; simp only; omega)]
  unfold Shp.sizeB Shp.pageB shm zA
  simp only
  rw [if_pos hn]
end Go.Proofs.YtfdgiblkllfpjaaGreatDoor
