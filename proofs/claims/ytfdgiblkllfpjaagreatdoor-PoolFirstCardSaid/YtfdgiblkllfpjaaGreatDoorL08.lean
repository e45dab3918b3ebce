/- wal: a frame put behind the tail. -/
import Derived.Test.YtfdgiblkllfpjaaGreatDoorL07
import Derived.Outline
import Derived.Ground.NamesProg
import Derived.Shelf.Sort.Plain
import Derived.Shelf.Slices.In.SortNone
import Derived.Lib.SortBridge
import Derived.RangeFuncNested
import Derived.RangeFuncFrom
import Derived.RangeFuncBound
import Derived.RangeFuncCalls
import Derived.RangeFuncLeaves
import Derived.OwnWalkIn
import Derived.TacticsInMore
import Derived.LoopNIn
import Derived.LoopIn
import Derived.Shelf.Abstract
import Derived.Shelf.RegionOpen
import Derived.RegionIn
import Derived.OwnWalk
import Derived.Deep.CutBlock
import Derived.Laws.ResultCell
import Derived.Deep.RegionHeld3
set_option linter.unusedVariables false
set_option linter.unusedSimpArgs false
namespace Go.Proofs.YtfdgiblkllfpjaaGreatDoor
open Go.ChangeShapes Go.WideShapes Go.ChangeAt Go.RowKit

def LogStep (st : Int) (g d : Nat) (fp : List Nat) (m : LogM) (w w' : World) : Prop := ∃ fp', LogS st w' g d m fp' ∧ Off fp w w' ∧ ∀ z ∈ fp', z ∈ fp ∨ w.heap.size ≤ z
theorem LogS.lt {st : Int} {w : World} {g d : Nat} {m : LogM} {fp : List Nat} (h : LogS st w g d m fp) : ∀ z ∈ fp, z < w.heap.size := by
  obtain ⟨sema, av, tv, mb, es, clk, ml, fa, h1, ⟨bs, k1, k2, k3, rfl⟩, h3, h4, h5, rfl, _⟩ := h
  intro z hz
  simp only [List.mem_cons, List.mem_append] at hz
  rcases hz with rfl | rfl | (q | q) | q
  · exact h1.lt
  · exact h4.lt
  · exact k2.lt z q
  · obtain ⟨x, hx, hz⟩ := List.mem_flatMap.1 q
    obtain ⟨i, hi, rfl⟩ := List.getElem_of_mem hx
    have hzip : (m.ents[i]'(by omega), bs[i]) ∈ m.ents.zip bs := by
      have q := List.getElem_mem (l := m.ents.zip bs) (n := i) (by rw [List.length_zip]; omega)
      rw [List.getElem_zip] at q; exact q
    exact (k3 _ hzip).lt z hz
  · exact h3.lt z q
def LogM.more (m : LogM) (f : List UInt8) : LogM := { m with bytes := m.bytes + f.length, tail := m.tail ++ f }
/-- The tail's slice is longer by a frame, and so is the number of bytes. -/
theorem LogS.more {st : Int} {w1 w2 : World} {g d : Nat} {m : LogM} {fp : List Nat} {ao ao' : Option Addr} {cap cap' : Nat} {f : List UInt8} (h : LogS st w1 g d m fp) (hc : w1.cell? ⟨g, 8, none⟩ = some (.slice ao m.tail.length cap)) (ho : Off (blk (.slice ao m.tail.length cap)) w1 w2)
    (hb : IsB w2 (.slice ao' (m.tail.length + f.length) cap') (m.tail ++ f)) (hbl : blk (.slice ao' (m.tail.length + f.length) cap') = blk (.slice ao m.tail.length cap) ∨ ∃ z, blk (.slice ao' (m.tail.length + f.length) cap') = [z] ∧ w1.heap.size ≤ z) (hby : m.bytes + f.length ≤ 65536) :
    LogStep st g d fp (m.more f) w1 ((w2.setCell ⟨g, 8, none⟩ (.slice ao' (m.tail.length + f.length) cap')).setCell ⟨g, 6, none⟩ (.int .i64 ((m.bytes + f.length : Nat) : Int))) := by
  have hlt := h.lt
  obtain ⟨sema, av, tv, mb, es, clk, ml, fa, h1, h2, h3, h4, h5, rfl, h6, h7, h8, h9, h10⟩ := h
  have htv : tv = .slice ao m.tail.length cap := by
    have q : w1.cell? ⟨g, 8, none⟩ = some tv := by rw [h1.cell]; rfl
    rw [hc] at q; injection q with q; exact q.symm
  subst htv
  obtain ⟨n1, n2⟩ := List.nodup_cons.1 h6
  obtain ⟨n3, n4⟩ := List.nodup_cons.1 n2
  obtain ⟨n5, n6, n7⟩ := List.nodup_append.1 n4
  have hgt : g ∉ blk (.slice ao m.tail.length cap) := fun hz => n1 (by simp [hz])
  have hmt : mb ∉ blk (.slice ao m.tail.length cap) := fun hz => n3 (by simp [hz])
  have hft : ∀ z ∈ fa, z ∉ blk (.slice ao m.tail.length cap) := fun z hz hz' => n7 z hz z hz' rfl
  have hd : Off [g] w2 ((w2.setCell ⟨g, 8, none⟩ (.slice ao' (m.tail.length + f.length) cap')).setCell ⟨g, 6, none⟩ (.int .i64 ((m.bytes + f.length : Nat) : Int))) := ((Off.refl [g] w2).setCell (.inl (by simp)) _).setCell (.inl (by simp)) _
  have hgm : mb ∉ [g] := fun hz => by simp at hz; exact n1 (by simp [hz])
  have hgf : ∀ z ∈ fa, z ∉ [g] := fun z hz hz' => by simp at hz'; subst hz'; exact n1 (by simp [hz])
  have hnl : ∀ z ∈ blk (.slice ao' (m.tail.length + f.length) cap'), z ∈ blk (.slice ao m.tail.length cap) ∨ w1.heap.size ≤ z := fun z hz => by
    rcases hbl with q | ⟨y, q, hy⟩ <;> rw [q] at hz
    · exact .inl hz
    · simp at hz; subst hz; exact .inr hy
  have hn : ∀ z ∈ blk (.slice ao' (m.tail.length + f.length) cap'), z ≠ g ∧ z ≠ mb ∧ z ∉ fa := fun z hz => by
    rcases hnl z hz with q | q
    · exact ⟨fun e => hgt (e ▸ q), fun e => hmt (e ▸ q), fun hz' => hft z hz' q⟩
    · refine ⟨fun e => ?_, fun e => ?_, fun hz' => ?_⟩
      · have := hlt g (by simp); omega
      · have := hlt mb (by simp); omega
      · have := hlt z (by simp [hz']); omega
  refine ⟨g :: mb :: (fa ++ blk (.slice ao' (m.tail.length + f.length) cap')), ⟨sema, av, .slice ao' (m.tail.length + f.length) cap', mb, es, clk, ml, fa, ?_, (h2.off ho hft).off hd hgf, hb.off hd (fun z hz hz' => (hn z hz).1 (by simpa using hz')), (h4.off ho hmt).off hd hgm, h5, rfl, ?_, h7, hby, ?_, ?_⟩, ?_, ?_⟩
  · have q := ((h1.off ho hgt).set 8 (.slice ao' (m.tail.length + f.length) cap')).set 6 (.int .i64 ((m.bytes + f.length : Nat) : Int))
    exact q
  · refine List.nodup_cons.2 ⟨fun hz => ?_, List.nodup_cons.2 ⟨fun hz => ?_, List.nodup_append.2 ⟨n5, blk_nodup _, fun a ha b hb' e => (hn b hb').2.2 (e ▸ ha)⟩⟩⟩
    · simp only [List.mem_cons, List.mem_append] at hz
      rcases hz with q | q | q
      · exact n1 (by simp [q])
      · exact n1 (by simp [q])
      · exact (hn g q).1 rfl
    · rcases List.mem_append.1 hz with q | q
      · exact n3 (by simp [q])
      · exact (hn mb q).2.1 rfl
  · show m.disk ≤ m.bytes + f.length; omega
  · show m.bytes + f.length = m.disk + (m.tail ++ f).length; rw [List.length_append]; omega
  · exact (ho.mono (fun z hz => .inl (by simp [hz]))).trans hd (fun z hz => .inl (by simp at hz; simp [hz]))
  · intro z hz
    simp only [List.mem_cons, List.mem_append] at hz
    rcases hz with q | q | q | q
    · exact .inl (by simp [q])
    · exact .inl (by simp [q])
    · exact .inl (by simp [q])
    · rcases hnl z q with q | q
      · exact .inl (by simp [q])
      · exact .inr q
end Go.Proofs.YtfdgiblkllfpjaaGreatDoor

/- A disk and a log's manager beside it. -/
set_option linter.unusedVariables false
set_option linter.unusedSimpArgs false
namespace Go.Proofs.YtfdgiblkllfpjaaGreatDoor
open Go.ChangeShapes Go.WideShapes Go.ChangeAt Go.RowKit

/-- The disk d and the log's manager g over it; st: the lock's word. -/
def Desk (st : Int) (w : World) (d g : Nat) (dm : DiskM) (lm : LogM) (df lf : List Nat) : Prop := DiskR w d dm df ∧ LogS st w g d lm lf ∧ ∀ z ∈ df, z ∉ lf
def DeskStep (st : Int) (d g : Nat) (df lf : List Nat) (dm : DiskM) (lm : LogM) (w w' : World) : Prop :=
  ∃ df' lf', Desk st w' d g dm lm df' lf' ∧ Off (df ++ lf) w w' ∧ (∀ z ∈ df', z ∈ df ∨ w.heap.size ≤ z) ∧ ∀ z ∈ lf', z ∈ lf ∨ w.heap.size ≤ z
section
variable {st st' : Int} {w w1 w2 : World} {d g : Nat} {dm dm1 dm2 : DiskM} {lm lm1 lm2 : LogM} {df lf : List Nat}
theorem Desk.off {S : List Nat} (h : Desk st w d g dm lm df lf) (ho : Off S w w1) (h1 : ∀ z ∈ df, z ∉ S) (h2 : ∀ z ∈ lf, z ∉ S) : Desk st w1 d g dm lm df lf := ⟨h.1.off ho h1, h.2.1.off ho h2, h.2.2⟩
theorem Desk.refl (h : Desk st w d g dm lm df lf) : DeskStep st d g df lf dm lm w w := ⟨df, lf, h, Off.refl _ _, fun z hz => .inl hz, fun z hz => .inl hz⟩
theorem Desk.quiet (h : Desk st w d g dm lm df lf) (ho : Off [] w w1) : DeskStep st d g df lf dm lm w w1 := ⟨df, lf, h.off ho (by simp) (by simp), ho.mono (by simp), fun z hz => .inl hz, fun z hz => .inl hz⟩
theorem Desk.disk (h : Desk st w d g dm lm df lf) (k : DiskStep d df dm1 w w1) : DeskStep st d g df lf dm1 lm w w1 := by
  obtain ⟨fp', k1, k2, k3⟩ := k
  have hl := h.2.1.lt
  refine ⟨fp', lf, ⟨k1, h.2.1.off k2 (fun z hz hz' => h.2.2 z hz' hz), fun z hz hz' => ?_⟩, k2.mono (fun z hz => .inl (by simp [hz])), k3, fun z hz => .inl hz⟩
  rcases k3 z hz with q | q
  · exact h.2.2 z q hz'
  · have := hl z hz'; omega
theorem Desk.log (h : Desk st w d g dm lm df lf) (k : LogStep st' g d lf lm1 w w1) : DeskStep st' d g df lf dm lm1 w w1 := by
  obtain ⟨fp', k1, k2, k3⟩ := k
  have hl := h.1.lt
  refine ⟨df, fp', ⟨h.1.off k2 h.2.2, k1, fun z hz hz' => ?_⟩, k2.mono (fun z hz => .inl (by simp [hz])), fun z hz => .inl hz, k3⟩
  rcases k3 z hz' with q | q
  · exact h.2.2 z hz q
  · have := hl z hz; omega
theorem DeskStep.trans (h : DeskStep st d g df lf dm1 lm1 w w1) (k : ∀ df1 lf1, Desk st w1 d g dm1 lm1 df1 lf1 → DeskStep st' d g df1 lf1 dm2 lm2 w1 w2) : DeskStep st' d g df lf dm2 lm2 w w2 := by
  obtain ⟨df1, lf1, h1, h2, h3, h4⟩ := h
  obtain ⟨df2, lf2, k1, k2, k3, k4⟩ := k df1 lf1 h1
  have hs := h2.size
  refine ⟨df2, lf2, k1, h2.trans k2 (fun z hz => ?_), fun z hz => ?_, fun z hz => ?_⟩
  · rcases List.mem_append.1 hz with q | q
    · rcases h3 z q with a | a
      · exact .inl (by simp [a])
      · exact .inr a
    · rcases h4 z q with a | a
      · exact .inl (by simp [a])
      · exact .inr a
  · rcases k3 z hz with q | q
    · exact h3 z q
    · exact .inr (by omega)
  · rcases k4 z hz with q | q
    · exact h4 z q
    · exact .inr (by omega)
theorem DeskStep.before (ho : Off [] w w1) (h : DeskStep st d g df lf dm1 lm1 w1 w2) : DeskStep st d g df lf dm1 lm1 w w2 := by
  obtain ⟨df1, lf1, h1, h2, h3, h4⟩ := h
  have hs := ho.size
  exact ⟨df1, lf1, h1, (ho.mono (by simp)).trans h2 (fun z hz => .inl hz), fun z hz => (h3 z hz).imp_right fun q => by omega, fun z hz => (h4 z hz).imp_right fun q => by omega⟩
theorem DeskStep.behind (h : DeskStep st d g df lf dm1 lm1 w w1) (ho : Off [] w1 w2) : DeskStep st d g df lf dm1 lm1 w w2 := h.trans (fun _ _ k => k.quiet ho)
theorem LogS.turned (h : LogS st w g d lm lf) (st' : Int) : LogStep st' g d lf lm w (w.setCell ⟨g, 0, none⟩ (.int .i32 st')) := by
  obtain ⟨p1, p2⟩ := h.turn st'
  have hg : g ∈ lf := by obtain ⟨_, _, _, _, _, _, _, _, _, _, _, _, _, rfl, _⟩ := h; simp
  exact ⟨lf, p1, p2.mono (fun z hz => .inl (by simp at hz; rw [hz]; exact hg)), fun z hz => .inl hz⟩
theorem LogStep.trans {fp : List Nat} {m m' : LogM} (h : LogStep st g d fp m w w1) (k : ∀ fp1, LogS st w1 g d m fp1 → LogStep st' g d fp1 m' w1 w2) : LogStep st' g d fp m' w w2 := by
  obtain ⟨fp1, h1, h2, h3⟩ := h
  obtain ⟨fp2, k1, k2, k3⟩ := k fp1 h1
  have hs := h2.size
  refine ⟨fp2, k1, h2.trans k2 h3, fun z hz => ?_⟩
  rcases k3 z hz with q | q
  · exact h3 z q
  · exact .inr (by omega)
theorem LogS.quiet (h : LogS st w g d lm lf) (ho : Off [] w w1) : LogStep st g d lf lm w w1 := ⟨lf, h.off ho (by simp), ho.mono (by simp), fun z hz => .inl hz⟩
theorem LogStep.behind {fp : List Nat} {m : LogM} (h : LogStep st g d fp m w w1) (ho : Off [] w1 w2) : LogStep st g d fp m w w2 := h.trans (fun _ k => k.quiet ho)
theorem LogStep.before {fp : List Nat} {m : LogM} (ho : Off [] w w1) (h : LogStep st g d fp m w1 w2) : LogStep st g d fp m w w2 := by
  obtain ⟨fp1, h1, h2, h3⟩ := h
  have hs := ho.size
  exact ⟨fp1, h1, (ho.mono (by simp)).trans h2 (fun z hz => .inl hz), fun z hz => (h3 z hz).imp_right fun q => by omega⟩
end
end Go.Proofs.YtfdgiblkllfpjaaGreatDoor

/- wal: met, trim where the disk's log is as long as it must be. -/
set_option linter.unusedVariables false
set_option linter.unusedSimpArgs false
namespace Go.Proofs.YtfdgiblkllfpjaaGreatDoor
open Go.ChangeShapes Go.WideShapes Go.ChangeAt Go.RowKit

/-- One cell of the manager's own turned. -/
theorem LogS.head {st : Int} {w : World} {g d : Nat} {m m' : LogM} {fp : List Nat} (h : LogS st w g d m fp) (j : Nat) (u : Value) (hc : ∀ sema av tv mb, (logC st m d sema av tv mb).setIfInBounds j u = logC st m' d sema av tv mb)
    (e1 : m'.ents = m.ents) (e2 : m'.tail = m.tail) (e3 : m'.base ≤ 1152921504606715904 ∧ m'.bytes ≤ 65536 ∧ m'.disk ≤ m'.bytes ∧ m'.bytes = m'.disk + m'.tail.length) : LogStep st g d fp m' w (w.setCell ⟨g, j, none⟩ u) := by
  obtain ⟨sema, av, tv, mb, es, clk, ml, fa, h1, h2, h3, h4, h5, rfl, h6, h7⟩ := h
  have ho : Off [g] w (w.setCell ⟨g, j, none⟩ u) := (Off.refl [g] w).setCell (.inl (by simp)) _
  obtain ⟨n1, n2⟩ := List.nodup_cons.1 h6
  have hin : ∀ z, z ∈ mb :: (fa ++ blk tv) → z ∉ [g] := fun z hz hz' => by simp at hz'; subst hz'; exact n1 hz
  refine ⟨g :: mb :: (fa ++ blk tv), ⟨sema, av, tv, mb, es, clk, ml, fa, ?_, by rw [e1]; exact h2.off ho (fun z hz => hin z (by simp [hz])), by rw [e2]; exact h3.off ho (fun z hz => hin z (by simp [hz])), h4.off ho (hin mb (by simp)), h5, rfl, h6, e3⟩, ho.mono (fun z hz => .inl (by simp at hz; simp [hz])), fun z hz => .inl hz⟩
  have q := h1.set j u
  rw [hc] at q; exact q
def LogM.met (m : LogM) (e : Int) : LogM := { m with dead := m.dead || (e == 1) }
def MetPost (st : Int) (g d : Nat) (fp : List Nat) (m : LogM) (e0 : Int) (w : World) (e : Ending) (w' : World) : Prop := e = .returned (.int .i64 e0) ∧ LogStep st g d fp (m.met e0) w w'
theorem LogS.sized {st : Int} {w : World} {g d : Nat} {m : LogM} {fp : List Nat} (h : LogS st w g d m fp) : m.base ≤ 1152921504606715904 ∧ m.bytes ≤ 65536 ∧ m.disk ≤ m.bytes ∧ m.bytes = m.disk + m.tail.length := by
  obtain ⟨_, _, _, _, _, _, _, _, _, _, _, _, _, _, _, h⟩ := h; exact h
set_option maxRecDepth 100000 in
set_option maxHeartbeats 2000000 in
theorem met151x {st : Int} {w : World} {g d : Nat} {m : LogM} {fp : List Nat} (h : LogS st w g d m fp) (e0 : Int) :
    Calls Tryz.prog 151 #[.pointer (some ⟨g, 0, none⟩), .int .i64 e0] w fun e w' => e = .returned (.int .i64 e0) ∧ w' = w.setCell ⟨g, 9, none⟩ (.bool (m.dead || (e0 == 1))) := by
  obtain ⟨_, _, _, _, _, k9, kf⟩ := h.cells
  obtain ⟨P, hP⟩ : ∃ P : Ending → World → Prop, P = fun e w' => e = .returned (.int .i64 e0) ∧ w' = w.setCell ⟨g, 9, none⟩ (.bool (m.dead || (e0 == 1))) := ⟨_, rfl⟩
  have HF : Hid (P (.returned (.int .i64 e0)) (w.setCell ⟨g, 9, none⟩ (.bool (m.dead || (e0 == 1))))) := Lib.hid (by rw [hP]; exact ⟨rfl, rfl⟩)
  rw [← hP]
  clear hP h
  generalize m.dead = dd at *
  cases dd
  · simp only [Bool.false_or] at HF
    cases he : (e0 == 1)
    all_goals
      rw [he] at HF
      go_enter Tryz.func151, Tryz.ntmps151
      go_wp2_with fail
      exact HF.out
  · simp only [Bool.true_or] at HF
    go_enter Tryz.func151, Tryz.ntmps151
    go_wp2_with fail
    exact HF.out
theorem LogS.metAt {st : Int} {w : World} {g d : Nat} {m : LogM} {fp : List Nat} (h : LogS st w g d m fp) (e0 : Int) : LogStep st g d fp (m.met e0) w (w.setCell ⟨g, 9, none⟩ (.bool (m.dead || (e0 == 1)))) := h.head (m' := m.met e0) 9 _ (fun _ _ _ _ => rfl) rfl rfl h.sized
theorem met151 {st : Int} {w : World} {g d : Nat} {m : LogM} {fp : List Nat} (h : LogS st w g d m fp) (e0 : Int) :
    Calls Tryz.prog 151 #[.pointer (some ⟨g, 0, none⟩), .int .i64 e0] w (MetPost st g d fp m e0 w) := (met151x h e0).mono (fun e w' ⟨h1, h2⟩ => ⟨h1, by rw [h2]; exact h.metAt e0⟩)
set_option maxRecDepth 100000 in
set_option maxHeartbeats 2000000 in
theorem trim150 {st : Int} {w : World} {d g : Nat} {dm : DiskM} {lm : LogM} {df lf : List Nat} (h : Desk st w d g dm lm df lf) (ht : dm.log.length = lm.disk) :
    Calls Tryz.prog 150 #[.pointer (some ⟨g, 0, none⟩)] w fun e w' => e = .returned (.int .i64 0) ∧ Off [] w w' := by
  obtain ⟨_, k2, _, _, k7, _, _⟩ := h.2.1.cells
  have HL : Hid (∀ W, Off [] w W → Calls Tryz.prog 216 #[.pointer (some ⟨d, 0, none⟩)] W fun e w' => e = .returned (.int .i64 (lm.disk : Nat)) ∧ W = w') := Lib.hid (fun W ho => by
    have q := logLen216 (h.1.off ho (by simp)); rw [ht] at q; exact q)
  clear h ht
  generalize lm.disk = n at *
  have HO := Lib.hid (Off.refl [] w)
  go_enter Tryz.func150, Tryz.ntmps150
  go_wp2_with fail
  go_quiet ((go_at_call 216; exact Calls.quiet_of_same ((HL.out _ (by first | exact HO.out | exact HO.out.drew | exact HO.out.drewN _)).mono (fun e w' hh => ⟨hh.1, hh.2.symm⟩))))
  go_wp2_with fail
  go_ret
  exact ⟨rfl, HO.out.drewN _⟩
end Go.Proofs.YtfdgiblkllfpjaaGreatDoor

/- slices.Sort of a slice of ints that is its own, by the contract of the shelf, in plain declarations (written by lay-plain.mjs). -/
namespace Go.Proofs
open Go.Shelf
def Tryz.laysSort_ren : Go.Shelf.Ren := ⟨fun | 189 => 125 | 125 => 193 | 257 => 192 | 128 => 241 | 129 => 242 | 294 => 232 | 295 => 233 | 296 => 234 | 297 => 235 | 298 => 236 | 299 => 237 | 216 => 238 | 300 => 239 | 301 => 240 | 328 => 265 | 329 => 266 | 330 => 267 | 331 => 268 | 332 => 269 | 215 => 270 | 343 => 278 | n => n, fun | 28 => 57 | 3 => 3 | 46 => 232 | 0 => 0 | 51 => 110 | 53 => 185 | 4 => 4 | 183 => 274 | 182 => 273 | 131 => 278 | 5 => 5 | 9 => 9 | 218 => 299 | 222 => 303 | 228 => 307 | 229 => 170 | n => n, fun | n => n⟩
theorem Tryz.laysSort : Go.Proofs.Lays.n189 Tryz.prog Tryz.laysSort_ren := {
  mixed := by kernel_rfl
  f125 := Tryz.func193.trans (congrArg some (by kernel_rfl))
  f128 := Tryz.func241.trans (congrArg some (by kernel_rfl))
  f129 := Tryz.func242.trans (congrArg some (by kernel_rfl))
  f189 := Tryz.func125.trans (congrArg some (by kernel_rfl))
  f215 := Tryz.func270.trans (congrArg some (by kernel_rfl))
  f216 := Tryz.func238.trans (congrArg some (by kernel_rfl))
  f257 := Tryz.func192.trans (congrArg some (by kernel_rfl))
  f294 := Tryz.func232.trans (congrArg some (by kernel_rfl))
  f295 := Tryz.func233.trans (congrArg some (by kernel_rfl))
  f296 := Tryz.func234.trans (congrArg some (by kernel_rfl))
  f297 := Tryz.func235.trans (congrArg some (by kernel_rfl))
  f298 := Tryz.func236.trans (congrArg some (by kernel_rfl))
  f299 := Tryz.func237.trans (congrArg some (by kernel_rfl))
  f300 := Tryz.func239.trans (congrArg some (by kernel_rfl))
  f301 := Tryz.func240.trans (congrArg some (by kernel_rfl))
  f328 := Tryz.func265.trans (congrArg some (by kernel_rfl))
  f329 := Tryz.func266.trans (congrArg some (by kernel_rfl))
  f330 := Tryz.func267.trans (congrArg some (by kernel_rfl))
  f331 := Tryz.func268.trans (congrArg some (by kernel_rfl))
  f332 := Tryz.func269.trans (congrArg some (by kernel_rfl))
  f343 := Tryz.func278.trans (congrArg some (by kernel_rfl))
  t0 := Tryz.underlying0
  a0 := Tryz.isAgg0
  z0 := Tryz.sizeOf0
  v0 := Tryz.zeroValue0
  t3 := Tryz.underlying3
  a3 := Tryz.isAgg3
  z3 := Tryz.sizeOf3
  v3 := Tryz.zeroValue3
  t4 := Tryz.underlying4
  a4 := Tryz.isAgg4
  z4 := Tryz.sizeOf4
  v4 := Tryz.zeroValue4
  t5 := Tryz.underlying5
  a5 := Tryz.isAgg5
  z5 := Tryz.sizeOf5
  v5 := Tryz.zeroValue5
  t9 := Tryz.underlying9
  a9 := Tryz.isAgg9
  z9 := Tryz.sizeOf9
  v9 := Tryz.zeroValue9
  t28 := Tryz.underlying57
  a28 := Tryz.isAgg57
  z28 := Tryz.sizeOf57
  v28 := Tryz.zeroValue57
  t46 := Tryz.underlying232
  a46 := Tryz.isAgg232
  z46 := Tryz.sizeOf232
  v46 := Tryz.zeroValue232
  t51 := Tryz.underlying110
  a51 := Tryz.isAgg110
  z51 := Tryz.sizeOf110
  v51 := Tryz.zeroValue110
  t53 := Tryz.underlying185
  a53 := Tryz.isAgg185
  z53 := Tryz.sizeOf185
  v53 := Tryz.zeroValue185
  t131 := Tryz.underlying278
  a131 := Tryz.isAgg278
  z131 := Tryz.sizeOf278
  v131 := Tryz.zeroValue278
  t182 := Tryz.underlying273
  a182 := Tryz.isAgg273
  z182 := Tryz.sizeOf273
  v182 := Tryz.zeroValue273
  t183 := Tryz.underlying274
  a183 := Tryz.isAgg274
  z183 := Tryz.sizeOf274
  v183 := Tryz.zeroValue274
  t218 := Tryz.underlying299
  a218 := Tryz.isAgg299
  z218 := Tryz.sizeOf299
  v218 := Tryz.zeroValue299
  t222 := Tryz.underlying303
  a222 := Tryz.isAgg303
  z222 := Tryz.sizeOf303
  v222 := Tryz.zeroValue303
  t228 := Tryz.underlying307
  a228 := Tryz.isAgg307
  z228 := Tryz.sizeOf307
  v228 := Tryz.zeroValue307
  t229 := Tryz.underlying170
  a229 := Tryz.isAgg170
  z229 := Tryz.sizeOf170
  v229 := Tryz.zeroValue170 }
end Go.Proofs

/- scan: All of an empty log. -/
set_option linter.unusedVariables false
set_option linter.unusedSimpArgs false
namespace Go.Proofs.YtfdgiblkllfpjaaGreatDoor
open Go.ChangeShapes Go.WideShapes Go.ChangeAt Go.RowKit

set_option maxRecDepth 100000 in
set_option maxHeartbeats 2000000 in
theorem open222_nil (v : Value) (lsn : Nat) (w : World) (h : IsB w v []) (h1 : 1 ≤ lsn) (h2 : lsn ≤ 1152921504606846976) :
    Calls Tryz.prog 222 #[v, .int .i64 (lsn : Int)] w fun e w' => e = .returned (.tuple #[.slice none 0 0, .int .i64 0, .int .i64 80]) ∧ Off [] w w' := by
  have HG := Lib.hid (get129 v [] w h (by simp))
  rw [show getN 4 [] = 0 from rfl, show getE 4 [] = 10 from rfl] at HG
  have HS : Hid (∀ W, Calls Tryz.prog 121 #[.int .i64 0] W fun e w' => e = .returned (.int .i64 0) ∧ W = w') := Lib.hid (fun W => size121 0 W)
  have HI : Hid (∀ W, Calls Tryz.prog 122 #[.int .i64 (lsn : Int)] W fun e w' => e = .returned (.bool true) ∧ W = w') := Lib.hid (fun W => by
    have q := isLsn122 (lsn : Int) W
    rw [decide_eq_true (by omega)] at q; exact q)
  clear h h1 h2
  go_enter Tryz.func222, Tryz.ntmps222
  go_wp2_with fail
  refine HG.out.mono ?_
  rintro e w1 ⟨rfl, rfl⟩
  go_wp2_with fail
  refine (HS.out _).mono ?_
  rintro e w1 ⟨rfl, rfl⟩
  go_wp2_with fail
  refine (HI.out _).mono ?_
  rintro e w1 ⟨rfl, rfl⟩
  go_wp2_with fail
  go_ret3
  exact ⟨rfl, by first | exact Off.refl _ _ | exact (Off.refl _ _).drew | exact (Off.refl _ _).drewN _⟩

def found0 : Array Value := #[.int .i64 0, .int .i64 0, .int .i64 0, .int .i64 0, .int .i64 0, .int .i64 0, .int .i64 0, .int .i64 0, .slice none 0 0, .slice none 0 0, .int .i64 0, .slice none 0 0, .slice none 0 0]
set_option maxRecDepth 100000 in
set_option maxHeartbeats 2000000 in
theorem next170_nil (ao : Option Addr) (cap : Nat) (base : Nat) (w : World) (h : IsB w (.slice ao 0 cap) []) (h2 : base < 1152921504606846976) :
    Calls Tryz.prog 170 #[.slice ao 0 cap, .int .i64 (base : Int), .int .i64 0] w fun e w' => e = .returned (.tuple #[.agg found0, .bool false]) ∧ Off [] w w' := by
  obtain ⟨a2, c2, b2, _, l2, _, r2, _⟩ := h.cut 0 0 (by omega) (Nat.le_refl _)
  rw [show List.take (0 - 0) (List.drop 0 ([] : List UInt8)) = [] from rfl] at b2
  have HR2 := Lib.hid r2
  have q2 : ∀ W, (Instr.slice 22 (.slice ao 0 cap) (some (.int .i64 0)) none none).run Tryz.prog W = .ok (.slice a2 0 c2) W := fun W => HR2.out rfl W 0 rfl
  have HO : Hid (∀ W, Off [] w W → Calls Tryz.prog 222 #[.slice a2 0 c2, .int .i64 ((base : Int) + 1)] W fun e w' => e = .returned (.tuple #[.slice none 0 0, .int .i64 0, .int .i64 80]) ∧ Off [] W w') := Lib.hid (fun W ho => by
    have q := open222_nil _ (base + 1) W (b2.off ho (by simp)) (by omega) (by omega)
    rw [show (((base + 1 : Nat)) : Int) = (base : Int) + 1 by omega] at q; exact q)
  have w0 : wrap64 (base : Int) = (base : Int) := by unfold wrap64; omega
  have w1 : wrap64 ((base : Int) + 1) = (base : Int) + 1 := by unfold wrap64; omega
  clear h b2 r2 l2 HR2
  have hb : base < 1152921504606846976 := h2
  clear h2
  have HB := Lib.hid hb
  clear hb
  go_enter Tryz.func170, Tryz.ntmps170
  go_wp2_with fail
  refine (HO.out _ ((Off.refl [] w).alloc _)).mono ?_
  rintro e w1 ⟨rfl, ho1⟩
  have hi := IsC.off (S := []) (IsC.new w found0 122) ho1 (by simp)
  have HOW := Lib.hid (((Off.refl [] w).alloc (.cells found0 122)).trans ho1 (by simp))
  have HI := Lib.hid hi
  clear ho1
  have hf : ∀ o, w1.frozen? ⟨w.heap.size, o, none⟩ = false := fun o => hi.unfrozen o
  have k0 := hi.cell 0
  have k1 := hi.cell 1
  have k2 := hi.cell 2
  have k3 := hi.cell 3
  have k4 := hi.cell 4
  have k5 := hi.cell 5
  have k6 := hi.cell 6
  have k7 := hi.cell 7
  have k8 := hi.cell 8
  have k9 := hi.cell 9
  have k10 := hi.cell 10
  have k11 := hi.cell 11
  have k12 := hi.cell 12
  simp only [found0, List.getElem?_toArray, List.getElem?_cons_zero, List.getElem?_cons_succ] at k0 k1 k2 k3 k4 k5 k6 k7 k8 k9 k10 k11 k12
  clear hi
  have HFIN : Hid (∀ W, Off [w.heap.size] w1 W → Off [] w W) := Lib.hid (fun W ho => HOW.out.trans ho (fun z hz => .inr (by simp at hz; omega)))
  generalize w.heap.size = rb at *
  go_wp2_with fail
  refine bodyPost_ret (v := .tuple #[.agg found0, .bool false]) (by rw [results_cell_tmp rfl]; go_simp; try rfl) rfl ?_
  refine ⟨rfl, HFIN.out _ ?_⟩
  iterate 13 refine Off.setCell ?_ (.inl (by simp)) _
  exact Off.refl _ _
set_option maxRecDepth 100000 in
set_option maxHeartbeats 2000000 in
theorem frames169_nil (l bb lb : Nat) (ao : Option Addr) (cap : Nat) (base : Nat) (w : World) (hb : IsC w bb #[.int .i64 (base : Nat)] 3) (hl : IsC w lb #[.slice ao 0 cap] 22) (h : IsB w (.slice ao 0 cap) []) (h2 : base < 1152921504606846976) :
    Calls Tryz.prog 169 #[.func (.yield l) #[] #[], .pointer (some ⟨bb, 0, none⟩), .pointer (some ⟨lb, 0, none⟩)] w fun e w' => (∃ v, e = .returned v) ∧ Off [] w w' := by
  have k0 := hb.cell 0
  have k1 := hl.cell 0
  simp only [List.getElem?_toArray, List.getElem?_cons_zero] at k0 k1
  have HN := Lib.hid (next170_nil ao cap base w h h2)
  have b1 : ¬ ((base : Int) < 0) := by omega
  have b2 : ¬ (1152921504606846976 < (base : Int)) := by omega
  clear hb hl h h2
  unfold found0 at HN
  go_enter Tryz.func169, Tryz.ntmps169
  go_wp2_with fail
  go_loopw [4] (fun i wr => i = .int .i64 0 ∧ w = wr) (fun _ _ => 0)
  case atStart => exact ⟨rfl, rfl⟩
  case round =>
    obtain ⟨rfl, rfl⟩ := hrel
    go_wp2_with fail
    refine HN.out.mono ?_
    rintro e w1 ⟨rfl, ho1⟩
    have HO1 := Lib.hid ho1
    clear ho1
    go_wp2_with fail
    refine bodyPost_ret (results_none rfl _ _ _) rfl ?_
    exact ⟨⟨_, rfl⟩, HO1.out.trans ((Off.refl [] w1).alloc _) (by simp)⟩
theorem Off.grown0 {w w' : World} (h : Off [] w w') : w.grownBy w' none :=
  ⟨h.os, h.tape, h.output, h.size, fun k hk _ => h.old k hk (by simp)⟩
theorem stops169 (n bb lb : Nat) (ao : Option Addr) (cap : Nat) (base : Nat) (w : World) (hb : IsC w bb #[.int .i64 (base : Nat)] 3) (hl : IsC w lb #[.slice ao 0 cap] 22) (h : IsB w (.slice ao 0 cap) []) (h2 : base < 1152921504606846976) :
    SeqStopsK (α := Empty) Fence.wide n Tryz.prog 169 #[.pointer (some ⟨bb, 0, none⟩), .pointer (some ⟨lb, 0, none⟩)] (fun x => x.elim) (Below w.heap.size) (fun xs => xs = []) (fun _ => False) 0 w := by
  intro l J Jx W hW hJ hJx hY h0
  have ho : Off [] w W := ⟨hW.os, hW.tape, hW.output, hW.size, fun k hk _ => hW.block k hk⟩
  refine callsIn_wide.2 ((frames169_nil l bb lb ao cap base W (hb.off ho (by simp)) (hl.off ho (by simp)) (h.off ho (by simp)) h2).mono ?_)
  rintro e W' ⟨he, hoW⟩
  exact ⟨he, .inl ⟨[], rfl, hJ [] W W' none h0 hoW.grown0 (fun r e => by cases e)⟩⟩
set_option maxRecDepth 100000 in
set_option maxHeartbeats 2000000 in
theorem Below.offN {w W : World} (h : Below w.heap.size w W) : Off [] w W := ⟨h.os, h.tape, h.output, h.size, fun k hk _ => h.block k hk⟩
theorem frames112 (ao : Option Addr) (n cap : Nat) (base : Nat) (w : World) :
    Calls Tryz.prog 112 #[.slice ao n cap, .int .i64 (base : Nat)] w fun e w' => e = .returned (.func (.func 169) #[] #[.pointer (some ⟨w.heap.size + 1, 0, none⟩), .pointer (some ⟨w.heap.size, 0, none⟩)]) ∧ w' = (w.alloc (.cells #[.slice ao n cap] 22)).alloc (.cells #[.int .i64 (base : Nat)] 3) := by
  go_enter Tryz.func112, Tryz.ntmps112
  go_wp2_with fail
  go_ret
  exact ⟨rfl, rfl⟩
attribute [local go_sem] Oper.semAt_some
set_option maxRecDepth 100000 in
set_option maxHeartbeats 2000000 in
theorem all52_nil (ao : Option Addr) (cap : Nat) (base : Nat) (w : World) (h : IsB w (.slice ao 0 cap) []) (h2 : base < 1152921504606846976) :
    Calls Tryz.prog 52 #[.slice ao 0 cap, .int .i64 (base : Nat)] w fun e w' => e = .returned (.tuple #[.slice none 0 0, .int .i64 0]) ∧ Off [] w w' := by
  refine (callsIn_wide (n := 5)).1 ?_
  have h1 : 1 ≤ 5 := by omega
  have HF : Hid (∀ W, Calls Tryz.prog 112 #[.slice ao 0 cap, .int .i64 (base : Nat)] W fun e w' => e = .returned (.func (.func 169) #[] #[.pointer (some ⟨W.heap.size + 1, 0, none⟩), .pointer (some ⟨W.heap.size, 0, none⟩)]) ∧ w' = (W.alloc (.cells #[.slice ao 0 cap] 22)).alloc (.cells #[.int .i64 (base : Nat)] 3)) := Lib.hid (fun W => frames112 _ _ _ base W)
  refine callsIn_of_wp_marks Tryz.func52 rfl trivial ?_ rfl
  simp only [Tryz.ntmps52, List.size_toArray, List.length_cons, List.length_nil, Nat.reduceAdd, Nat.reduceSub, Array.replicate_succ, Array.replicate_zero, List.push_toArray, List.append_toArray, List.nil_append, List.cons_append]
  gi_wp2_with (refine ⟨trivial, ?_⟩; gi_at_call 112; refine (callsIn_wide.2 (HF.out _)).mono ?_; rintro e w' ⟨rfl, rfl⟩)
  obtain ⟨W0, hW0⟩ : ∃ W0, W0 = (((w.alloc (.cells #[.slice none 0 0] 118)).alloc (.cells #[.int .i64 0] 3)).alloc (.cells #[.slice ao 0 cap] 22)).alloc (.cells #[.int .i64 (base : Nat)] 3) := ⟨_, rfl⟩
  rw [← hW0]
  have hsz : W0.heap.size = w.heap.size + 4 := by rw [hW0]; simp
  have ho : Off [] w W0 := by rw [hW0]; exact ((((Off.refl [] w).alloc _).alloc _).alloc _).alloc _
  have i0 : IsC W0 w.heap.size #[.slice none 0 0] 118 := by rw [hW0]; exact (((IsC.new w _ 118).alloc _).alloc _).alloc _
  have i1 : IsC W0 (w.heap.size + 1) #[.int .i64 0] 3 := by rw [hW0]; exact ((IsC.newAt _ (by simp)).alloc _).alloc _
  have i2 : IsC W0 (w.heap.size + 1 + 1) #[.slice ao 0 cap] 22 := by rw [hW0]; exact (IsC.newAt _ (by simp)).alloc _
  have i3 : IsC W0 (w.heap.size + 1 + 1 + 1) #[.int .i64 (base : Nat)] 3 := by rw [hW0]; exact IsC.newAt _ (by simp)
  have hB0 : Below w.heap.size w W0 := ⟨ho.os, ho.tape, ho.output, ho.size, fun k hk => ho.old k hk (by simp)⟩
  clear hW0
  refine wpIn_rangeFunc_ownF rfl h1 (gf := 169) (lb := #[.pointer (some ⟨w.heap.size + 1 + 1 + 1, 0, none⟩), .pointer (some ⟨w.heap.size + 1 + 1, 0, none⟩)]) rfl trivial (enters_of Tryz.func169 (by kernel_rfl) rfl)
    (stops169 4 _ _ ao cap base W0 i3 i2 (h.off ho (by simp)) h2) belowK_t (belowK_b (Nat.le_refl _)) (Below.refl _ _) (fun x => x.elim)
    (fun pre W => (W.cell? ⟨w.heap.size, 0, none⟩ = some (.slice none 0 0) ∧ W.cell? ⟨w.heap.size + 1, 0, none⟩ = some (.int .i64 0)) ∧ Below w.heap.size w W)
    (fun _ _ _ => False)
    (OwnFrom.and (Own.from (fun s A B row hs hg hr => ⟨cell_kept hs.1 hg hr, cell_kept hs.2 hg hr⟩) _) (ownFrom_below (Nat.le_refl _) (by omega)))
    (fun _ _ _ _ _ hs _ _ => hs)
    ⟨⟨by rw [i0.cell]; rfl, by rw [i1.cell]; rfl⟩, hB0⟩
    (fun x => x.elim) ?assign ?body ?done ?stop
  case assign => intro l x; exact x.elim
  case body => intro l pre x; exact x.elim
  case stop =>
    rintro D c pre W _ _ h _
    exact h.elim
  case done =>
    rintro D ys W hD rfl ⟨⟨hc, hn⟩, hB⟩ hK
    gi_wp2
    gi_region
    all_goals (try gi_wp2)
    refine ⟨by simp, .inl ⟨_, _, rfl, run_takeDeferred (show W.drew.heap[D]? = some (.deferred (some [])) from hK), ?_⟩⟩
    exact ⟨_, results_tmp2 rfl _ _ _, rfl, Below.offN (hB.trans ((Below.refl _ W).drew.trans (belowK_b (w := w) (Nat.le_refl _) W.drew D _ _ (by omega) hK rfl rfl)))⟩
end Go.Proofs.YtfdgiblkllfpjaaGreatDoor

/- wal: Open over an empty log. -/
set_option linter.unusedVariables false
set_option linter.unusedSimpArgs false
namespace Go.Proofs.YtfdgiblkllfpjaaGreatDoor
open Go.ChangeShapes Go.WideShapes Go.ChangeAt Go.RowKit

theorem field28_2 (a b c : Value) (W : World) : (Instr.field 28 (.agg #[a, b, c]) 2).run Tryz.prog W = .ok c W := by kernel_rfl
theorem field28_1 (a b c : Value) (W : World) : (Instr.field 28 (.agg #[a, b, c]) 1).run Tryz.prog W = .ok b W := by kernel_rfl
theorem field28_0 (a b c : Value) (W : World) : (Instr.field 28 (.agg #[a, b, c]) 0).run Tryz.prog W = .ok a W := by kernel_rfl
set_option maxHeartbeats 1000000 in
theorem may49 (base : Nat) (hb : base ≤ 1152921504606715904) (w : World) : Calls Tryz.prog 49 #[.int .i64 (base : Nat)] w fun e w' => e = .returned (.bool true) ∧ w = w' := by
  have h1 : (0 : Int) ≤ (base : Int) := by omega
  have h2 : (base : Int) ≤ 1152921504606715904 := by omega
  clear hb
  go_enter Tryz.func49, Tryz.ntmps49
  go_wp2
  go_ret
  exact ⟨rfl, rfl⟩
def newLog (base : Nat) : LogM := ⟨base, [], 0, 0, [], false⟩
def OpenPost (d : Nat) (fp : List Nat) (m : DiskM) (base : Nat) (w : World) (e : Ending) (w' : World) : Prop :=
  ∃ g fl, e = .returned (.tuple #[.pointer (some ⟨g, 0, none⟩), .int .i64 0]) ∧ LogR w' g d (newLog base) fl ∧ DiskKeep d fp m.act w w' ∧ ∀ z ∈ fl, w.heap.size ≤ z
theorem open_end {w w1 w2 : World} {d : Nat} {fp : List Nat} {m : DiskM} {base : Nat} (hb : base ≤ 1152921504606715904) (hk : DiskKeep d fp m.act w w1)
    (o : Off [w1.heap.size + 1] ((w1.alloc (.map #[] 0)).alloc (.cells (logC 0 (newLog base) d 0 (.slice none 0 0) (.slice none 0 0) w1.heap.size) 117)) w2)
    (hg : IsC w2 (w1.heap.size + 1) (logC 0 (newLog base) d 0 (.slice none 0 0) (.slice none 0 0) w1.heap.size) 117) :
    OpenPost d fp m base w (.returned (.tuple #[.pointer (some ⟨w1.heap.size + 1, 0, none⟩), .int .i64 0])) w2 := by
  have oa : Off [] w1 ((w1.alloc (.map #[] 0)).alloc (.cells (logC 0 (newLog base) d 0 (.slice none 0 0) (.slice none 0 0) w1.heap.size) 117)) := ((Off.refl [] w1).alloc _).alloc _
  have ot : Off [] w1 w2 := oa.trans o (fun z hz => .inr (by simp at hz; omega))
  have hs := hk.2.size
  refine ⟨w1.heap.size + 1, [w1.heap.size + 1, w1.heap.size], rfl, ⟨0, .slice none 0 0, .slice none 0 0, w1.heap.size, #[], 0, [], [], hg, ⟨[], rfl, by exact Own.nil _ _ _, by simp [newLog], by simp [blk]⟩, IsB.nil _, ?_, Ent.nil, by simp [blk], by simp, hb, by simp [newLog], by simp [newLog], by simp [newLog]⟩, hk.behind ot, ?_⟩
  · have hm : IsM (w1.alloc (.map #[] 0)) w1.heap.size #[] 0 := heap_alloc_new w1 _
    exact (IsM.alloc _ hm).off o (by simp)
  · intro z hz
    simp at hz
    rcases hz with rfl | rfl <;> omega
set_option maxRecDepth 100000 in
set_option maxHeartbeats 2000000 in
theorem open11_nil {w : World} {d : Nat} {m : DiskM} {fp : List Nat} (h : DiskR w d m fp) (ha : m.acts < 4611686018427387904) (hs : m.stops = false) (hl : m.log = []) (base : Nat) (hb : base ≤ 1152921504606715904) :
    Calls Tryz.prog 11 #[.pointer (some ⟨d, 0, none⟩), .int .i64 (base : Nat)] w (OpenPost d fp m base w) := by
  have HM : Hid (∀ W, Calls Tryz.prog 49 #[.int .i64 (base : Nat)] W fun e w' => e = .returned (.bool true) ∧ W = w') := Lib.hid (fun W => may49 base hb W)
  have HSH := Lib.hid (shape51 h)
  obtain ⟨⟨_, _, _, _, _, hlog⟩, _⟩ := h.ok
  have HR : Hid (∀ W, Off [] w W → Calls Tryz.prog 50 #[.pointer (some ⟨d, 0, none⟩), .int .i64 0, .int .i64 (m.shp.log : Nat)] W (ReadPost d fp m m.log W)) := Lib.hid (fun W ho => readLog50 (h.off ho (by simp)) ha _ (by omega) (by rw [hl]; simp))
  have HEND : Hid (∀ wa w1 w2, Off [] w wa → DiskKeep d fp m.act wa w1 → Off [w1.heap.size + 1] ((w1.alloc (.map #[] 0)).alloc (.cells (logC 0 (newLog base) d 0 (.slice none 0 0) (.slice none 0 0) w1.heap.size) 117)) w2 →
      IsC w2 (w1.heap.size + 1) (logC 0 (newLog base) d 0 (.slice none 0 0) (.slice none 0 0) w1.heap.size) 117 →
      OpenPost d fp m base w (.returned (.tuple #[.pointer (some ⟨w1.heap.size + 1, 0, none⟩), .int .i64 0])) w2) := Lib.hid (fun wa w1 w2 o1 o2 o3 o4 => open_end hb ⟨o2.1, (o1.mono (by simp)).trans o2.2 (fun z hz => .inl hz)⟩ o3 o4)
  have HAL : Hid (∀ W ao cap, IsB W (.slice ao 0 cap) [] → Calls Tryz.prog 52 #[.slice ao 0 cap, .int .i64 (base : Nat)] W fun e w' => e = .returned (.tuple #[.slice none 0 0, .int .i64 0]) ∧ Off [] W w') := Lib.hid (fun W ao cap hh => all52_nil ao cap base W hh (by omega))
  unfold ReadPost at HR
  rw [hl, hs] at HR
  obtain ⟨P, hP⟩ : ∃ P, P = OpenPost d fp m base w := ⟨_, rfl⟩
  rw [← hP] at HEND ⊢
  clear hP h ha hs hl hb hlog
  simp only [logC, newLog] at HEND
  generalize (m.shp.pages : Int) = sp at *
  generalize (m.shp.slots : Int) = ss at *
  generalize (m.shp.log : Int) = sl at *
  generalize ((base : Nat) : Int) = bi at *
  have hmm := @run_makeMap Tryz.prog
  have hf2 := field28_2
  go_enter Tryz.func11, Tryz.ntmps11
  go_wp2_with fail
  refine (HM.out _).mono ?_
  rintro e w1 ⟨rfl, rfl⟩
  go_wp2_with fail
  refine HSH.out.mono ?_
  rintro e w1 ⟨rfl, ho1⟩
  have HO1 := Lib.hid ho1
  have HR1 := Lib.hid (HR.out w1 ho1)
  clear ho1 HSH HM HR
  go_wp2_with fail
  refine HR1.out.mono ?_
  rintro e w2 ⟨hk, ⟨hh, _⟩ | ⟨_, ao, cap, rfl, hb, _⟩⟩
  · cases hh
  have HK := Lib.hid hk
  have HB := Lib.hid hb
  clear hk hb HR1
  simp only [List.length_nil] at HB ⊢
  go_wp2_with fail
  refine (HAL.out _ ao cap (IsB.off (S := []) HB.out (((Off.refl [] w2).alloc _).alloc _) (by simp))).mono ?_
  rintro e w3 ⟨rfl, ho3⟩
  have hi := IsC.off (S := []) (IsC.newAt (w := w2.alloc (.map #[] 0)) (T := 117) (cs := #[.int .i32 0, .int .u32 0, .pointer (some ⟨d, 0, none⟩), .int .i64 bi, .slice none 0 0, .map (some w2.heap.size), .int .i64 0, .int .i64 0, .slice none 0 0, .bool false]) (w2.heap.size + 1) (by simp)) ho3 (by simp)
  have c6 := hi.cell 6
  have c7 := hi.cell 7
  simp only [List.getElem?_toArray, List.getElem?_cons_zero, List.getElem?_cons_succ] at c6 c7
  have hf : ∀ o, w3.frozen? ⟨w2.heap.size + 1, o, none⟩ = false := fun o => hi.unfrozen o
  have HF := Lib.hid (HEND.out w1 w2 ((w3.setCell ⟨w2.heap.size + 1, 6, none⟩ (.int .i64 0)).setCell ⟨w2.heap.size + 1, 7, none⟩ (.int .i64 0)) HO1.out HK.out (Off.setCell (Off.setCell (ho3.mono (by simp)) (.inl (by simp)) _) (.inl (by simp)) _) ((hi.set 6 (.int .i64 0)).set 7 (.int .i64 0)))
  clear hi ho3 HK HB HAL HEND HO1
  generalize w2.heap.size + 1 = g at *
  go_wp2_with fail
  go_loopw [42] (fun i wr => i = .int .i64 0 ∧ w3 = wr) (fun _ _ => 0)
  case atStart => exact ⟨rfl, rfl⟩
  case round =>
    obtain ⟨rfl, rfl⟩ := hrel
    go_wp2_with fail
    trace_state
    exact HF.out
end Go.Proofs.YtfdgiblkllfpjaaGreatDoor

/- wal: Append of a begin. -/
set_option linter.unusedVariables false
set_option linter.unusedSimpArgs false
namespace Go.Proofs.YtfdgiblkllfpjaaGreatDoor
open Go.ChangeShapes Go.WideShapes Go.ChangeAt Go.RowKit

theorem LogS.tailAt {st : Int} {w : World} {g d : Nat} {m : LogM} {fp : List Nat} (h : LogS st w g d m fp) :
    ∃ ao cap, w.cell? ⟨g, 8, none⟩ = some (.slice ao m.tail.length cap) ∧ IsB w (.slice ao m.tail.length cap) m.tail ∧ (∀ z ∈ blk (.slice ao m.tail.length cap), z ∈ fp ∧ z ≠ g) ∧ g ∈ fp := by
  obtain ⟨sema, av, tv, mb, es, clk, ml, fa, h1, h2, h3, h4, h5, rfl, h6, h7⟩ := h
  obtain ⟨ao, cap, rfl⟩ := h3.val
  exact ⟨ao, cap, by rw [h1.cell]; rfl, h3, fun z hz => ⟨by simp [hz], fun e => (List.nodup_cons.1 h6).1 (by subst e; simp [hz])⟩, by simp⟩
theorem LogS.isC {st : Int} {w : World} {g d : Nat} {m : LogM} {fp : List Nat} (h : LogS st w g d m fp) : ∃ cs, IsC w g cs 117 := by
  obtain ⟨sema, av, tv, mb, es, clk, ml, fa, h1, _⟩ := h; exact ⟨_, h1⟩
theorem LogStep.after {st : Int} {g d : Nat} {fp fp6 : List Nat} {m : LogM} {w w6 w8 : World} (ho : Off fp w w6) (hs : ∀ z ∈ fp6, z ∈ fp ∨ w.heap.size ≤ z) (k : LogStep st g d fp6 m w6 w8) : LogStep st g d fp m w w8 := by
  obtain ⟨fp', a, b, c⟩ := k
  have hz := ho.size
  refine ⟨fp', a, ho.trans b hs, fun z h => ?_⟩
  rcases c z h with q | q
  · exact hs z q
  · exact .inr (by omega)
def LogM.begin (t : Nat → Nat) (m : LogM) (x : Nat) : LogM := (m.plus m.fin (beginB x)).more (frameB t m.fin (beginB x))
def AppPost (t : Nat → Nat) (g d : Nat) (lf : List Nat) (m : LogM) (cap x : Nat) (w : World) (e : Ending) (w' : World) : Prop :=
  (m.bytes + 34 ≤ cap ∧ e = .returned (.tuple #[.int .i64 (m.fin : Nat), .int .i64 0]) ∧ LogStep 0 g d lf (m.begin t x) w w') ∨
    (cap < m.bytes + 34 ∧ e = .returned (.tuple #[.int .i64 0, .int .i64 63]) ∧ LogStep 0 g d lf m w w')
theorem LogStep.fresh {st : Int} {g d : Nat} {fp S : List Nat} {m : LogM} {w w' : World} (h : LogStep st g d fp m w w') (hS : ∀ z ∈ fp, z ∉ S) (hn : ∀ z ∈ S, z < w.heap.size) {fp' : List Nat} (hs : ∀ z ∈ fp', z ∈ fp ∨ w.heap.size ≤ z) : ∀ z ∈ fp', z ∉ S := by
  intro z hz hz'
  rcases hs z hz with q | q
  · exact hS z q hz'
  · have := hn z hz'; omega
open Go.MuLone in
set_option maxRecDepth 100000 in
set_option maxHeartbeats 8000000 in
theorem append13 {t : Nat → Nat} {w : World} {d g : Nat} {dm : DiskM} {lm : LogM} {df lf : List Nat} (ht : Tbl t w) (h : Desk 0 w d g dm lm df lf) (hdead : lm.dead = false) (x : Nat) (hx1 : 1 ≤ x) (hx2 : x ≤ 64) (hen : lm.ents.length < 100000) (h0 : 0 ∉ lf) :
    Calls Tryz.prog 13 #[.pointer (some ⟨g, 0, none⟩), beginV x] w (AppPost t g d lf lm dm.shp.log x w) := by
  obtain ⟨wb, hwb⟩ : ∃ wb, wb = w.alloc (.cells #[.int .i64 1, .int .i64 0, .int .i64 0, .int .i64 x, .int .i64 0, .int .i64 0, .slice none 0 0, .slice none 0 0, .int .i64 0, .slice none 0 0, .slice none 0 0] 42) := ⟨_, rfl⟩
  have hob : Off [] w wb := by rw [hwb]; exact (Off.refl [] w).alloc _
  have hib : IsC wb w.heap.size #[.int .i64 1, .int .i64 0, .int .i64 0, .int .i64 x, .int .i64 0, .int .i64 0, .slice none 0 0, .slice none 0 0, .int .i64 0, .slice none 0 0, .slice none 0 0] 42 := by rw [hwb]; exact IsC.new _ _ _
  have hbl := h.2.1.off hob (by simp)
  obtain ⟨k0, k2, k3, k6, k7, k9, kf⟩ := hbl.cells
  obtain ⟨_, _, _, _, _, hgf⟩ := h.2.1.tailAt
  have hglt := h.2.1.lt g hgf
  rw [hdead] at k9
  have hl1 := hbl.turn 1
  have hi1 := IsC.setCell (k := g) 0 (.int .i32 1) hib (by omega)
  have HB : Hid (∀ W, Calls Tryz.prog 53 #[beginV x] W (StampPost W (beginB x))) := Lib.hid (fun W => bytes53_begin x hx1 hx2 W)
  unfold beginV at HB ⊢
  obtain ⟨P, hP⟩ : ∃ P, P = AppPost t g d lf lm dm.shp.log x w := ⟨_, rfl⟩
  rw [← hP]
  have HP1 : Hid (∀ w', lm.bytes + 34 ≤ dm.shp.log → LogStep 0 g d lf (lm.begin t x) wb w' → P (.returned (.tuple #[.int .i64 (lm.fin : Nat), .int .i64 0])) w') := Lib.hid (fun w' a b => by rw [hP]; exact .inl ⟨a, rfl, b.before hob⟩)
  have HP2 : Hid (∀ w', dm.shp.log < lm.bytes + 34 → LogStep 0 g d lf lm wb w' → P (.returned (.tuple #[.int .i64 0, .int .i64 63])) w') := Lib.hid (fun w' a b => by rw [hP]; exact .inr ⟨a, rfl, b.before hob⟩)
  have HT := Lib.hid (ht.off hob (by simp))
  have HL := Lib.hid hbl
  have HL1 := Lib.hid hl1
  have HSH : Hid (∀ W, Off lf wb W → Calls Tryz.prog 51 #[.pointer (some ⟨d, 0, none⟩)] W fun e w' => e = .returned (.agg #[.int .i64 dm.shp.pages, .int .i64 dm.shp.slots, .int .i64 dm.shp.log]) ∧ Off [] W w') := Lib.hid (fun W ho => shape51 ((h.1.off hob (by simp)).off ho h.2.2))
  have HDL : Hid (lm.base ≤ 1152921504606715904 ∧ lm.bytes ≤ 65536) := Lib.hid ⟨h.2.1.sized.1, h.2.1.sized.2.1⟩
  have HEN := Lib.hid hen
  have HGF := Lib.hid (And.intro hgf h0)
  have HLLT := Lib.hid hbl.lt
  have hfl : ∀ y, (frameB t y (beginB x)).length = 34 := fun y => by rw [frameB_len, beginB_len]
  have HFL := Lib.hid hfl
  have HDSK := Lib.hid h
  clear hfl h hbl ht hx1 hx2 hen hdead hgf h0 hl1 hP hob
  go_enter_defers Tryz.func13, Tryz.ntmps13
  go_wp2_with fail
  rw [← hwb]
  clear hwb
  generalize hrb : w.heap.size = rb at *
  have hrg : rb ≠ g := by omega
  clear hglt hrb
  refine (lock_free Tryz.muLib ⟨g, 0, none⟩ _ k0 (kf 0)).mono ?_
  rintro e w' ⟨rfl, rfl⟩
  have k9' : (wb.setCell ⟨g, 0, none⟩ (.int .i32 1)).cell? ⟨g, 9, none⟩ = some (.bool false) := by go_simp
  generalize wb.setCell ⟨g, 0, none⟩ (.int .i32 1) = w1 at *
  have c0 := hi1.cell 0
  have c1 := hi1.cell 1
  have c2 := hi1.cell 2
  have c3 := hi1.cell 3
  have c4 := hi1.cell 4
  have c5 := hi1.cell 5
  have c6 := hi1.cell 6
  have c7 := hi1.cell 7
  have c8 := hi1.cell 8
  have c9 := hi1.cell 9
  have c10 := hi1.cell 10
  simp only [List.getElem?_toArray, List.getElem?_cons_zero, List.getElem?_cons_succ] at c0 c1 c2 c3 c4 c5 c6 c7 c8 c9 c10
  clear k0 k2 k3 k6 k7 k9 kf hib hi1
  have HO1 : Hid (Off lf wb w1) := Lib.hid (HL1.out.2.mono (fun z hz => .inl (by simp at hz; rw [hz]; exact HGF.out.1)))
  have HT1 : Hid (Tbl t w1) := Lib.hid (HT.out.off HO1.out HGF.out.2)
  obtain ⟨F, hF⟩ : ∃ F, F = frameB t lm.fin (beginB x) := ⟨_, rfl⟩
  have HF34 : Hid (F.length = 34) := Lib.hid (by rw [hF]; exact HFL.out _)
  unfold LogM.begin at HP1
  rw [← hF] at HP1
  have hB18 := beginB_len x
  generalize beginB x = B at *
  have HB18 := Lib.hid hB18
  have HWR : Hid (∀ W v, Tbl t W → IsB W v B → Calls Tryz.prog 58 #[.int .i64 (lm.fin : Nat), v] W (StampPost W F)) := Lib.hid (fun W v a b => by
    rw [hF]
    have := HDL.out
    exact wrap58 lm.fin v B W a b (by omega) (by omega) (by unfold LogM.fin; omega) (by unfold LogM.fin; omega))
  clear hF hB18 HFL
  go_wp2_with fail
  refine (HB.out _).mono ?_
  rintro e w2 ⟨bo, bc, rfl, hb2, ho2, hf2⟩
  have HE := Lib.hid (end57 (HL1.out.1.off ho2 (by simp)))
  have HO2 := Lib.hid ho2
  have HB2 := Lib.hid hb2
  have HF2 : Hid (∀ z ∈ blk (.slice bo B.length bc), wb.heap.size ≤ z ∧ z ∉ lf) := Lib.hid (fun z hz => by
    have a := hf2 z hz
    have b := HL1.out.2.size
    exact ⟨by omega, fun hz' => by have := HLLT.out z hz'; omega⟩)
  clear hb2 ho2 hf2 HB c0 c1 c2 c3 c4 c5 c6 c7 c8 c9 c10
  go_wp2_with fail
  refine HE.out.mono ?_
  rintro e w3 ⟨rfl, ho3⟩
  have HW3 := Lib.hid (HWR.out w3 _ ((HT1.out.off HO2.out (by simp)).off ho3 (by simp)) (HB2.out.off ho3 (by simp)))
  have HO3 := Lib.hid (HO2.out.trans ho3 (by simp))
  have HB3 := Lib.hid (HB2.out.off ho3 (by simp))
  clear ho3 HE HB2 HO2 HWR
  go_wp2_with fail
  refine HW3.out.mono ?_
  rintro e w4 ⟨fo, fc, rfl, hf4, ho4, hff4⟩
  have HO4 := Lib.hid (HO3.out.trans ho4 (by simp))
  have HB4 := Lib.hid (HB3.out.off ho4 (by simp))
  have HF4 := Lib.hid hf4
  have HFF4 : Hid (∀ z ∈ blk (.slice fo F.length fc), w3.heap.size ≤ z) := Lib.hid hff4
  obtain ⟨_, k2, _, k6, _, _, _⟩ := (HL1.out.1.off HO4.out (by simp)).cells
  have HSW : Hid (∀ W, Off [] w4 W → Calls Tryz.prog 51 #[.pointer (some ⟨d, 0, none⟩)] W fun e w' => e = .returned (.agg #[.int .i64 dm.shp.pages, .int .i64 dm.shp.slots, .int .i64 dm.shp.log]) ∧ Off [] W w') := Lib.hid (fun W ho => HSH.out W (HO1.out.trans (HO4.out.trans ho (by simp)) (by simp)))
  have HK : Hid (∀ W, Off [] w4 W → W.cell? ⟨g, 6, none⟩ = some (.int .i64 (lm.bytes : Nat)) ∧ W.cell? ⟨g, 2, none⟩ = some (.pointer (some ⟨d, 0, none⟩))) := Lib.hid (fun W ho => ⟨ho.cell k6 (by simp), ho.cell k2 (by simp)⟩)
  clear hf4 ho4 hff4 HW3 HB3
  have hbs : lm.bytes ≤ 65536 := HDL.out.2
  have hwr : IntKind.i64.wrap ((lm.bytes : Int) + (F.length : Int)) = (lm.bytes : Int) + F.length := by rw [IntKind.wrap_i64]; have := HF34.out; omega
  have HCAP : Hid (dm.shp.log ≤ 65536) := Lib.hid HDSK.out.1.ok.1.2.2.2.2.2
  generalize (dm.shp.pages : Int) = sp at *
  generalize (dm.shp.slots : Int) = ss at *
  generalize hcap : dm.shp.log = cap at *
  generalize hnb : lm.bytes = nb at *
  generalize hfn : lm.fin = fn at *
  have HN := Lib.hid (And.intro hnb hfn)
  have hf2 := field28_2
  clear hcap hnb hfn
  go_wp2_with fail
  go_region_held3 (fun W => W.cell? ⟨g, 6, none⟩ = some (.int .i64 (nb : Nat)) ∧ W.cell? ⟨g, 2, none⟩ = some (.pointer (some ⟨d, 0, none⟩)))
    (first | exact HK.out _ (Off.refl _ _) | exact HK.out _ (Off.refl _ _).drew | exact HK.out _ HOA.out | fail)
    (first | (go_at_call 51; refine (HSW.out _ (Off.refl _ _).drew).mono ?_; rintro e wa ⟨rfl, p2⟩; have HOA : Hid (Off [] w4 wa) := Lib.hid ((Off.refl [] w4).drew.trans p2 (by simp)); clear p2))
  have HO5 := Lib.hid (HO4.out.trans HOA.out (by simp))
  have HB5 := Lib.hid (HB4.out.off HOA.out (by simp))
  have HF5 := Lib.hid (HF4.out.off HOA.out (by simp))
  have HFN : Hid (∀ z ∈ blk (.slice fo F.length fc), z ∉ lf ∧ z < wa.heap.size ∧ wb.heap.size ≤ z) := Lib.hid (fun z hz => by
    have a := HFF4.out z hz
    have b := HO3.out.size
    have c := HL1.out.2.size
    exact ⟨fun hz' => by have := HLLT.out z hz'; omega, HF5.out.lt z hz, by omega⟩)
  clear HOA HK HSW k6 k2 HB4 HF4 HFF4 HO4 HO3 hf2
  by_cases hc : nb + 34 ≤ cap
  · have hd : (nb : Int) + (F.length : Int) ≤ (cap : Int) := by have := HF34.out; omega
    have HTK := Lib.hid (take54 (HL1.out.1.off HO5.out (by simp)) fn (.slice bo B.length bc) B HB5.out (fun z hz => (HF2.out z hz).2) (by have := HEN.out; omega))
    clear HSH HP2
    go_wp2_with fail
    refine HTK.out.mono ?_
    rintro e w6 ⟨rfl, fp6, h6, o6, s6⟩
    have HS6 : Hid (Off lf wb w6 ∧ ∀ z ∈ fp6, z ∈ lf ∨ wb.heap.size ≤ z) := Lib.hid ⟨HO1.out.trans ((HO5.out.mono (by simp)).trans o6 (fun z hz => .inl hz)) (fun z hz => .inl hz), fun z hz => by
      rcases s6 z hz with q | q | q
      · exact .inl q
      · exact .inr (HF2.out z q).1
      · have := HO5.out.size; have := HL1.out.2.size; exact .inr (by omega)⟩
    obtain ⟨ta, tc, k8, hbt, hbtf, hgf6⟩ := h6.tailAt
    have hF6 := HF5.out.off o6 (fun z hz => (HFN.out z hz).1)
    obtain ⟨cs6, hic6⟩ := h6.isC
    obtain ⟨_, _, _, k6, _, _, kf6⟩ := h6.cells
    have HTG : Hid (g ∉ blk (.slice ta (lm.plus fn B).tail.length tc)) := Lib.hid (fun hz => (hbtf g hz).2 rfl)
    have HTL : Hid ((lm.plus fn B).tail.length ≤ 65536 ∧ (lm.plus fn B).bytes = nb) := Lib.hid ⟨by have := h6.sized; omega, HN.out.1⟩
    have HMO := Lib.hid (fun w7 ao' cap' hho hhb hhbl hby => h6.more (w2 := w7) (ao' := ao') (cap' := cap') (f := F) k8 hho hhb hhbl hby)
    rw [HTL.out.2] at k6 HMO
    have HI6 := Lib.hid hic6
    unfold IsB at hbt hF6
    have HOA := Lib.hid hbt
    have HSR := Lib.hid (Own.src (P := Tryz.prog) (t := 22) (e' := 5) hF6 Tryz.underlying22 (bytesV_one _))
    have HBD := Lib.hid (show ((lm.plus fn B).tail.length + F.length) * 1 ≤ 140737488355328 by have := HTL.out.1; have := HF34.out; omega)
    generalize (lm.plus fn B).tail = tl at *
    clear h6 o6 s6 hbt hbtf hgf6 hF6 hic6 HTK HDSK HL HO5 HB5 HF5
    go_wp2_with (at_builtin; go_loud (refine wp_app rfl _ _ 22 22 rfl rfl HOA.out Tryz.underlying22 iinfo5 rfl (by decide) rfl HSR.out HBD.out ?_))
    intro ao4 cap4 w7 q1 q2 q3
    have hib : IsB w7 (.slice ao4 (tl.length + F.length) cap4) (tl ++ F) := by unfold IsB; rw [List.length_append, bytesV_append]; exact q1
    have HM7 := Lib.hid (HMO.out w7 ao4 cap4 q2 hib (q3.imp_right fun q => ⟨_, q, Nat.le_refl _⟩) (by have := HF34.out; have := HCAP.out; omega))
    have k67 := q2.cell k6 HTG.out
    have k87 := q2.cell k8 HTG.out
    have hf7 : ∀ o, w7.frozen? ⟨g, o, none⟩ = false := fun o => (HI6.out.off q2 HTG.out).unfrozen o
    clear q1 q2 q3 hib k8 k6 kf6 HOA HSR HBD HMO
    have ecast : ((nb + F.length : Nat) : Int) = (nb : Int) + (F.length : Int) := by omega
    rw [ecast] at HM7
    clear ecast
    have HFIN := Lib.hid (LogStep.after HS6.out.1 HS6.out.2 HM7.out)
    clear HM7 HS6
    go_wp2_with fail
    have hq := HFIN.out
    obtain ⟨fp8, p8, _, _⟩ := hq
    obtain ⟨k0, _, _, _, _, _, kf⟩ := p8.cells
    refine leaves_cons (f := 56) (args := #[.pointer (some ⟨g, 0, none⟩)]) (by simp) (by simp [go_sem]) ?_
    refine (unlock_deferred Tryz.muLib ⟨g, 0, none⟩ .returning _ k0 (kf 0)).mono ?_
    rintro e u' w'' ⟨rfl, rfl, rfl⟩
    refine ⟨_, results_tmp2 rfl _ _ _, ?_⟩
    exact HP1.out _ hc (HFIN.out.trans (fun fp1 h1 => h1.turned 0))
  · have hd : (cap : Int) < (nb : Int) + (F.length : Int) := by have := HF34.out; omega
    have HFIN : Hid (LogStep 1 g d lf lm wb wa) := Lib.hid ⟨lf, HL1.out.1.off HO5.out (by simp), HO1.out.trans HO5.out (by simp), fun z hz => .inl hz⟩
    clear HSH HP1
    go_wp2_with fail
    have hq := HFIN.out
    obtain ⟨fp8, p8, _, _⟩ := hq
    obtain ⟨k0, _, _, _, _, _, kf⟩ := p8.cells
    refine leaves_cons (f := 56) (args := #[.pointer (some ⟨g, 0, none⟩)]) (by simp) (by simp [go_sem]) ?_
    refine (unlock_deferred Tryz.muLib ⟨g, 0, none⟩ .returning _ k0 (kf 0)).mono ?_
    rintro e u' w'' ⟨rfl, rfl, rfl⟩
    refine ⟨_, results_tmp2 rfl _ _ _, ?_⟩
    exact HP2.out _ (by omega) (HFIN.out.trans (fun fp1 h1 => h1.turned 0))
end Go.Proofs.YtfdgiblkllfpjaaGreatDoor

/- wal: Flush. -/
set_option linter.unusedVariables false
set_option linter.unusedSimpArgs false
namespace Go.Proofs.YtfdgiblkllfpjaaGreatDoor
open Go.ChangeShapes Go.WideShapes Go.ChangeAt Go.RowKit

def LogM.flushed (m : LogM) : LogM := { m with tail := [], disk := m.bytes }
def flushM (dm : DiskM) (lm : LogM) (lsn : Nat) : DiskM × LogM × Int :=
  if lsn ≤ lm.base + lm.disk ∨ lm.tail = [] then (dm, lm, 0)
  else if dm.stops then (dm.act, lm.met 1, 1)
  else if (dm.app lm.tail).stops then ((dm.app lm.tail).act, lm.met 1, 1) else ((dm.app lm.tail).syncLog, lm.flushed, 0)
theorem LogM.met_zero (m : LogM) : m.met 0 = m := by unfold LogM.met; simp
/-- Both cells of the manager's own turned at a flush's end. -/
theorem LogS.flushedAt {st : Int} {w : World} {g d : Nat} {m : LogM} {fp : List Nat} (h : LogS st w g d m fp) : LogStep st g d fp m.flushed w ((w.setCell ⟨g, 8, none⟩ (.slice none 0 0)).setCell ⟨g, 7, none⟩ (.int .i64 (m.bytes : Nat))) := by
  obtain ⟨sema, av, tv, mb, es, clk, ml, fa, h1, h2, h3, h4, h5, rfl, h6, h7⟩ := h
  have ho : Off [g] w ((w.setCell ⟨g, 8, none⟩ (.slice none 0 0)).setCell ⟨g, 7, none⟩ (.int .i64 (m.bytes : Nat))) := ((Off.refl [g] w).setCell (.inl (by simp)) _).setCell (.inl (by simp)) _
  obtain ⟨n1, n2⟩ := List.nodup_cons.1 h6
  obtain ⟨n3, n4⟩ := List.nodup_cons.1 n2
  have hin : ∀ z, z ∈ mb :: (fa ++ blk tv) → z ∉ [g] := fun z hz hz' => by simp at hz'; subst hz'; exact n1 hz
  refine ⟨g :: mb :: (fa ++ blk (.slice none 0 0)), ⟨sema, av, .slice none 0 0, mb, es, clk, ml, fa, ?_, h2.off ho (fun z hz => hin z (by simp [hz])), IsB.nil _, h4.off ho (hin mb (by simp)), h5, rfl, ?_, h7.1, h7.2.1, ?_, ?_⟩, ho.mono (fun z hz => .inl (by simp at hz; simp [hz])), fun z hz => .inl ?_⟩
  · exact (h1.set 8 _).set 7 _
  · simp only [blk, List.append_nil]
    exact List.nodup_cons.2 ⟨fun hz => n1 (by simp only [List.mem_cons, List.mem_append] at hz ⊢; rcases hz with q | q <;> simp [q]), List.nodup_cons.2 ⟨fun hz => n3 (by simp [hz]), (List.nodup_append.1 n4).1⟩⟩
  · exact Nat.le_refl _
  · simp [LogM.flushed]
  · simp only [blk, List.append_nil, List.mem_cons, List.mem_append] at hz ⊢
    rcases hz with q | q | q <;> simp [q]
def FlushPost (d g : Nat) (df lf : List Nat) (r : DiskM × LogM × Int) (w : World) (e : Ending) (w' : World) : Prop :=
  e = .returned (.int .i64 r.2.2) ∧ DeskStep 0 d g df lf r.1 r.2.1 w w'
open Go.MuLone in
set_option maxRecDepth 100000 in
set_option maxHeartbeats 8000000 in
theorem flush95_skip {w : World} {d g : Nat} {dm : DiskM} {lm : LogM} {df lf : List Nat} (h : Desk 0 w d g dm lm df lf) (hdead : lm.dead = false) (lsn : Nat) (hs : lsn ≤ lm.base + lm.disk ∨ lm.tail = []) :
    Calls Tryz.prog 95 #[.pointer (some ⟨g, 0, none⟩), .int .i64 (lsn : Nat)] w (FlushPost d g df lf (dm, lm, 0) w) := by
  obtain ⟨k0, k2, k3, k6, k7, k9, kf⟩ := h.2.1.cells
  obtain ⟨ta, tc, k8, _⟩ := h.2.1.tailAt
  have hz := h.2.1.sized
  rw [hdead] at k9
  obtain ⟨l1, o1⟩ := h.2.1.turn 1
  have HH := Lib.hid h
  have HL1 := Lib.hid l1
  obtain ⟨P, hP⟩ : ∃ P, P = FlushPost d g df lf (dm, lm, 0) w := ⟨_, rfl⟩
  rw [← hP]
  have HP : Hid (∀ w', LogStep 0 g d lf lm w w' → P (.returned (.int .i64 0)) w') := Lib.hid (fun w' q => by rw [hP]; exact ⟨rfl, h.log q⟩)
  have HFIN : Hid (∀ W, Off [] (w.setCell ⟨g, 0, none⟩ (.int .i32 1)) W → LogStep 1 g d lf lm w W) := Lib.hid (fun W ho => (h.2.1.turned 1).behind ho)
  have HC : Hid (∀ n, ((w.setCell ⟨g, 0, none⟩ (.int .i32 1)).drewN n).cell? ⟨g, 0, none⟩ = some (.int .i32 1) ∧ ((w.setCell ⟨g, 0, none⟩ (.int .i32 1)).drewN n).frozen? ⟨g, 0, none⟩ = false) := Lib.hid (fun n => by
    obtain ⟨c0, _, _, _, _, _, cf⟩ := (HL1.out.off ((Off.refl [] _).drewN n) (by simp)).cells
    exact ⟨c0, cf 0⟩)
  have HT : Hid (lm.tail = [] → lm.tail.length = 0) := Lib.hid (fun q => by rw [q]; rfl)
  clear l1 o1 h hP hdead
  obtain ⟨hb1, hb2, hb3, _⟩ := hz
  generalize lm.base = bs at *
  generalize lm.disk = dk at *
  generalize htl : lm.tail.length = tl at *
  by_cases h1 : lsn ≤ bs + dk
  · have d1 : decide ((lsn : Int) ≤ (bs : Int) + (dk : Int)) = true := decide_eq_true (by omega)
    have d2 : (lsn : Int) ≤ (bs : Int) + (dk : Int) := by omega
    clear hs
    go_enter_defers Tryz.func95, Tryz.ntmps95
    go_wp2_with fail
    refine (lock_free Tryz.muLib ⟨g, 0, none⟩ _ k0 (kf 0)).mono ?_
    rintro e w' ⟨rfl, rfl⟩
    go_wp2_with fail
    go_quiet (fail)
    go_wp2_with fail
    refine leaves_cons (f := 56) (args := #[.pointer (some ⟨g, 0, none⟩)]) (by simp) (by simp [go_sem]) ?_
    refine (unlock_deferred Tryz.muLib ⟨g, 0, none⟩ .returning _ (HC.out _).1 (HC.out _).2).mono ?_
    rintro e u' w'' ⟨rfl, rfl, rfl⟩
    refine ⟨_, results_tmp rfl _ _ _, ?_⟩
    exact HP.out _ ((HFIN.out _ ((Off.refl _ _).drewN _)).trans (fun fp1 h1 => h1.turned 0))
  · have ht0 : tl = 0 := by rcases hs with q | q; omega; exact HT.out q
    subst ht0
    have d1 : decide ((lsn : Int) ≤ (bs : Int) + (dk : Int)) = false := decide_eq_false (by omega)
    clear hs
    go_enter_defers Tryz.func95, Tryz.ntmps95
    go_wp2_with fail
    refine (lock_free Tryz.muLib ⟨g, 0, none⟩ _ k0 (kf 0)).mono ?_
    rintro e w' ⟨rfl, rfl⟩
    go_wp2_with fail
    go_quiet (fail)
    go_wp2_with fail
    refine leaves_cons (f := 56) (args := #[.pointer (some ⟨g, 0, none⟩)]) (by simp) (by simp [go_sem]) ?_
    refine (unlock_deferred Tryz.muLib ⟨g, 0, none⟩ .returning _ (HC.out _).1 (HC.out _).2).mono ?_
    rintro e u' w'' ⟨rfl, rfl, rfl⟩
    refine ⟨_, results_tmp rfl _ _ _, ?_⟩
    exact HP.out _ ((HFIN.out _ ((Off.refl _ _).drewN _)).trans (fun fp1 h1 => h1.turned 0))
end Go.Proofs.YtfdgiblkllfpjaaGreatDoor
