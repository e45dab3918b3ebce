/- wal: Open over a log that ends within a frame. -/
import Derived.Test.YtfdgiblkllfpjaaGreatDoorF02
set_option linter.unusedVariables false
set_option linter.unusedSimpArgs false
namespace Go.Proofs.YtfdgiblkllfpjaaGreatDoor
open Go.ChangeShapes Go.WideShapes Go.ChangeAt Go.RowKit

attribute [local go_sem] Oper.semAt_some
set_option maxRecDepth 100000 in
set_option maxHeartbeats 8000000 in
theorem all52_part {t : Nat → Nat} {part : List UInt8} (hpart : Short part) (v : Value) (base : Nat) (ids : List Nat) (w : World) (ht : Tbl t w) (h : IsB w v (logB t (base + 1) ids ++ part)) (hids : ∀ x ∈ ids, 1 ≤ x ∧ x ≤ 64) (hlen : ids.length ≤ 2000) (hbase : base ≤ 1152921504606715904) :
    Calls Tryz.prog 52 #[v, .int .i64 (base : Nat)] w (AllPost w (itemsB (base + 1) ids)) := by
  obtain ⟨ao, cap, rfl⟩ := h.val
  obtain ⟨n, hn⟩ : ∃ n, n = (logB t (base + 1) ids ++ part).length := ⟨_, rfl⟩
  rw [← hn] at h ⊢
  clear hn
  refine (callsIn_wide (n := 5)).1 ?_
  have h1 : 1 ≤ 5 := by omega
  have HF : Hid (∀ W, Calls Tryz.prog 112 #[.slice ao n cap, .int .i64 (base : Nat)] W fun e w' => e = .returned (.func (.func 169) #[] #[.pointer (some ⟨W.heap.size + 1, 0, none⟩), .pointer (some ⟨W.heap.size, 0, none⟩)]) ∧ w' = (W.alloc (.cells #[.slice ao n cap] 22)).alloc (.cells #[.int .i64 (base : Nat)] 3)) := Lib.hid (fun W => frames112 _ _ _ base W)
  refine callsIn_of_wp_marks Tryz.func52 rfl trivial ?_ rfl
  simp only [Tryz.ntmps52, List.size_toArray, List.length_cons, List.length_nil, Nat.reduceAdd, Nat.reduceSub, Array.replicate_succ, Array.replicate_zero, List.push_toArray, List.append_toArray, List.nil_append, List.cons_append]
  gi_wp2_with (refine ⟨trivial, ?_⟩; gi_at_call 112; refine (callsIn_wide.2 (HF.out _)).mono ?_; rintro e w' ⟨rfl, rfl⟩)
  obtain ⟨W0, hW0⟩ : ∃ W0, W0 = (((w.alloc (.cells #[.slice none 0 0] 118)).alloc (.cells #[.int .i64 0] 3)).alloc (.cells #[.slice ao n cap] 22)).alloc (.cells #[.int .i64 (base : Nat)] 3) := ⟨_, rfl⟩
  rw [← hW0]
  have hsz : W0.heap.size = w.heap.size + 4 := by rw [hW0]; simp
  have ho : Off [] w W0 := by rw [hW0]; exact ((((Off.refl [] w).alloc _).alloc _).alloc _).alloc _
  have i0 : IsC W0 w.heap.size #[.slice none 0 0] 118 := by rw [hW0]; exact (((IsC.new w _ 118).alloc _).alloc _).alloc _
  have i1 : IsC W0 (w.heap.size + 1) #[.int .i64 0] 3 := by rw [hW0]; exact ((IsC.newAt _ (by simp)).alloc _).alloc _
  have i2 : IsC W0 (w.heap.size + 1 + 1) #[.slice ao n cap] 22 := by rw [hW0]; exact (IsC.newAt _ (by simp)).alloc _
  have i3 : IsC W0 (w.heap.size + 1 + 1 + 1) #[.int .i64 (base : Nat)] 3 := by rw [hW0]; exact IsC.newAt _ (by simp)
  have hTk : Tk w.heap.size (w.heap.size + 1) W0 = [w.heap.size, w.heap.size + 1] := by rw [Tk.is i0]; rfl
  have hhl := h.lt
  have hb0 := ht.1
  clear hW0
  refine wpIn_rangeFunc_ownH rfl h1 (gf := 169) (lb := #[.pointer (some ⟨w.heap.size + 1 + 1 + 1, 0, none⟩), .pointer (some ⟨w.heap.size + 1 + 1, 0, none⟩)]) rfl trivial (enters_of Tryz.func169 (by kernel_rfl) rfl)
    (stops169_part hpart 4 (by omega) (w.heap.size + 1 + 1 + 1) (w.heap.size + 1 + 1) w.heap.size (w.heap.size + 1) base (.slice ao n cap) ids W0 (ht.off ho (by simp)) i3 i2 (h.off ho (by simp)) hids hlen hbase (by rw [hTk, hsz]; intro z hz; simp at hz; omega)
      (by rw [hTk]; simp only [List.mem_cons, List.not_mem_nil, or_false, not_or]; exact ⟨by omega, by omega, by omega, fun z hz => by have := hhl z hz; omega⟩))
    (fun h k => h.trans k) ?kb (Below.refl _ _) (fun x => rfl)
    (AllI w w.heap.size (w.heap.size + 1)) (fun _ _ _ => False) (AllI.own (by omega)) (fun _ _ _ _ _ hs _ _ => hs)
    ⟨none, 0, i0, i1, Own.nil _ _ _, by simp [blk], ho⟩
    (AllA w.heap.size (w.heap.size + 1) (fun x fb => { tmps := #[.slice ao n cap, .int .i64 (base : Nat), undef, undef, .slice none 0 0, .int .i64 0, .pointer (some ⟨w.heap.size, 0, none⟩), .pointer (some ⟨w.heap.size + 1, 0, none⟩), .pointer (some ⟨fb, 0, none⟩), .slice ao n cap, .int .i64 (base : Nat), .func (.func 169) #[] #[.pointer (some ⟨w.heap.size + 1 + 1 + 1, 0, none⟩), .pointer (some ⟨w.heap.size + 1 + 1, 0, none⟩)], .agg (foundC (x.1 : Nat) (x.2 : Nat)), undef, undef, undef, undef, undef, undef, undef, undef, undef, undef], defers := [] })) (fun x a' => AllA.own) ?assign ?body ?done ?stop
  case stop =>
    rintro D c pre W _ _ hh _
    exact hh.elim
  case kb =>
    intro W l o o' hl hlo hc hw
    have hne : ∀ b o1, W.heap[b]? = some o1 → o1.isCells = true → b ≠ l := fun b o1 h1 h2 e => by subst e; rw [hlo] at h1; cases h1; rw [hc] at h2; cases h2
    have hcell : (W.putObj l o').cell? ⟨w.heap.size, 0, none⟩ = W.cell? ⟨w.heap.size, 0, none⟩ := World.cell?_of_block (a := ⟨w.heap.size, 0, none⟩) (World.putObj_heap_other (by show w.heap.size ≠ l; omega))
    have hTT : Tk w.heap.size (w.heap.size + 1) (W.putObj l o') = Tk w.heap.size (w.heap.size + 1) W := by unfold Tk; rw [hcell]
    have hps : (W.putObj l o').heap.size = W.heap.size := by simp [World.putObj]
    exact ⟨by omega, fun b o1 h1 h2 _ => by rw [World.putObj_heap_other (hne b o1 h1 h2)]; exact h1, fun z hz => .inl (by rw [hTT] at hz; exact hz), fun hv z hz => by rw [hTT] at hz; rw [hps]; exact hv z hz⟩
  case assign =>
    rintro l pre x W K ⟨ao1, cap1, g1, g2, g3, g4, g5⟩ hK
    have HG := Lib.hid (And.intro g1 (And.intro g2 (And.intro g3 (And.intro g4 g5))))
    have HK := Lib.hid hK
    clear g1 g2 g3 g4 g5 hK
    have HFI : Hid (∀ a', a' = (fun x fb => { tmps := #[.slice ao n cap, .int .i64 (base : Nat), undef, undef, .slice none 0 0, .int .i64 0, .pointer (some ⟨w.heap.size, 0, none⟩), .pointer (some ⟨w.heap.size + 1, 0, none⟩), .pointer (some ⟨fb, 0, none⟩), .slice ao n cap, .int .i64 (base : Nat), .func (.func 169) #[] #[.pointer (some ⟨w.heap.size + 1 + 1 + 1, 0, none⟩), .pointer (some ⟨w.heap.size + 1 + 1, 0, none⟩)], .agg (foundC (x.1 : Nat) (x.2 : Nat)), undef, undef, undef, undef, undef, undef, undef, undef, undef, undef], defers := [] }) x W.heap.size → K a' (W.alloc (.cells (foundC (x.1 : Nat) (x.2 : Nat)) 122))) := Lib.hid (fun a' ha => by
      obtain ⟨g1, g2, g3, g4, g5⟩ := HG.out
      refine HK.out a' _ ((KeepsOthers.alloc W _).from _) (Kp.off ((Off.refl [] W).alloc _) g1.lt) ⟨ao1, cap1, g1.alloc _, g2.alloc _, Own.off g3 ((Off.refl [] W).alloc _) (by simp), g4, g5.alloc _⟩ ?_
      exact ⟨W.heap.size, ao1, pre.length, cap1, ha, IsC.new _ _ _, g1.alloc _, fun hz => by have := Own.lt g3 _ hz; omega, g2.lt⟩)
    clear HK HG
    obtain ⟨x1, x2⟩ := x
    unfold encB
    unfold foundC at HFI ⊢
    simp only [List.zip, Array.zip, Array.foldl] 
    gi_wp2
    exact HFI.out _ rfl
  case body =>
    rintro l pre x a' W hl hr ⟨ao1, cap1, g1, g2, g3, g4, g5⟩ ⟨fb, ao2, n2, cap2, rfl, f1, f2, f3, f4⟩ hpre
    obtain ⟨e1, e2, e3⟩ : ao2 = ao1 ∧ n2 = pre.length ∧ cap2 = cap1 := by
      unfold IsC at f2 g1
      rw [g1] at f2
      simp at f2
      exact ⟨f2.1.symm, f2.2.1.symm, f2.2.2.symm⟩
    subst e1; subst e2; subst e3
    obtain ⟨x1, x2⟩ := x
    rw [itemsB_len] at hpre
    have HPL : Hid (pre.length < 2000) := Lib.hid (by omega)
    have HG := Lib.hid (And.intro g1 (And.intro g2 (And.intro g3 (And.intro g4 g5))))
    have HFB := Lib.hid (And.intro f3 f4)
    have c0 := g1.cell 0
    have d0 := g2.cell 0
    have q0 := f1.cell 0
    have q1 := f1.cell 1
    have q2 := f1.cell 2
    have q3 := f1.cell 3
    have q4 := f1.cell 4
    have q5 := f1.cell 5
    have q6 := f1.cell 6
    have q7 := f1.cell 7
    have q8 := f1.cell 8
    have q9 := f1.cell 9
    have q10 := f1.cell 10
    have q11 := f1.cell 11
    have q12 := f1.cell 12
    simp only [foundC, List.getElem?_toArray, List.getElem?_cons_zero, List.getElem?_cons_succ] at c0 d0 q0 q1 q2 q3 q4 q5 q6 q7 q8 q9 q10 q11 q12
    have HOWN : Hid (Own (W.alloc (.cells #[.int .i64 (x1 : Nat), .int .i64 34, .int .i64 1, .int .i64 0, .int .i64 0, .int .i64 (x2 : Nat), .int .i64 0, .int .i64 0, .slice none 0 0, .slice none 0 0, .int .i64 0, .slice none 0 0, .slice none 0 0] 122)) 122 13 (.slice ao2 pre.length cap2) pre.length (founds pre)) := Lib.hid (Own.off g3 ((Off.refl [] W).alloc _) (by simp))
    have HSRC := Lib.hid (src_new (P := Tryz.prog) W (t := 118) (e := 122) (e' := 122) (sz := 13) #[.int .i64 (x1 : Nat), .int .i64 34, .int .i64 1, .int .i64 0, .int .i64 0, .int .i64 (x2 : Nat), .int .i64 0, .int .i64 0, .slice none 0 0, .slice none 0 0, .int .i64 0, .slice none 0 0, .slice none 0 0] 1 Tryz.underlying118 (by decide) rfl (by simp [Value.oneCell']))
    have HBD : Hid ((pre.length + 1) * 168 ≤ 140737488355328) := Lib.hid (by have := HPL.out; omega)
    have HEND : Hid (∀ ao3 cap3 W2, Own W2 122 13 (.slice ao3 (pre.length + 1) cap3) (pre.length + 1) (founds pre ++ (foundC (x1 : Nat) (x2 : Nat)).toList) → Off (blk (.slice ao2 pre.length cap2)) (W.alloc (.cells #[.int .i64 (x1 : Nat), .int .i64 34, .int .i64 1, .int .i64 0, .int .i64 0, .int .i64 (x2 : Nat), .int .i64 0, .int .i64 0, .slice none 0 0, .slice none 0 0, .int .i64 0, .slice none 0 0, .slice none 0 0] 122)) W2 → (blk (.slice ao3 (pre.length + 1) cap3) = blk (.slice ao2 pre.length cap2) ∨ blk (.slice ao3 (pre.length + 1) cap3) = [(W.alloc (.cells #[.int .i64 (x1 : Nat), .int .i64 34, .int .i64 1, .int .i64 0, .int .i64 0, .int .i64 (x2 : Nat), .int .i64 0, .int .i64 0, .slice none 0 0, .slice none 0 0, .int .i64 0, .slice none 0 0, .slice none 0 0] 122)).heap.size]) →
        W2.cell? ⟨w.heap.size, 0, none⟩ = some (.slice ao2 pre.length cap2) ∧ W2.cell? ⟨w.heap.size + 1, 0, none⟩ = some (.int .i64 ((34 * pre.length : Nat) : Int)) ∧ W2.cell? ⟨fb, 1, none⟩ = some (.int .i64 34) ∧ (∀ o, W2.frozen? ⟨w.heap.size, o, none⟩ = false) ∧ (∀ o, W2.frozen? ⟨w.heap.size + 1, o, none⟩ = false) ∧ fb ≠ w.heap.size ∧
          ownPostG W0.heap.size (Kp w.heap.size (w.heap.size + 1)) (AllI w w.heap.size (w.heap.size + 1)) (fun _ _ _ => False) (pre ++ [(x1, x2)]) W .normal { tmps := #[], defers := [] } ((W2.setCell ⟨w.heap.size, 0, none⟩ (.slice ao3 (pre.length + 1) cap3)).setCell ⟨w.heap.size + 1, 0, none⟩ (.int .i64 ((34 * (pre.length + 1) : Nat) : Int)))) := Lib.hid (fun ao3 cap3 W2 r1 r2 r3 => by
      obtain ⟨g1, g2, g3, g4, g5⟩ := HG.out
      have r2' : Off (blk (.slice ao2 pre.length cap2)) W W2 := (((Off.refl [] W).alloc (.cells #[.int .i64 (x1 : Nat), .int .i64 34, .int .i64 1, .int .i64 0, .int .i64 0, .int .i64 (x2 : Nat), .int .i64 0, .int .i64 0, .slice none 0 0, .slice none 0 0, .int .i64 0, .slice none 0 0, .slice none 0 0] 122)).mono (by simp)).trans r2 (fun z hz => .inl hz)
      have hn1 : w.heap.size ∉ blk (.slice ao2 pre.length cap2) := fun hz => by have := g4 _ hz; omega
      have hn2 : w.heap.size + 1 ∉ blk (.slice ao2 pre.length cap2) := fun hz => by have := g4 _ hz; omega
      have y1 := g1.off r2' hn1
      have y2 := g2.off r2' hn2
      have y3 := f1.off r2' HFB.out.1
      refine ⟨by rw [y1.cell]; rfl, by rw [y2.cell]; rfl, by rw [y3.cell]; rfl, fun o => y1.unfrozen o, fun o => y2.unfrozen o, by have := HFB.out.2; omega, ?_⟩
      exact all_end (x := (x1, x2)) rfl rfl g1 g2 g3 g4 g5 r1 r2' (r3.imp_right fun q z hz => by rw [q] at hz; simp at hz; omega))
    have hb0' : (0 : Int) ≤ (pre.length : Int) := by omega
    have hb1' : (pre.length : Int) ≤ 2000 := by have := HPL.out; omega
    clear g1 g2 g3 g4 g5 f1 f2 f3 f4 hl hr hpre ht h hids hlen hbase i0 i1 i2 i3 hTk hhl hb0 ho hsz
    unfold foundC
    gi_wp2_with (gi_at_builtin; refine wpIn_app rfl _ _ 118 118 rfl rfl HOWN.out Tryz.underlying118 iinfo122 rfl (by decide) rfl HSRC.out HBD.out ?_)
    intro ao3 cap3 W2 r1 r2 r3
    obtain ⟨z1, z2, z3, z4, z5, z6, z7⟩ := HEND.out ao3 cap3 W2 r1 r2 (by simpa using r3)
    have HE := Lib.hid z7
    clear r1 r2 r3 z7 HEND HOWN HSRC
    gi_wp2_with fail
    exact HE.out
  case done =>
    rintro D ys W hD rfl ⟨ao1, cap1, g1, g2, g3, g4, g5⟩ hK
    have HG := Lib.hid (And.intro g3 (And.intro g4 g5))
    have c0 := g1.cell 0
    have d0 := g2.cell 0
    simp only [List.getElem?_toArray, List.getElem?_cons_zero] at c0 d0
    have HD : Hid (w.heap.size ≤ D ∧ W.heap[D]? = some (.deferred (some []))) := Lib.hid ⟨by omega, hK⟩
    clear g1 g2 g3 g4 g5 ht h hids hlen hbase i0 i1 i2 i3 hTk hhl hb0 ho hsz hD
    gi_wp2
    gi_region
    all_goals (try gi_wp2)
    refine ⟨by simp, .inl ⟨_, _, rfl, run_takeDeferred (show W.drew.heap[D]? = some (.deferred (some [])) from hK), ?_⟩⟩
    refine ⟨_, results_tmp2 rfl _ _ _, ao1, cap1, rfl, ?_, ?_, fun z hz => by have := HG.out.2.1 z hz; omega⟩
    · exact Own.grown (W := W.drew) HG.out.1 (grownBy_putObj' _ D _) (fun r e => by cases e; exact ⟨_, HD.out.2, rfl⟩)
    · have hg := grownBy_putObj' W.drew D (.deferred none)
      refine ⟨hg.os.trans HG.out.2.2.os, hg.tape.trans HG.out.2.2.tape, hg.output.trans HG.out.2.2.output, Nat.le_trans HG.out.2.2.size hg.size, fun k hk hn => ?_⟩
      rw [hg.block k (Nat.lt_of_lt_of_le hk HG.out.2.2.size) (fun e => by cases e; have := HD.out.1; omega)]
      exact HG.out.2.2.old k hk hn
set_option maxRecDepth 100000 in
set_option maxHeartbeats 8000000 in
theorem open11_part {t : Nat → Nat} {part : List UInt8} (hpart : Short part) {w : World} {d : Nat} {m : DiskM} {fp : List Nat} (ht : Tbl t w) (h : DiskR w d m fp) (h0 : 0 ∉ fp) (ha : m.acts < 4611686018427387904) (hs : m.stops = false) (base : Nat) (hb : base ≤ 1152921504606715904) (ids : List Nat) (hl : m.log = logB t (base + 1) ids ++ part) (hids : ∀ x ∈ ids, 1 ≤ x ∧ x ≤ 64) (hlen : 34 * ids.length ≤ 65536) (hlg : m.log.length ≤ m.shp.log) :
    Calls Tryz.prog 11 #[.pointer (some ⟨d, 0, none⟩), .int .i64 (base : Nat)] w (OpenBPost d fp m base ids w) := by
  have HM : Hid (∀ W, Calls Tryz.prog 49 #[.int .i64 (base : Nat)] W fun e w' => e = .returned (.bool true) ∧ W = w') := Lib.hid (fun W => may49 base hb W)
  have HSH := Lib.hid (shape51 h)
  obtain ⟨⟨_, _, _, _, _, hlog⟩, _⟩ := h.ok
  have HR : Hid (∀ W, Off [] w W → Calls Tryz.prog 50 #[.pointer (some ⟨d, 0, none⟩), .int .i64 0, .int .i64 (m.shp.log : Nat)] W (ReadPost d fp m m.log W)) := Lib.hid (fun W ho => readLog50 (h.off ho (by simp)) ha _ (by omega) hlg)
  unfold ReadPost at HR
  rw [hs] at HR
  have HLB : Hid (∀ W v, Off fp w W → IsB W v m.log → Calls Tryz.prog 52 #[v, .int .i64 (base : Nat)] W (AllPost W (itemsB (base + 1) ids))) := Lib.hid (fun W v ho hb' => all52_part hpart v base ids W (ht.off ho h0) (by rw [← hl]; exact hb') hids (by omega) hb)
  have HBASE := Lib.hid hb
  have HID : Hid (∀ i ∈ itemsB (base + 1) ids, 1 ≤ i.2 ∧ i.2 ≤ 64) := Lib.hid (fun i hi => hids _ (itemsB_mem _ _ _ hi))
  obtain ⟨its, hits⟩ : ∃ its, its = itemsB (base + 1) ids := ⟨_, rfl⟩
  have hil : its.length = ids.length := by rw [hits, itemsB_len]
  obtain ⟨N, hN⟩ : ∃ N, N = its.length := ⟨_, rfl⟩
  have HN : Hid (N = its.length ∧ N = ids.length ∧ 34 * N ≤ 65536 ∧ its = itemsB (base + 1) ids) := Lib.hid ⟨hN, by omega, by omega, hits⟩
  have hN2 : N ≤ 2000 := by omega
  rw [← hits] at HLB HID
  unfold AllPost at HLB
  rw [← hN] at HLB
  obtain ⟨n34, hn34⟩ : ∃ n34, n34 = 34 * N := ⟨_, rfl⟩
  rw [← hn34] at HLB
  have HN34 := Lib.hid hn34
  obtain ⟨P, hP⟩ : ∃ P, P = OpenBPost d fp m base ids w := ⟨_, rfl⟩
  rw [← hP]
  have HP := Lib.hid hP
  have hmm := @run_makeMap Tryz.prog
  have hf2 := field28_2
  clear hP h ha hs hb hl hlg hlog ht h0 hids hlen hits hil hN hn34
  generalize (m.shp.pages : Int) = sp at *
  generalize (m.shp.slots : Int) = ss at *
  generalize (m.shp.log : Int) = sl at *
  go_enter Tryz.func11, Tryz.ntmps11
  go_wp2_with fail
  refine (HM.out _).mono ?_
  rintro e w1 ⟨rfl, rfl⟩
  go_wp2_with fail
  refine HSH.out.mono ?_
  rintro e w1 ⟨rfl, ho1⟩
  have HO1 := Lib.hid ho1
  have HR1 := Lib.hid (HR.out w1 ho1)
  clear ho1 HSH HM HR
  go_wp2_with fail
  refine HR1.out.mono ?_
  rintro e w2 ⟨hk, ⟨hh, _⟩ | ⟨_, ao, cap, rfl, hb2, _⟩⟩
  · cases hh
  have HK := Lib.hid hk
  have HB := Lib.hid hb2
  clear hk hb2 HR1
  generalize m.log.length = ln at *
  have HNL : Hid (LogS 0 ((w2.alloc (.map #[] 0)).alloc (.cells (logC 0 (newLog base) d 0 (.slice none 0 0) (.slice none 0 0) w2.heap.size) 117)) (w2.heap.size + 1) d (openLog base [] 0) [w2.heap.size + 1, w2.heap.size]) := Lib.hid (newLogS HBASE.out)
  have HKO : Hid (DiskKeep d fp m.act w w2) := Lib.hid ⟨HK.out.1, (HO1.out.mono (by simp)).trans HK.out.2 (fun z hz => .inl hz)⟩
  have HAL : Hid (Calls Tryz.prog 52 #[.slice ao ln cap, .int .i64 (base : Nat)] ((w2.alloc (.map #[] 0)).alloc (.cells (logC 0 (newLog base) d 0 (.slice none 0 0) (.slice none 0 0) w2.heap.size) 117)) _) := Lib.hid (HLB.out _ _ ((HKO.out.2.alloc _).alloc _) (IsB.off (S := []) HB.out (((Off.refl [] w2).alloc _).alloc _) (by simp)))
  unfold logC newLog at HAL HNL
  go_wp2_with fail
  refine HAL.out.mono ?_
  rintro e w3 ⟨fo, fc, rfl, hown, ho3, hfr⟩
  obtain ⟨mb, hmb⟩ : ∃ mb, mb = w2.heap.size := ⟨_, rfl⟩
  have hs2 := ho3.size
  simp only [World.size_alloc] at hs2 hfr
  have HW3 : Hid (LogS 0 w3 (mb + 1) d (openLog base [] 0) [mb + 1, mb] ∧ Off [] w2 w3 ∧ mb + 1 < w3.heap.size ∧ w2.heap.size ≤ mb) := Lib.hid ⟨by rw [hmb]; exact HNL.out.off ho3 (by simp), (((Off.refl [] w2).alloc _).alloc _).trans ho3 (by simp), by omega, by omega⟩
  have HOW : Hid (Own w3 122 13 (.slice fo N fc) N (founds its) ∧ ∀ z ∈ blk (.slice fo N fc), mb + 1 < z) := Lib.hid ⟨hown, fun z hz => by have := hfr z hz; omega⟩
  have HMB : Hid (∀ z, mb ≤ z → w.heap.size ≤ z) := Lib.hid (fun z hz => by have := HKO.out.2.size; omega)
  rw [← hmb]
  clear hown ho3 hfr hs2 HAL HNL HLB HB hmb
  obtain ⟨g, hg⟩ : ∃ g, g = mb + 1 := ⟨_, rfl⟩
  rw [← hg] at HW3 HOW ⊢
  have HG := Lib.hid hg
  clear hg
  go_wp2_with fail
  go_loopw [42, 12, 13, 14] (fun i _ _ _ wr => ∃ k : Nat, k ≤ N ∧ i = .int .i64 (k : Int) ∧ OpenIn w3 g d base its mb k wr) (fun i _ _ _ _ => N - (intOf i).toNat)
  case atStart => exact ⟨0, by omega, rfl, [g, mb], HW3.out.1, Off.refl _ _, fun z hz => by simp at hz; rcases hz with e | e; exact .inl e; exact .inr (.inl e)⟩
  case round =>
    obtain ⟨k, hk, rfl, fl, hL, hoL, hfl⟩ := hrel
    have HI := Lib.hid (And.intro hL (And.intro hoL hfl))
    by_cases hkn : k < N
    · have hkn' : (k : Int) < (N : Int) := by omega
      have hk0 : (0 : Int) ≤ (k : Int) := by omega
      obtain ⟨⟨lsn, x⟩, hit⟩ : ∃ i, its[k]? = some i := ⟨_, List.getElem?_eq_getElem (by have := HN.out.1; omega)⟩
      obtain ⟨hx1, hx2⟩ := HID.out _ (List.mem_of_getElem? hit)
      obtain ⟨qb, qo, rfl, hcell⟩ : ∃ qb qo, fo = some ⟨qb, qo, none⟩ ∧ ∀ j, j < 13 → wr.cell? ⟨qb, qo + k * 13 + j, none⟩ = (foundC (lsn : Nat) (x : Nat))[j]? := by
        rcases HOW.out.1.2 with ⟨e, he⟩ | ⟨qb, qo, c', cur, e, hc, _⟩
        · omega
        · injection e with e1 _ e3
          subst e1; subst e3
          refine ⟨qb, qo, rfl, fun j hj => ?_⟩
          have hb' := HOW.out.2 qb (by simp [blk])
          rw [World.cell?_of_block (a := ⟨qb, qo + k * 13 + j, none⟩) (hoL.old qb hc.lt (by simp; have := HG.out; omega)), Nat.add_assoc, Own.cellAt HOW.out.1 (k * 13 + j) (by omega)]
          exact founds_at its k _ hit j hj
      have q0 := hcell 0 (by omega)
      have q1 := hcell 1 (by omega)
      have q2 := hcell 2 (by omega)
      have q3 := hcell 3 (by omega)
      have q4 := hcell 4 (by omega)
      have q5 := hcell 5 (by omega)
      have q6 := hcell 6 (by omega)
      have q7 := hcell 7 (by omega)
      have q8 := hcell 8 (by omega)
      have q9 := hcell 9 (by omega)
      have q10 := hcell 10 (by omega)
      have q11 := hcell 11 (by omega)
      have q12 := hcell 12 (by omega)
      simp only [Nat.add_zero, foundC, List.getElem?_toArray, List.getElem?_cons_zero, List.getElem?_cons_succ] at q0 q1 q2 q3 q4 q5 q6 q7 q8 q9 q10 q11 q12
      have HBY : Hid (∀ W, Calls Tryz.prog 53 #[beginV (x : Nat)] W (StampPost W (beginB x))) := Lib.hid (fun W => bytes53_begin x hx1 hx2 W)
      have HIT := Lib.hid hit
      unfold beginV at HBY
      clear hcell hL hoL hfl hit hx1 hx2
      go_upto_region 11 with fail
      refine gen_world (Φ := fun V => IsC V wr.heap.size (foundC (lsn : Nat) (x : Nat)) 122 ∧ Off [] wr V) ⟨IsC.new _ _ _, (Off.refl [] wr).alloc _⟩ ?_
      rintro V ⟨v1, v2⟩
      have p0 := v1.cell 0
      have p1 := v1.cell 1
      have p2 := v1.cell 2
      have p3 := v1.cell 3
      have p4 := v1.cell 4
      have p5 := v1.cell 5
      have p6 := v1.cell 6
      have p7 := v1.cell 7
      have p8 := v1.cell 8
      have p9 := v1.cell 9
      have p10 := v1.cell 10
      have p11 := v1.cell 11
      have p12 := v1.cell 12
      simp only [foundC, List.getElem?_toArray, List.getElem?_cons_zero, List.getElem?_cons_succ] at p0 p1 p2 p3 p4 p5 p6 p7 p8 p9 p10 p11 p12
      have HV := Lib.hid (And.intro v1 v2)
      clear v1 v2 q0 q1 q2 q3 q4 q5 q6 q7 q8 q9 q10 q11 q12
      go_wp2_with fail
      refine (HBY.out _).mono ?_
      rintro e W4 ⟨bo, bc, rfl, y1, y2, y3⟩
      rw [beginB_len] at y1 y3 ⊢
      have hc4 := HV.out.1.off y2 (by simp)
      have r0 := hc4.cell 0
      simp only [foundC, List.getElem?_toArray, List.getElem?_cons_zero] at r0
      have hw4 : Off [] wr W4 := HV.out.2.trans y2 (by simp)
      have HTK : Hid (Calls Tryz.prog 54 #[.pointer (some ⟨g, 0, none⟩), .int .i64 (lsn : Nat), .slice bo 18 bc] W4 (TakePost 0 g d (openLog base (its.take k) 0) fl lsn (beginB x) (.slice bo 18 bc) W4)) := Lib.hid (take54 (HI.out.1.off hw4 (by simp)) lsn _ (beginB x) y1 (fun z hz hz' => by
        have := y3 z hz
        have := HI.out.1.lt z hz'
        have := HV.out.2.size
        omega) (by simp [openLog]; have := HN.out; omega))
      have HY3 : Hid ((∀ z ∈ blk (.slice bo 18 bc), w3.heap.size ≤ z) ∧ Off [] wr W4 ∧ w3.heap.size ≤ W4.heap.size) := Lib.hid ⟨fun z hz => by have := y3 z hz; have := HV.out.2.size; have := HI.out.2.1.size; omega, hw4, by have := hw4.size; have := HI.out.2.1.size; omega⟩
      clear y1 y2 y3 hc4 hw4 HBY p0 p1 p2 p3 p4 p5 p6 p7 p8 p9 p10 p11 p12
      go_wp2_with fail
      refine HTK.out.mono ?_
      rintro e W5 ⟨rfl, fl5, z1, z2, z3⟩
      have HNX : Hid (OpenIn w3 g d base its mb (k + 1) W5) := Lib.hid (by
        have e : (openLog base (its.take k) 0).plus lsn (beginB x) = openLog base (its.take (k + 1)) 0 := by
          have hk1 : k < its.length := (List.getElem?_eq_some_iff.1 HIT.out).1
          have hk2 := (List.getElem?_eq_some_iff.1 HIT.out).2
          unfold LogM.plus openLog
          rw [List.take_succ_eq_append_getElem hk1, hk2, List.map_append]; rfl
        rw [e] at z1
        refine ⟨fl5, z1, (HI.out.2.1.trans HY3.out.2.1 (by simp)).trans z2 (fun z hz => ?_), fun z hz => ?_⟩
        · rcases HI.out.2.2 z hz with q | q | q
          · exact .inl (by simp [q])
          · exact .inl (by simp [q])
          · exact .inr q
        · rcases z3 z hz with q | q | q
          · exact HI.out.2.2 z q
          · exact .inr (.inr (HY3.out.1 z q))
          · exact .inr (.inr (by have := HY3.out.2.2; omega)))
      clear z1 z2 z3 HTK r0
      go_wp2_with fail
      go_roundw
      case rel => exact ⟨k + 1, by omega, by go_num, HNX.out⟩
      case measure => simp [intOf]; omega
    · have hkn' : ¬ ((k : Int) < (N : Int)) := by omega
      obtain rfl : k = N := by omega
      have hL2 := hL
      rw [show its.take k = its from List.take_of_length_le (by have := HN.out.1; omega)] at hL2
      obtain ⟨hba, hbo⟩ := hL2.bytesAt (n := n34) (by have := HN.out.2.2.1; have := HN34.out; omega)
      obtain ⟨sema, av, tv, mbx, es, clk, ml, fa, hh, _⟩ := hL
      have c6 := hh.cell 6
      have c7 := hh.cell 7
      have hf : ∀ o, wr.frozen? ⟨g, o, none⟩ = false := fun o => hh.unfrozen o
      simp only [logC, openLog, List.getElem?_toArray, List.getElem?_cons_zero, List.getElem?_cons_succ] at c6 c7
      have HF : Hid (P (.returned (.tuple #[.pointer (some ⟨g, 0, none⟩), .int .i64 0])) ((wr.setCell ⟨g, 6, none⟩ (.int .i64 (n34 : Nat))).setCell ⟨g, 7, none⟩ (.int .i64 (n34 : Nat)))) := Lib.hid (by
        rw [HP.out]
        have e34 : 34 * ids.length = n34 := by have := HN.out; have := HN34.out; omega
        refine ⟨g, fl, rfl, ?_, HKO.out.behind ((HW3.out.2.1.trans hoL (fun z hz => .inr ?_)).trans hbo (fun z hz => .inr ?_)), fun z hz => ?_⟩
        · rw [e34, ← HN.out.2.2.2]; exact hba
        · have := HW3.out.2.2.2; have := HG.out; simp at hz; omega
        · have := HW3.out.2.2.2; have := HG.out; simp at hz; omega
        · refine HMB.out z ?_
          rcases hfl z hz with q | q | q
          · have := HG.out; omega
          · omega
          · have := HW3.out.2.2.1; have := HG.out; omega)
      clear hL2 hba hbo hh hoL hfl HI
      go_wp2_with fail
      first | exact HF.out | (go_ret2; exact HF.out)
end Go.Proofs.YtfdgiblkllfpjaaGreatDoor

/- pool: Pin where the disk stops at the page's reading. -/
set_option linter.unusedVariables false
set_option linter.unusedSimpArgs false
namespace Go.Proofs.YtfdgiblkllfpjaaGreatDoor
open Go.ChangeShapes Go.WideShapes Go.ChangeAt Go.RowKit

set_option maxRecDepth 100000 in
set_option maxHeartbeats 8000000 in
theorem pin16_stop {w : World} {d g p : Nat} {dm : DiskM} {lm : LogM} {pm : PoolM} {F : Fp3} (h : Whole w d g p dm lm pm F) (hdead : pm.dead = false) (ha : dm.acts < 4611686018427387904) (n : Nat) (hn : n < dm.shp.pages) (hf : pm.find n = none) (hroom : pm.held.length < pm.most ∨ (pm.held.length = pm.most ∧ 0 < (pm.pick idle).length))
    (l : List UInt8) (hl : dm.reads[n]? = some l) (hll : l.length < 1000000) (hst : dm.stops = true) (pick : Int) :
    Calls Tryz.prog 16 #[.pointer (some ⟨p, 0, none⟩), .int .i64 (n : Int), .int .i64 pick] w (DeadPost d g p F dm.act lm (pm.met 1) w) := by
  obtain ⟨D, L, pf⟩ := F
  have hp := h.2.1
  obtain ⟨mb, es, clk, qs, hp, hpf⟩ := hp
  simp only at hpf
  subst hpf
  obtain ⟨c0, _, k2, k3, k4, kf⟩ := hp.cells
  rw [hdead] at k4
  have hql := hp.len
  have hm16 := hp.most
  have HT := Lib.hid (there59 hp h.1.1 (n : Int))
  rw [decide_eq_true (show (0 : Int) ≤ (n : Int) ∧ (n : Int) < (dm.shp.pages : Int) by omega)] at HT
  have HG : Hid (∀ W, Off [] w W → Calls Tryz.prog 61 #[.pointer (some ⟨p, 0, none⟩), .func (.func 62) #[] #[]] W (FreshI W (pm.pick idle))) := Lib.hid (fun W ho => gathered61 (hp.off ho (by simp)) (by omega) 62 ent62 idle (fun W' q _ hq => idle62 W' q hq))
  rcases hp.look n with ⟨e1, hno, e2⟩ | ⟨A, q, B, rfl, hq, e1, e2⟩
  rotate_left
  · rw [hf] at e1; cases e1
  have hlk := fun W hW => run_lookup_map (P := Tryz.prog) (t := 125) (k := 3) (e := 129) (clk := clk) Tryz.underlying125 Tryz.underlying3 zero129 hp.ent mb (n : Int) false W hW
  rw [e2] at hlk
  simp only [Bool.false_eq_true, if_false, Option.getD_none] at hlk
  have HLK := Lib.hid hlk
  have HLN : Hid (∀ W ty, IsM W mb es clk → (Builtin.len_ #[125] ty #[.map (some mb)]).run Tryz.prog W = .ok (.int .i64 (pm.held.length : Nat)) W) := Lib.hid (fun W ty hW => by
    have q := run_len_map (P := Tryz.prog) (k := 3) (e := 129) (clk := clk) Tryz.underlying125 hp.ent mb ty W hW
    rw [List.length_map, hql] at q; exact q)
  have HRD : Hid (∀ W, Off [] w W → Calls Tryz.prog 24 #[.pointer (some ⟨d, 0, none⟩), .int .i64 (n : Int)] W (ReadPost d D dm l W)) := Lib.hid (fun W ho => readPage24 (h.1.1.off ho (by simp)) ha n hn l hl (by omega))
  obtain ⟨P, hP⟩ : ∃ P, P = DeadPost d g p ⟨D, L, p :: mb :: qs.flatMap (·.2.fp)⟩ dm.act lm (pm.met 1) w := ⟨_, rfl⟩
  rw [← hP]
  have HP := Lib.hid hP
  have HALL := Lib.hid (And.intro h (And.intro hp hst))
  have hfull : ((pm.held.length : Int) == (pm.most : Int)) = false ∨ (((pm.held.length : Int) == (pm.most : Int)) = true ∧ (((pm.pick idle).length : Int) == 0) = false) := by
    rcases hroom with q | ⟨q1, q2⟩
    · left; rw [beq_eq_false_iff_ne]; omega
    · right; rw [beq_iff_eq, beq_eq_false_iff_ne]; omega
  clear hP h hp hf hn hroom hno hlk ha hql hm16 e1 e2 hl hst
  generalize hhl : pm.held.length = hln at *
  generalize hmo : pm.most = mo at *
  clear hhl hmo
  go_enter Tryz.func16, Tryz.ntmps16
  go_wp2_with fail
  refine HT.out.mono ?_
  rintro e w1 ⟨rfl, ho1⟩
  have HO1 := Lib.hid ho1
  have k31 := ho1.cell k3 (by simp)
  have hm1 := HALL.out.2.1.map.off ho1 (by simp)
  have hlk1 := HLK.out w1 hm1
  clear ho1 hm1 HT
  go_wp2_with fail
  refine (HG.out w1 HO1.out).mono ?_
  rintro e w2 ⟨io, ic, rfl, hI2, ho2, hfi⟩
  have HO2 := Lib.hid (HO1.out.trans ho2 (by simp))
  have k22 := HO2.out.cell k2 (by simp)
  have k32 := HO2.out.cell k3 (by simp)
  have k02 := HO2.out.cell c0 (by simp)
  have hln2 : ∀ ty j, (Builtin.len_ #[125] ty #[.map (some mb)]).run Tryz.prog (w2.drewN j) = .ok (.int .i64 (hln : Nat)) (w2.drewN j) := fun ty j => HLN.out _ ty ((HALL.out.2.1.map.off HO2.out (by simp)).off ((Off.refl [] w2).drewN j) (by simp))
  have hln3 : ∀ ty, (Builtin.len_ #[125] ty #[.map (some mb)]).run Tryz.prog w2 = .ok (.int .i64 (hln : Nat)) w2 := fun ty => HLN.out _ ty (HALL.out.2.1.map.off HO2.out (by simp))
  clear hI2 ho2 hfi HG hlk1 k31
  generalize (pm.pick idle).length = il at *
  rcases hfull with hfull | ⟨hfull, hil⟩
  all_goals
    go_wp2_with fail
    go_quiet (fail)
    go_wp2_with fail
    refine (HRD.out _ (HO2.out.drewN _)).mono ?_
    rintro e w3 ⟨hk3, ⟨_, rfl⟩ | ⟨hs3, _⟩⟩
    rotate_left
    · rw [HALL.out.2.2] at hs3; cases hs3
    have hw2 := (HALL.out.1.off (HO2.out.drewN nq) (by simp))
    obtain ⟨hw3, ha3⟩ := hw2.keep hk3
    have hp3 : PoolAt w3 p d g pm mb es clk qs := (HALL.out.2.1.off (HO2.out.drewN nq) (by simp)).off hk3.2 (fun z hz hz' => (hw2.2.2 z hz).1 hz')
    have HW3 := Lib.hid (And.intro hw3 (And.intro ((Acc3.quiet (HO2.out.drewN nq) : Acc3 ⟨D, L, p :: mb :: qs.flatMap (·.2.fp)⟩ w ⟨D, L, p :: mb :: qs.flatMap (·.2.fp)⟩ (w2.drewN nq)).trans ha3) hp3))
    have HM3 := Lib.hid (met63 hp3 1)
    clear hk3 hw2 hw3 ha3 hp3 HRD k22 k32 k02 hln2 hln3
    go_wp2_with fail
    refine HM3.out.mono ?_
    rintro e w4 ⟨rfl, hp4, ho4⟩
    have HF : Hid (P (.returned (.tuple #[.slice none 0 0, .int .i64 1])) w4) := Lib.hid (by
      rw [HP.out]
      obtain ⟨x1, x2, x3⟩ := HW3.out.1
      have hpp : ∀ z ∈ [p], z ∉ D ∧ z ∉ L := fun z hz => by simp at hz; subst hz; exact x3 _ (by simp)
      refine ⟨rfl, ⟨D, L, p :: mb :: qs.flatMap (·.2.fp)⟩, ⟨⟨x1.1.off ho4 (fun z hz hz' => (hpp z hz').1 hz), x1.2.1.off ho4 (fun z hz hz' => (hpp z hz').2 hz), x1.2.2⟩, ⟨mb, es, clk, qs, hp4, rfl⟩, x3⟩, HW3.out.2.1.trans ⟨ho4.mono (fun z hz => .inl (by simp at hz; subst hz; simp)), fun z hz => .inl hz, fun z hz => .inl hz, fun z hz => .inl hz⟩⟩)
    clear hp4 ho4 HW3 HM3
    go_wp2_with fail
    first | exact HF.out | (go_ret2; exact HF.out)
end Go.Proofs.YtfdgiblkllfpjaaGreatDoor

/- pool: Pin where the disk stops at the victim's writing. -/
set_option linter.unusedVariables false
set_option linter.unusedSimpArgs false
namespace Go.Proofs.YtfdgiblkllfpjaaGreatDoor
open Go.ChangeShapes Go.WideShapes Go.ChangeAt Go.RowKit

set_option maxRecDepth 100000 in
set_option maxHeartbeats 8000000 in
theorem pin16_dirtyStop {t : Nat → Nat} {w : World} {d g p : Nat} {dm : DiskM} {lm : LogM} {pm : PoolM} {F : Fp3} (ht : Tbl t w) (h : Whole w d g p dm lm pm F) (h0 : 0 ∉ F.d) (h0l : 0 ∉ F.l) (hdead : pm.dead = false) (ha : dm.acts < 4611686018427387904) (hfit : dm.fit) (n : Nat) (hn : n < dm.shp.pages) (pick : Int) (hf : pm.find n = none) (hful : pm.held.length = pm.most) (hsm : pm.most ≤ 16) {v j : Nat} {fv : Fr} (hj : (pick.tmod ((pm.pick idle).length : Nat) + ((pm.pick idle).length : Nat)).tmod ((pm.pick idle).length : Nat) = (j : Int)) (hidx : (pm.pick idle)[j]? = some (v : Int)) (hfv : pm.find v = some fv) (hrc : 0 < fv.rc) {k lsn : Nat} (hk : k < 3000000000000000000) (hok : DeskOk dm.act lm k) (hpg : PageOk t dm.act.shp fv lsn) (hwrm : (writeM dm.act lm pm fv lsn).2.2.2 = 1)
    (l : List UInt8) (hl : dm.reads[n]? = some l) (x : Nat) (hck : pageCheck t l (n : Int) (dm.shp.slots : Nat) = some x) (hst : dm.stops = false) :
    Calls Tryz.prog 16 #[.pointer (some ⟨p, 0, none⟩), .int .i64 (n : Int), .int .i64 pick] w (DeadPost d g p F (writeM dm.act lm pm fv lsn).1 (writeM dm.act lm pm fv lsn).2.1 (writeM dm.act lm pm fv lsn).2.2.1 w) := by
  obtain ⟨D, L, pf⟩ := F
  have hp := h.2.1
  obtain ⟨mb, es, clk, qs, hp, hpf⟩ := hp
  simp only at hpf
  subst hpf
  obtain ⟨c0, _, k2, k3, k4, kf⟩ := hp.cells
  rw [hdead] at k4
  have hql := hp.len
  have hm16 := hp.most
  have hsh := h.1.1.ok.1
  have hll : l.length ≤ 152 := by
    obtain ⟨l', e1, e2⟩ := hfit.2.1 n (by omega)
    rw [hl] at e1; injection e1 with e1; subst e1
    rw [e2]; unfold Shp.sizeB Shp.pageB; rw [if_pos hn]; have := hsh.2.2.2.1; omega
  have HT := Lib.hid (there59 hp h.1.1 (n : Int))
  rw [decide_eq_true (show (0 : Int) ≤ (n : Int) ∧ (n : Int) < (dm.shp.pages : Int) by omega)] at HT
  have HG : Hid (∀ W, Off [] w W → Calls Tryz.prog 61 #[.pointer (some ⟨p, 0, none⟩), .func (.func 62) #[] #[]] W (FreshI W (pm.pick idle))) := Lib.hid (fun W ho => gathered61 (hp.off ho (by simp)) (by omega) 62 ent62 idle (fun W' q _ hq => idle62 W' q hq))
  rcases hp.look n with ⟨e1, hno, e2⟩ | ⟨A, q, B, rfl, hq, e1, e2⟩
  rotate_left
  · rw [hf] at e1; cases e1
  have hlk := fun W hW => run_lookup_map (P := Tryz.prog) (t := 125) (k := 3) (e := 129) (clk := clk) Tryz.underlying125 Tryz.underlying3 zero129 hp.ent mb (n : Int) false W hW
  rw [e2] at hlk
  simp only [Bool.false_eq_true, if_false, Option.getD_none] at hlk
  obtain ⟨A, q, B, hqs, hqn, hq1, hq2⟩ : ∃ A q B, qs = A ++ q :: B ∧ q.1.num = v ∧ q.1 = fv ∧ mget (qs.map entP) (v : Int) = some (.pointer (some ⟨q.2.fb, 0, none⟩)) := by
    rcases hp.look v with ⟨e1', _, _⟩ | ⟨A, q, B, hqs, hqn, e1', e2'⟩
    · rw [hfv] at e1'; cases e1'
    · rw [hfv] at e1'; injection e1' with e1'
      exact ⟨A, q, B, hqs, hqn, e1'.symm, e2'⟩
  have hlv := fun W hW => run_lookup_map (P := Tryz.prog) (t := 125) (k := 3) (e := 129) (clk := clk) Tryz.underlying125 Tryz.underlying3 zero129 hp.ent mb (v : Int) false W hW
  rw [hq2] at hlv
  simp only [Bool.false_eq_true, if_false, Option.getD_some] at hlv
  have HLV := Lib.hid hlv
  have HQ := Lib.hid (And.intro hqs (And.intro hqn hq1))
  clear hlv hqs hqn hq1 hq2
  have HLK := Lib.hid hlk
  have HLN : Hid (∀ W ty, IsM W mb es clk → (Builtin.len_ #[125] ty #[.map (some mb)]).run Tryz.prog W = .ok (.int .i64 (pm.held.length : Nat)) W) := Lib.hid (fun W ty hW => by
    have q := run_len_map (P := Tryz.prog) (k := 3) (e := 129) (clk := clk) Tryz.underlying125 hp.ent mb ty W hW
    rw [List.length_map, hql] at q; exact q)
  have HRD : Hid (∀ W, Off [] w W → Calls Tryz.prog 24 #[.pointer (some ⟨d, 0, none⟩), .int .i64 (n : Int)] W (ReadPost d D dm l W)) := Lib.hid (fun W ho => readPage24 (h.1.1.off ho (by simp)) ha n hn l hl (by omega))
  obtain ⟨P, hP⟩ : ∃ P, P = DeadPost d g p ⟨D, L, p :: mb :: qs.flatMap (·.2.fp)⟩ (writeM dm.act lm pm fv lsn).1 (writeM dm.act lm pm fv lsn).2.1 (writeM dm.act lm pm fv lsn).2.2.1 w := ⟨_, rfl⟩
  rw [← hP]
  have HP := Lib.hid hP
  have HALL := Lib.hid (And.intro h (And.intro hp (And.intro ht (And.intro h0 (And.intro hno (And.intro hck (And.intro hll hst)))))))
  have hfull : ((pm.held.length : Int) == (pm.most : Int)) = true := by rw [beq_iff_eq]; omega
  have hil : 0 < (pm.pick idle).length := by have := (List.getElem?_eq_some_iff.1 hidx).1; omega
  have HIDX := Lib.hid hidx
  have HWR := Lib.hid (And.intro hk (And.intro hok (And.intro hpg (And.intro hwrm (And.intro h0l (And.intro hfv hrc))))))
  have hrcv : (0 : Int) < ((fv.rc : Nat) : Int) := by omega
  have hjl : j < (pm.pick idle).length := (List.getElem?_eq_some_iff.1 hidx).1
  have hil16 : (pm.pick idle).length ≤ 16 := by
    have q : (pm.pick idle).length ≤ pm.held.length := by unfold PoolM.pick; rw [srtI_len]; unfold numsI; rw [List.length_map]; exact List.length_filter_le _ _
    omega
  have hwr : wrap64 (pick.tmod ((pm.pick idle).length : Nat) + ((pm.pick idle).length : Nat)) = pick.tmod ((pm.pick idle).length : Nat) + ((pm.pick idle).length : Nat) := by
    have a := Int.tmod_lt_of_pos pick (show (0 : Int) < ((pm.pick idle).length : Nat) by omega)
    have b := Int.lt_tmod_of_pos pick (show (0 : Int) < ((pm.pick idle).length : Nat) by omega)
    exact wadd (by omega) (by unfold imax; omega)
  clear hP h hp ht h0 h0l hfv hk hok hpg hwrm hf hn hful hidx hno hlk hck hfit ha hsh hql hm16 e1 e2 hl
  generalize hhl : pm.held.length = hln at *
  generalize hmo : pm.most = mo at *
  clear hhl hmo
  go_enter Tryz.func16, Tryz.ntmps16
  go_wp2_with fail
  refine HT.out.mono ?_
  rintro e w1 ⟨rfl, ho1⟩
  have HO1 := Lib.hid ho1
  have k31 := ho1.cell k3 (by simp)
  have hm1 := HALL.out.2.1.map.off ho1 (by simp)
  have hlk1 := HLK.out w1 hm1
  clear ho1 hm1 HT
  go_wp2_with fail
  refine (HG.out w1 HO1.out).mono ?_
  rintro e w2 ⟨io, ic, rfl, hI2, ho2, hfi⟩
  have HO2 := Lib.hid (HO1.out.trans ho2 (by simp))
  have k22 := HO2.out.cell k2 (by simp)
  have k32 := HO2.out.cell k3 (by simp)
  have k02 := HO2.out.cell c0 (by simp)
  have hln2 : ∀ ty j, (Builtin.len_ #[125] ty #[.map (some mb)]).run Tryz.prog (w2.drewN j) = .ok (.int .i64 (hln : Nat)) (w2.drewN j) := fun ty j => HLN.out _ ty ((HALL.out.2.1.map.off HO2.out (by simp)).off ((Off.refl [] w2).drewN j) (by simp))
  have hln3 : ∀ ty, (Builtin.len_ #[125] ty #[.map (some mb)]).run Tryz.prog w2 = .ok (.int .i64 (hln : Nat)) w2 := fun ty => HLN.out _ ty (HALL.out.2.1.map.off HO2.out (by simp))
  obtain ⟨ib, ioff, rfl, hcell⟩ : ∃ ib ioff, io = some ⟨ib, ioff, none⟩ ∧ w2.cell? ⟨ib, ioff + j, none⟩ = some (.int .i64 (v : Int)) := by
    rcases hI2.2 with ⟨e, h0⟩ | ⟨g1, off1, c1, cur1, e, _⟩
    · omega
    · injection e with e1 _ e3
      subst e1; subst e3
      refine ⟨g1, off1, rfl, ?_⟩
      have q := Own.cellAt hI2 j (by omega)
      rw [q]; unfold intsV; rw [List.getElem?_map, HIDX.out]; rfl
  have hib : w.heap.size ≤ ib := Nat.le_trans HO1.out.size (hfi ib (by simp [blk]))
  have HIB := Lib.hid hib
  have HCE := Lib.hid hcell
  clear hib hcell
  clear hI2 ho2 hfi HG hlk1 k31
  generalize (pm.pick idle).length = il at *
  have hil0 : ((il : Int) == 0) = false := by rw [beq_eq_false_iff_ne]; omega
  go_wp2_with fail
  go_quiet (fail)
  clear hln2 hln3
  go_wp2_with fail
  refine (HRD.out _ (HO2.out.drewN _)).mono ?_
  rintro e w3 ⟨hk3, ⟨hs3, _⟩ | ⟨_, ao, cap, rfl, hb3, hf3⟩⟩
  · rw [HALL.out.2.2.2.2.2.2.2] at hs3; cases hs3
  have hw2 := (HALL.out.1.off (HO2.out.drewN nq) (by simp))
  obtain ⟨hw3, ha3⟩ := hw2.keep hk3
  have hp3 : PoolAt w3 p d g pm mb es clk qs := (HALL.out.2.1.off (HO2.out.drewN nq) (by simp)).off hk3.2 (fun z hz hz' => (hw2.2.2 z hz).1 hz')
  have HW3 := Lib.hid (And.intro hw3 (And.intro ((Acc3.quiet (HO2.out.drewN nq) : Acc3 ⟨D, L, p :: mb :: qs.flatMap (·.2.fp)⟩ w ⟨D, L, p :: mb :: qs.flatMap (·.2.fp)⟩ (w2.drewN nq)).trans ha3) hp3))
  have HT3 : Hid (Tbl t w3) := Lib.hid ((HALL.out.2.2.1.off (HO2.out.drewN nq) (by simp)).off hk3.2 HALL.out.2.2.2.1)
  have HB3 := Lib.hid (And.intro hb3 (fun z hz => Nat.le_trans (HO2.out.drewN nq).size (hf3 z hz)))
  obtain ⟨c03, _, _, k33, _, _⟩ := hp3.cells
  have HS3 := Lib.hid (shape51 hw3.1.1)
  rw [(act_shp dm).1] at HS3
  have hf1 := field28_1
  have HC3 : Hid (w3.cell? ⟨ib, ioff + j, none⟩ = some (.int .i64 (v : Int))) := Lib.hid (hk3.2.cell ((Off.refl [] w2).drewN nq |>.cell HCE.out (by simp)) (fun hz => by have := HALL.out.1.lt ib (by simp [hz]); have := HIB.out; omega))
  clear hk3 hb3 hf3 hw2 hw3 ha3 hp3 HRD k22 k32 k02
  go_wp2_with fail
  refine HS3.out.mono ?_
  rintro e w4 ⟨rfl, ho4⟩
  have HO4 := Lib.hid ho4
  have HC4 := Lib.hid (check64 _ l (n : Int) (dm.shp.slots : Nat) w4 (HT3.out.off ho4 (by simp)) (HB3.out.1.off ho4 (by simp)) (by have := HALL.out.2.2.2.2.2.2.1; omega))
  rw [HALL.out.2.2.2.2.2.1] at HC4
  unfold CheckPost at HC4
  rw [show (some x).getD 0 = x from rfl, show errOf (some x) 40 = 0 from rfl] at HC4
  clear ho4 HS3
  go_wp2_with fail
  refine HC4.out.mono ?_
  rintro e w5 ⟨rfl, ho5⟩
  have HO5 := Lib.hid (HO4.out.trans ho5 (by simp))
  have k35 := HO5.out.cell k33 (by simp)
  have hij : (0 : Int) ≤ (j : Int) := by omega
  have hji : (j : Int) < (il : Int) := by omega
  have hc5 : w5.cell? ⟨ib, ioff + j, none⟩ = some (.int .i64 (v : Int)) := HO5.out.cell HC3.out (by simp)
  have hm5 : IsM w5 mb es clk := HW3.out.2.2.map.off HO5.out (by simp)
  have hlv5 := HLV.out w5 hm5
  have hfr5 : w5.cell? ⟨q.2.fb, 2, none⟩ = some (.int .i64 (fv.rc : Nat)) := by
    have q5 := (HW3.out.2.2.off HO5.out (by simp)).fr q (by rw [HQ.out.1]; simp)
    rw [q5.1.cell]
    show some (Value.int .i64 (q.1.rc : Nat)) = _
    rw [HQ.out.2.2]
  obtain ⟨R, hR⟩ : ∃ R, R = writeM dm.act lm pm fv lsn := ⟨_, rfl⟩
  have HR := Lib.hid hR
  have HW65 : Hid (Calls Tryz.prog 65 #[.pointer (some ⟨p, 0, none⟩), .int .i64 (v : Int), .pointer (some ⟨q.2.fb, 0, none⟩)] w5 (WPost d g p ⟨D, L, p :: mb :: qs.flatMap (·.2.fp)⟩ R w5)) := Lib.hid (by
    have hp5 := HW3.out.2.2.off HO5.out (by simp)
    have hw5 := HW3.out.1.off HO5.out (by simp)
    have r := write65 (A := A) (B := B) (q := q) (mb := mb) (es := es) (clk := clk) (df := D) (lf := L) (HT3.out.off HO5.out (by simp)) (by rw [← HQ.out.1]; exact hw5) ⟨HALL.out.2.2.2.1, HWR.out.2.2.2.2.1⟩ (by rw [← HQ.out.1]; exact hp5) HWR.out.1 HWR.out.2.1 (by rw [HQ.out.2.2]; exact HWR.out.2.2.1)
    rw [← HQ.out.1, HQ.out.2.1, HQ.out.2.2, ← HR.out] at r
    exact r)
  have hR0 : R.2.2.2 = 1 := by rw [hR]; exact HWR.out.2.2.2.1
  rw [← HR.out] at HP
  have HRR := Lib.hid hR0
  have HB5 : Hid (IsB w5 (.slice ao l.length cap) l ∧ ∀ z ∈ blk (.slice ao l.length cap), w.heap.size ≤ z ∧ z < w5.heap.size) := Lib.hid ⟨HB3.out.1.off HO5.out (by simp), fun z hz => ⟨HB3.out.2 z hz, (HB3.out.1.off HO5.out (by simp)).lt z hz⟩⟩
  have HA5 := Lib.hid (HW3.out.2.1.trans (Acc3.quiet HO5.out))
  clear hR hR0 ho5 HC4 HW3 HB3 HT3
  go_wp2_with fail
  refine HW65.out.mono ?_
  rintro e w6 ⟨rfl, F6, hw6, hA6⟩
  have HF : Hid (P (.returned (.tuple #[.slice none 0 0, .int .i64 1])) w6) := Lib.hid (by rw [HP.out]; exact ⟨rfl, F6, hw6, HA5.out.trans hA6⟩)
  rw [HRR.out]
  clear HW65 hw6 hA6
  go_wp2_with fail
  first | exact HF.out | (go_ret2; exact HF.out)
end Go.Proofs.YtfdgiblkllfpjaaGreatDoor

/- PoolFirst: a run over the heap: Pin, Unpin, Look. -/
set_option linter.unusedVariables false
set_option linter.unusedSimpArgs false
namespace Go.Proofs.YtfdgiblkllfpjaaGreatDoor
open Go.ChangeShapes Go.WideShapes Go.ChangeAt Go.RowKit

/-- The whole, with what it keeps; and what is left of it where the disk has died. -/
def FW (w0 : World) (d g p : Nat) (t : Nat → Nat) (N : Nat) (cur : Nat → List UInt8) (wf : Nat → List (List UInt8)) (K : Nat) (c : Nat → Nat) (F : Fp3) (w : World) : Prop := ∃ dm lm pm i1 i2, Since w0 d g p dm lm pm F w ∧ FirI t N cur wf i1 i2 K c dm lm pm
def XW (w0 : World) (d g p : Nat) (t : Nat → Nat) (N : Nat) (wf : Nat → List (List UInt8)) (F : Fp3) (w : World) : Prop := ∃ dm lm pm, Since w0 d g p dm lm pm F w ∧ Safe t N wf dm
def FStep (w0 : World) (d g p : Nat) (t : Nat → Nat) (N : Nat) (cur : Nat → List UInt8) (wf : Nat → List (List UInt8)) (K : Nat) (c : Nat → Nat) (F : Fp3) (w w' : World) : Prop := ∃ F', FW w0 d g p t N cur wf K c F' w' ∧ Acc3 F w F' w'
def XStep (w0 : World) (d g p : Nat) (t : Nat → Nat) (N : Nat) (wf : Nat → List (List UInt8)) (F : Fp3) (w w' : World) : Prop := ∃ F', XW w0 d g p t N wf F' w' ∧ Acc3 F w F' w'
section
variable {t : Nat → Nat} {w0 w w' : World} {d g p N : Nat} {cur : Nat → List UInt8} {wf : Nat → List (List UInt8)} {K : Nat} {c c' : Nat → Nat} {F : Fp3}
theorem FW.mono (h : FW w0 d g p t N cur wf K c F w) {K' : Nat} (hK : K ≤ K') (hK' : K' < 400000000000000000) (hc : ∀ n, n < N → c n = c' n) : FW w0 d g p t N cur wf K' c' F w := by
  obtain ⟨dm, lm, pm, i1, i2, h1, h2⟩ := h
  exact ⟨dm, lm, pm, i1, i2, h1, (h2.mono hK hK').congr hc⟩
theorem FW.quiet (h : FW w0 d g p t N cur wf K c F w) (ho : Off [] w w') : FW w0 d g p t N cur wf K c F w' := by
  obtain ⟨dm, lm, pm, i1, i2, h1, h2⟩ := h
  exact ⟨dm, lm, pm, i1, i2, h1.quiet ho, h2⟩
theorem FW.write {S : List Nat} (h : FW w0 d g p t N cur wf K c F w) (ho : Off S w w') (hS : ∀ z ∈ S, w0.heap.size ≤ z ∧ z ∉ F.d ++ F.l ++ F.p) : FW w0 d g p t N cur wf K c F w' := by
  obtain ⟨dm, lm, pm, i1, i2, h1, h2⟩ := h
  exact ⟨dm, lm, pm, i1, i2, h1.write ho hS, h2⟩
theorem FW.since (h : FW w0 d g p t N cur wf K c F w) : Off [] w0 w ∧ (∀ z ∈ F.d ++ F.l ++ F.p, w0.heap.size ≤ z ∧ z < w.heap.size) := by
  obtain ⟨dm, lm, pm, i1, i2, h1, h2⟩ := h
  exact ⟨h1.2.2, fun z hz => ⟨h1.2.1 z hz, h1.1.lt z hz⟩⟩
theorem FW.small (h : FW w0 d g p t N cur wf K c F w) : K < 400000000000000000 := by
  obtain ⟨dm, lm, pm, i1, i2, h1, h2⟩ := h
  exact h2.small
theorem FW.rest (h : FW w0 d g p t N cur wf K c F w) : XW w0 d g p t N wf F w := by
  obtain ⟨dm, lm, pm, i1, i2, h1, h2⟩ := h
  exact ⟨dm, lm, pm, h1, h2.safe⟩
theorem XW.quiet (h : XW w0 d g p t N wf F w) (ho : Off [] w w') : XW w0 d g p t N wf F w' := by
  obtain ⟨dm, lm, pm, h1, h2⟩ := h
  exact ⟨dm, lm, pm, h1.quiet ho, h2⟩
theorem XW.write {S : List Nat} (h : XW w0 d g p t N wf F w) (ho : Off S w w') (hS : ∀ z ∈ S, w0.heap.size ≤ z ∧ z ∉ F.d ++ F.l ++ F.p) : XW w0 d g p t N wf F w' := by
  obtain ⟨dm, lm, pm, h1, h2⟩ := h
  exact ⟨dm, lm, pm, h1.write ho hS, h2⟩
theorem XW.since (h : XW w0 d g p t N wf F w) : Off [] w0 w ∧ (∀ z ∈ F.d ++ F.l ++ F.p, w0.heap.size ≤ z ∧ z < w.heap.size) := by
  obtain ⟨dm, lm, pm, h1, h2⟩ := h
  exact ⟨h1.2.2, fun z hz => ⟨h1.2.1 z hz, h1.1.lt z hz⟩⟩
def FPinPost (w0 : World) (d g p : Nat) (t : Nat → Nat) (N : Nat) (cur : Nat → List UInt8) (wf : Nat → List (List UInt8)) (K : Nat) (c : Nat → Nat) (a : Nat) (F : Fp3) (w : World) (e : Ending) (w' : World) : Prop :=
  (∃ F' ao cap, e = .returned (.tuple #[.slice ao 40 cap, .int .i64 0]) ∧ FW w0 d g p t N cur wf K c F' w' ∧ Acc3 F w F' w' ∧ IsB w' (.slice ao 40 cap) (cur a) ∧ ∀ z ∈ blk (.slice ao 40 cap), w.heap.size ≤ z ∧ z ∉ F'.d ++ F'.l ++ F'.p) ∨
  (e = .returned (.tuple #[.slice none 0 0, .int .i64 1]) ∧ XStep w0 d g p t N wf F w w')
theorem FW.pin (ht : Tbl t w0) (h : FW w0 d g p t N cur wf K c F w) (hc0 : ∀ n, n < N → c n = 0) (hK : K + 7 < 400000000000000000) (a : Nat) (ha : a < N) (pick : Int) :
    Calls Tryz.prog 16 #[.pointer (some ⟨p, 0, none⟩), .int .i64 (a : Int), .int .i64 pick] w (FPinPost w0 d g p t N cur wf (K + 7) (bump c a) a F w) := by
  obtain ⟨dm, lm, pm, i1, i2, hs, hJ⟩ := h
  have hI := hJ.main
  obtain ⟨hT, z1, z2, z3⟩ := hs.zero ht
  have hsh : dm.shp = ⟨N, 1, 65536⟩ := hI.shp
  have hn : a < dm.shp.pages := by rw [hsh]; exact ha
  have hpg := hI.pages
  have hac : dm.acts ≤ K := hI.desk.2.2.1
  have hfit : dm.fit := hI.desk.1
  obtain ⟨p1, x, p2, p3, p4⟩ := hI.page a ha
  have hck : pageCheck t (cur a) (a : Int) (dm.shp.slots : Nat) = some x := by rw [hsh]; exact p2
  cases hf : pm.find a with
  | some f =>
    obtain ⟨f1, f2⟩ := pfind_some hf
    obtain ⟨e1, e2, e3, e4⟩ := hI.fr f f1
    have hfb : f.b = cur a := by rw [e1, f2]
    refine (pin16_held hs.1 hI.dead a hn f hf (by rw [hfb, p1]; omega) (by rw [e3, f2, hc0 a ha]; omega) pick).mono ?_
    rintro e w' ⟨F1, ao, cap, rfl, hW, hA1, hb, hfr⟩
    rw [hfb, p1] at hb hfr ⊢
    refine .inl ⟨F1, ao, cap, rfl, ⟨dm, lm, _, i1, i2, hs.step hW hA1, ((hJ.setP hf _).mono (by omega) hK).congr (fun n hn => ?_)⟩, hA1, hb, hfr⟩
    unfold bump
    by_cases q : n = a
    · rw [if_pos q, if_pos q, e3, f2, q]
    · rw [if_neg q, if_neg q]
  | none =>
    obtain ⟨o1, o2, o3⟩ := hI.out a ha hf
    have o1' : dm.reads[a]? = some (cur a) := o1
    have hallidle : pm.held.filter idle = pm.held := List.filter_eq_self.2 (fun f hf' => by obtain ⟨_, k2, k3, _⟩ := hI.fr f hf'; unfold idle; rw [k3, hc0 _ k2]; rfl)
    have hlen : (pm.pick idle).length = pm.held.length := by unfold PoolM.pick numsI; rw [srtI_len, List.length_map, hallidle]
    cases hst : dm.stops with
    | true =>
      have hroom : pm.held.length < pm.most ∨ (pm.held.length = pm.most ∧ 0 < (pm.pick idle).length) := by
        have := hI.len; have := hI.most.1
        by_cases q : pm.held.length < pm.most
        · exact .inl q
        · exact .inr ⟨by omega, by omega⟩
      refine (pin16_stop hs.1 hI.dead (by omega) a hn hf hroom (cur a) o1' (by omega) hst pick).mono ?_
      rintro e w' ⟨rfl, F1, hW, hA1⟩
      exact .inr ⟨rfl, F1, ⟨_, _, _, hs.step hW hA1, hJ.safe.act⟩, hA1⟩
    | false =>
      by_cases hr : pm.held.length < pm.most
      · refine (pin16_room hT hs.1 z1 hI.dead (by omega) hfit a hn hf hr (cur a) o1' x hck hst pick).mono ?_
        rintro e w' ⟨F1, ao, cap, rfl, hW, hA1, hb, hfr⟩
        rw [p1] at hb hfr ⊢
        exact .inl ⟨F1, ao, cap, rfl, ⟨_, lm, _, i1, i2, hs.step hW hA1, ((hJ.act hst (by omega)).addP ha hf hr).mono (by omega) hK⟩, hA1, hb, hfr⟩
      · have hful : pm.held.length = pm.most := by have := hI.len; omega
        have hil : 0 < (pm.pick idle).length := by have := hI.most.1; omega
        obtain ⟨j, hj⟩ : ∃ j : Nat, (pick.tmod ((pm.pick idle).length : Nat) + ((pm.pick idle).length : Nat)).tmod ((pm.pick idle).length : Nat) = (j : Int) ∧ j < (pm.pick idle).length := by
          have x1 := Int.lt_tmod_of_pos pick (show (0 : Int) < ((pm.pick idle).length : Nat) by omega)
          have x2 := Int.tmod_nonneg ((pm.pick idle).length : Nat) (show (0 : Int) ≤ pick.tmod ((pm.pick idle).length : Nat) + ((pm.pick idle).length : Nat) by omega)
          have x3 := Int.tmod_lt_of_pos (pick.tmod ((pm.pick idle).length : Nat) + ((pm.pick idle).length : Nat)) (show (0 : Int) < ((pm.pick idle).length : Nat) by omega)
          exact ⟨((pick.tmod ((pm.pick idle).length : Nat) + ((pm.pick idle).length : Nat)).tmod ((pm.pick idle).length : Nat)).toNat, by omega, by omega⟩
        have hx := List.getElem?_eq_getElem hj.2
        obtain ⟨fv, v1, v2, v3⟩ := pfr_mem (List.mem_of_getElem? hx)
        rw [v3] at hx
        obtain ⟨k1, k2, k3, k4, k5⟩ := hI.fr fv v1
        have hv0 : c fv.num = 0 := hc0 _ k2
        have hfv := pfind_mem hI.nod v1
        by_cases hrc : fv.rc = 0
        · refine (pin16_evict hT hs.1 z1 hI.dead (by omega) hfit a hn pick hf hful (by have := hI.most; omega) hj.1 hx hfv hrc (cur a) o1' x hck hst).mono ?_
          rintro e w' ⟨F1, ao, cap, rfl, hW, hA1, hb, hfr⟩
          rw [p1] at hb hfr ⊢
          obtain ⟨y1, y2⟩ := (hJ.act hst (by omega)).delP hfv hv0 hrc
          exact .inl ⟨F1, ao, cap, rfl, ⟨_, lm, _, i1, i2, hs.step hW hA1, (y1.addP ha (del_none hf) y2).mono (by omega) hK⟩, hA1, hb, hfr⟩
        · have hr0 : 0 < fv.rc := by omega
          have hJa := hJ.act hst (by omega)
          have hsh1 : dm.act.shp = dm.shp := dm.act_fields.1
          have hpage : PageOk t dm.act.shp fv ((pageLsn fv.b).getD 0) := by
            have q := hJa.main.pool
            exact (PoolOk.page (s := dm.act.shp) q v1 hr0)
          rcases hJa.write v1 hr0 (by omega) with ⟨w2, w3, j1, j2, w4⟩ | ⟨w2, w3⟩
          · refine (pin16_dirty hT hs.1 z1 z2 hI.dead (by omega) hfit a hn pick hf hful (by have := hI.most; omega) hj.1 hx hfv hr0 (k := K + 1) (by omega) hJa.deskOk hpage w2 (cur a) o1' x hck hst).mono ?_
            rintro e w' ⟨F1, ao, cap, rfl, hW, hA1, hb, hfr⟩
            rw [p1] at hb hfr ⊢
            have hset := set_find (f' := { fv with rc := 0 }) hfv rfl
            obtain ⟨y1, y2⟩ := w4.delP hset hv0 rfl
            refine .inl ⟨F1, ao, cap, rfl, ⟨_, _, _, j1, j2, hs.step hW hA1, (y1.addP ha (del_none ?_) y2).mono (by omega) hK⟩, hA1, hb, hfr⟩
            refine pfind_none.2 (fun y hy e => ?_)
            obtain ⟨z, hz, e2⟩ := List.mem_map.1 (show y ∈ pm.held.map (fun y => if y.num = fv.num then { fv with rc := 0 } else y) from hy)
            by_cases q : z.num = fv.num
            · rw [if_pos q] at e2; subst e2
              exact pfind_none.1 hf z hz (by rw [q]; exact e)
            · rw [if_neg q] at e2; subst e2
              exact pfind_none.1 hf z hz e
          · refine (pin16_dirtyStop hT hs.1 z1 z2 hI.dead (by omega) hfit a hn pick hf hful (by have := hI.most; omega) hj.1 hx hfv hr0 (k := K + 1) (by omega) hJa.deskOk hpage w2 (cur a) o1' x hck hst).mono ?_
            rintro e w' ⟨rfl, F1, hW, hA1⟩
            exact .inr ⟨rfl, F1, ⟨_, _, _, hs.step hW hA1, w3⟩, hA1⟩
theorem FW.unpin (h : FW w0 d g p t N cur wf K c F w) (a : Nat) (ha : a < N) (hp : 0 < c a) :
    Calls Tryz.prog 27 #[.pointer (some ⟨p, 0, none⟩), .int .i64 (a : Int)] w (fun e w' => e = .returned (.tuple #[]) ∧ FStep w0 d g p t N cur wf K (drop1 c a) F w w') := by
  obtain ⟨dm, lm, pm, i1, i2, hs, hJ⟩ := h
  have hI := hJ.main
  obtain ⟨mb, es, clk, qs, hat, hpf⟩ := hs.1.2.1
  refine (unpin27 hat a).mono ?_
  rintro e w' ⟨rfl, hst⟩
  rw [← hpf] at hst
  obtain ⟨Q, hW, hA⟩ := hs.1.poolAt hst
  refine ⟨rfl, _, ⟨dm, lm, _, i1, i2, hs.step hW hA, ?_⟩, hA⟩
  cases hf : pm.find a with
  | none => have := (hI.out a ha hf).2.2; omega
  | some f =>
    obtain ⟨f1, f2⟩ := pfind_some hf
    have e4 := (hI.fr f f1).2.2.1
    unfold PoolM.unpin
    rw [hf]
    simp only
    rw [if_pos (by rw [e4, f2]; exact hp)]
    refine (hJ.setP hf _).congr (fun n hn => ?_)
    unfold drop1
    by_cases q : n = a
    · rw [if_pos q, if_pos q, e4, f2, q]
    · rw [if_neg q, if_neg q]
theorem FW.look (h : FW w0 d g p t N cur wf K c F w) (a : Nat) (ha : a < N) (hp : 0 < c a) :
    Calls Tryz.prog 20 #[.pointer (some ⟨p, 0, none⟩), .int .i64 (a : Int)] w (fun e w' => ∃ ao cap, e = .returned (.tuple #[.slice ao 40 cap, .bool true]) ∧ IsB w' (.slice ao 40 cap) (cur a) ∧ Off [] w w') := by
  obtain ⟨dm, lm, pm, i1, i2, hs, hJ⟩ := h
  have hI := hJ.main
  cases hf : pm.find a with
  | none => have := (hI.out a ha hf).2.2; omega
  | some f =>
    obtain ⟨f1, f2⟩ := pfind_some hf
    obtain ⟨e1, e2, _⟩ := hI.fr f f1
    refine (look_since hs hf (fun f hf => by obtain ⟨q1, q2, _⟩ := hI.fr f hf; rw [q1, (hI.page _ q2).1]; omega)).mono ?_
    rintro e w' ⟨ao, cap, rfl, hb, ho, _⟩
    rw [e1, f2, (hI.page a ha).1] at hb ⊢
    exact ⟨ao, cap, rfl, hb, ho⟩
end
end Go.Proofs.YtfdgiblkllfpjaaGreatDoor
