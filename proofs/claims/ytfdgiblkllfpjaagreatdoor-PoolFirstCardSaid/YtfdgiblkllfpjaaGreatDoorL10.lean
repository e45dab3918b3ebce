/- Slices of ints; slices.Sort of one that is the call's own. -/
import Derived.Test.YtfdgiblkllfpjaaGreatDoorL09
import Derived.Shelf.Small.Bits
import Derived.Outline
set_option linter.unusedVariables false
set_option linter.unusedSimpArgs false
namespace Go.Proofs.YtfdgiblkllfpjaaGreatDoor
open Go.ChangeShapes Go.WideShapes Go.ChangeAt Go.RowKit

def intsV (l : List Int) : List Value := l.map (Value.int .i64)
def IsI (w : World) (v : Value) (l : List Int) : Prop := Own w 3 1 v l.length (intsV l)
theorem intsV_len (l : List Int) : (intsV l).length = l.length := by simp [intsV]
theorem iinfo3 : (Tryz.prog.info? 3).map (fun i => (i.zero, i.size, i.bytes)) = some (some (.int .i64 0), 1, 8) := by kernel_rfl
theorem IsI.nil (w : World) : IsI w (.slice none 0 0) [] := Own.nil w 3 1
theorem IsI.off {w w' : World} {v : Value} {l : List Int} {S : List Nat} (h : IsI w v l) (ho : Off S w w') (hn : ∀ b ∈ blk v, b ∉ S) : IsI w' v l := Own.off h ho hn
theorem IsI.val {w : World} {v : Value} {l : List Int} (h : IsI w v l) : ∃ ao cap, v = .slice ao l.length cap := by obtain ⟨a, c, e, _⟩ := Own.val h; exact ⟨a, c, e⟩
/-- All the cells of a slice written over. -/
theorem Own.setAll {w : World} {e : TypeId} {sz g off cap n : Nat} {xs ys : List Value} (h : Own w e sz (.slice (some ⟨g, off, none⟩) n cap) n xs) (hy : ys.length = n * sz) : Own (w.setCells g off ys) e sz (.slice (some ⟨g, off, none⟩) n cap) n ys ∧ Off [g] w (w.setCells g off ys) := by
  refine ⟨⟨hy, ?_⟩, off_setCells _ _ _ (Off.refl _ _) (.inl (by simp))⟩
  rcases h.2 with ⟨e, _⟩ | ⟨g', off', cap', cur, e, hc, hnc, hcm, hcs, ht⟩
  · simp at e
  · injection e with e1 _ e3
    injection e1 with e1
    injection e1 with e1 e4 _
    subst e1; subst e4; subst e3
    have hle : n * sz ≤ cap * sz := Nat.mul_le_mul_right _ hnc
    refine .inr ⟨g, off, cap, _, rfl, isC_setCells ys off w cur hc (by omega), hnc, hcm, ?_, ?_⟩
    · rw [List.size_toArray, length_splice _ _ _ (by simp; omega)]; simpa using hcs
    · rw [List.toList_toArray]
      unfold splice
      have hlt : (cur.toList.take off).length = off := by rw [List.length_take]; simp; omega
      rw [List.drop_left' hlt, ← hy, List.take_left]
theorem sorted_eq : ∀ {L M : List Int}, L.Perm M → L.Pairwise (· ≤ ·) → M.Pairwise (· ≤ ·) → L = M
  | [], M, h, _, _ => (List.nil_perm.1 h).symm
  | a :: L, [], h, _, _ => by simp at h
  | a :: L, b :: M, h, h1, h2 => by
    obtain ⟨p1, p2⟩ := List.pairwise_cons.1 h1
    obtain ⟨q1, q2⟩ := List.pairwise_cons.1 h2
    have e : a = b := by
      rcases List.mem_cons.1 (h.mem_iff.1 (List.mem_cons_self (a := a) (l := L))) with e | m
      · exact e
      · rcases List.mem_cons.1 (h.mem_iff.2 (List.mem_cons_self (a := b) (l := M))) with e | n
        · exact e.symm
        · have := q1 a m; have := p1 b n; omega
    subst e
    rw [sorted_eq (List.Perm.cons_inv h) p2 q2]
def srtI (l : List Int) : List Int := l.mergeSort fun x y => decide (x ≤ y)
theorem srtI_perm (l : List Int) : (srtI l).Perm l := List.mergeSort_perm _ _
theorem srtI_sorted (l : List Int) : (srtI l).Pairwise (· ≤ ·) := by
  have := List.pairwise_mergeSort (le := fun x y : Int => decide (x ≤ y)) (fun a b c h1 h2 => by simp at *; omega) (fun a b => by simp; omega) l
  exact this.imp (fun h => by simpa using h)
theorem srtI_eq {l m : List Int} (h : l.Perm m) : srtI l = srtI m := sorted_eq ((srtI_perm l).trans (h.trans (srtI_perm m).symm)) (srtI_sorted l) (srtI_sorted m)
theorem srtI_len (l : List Int) : (srtI l).length = l.length := (srtI_perm l).length_eq
theorem off_grow {S : List Nat} {w : World} (os : Array Obj) : Off S w (Go.Sort.grow w os) := ⟨rfl, rfl, rfl, by simp [Go.Sort.grow], fun k hk _ => Go.Sort.heap_grow_old w os hk⟩
open Go.Shelf in
theorem sort125_some (g off cap : Nat) (l : List Int) (w : World) (h : IsI w (.slice (some ⟨g, off, none⟩) l.length cap) l) (hl : l.length < 1000000) :
    Calls Tryz.prog 125 #[.slice (some ⟨g, off, none⟩) l.length cap] w fun e w' => e = .returned (.tuple #[]) ∧ IsI w' (.slice (some ⟨g, off, none⟩) l.length cap) (srtI l) ∧ Off [g] w w' := by
  have hH : Go.Sort.Holds (Value.int .i64) w g off l.toArray := fun j hj => by
    have hj' : j < l.length := by simpa using hj
    refine ⟨?_, Own.unfrozen h _⟩
    rw [Own.cellAt h j (by omega)]
    simp [intsV, hj']
  refine (Any.slices_Sort_int Tryz.laysSort g off cap l w hH (h.lt g (by simp [blk])) (by omega)).mono ?_
  rintro e w' ⟨he, n, os, rfl⟩
  rw [Lib.sorted_world (Value.int .i64) w g off n l.toArray _ os hH (by simp)]
  have ho : Off [] w (w.drewN n) := (Off.refl [] w).drewN n
  have h2 : IsI (w.drewN n) (.slice (some ⟨g, off, none⟩) l.length cap) l := h.off ho (by simp)
  obtain ⟨q1, q2⟩ := Own.setAll (ys := intsV (srtI l)) h2 (by rw [intsV_len, srtI_len]; omega)
  refine ⟨he, ?_, (ho.mono (by simp)).trans (q2.trans (off_grow (S := []) os) (by simp)) (fun z hz => .inl hz)⟩
  unfold IsI
  rw [srtI_len]
  exact Own.off q1 (off_grow (S := []) os) (by simp)
set_option maxRecDepth 100000 in
set_option maxHeartbeats 2000000 in
theorem insertion232_nil (w : World) : Calls Tryz.prog 232 #[.slice none 0 0, .int .i64 0, .int .i64 0] w fun e w' => e = .returned (.tuple #[]) ∧ w = w' := by
  go_enter Tryz.func232, Tryz.ntmps232
  go_wp2
  refine wp_loop_rounds 1 ?_
  rw [rounds_succ]
  go_wp2
  go_end0
  exact ⟨rfl, rfl⟩
set_option maxRecDepth 100000 in
set_option maxHeartbeats 2000000 in
theorem pdq192_nil (w : World) : Calls Tryz.prog 192 #[.slice none 0 0, .int .i64 0, .int .i64 0, .int .i64 0] w fun e w' => e = .returned (.tuple #[]) ∧ w = w' := by
  have HI := Lib.hid (insertion232_nil w)
  go_enter Tryz.func192, Tryz.ntmps192
  go_wp2
  refine wp_loop_rounds 1 ?_
  rw [rounds_succ]
  go_wp2_with fail
  refine HI.out.mono ?_
  rintro e w1 ⟨rfl, rfl⟩
  go_wp2_with fail
  first | (go_end0; exact ⟨rfl, rfl⟩) | ((try simp only [Exit.inBlock, Exit.then]); refine bodyPost_ret (results_none rfl _ _ _) rfl ?_; exact ⟨rfl, rfl⟩)
open Go.Shelf in
set_option maxRecDepth 100000 in
set_option maxHeartbeats 2000000 in
theorem sort125_nil (w : World) : Calls Tryz.prog 125 #[.slice none 0 0] w fun e w' => e = .returned (.tuple #[]) ∧ w = w' := by
  have HL : Hid (Calls Tryz.prog 193 #[.int .u64 0] w fun e w' => e = .returned (.int .i64 0) ∧ w' = w) := Lib.hid (Any.bits_Len { Tryz.laysSort with } 0 w (by omega) (by omega))
  have HP := Lib.hid (pdq192_nil w)
  go_enter Tryz.func125, Tryz.ntmps125
  go_wp2_with fail
  refine HL.out.mono ?_
  rintro e w1 ⟨rfl, rfl⟩
  go_wp2_with fail
  refine HP.out.mono ?_
  rintro e w2 ⟨rfl, rfl⟩
  go_wp2_with fail
  go_end0
  exact ⟨rfl, rfl⟩
theorem sort125 (v : Value) (l : List Int) (w : World) (h : IsI w v l) (hl : l.length < 1000000) :
    Calls Tryz.prog 125 #[v] w fun e w' => e = .returned (.tuple #[]) ∧ IsI w' v (srtI l) ∧ Off (blk v) w w' := by
  rcases h.2 with ⟨rfl, h0⟩ | ⟨g, off, cap, cur, rfl, _⟩
  · have : l = [] := List.length_eq_zero_iff.1 h0
    subst this
    refine (sort125_nil w).mono ?_
    rintro e w' ⟨he, rfl⟩
    exact ⟨he, by have : srtI [] = [] := List.length_eq_zero_iff.1 (srtI_len []); rw [this]; exact IsI.nil _, Off.refl _ _⟩
  · refine (sort125_some g off cap l w h hl).mono ?_
    rintro e w' ⟨he, h1, h2⟩
    exact ⟨he, h1, by simpa [blk] using h2⟩
end Go.Proofs.YtfdgiblkllfpjaaGreatDoor

/- pool: gathered. -/
set_option linter.unusedVariables false
set_option linter.unusedSimpArgs false
namespace Go.Proofs.YtfdgiblkllfpjaaGreatDoor
open Go.ChangeShapes Go.WideShapes Go.ChangeAt Go.RowKit

def numsI (l : List Fr) : List Int := l.map (fun f => (f.num : Int))
/-- The numbers of the held pages that are wanted, rising. -/
def PoolM.pick (pm : PoolM) (pr : Fr → Bool) : List Int := srtI (numsI (pm.held.filter pr))
def FreshI (w : World) (l : List Int) (e : Ending) (w' : World) : Prop :=
  ∃ ao cap, e = .returned (.slice ao l.length cap) ∧ IsI w' (.slice ao l.length cap) l ∧ Off [] w w' ∧ ∀ x ∈ blk (.slice ao l.length cap), w.heap.size ≤ x
def GathIn (w : World) (mb : Nat) (es : Array MapEntry) (clk : Nat) (qs : List (Fr × Loc)) (pr : Fr → Bool) (r : Nat) (v : Value) (wr : World) : Prop :=
  ∃ (tq : List (Fr × Loc)) (L : List Int), Going wr mb r es clk (tq.map entP) ∧ (∀ q ∈ tq, q ∈ qs) ∧ IsI wr v L ∧ (∀ z ∈ blk v, w.heap.size ≤ z ∧ z ≠ r) ∧ Off [] w wr ∧ (L ++ numsI ((tq.map (·.1)).filter pr)).Perm (numsI ((qs.map (·.1)).filter pr)) ∧ L.length + tq.length ≤ qs.length
theorem Going.left {w : World} {m r : Nat} {es : Array MapEntry} {clk : Nat} {todo : List (Int × Value)} (h : Going w m r es clk todo) : w.rangeLeft m r = todo.length := by
  obtain ⟨since, seen, c0, k1, k2, k3, _, _, _, k7⟩ := h
  unfold World.rangeLeft
  unfold IsM at k1
  rw [k1, k3]
  have := congrArg List.length k7
  simpa using this
set_option maxRecDepth 100000 in
set_option maxHeartbeats 8000000 in
theorem gathered61 {w : World} {p d g : Nat} {pm : PoolM} {mb : Nat} {es : Array MapEntry} {clk : Nat} {qs : List (Fr × Loc)} (h : PoolAt w p d g pm mb es clk qs) (hql : qs.length ≤ 16) (c : Nat) (hent : ∀ args w, (callFunc c args).run Tryz.prog w = .ok (.enter c args) w) (pr : Fr → Bool)
    (hc : ∀ W q, q ∈ qs → FrOk W q → Calls Tryz.prog c #[.pointer (some ⟨q.2.fb, 0, none⟩)] W fun e w' => e = .returned (.bool (pr q.1)) ∧ W = w') :
    Calls Tryz.prog 61 #[.pointer (some ⟨p, 0, none⟩), .func (.func c) #[] #[]] w (FreshI w (pm.pick pr)) := by
  obtain ⟨_, _, _, k3, _, _⟩ := h.cells
  obtain ⟨hrg, hg0⟩ := Going.start (P := Tryz.prog) h.map h.stamp h.ent Tryz.underlying125
  have hmlt := h.map.lt
  have HF : Hid (∀ W, Off [] w W → ∀ q ∈ qs, FrOk W q) := Lib.hid (fun W ho q hq => (h.fr q hq).off ho (by simp))
  have HC := Lib.hid hc
  have HIN : Hid (GathIn w mb es clk qs pr w.heap.size (.slice none 0 0) (w.alloc (.mapIter (some mb) clk #[] clk))) := Lib.hid ⟨qs, [], hg0, fun q hq => hq, IsI.nil _, by simp [blk], (Off.refl [] w).alloc _, by simp, by simp⟩
  have HFIN : Hid (∀ L : List Int, L.Perm (numsI ((qs.map (·.1)).filter pr)) → srtI L = pm.pick pr) := Lib.hid (fun L hp => by unfold PoolM.pick; rw [← h.held]; exact srtI_eq hp)
  obtain ⟨P, hP⟩ : ∃ P, P = FreshI w (pm.pick pr) := ⟨_, rfl⟩
  rw [← hP]
  have HP := Lib.hid hP
  have HR : Hid (mb ≠ w.heap.size) := Lib.hid (by omega)
  have HMB : Hid (mb < w.heap.size) := Lib.hid hmlt
  clear hP h hc hg0 hmlt
  generalize hr : w.heap.size = r at *
  have HRW := Lib.hid hr
  clear hr
  go_enter Tryz.func61, Tryz.ntmps61
  go_wp2_with fail
  clear hrg
  go_loopw [5] (fun v wr => GathIn w mb es clk qs pr r v wr) (fun _ wr => wr.rangeLeft mb r)
  case atStart => exact HIN.out
  case round =>
    obtain ⟨tq, L, hgo, htq, hL, hfr, ho, hperm, hlen⟩ := hrel
    have HG := Lib.hid hgo
    have HTQ := Lib.hid htq
    have HL := Lib.hid hL
    have HFR := Lib.hid hfr
    have HO := Lib.hid ho
    have HPM := Lib.hid (And.intro hperm hlen)
    have HLF := Lib.hid hgo.left
    obtain ⟨vo, vc, rfl⟩ := hL.val
    clear hgo htq hL hfr ho hperm hlen HIN
    go_wp2_with (at_next; go_loud (refine wp_next_map _ rfl _ rfl rfl HG.out HR.out ?_ ?_))
    · intro htd
      have htd' : tq = [] := by first | exact htd | exact List.map_eq_nil_iff.1 htd
      subst htd'
      have HS := Lib.hid (sort125 _ L wr HL.out (by have := HPM.out.2; simp at this; omega))
      have hpl := HPM.out.1
      simp only [List.map_nil, List.filter_nil, numsI, List.append_nil] at hpl
      have HSE := Lib.hid (HFIN.out L hpl)
      clear htd hpl
      go_wp2_with fail
      refine HS.out.mono ?_
      rintro e w2 ⟨rfl, x1, x2⟩
      have HE : Hid (P (.returned (.slice vo L.length vc)) w2) := Lib.hid (by
        rw [HP.out]
        refine ⟨vo, vc, by rw [← HSE.out, srtI_len], by rw [← HSE.out, srtI_len]; exact x1, ?_, fun z hz => ?_⟩
        · exact HO.out.trans x2 (fun z hz => .inr (HFR.out z hz).1)
        · exact (HFR.out z (by cases vo <;> exact hz)).1)
      clear x1 x2 HS
      go_wp2_with fail
      first | exact HE.out | (go_ret; exact HE.out)
    · intro pre x v post w2 htd hg2 ho2 hsz2 hen
      obtain ⟨a, rest, rfl, ha, hrest⟩ := List.map_eq_append_iff.1 htd
      obtain ⟨q, b, rfl, hq, hb⟩ := List.map_eq_cons_iff.1 hrest
      subst ha; subst hb
      simp only [entP, Prod.mk.injEq] at hq
      obtain ⟨rfl, rfl⟩ := hq
      have hqm : q ∈ qs := HTQ.out q (by simp)
      have o2 : Off [] w w2 := HO.out.trans ho2 (fun z hz => .inr (by simp at hz; rw [hz, ← HRW.out]; exact Nat.le_refl _))
      have HCL := Lib.hid (HC.out w2 q hqm (HF.out w2 o2 q hqm))
      have HG2 : Hid (Going w2 mb r es clk ((a ++ b).map entP)) := Lib.hid (by rw [List.map_append]; exact hg2)
      have HO2 := Lib.hid o2
      have HL2 : Hid (IsI w2 (.slice vo L.length vc) L) := Lib.hid (HL.out.off ho2 (fun z hz hz' => (HFR.out z hz).2 (by simpa using hz')))
      clear htd hrest hg2 ho2 hsz2 o2 HG HL
      have hcast : ∀ n : Nat, (n : Int) < 9223372036854775808 → True := fun _ _ => trivial
      clear hcast
      cases hpr : pr q.1
      · rw [hpr] at HCL
        have HN : Hid (GathIn w mb es clk qs pr r (.slice vo L.length vc) w2) := Lib.hid ⟨a ++ b, L, HG2.out, fun y hy => HTQ.out y (by rcases List.mem_append.1 hy with e | e <;> simp [e]), HL2.out, HFR.out, HO2.out, by
          have := HPM.out.1
          simpa [List.filter_append, List.filter_cons, hpr] using this, by have := HPM.out.2; simp at this ⊢; omega⟩
        go_wp2_with fail
        refine HCL.out.mono ?_
        rintro e w3 ⟨rfl, rfl⟩
        clear HCL hen
        go_wp2_with fail
        go_roundw
        case rel => exact HN.out
        case measure => rw [HG2.out.left, HLF.out]; simp
      · rw [hpr] at HCL
        have HOA : Hid (Own w2 3 1 (.slice vo L.length vc) L.length (intsV L)) := Lib.hid HL2.out
        go_wp2_with fail
        refine HCL.out.mono ?_
        rintro e w3 ⟨rfl, rfl⟩
        clear HCL hen
        have HOB := Lib.hid (HOA.out.alloc (.cells #[.int .i64 (q.1.num : Nat)] 3))
        have HSRC := Lib.hid (src_new (P := Tryz.prog) w2 (t := 57) (e := 3) (e' := 3) (sz := 1) #[.int .i64 (q.1.num : Nat)] 1 Tryz.underlying57 (by decide) rfl (by simp [Value.oneCell']))
        have HBD := Lib.hid (show (L.length + 1) * 8 ≤ 140737488355328 by have := HPM.out.2; simp at this; omega)
        go_wp2_with (at_builtin; go_loud (refine wp_app rfl _ _ 57 57 rfl rfl HOB.out Tryz.underlying57 iinfo3 rfl (by decide) rfl HSRC.out HBD.out ?_))
        intro ao4 cap4 w4 q1 q2 q3
        have o34 : Off (blk (.slice vo L.length vc)) w2 w4 := ((Off.refl _ w2).alloc _).trans q2 (fun z hz => .inl hz)
        have hrs : r < w2.heap.size := by have := HO2.out.size; have h := HG2.out; obtain ⟨_, _, _, _, _, h, _⟩ := h; exact lt_of_has h
        have HG4 : Hid (Going w4 mb r es clk ((a ++ b).map entP)) := Lib.hid (HG2.out.off o34 (fun hz => by have h := (HFR.out mb hz).1; have := HMB.out; have := HRW.out; omega) (fun hz => (HFR.out r hz).2 rfl))
        have HN : Hid (GathIn w mb es clk qs pr r (.slice ao4 (L.length + 1) cap4) w4) := Lib.hid ⟨a ++ b, L ++ [(q.1.num : Int)], HG4.out, fun y hy => HTQ.out y (by rcases List.mem_append.1 hy with e | e <;> simp [e]), by
            unfold IsI; rw [List.length_append, List.length_singleton]; unfold intsV; rw [List.map_append]; exact q1, fun z hz => by
            rcases q3 with e | e
            · rw [e] at hz; exact HFR.out z hz
            · rw [e] at hz; simp at hz; have := HO2.out.size; exact ⟨by omega, by omega⟩, HO2.out.trans o34 (fun z hz => .inr (HFR.out z hz).1), by
            have := HPM.out.1
            refine List.Perm.trans ?_ this
            simp only [List.map_append, List.map_cons, List.filter_append, List.filter_cons, hpr, if_true, numsI, List.append_assoc]
            refine List.Perm.append_left L ?_
            exact (List.perm_middle (l₁ := numsI (List.filter pr (List.map (fun x => x.1) a))) (l₂ := numsI (List.filter pr (List.map (fun x => x.1) b))) (a := (q.1.num : Int))).symm, by have := HPM.out.2; simp at this ⊢; omega⟩
        clear q1 q2 q3 o34 HOB HSRC
        go_wp2_with fail
        go_roundw
        case rel => exact HN.out
        case measure => rw [HG4.out.left, HLF.out]; simp
end Go.Proofs.YtfdgiblkllfpjaaGreatDoor

/- pool: the wanted ones, Unpin; a disk, a log and a pool beside each other. -/
set_option linter.unusedVariables false
set_option linter.unusedSimpArgs false
namespace Go.Proofs.YtfdgiblkllfpjaaGreatDoor
open Go.ChangeShapes Go.WideShapes Go.ChangeAt Go.RowKit

def idle (f : Fr) : Bool := f.pins == 0
def dirty (f : Fr) : Bool := decide (0 < f.rc)
def all (f : Fr) : Bool := true
theorem ent62 : ∀ args w, (callFunc 62 args).run Tryz.prog w = .ok (.enter 62 args) w := enters_of Tryz.func62 (by kernel_rfl) rfl
theorem ent73 : ∀ args w, (callFunc 73 args).run Tryz.prog w = .ok (.enter 73 args) w := enters_of Tryz.func73 (by kernel_rfl) rfl
theorem ent75 : ∀ args w, (callFunc 75 args).run Tryz.prog w = .ok (.enter 75 args) w := enters_of Tryz.func75 (by kernel_rfl) rfl
theorem ent76 : ∀ args w, (callFunc 76 args).run Tryz.prog w = .ok (.enter 76 args) w := enters_of Tryz.func76 (by kernel_rfl) rfl
section
set_option maxRecDepth 100000
set_option maxHeartbeats 2000000
theorem idle62 (W : World) (q : Fr × Loc) (h : FrOk W q) : Calls Tryz.prog 62 #[.pointer (some ⟨q.2.fb, 0, none⟩)] W fun e w' => e = .returned (.bool (idle q.1)) ∧ W = w' := by
  have c1 := h.1.cell 1
  simp only [frC, List.getElem?_toArray, List.getElem?_cons_zero, List.getElem?_cons_succ] at c1
  have e1 : (((q.1.pins : Nat) : Int) == 0) = idle q.1 := by unfold idle; rw [Bool.eq_iff_iff]; simp
  have HE := Lib.hid e1
  clear h e1
  go_enter Tryz.func62, Tryz.ntmps62
  go_wp2_with fail
  go_ret
  exact ⟨ret_bool HE.out, rfl⟩
theorem dirty75 (W : World) (q : Fr × Loc) (h : FrOk W q) : Calls Tryz.prog 75 #[.pointer (some ⟨q.2.fb, 0, none⟩)] W fun e w' => e = .returned (.bool (dirty q.1)) ∧ W = w' := by
  have c1 := h.1.cell 2
  simp only [frC, List.getElem?_toArray, List.getElem?_cons_zero, List.getElem?_cons_succ] at c1
  clear h
  unfold dirty
  generalize q.1.rc = r at *
  by_cases hr : 0 < r
  · rw [decide_eq_true hr]
    go_enter Tryz.func75, Tryz.ntmps75
    go_wp2_with fail
    go_ret
    exact ⟨by first | rfl | exact ret_bool (decide_eq_true (by omega)), rfl⟩
  · rw [decide_eq_false hr]
    go_enter Tryz.func75, Tryz.ntmps75
    go_wp2_with fail
    go_ret
    exact ⟨by first | rfl | exact ret_bool (decide_eq_false (by omega)), rfl⟩
theorem dirty76 (W : World) (q : Fr × Loc) (h : FrOk W q) : Calls Tryz.prog 76 #[.pointer (some ⟨q.2.fb, 0, none⟩)] W fun e w' => e = .returned (.bool (dirty q.1)) ∧ W = w' := by
  have c1 := h.1.cell 2
  simp only [frC, List.getElem?_toArray, List.getElem?_cons_zero, List.getElem?_cons_succ] at c1
  clear h
  unfold dirty
  generalize q.1.rc = r at *
  by_cases hr : 0 < r
  · rw [decide_eq_true hr]
    go_enter Tryz.func76, Tryz.ntmps76
    go_wp2_with fail
    go_ret
    exact ⟨by first | rfl | exact ret_bool (decide_eq_true (by omega)), rfl⟩
  · rw [decide_eq_false hr]
    go_enter Tryz.func76, Tryz.ntmps76
    go_wp2_with fail
    go_ret
    exact ⟨by first | rfl | exact ret_bool (decide_eq_false (by omega)), rfl⟩
theorem all73 (W : World) (q : Fr × Loc) (h : FrOk W q) : Calls Tryz.prog 73 #[.pointer (some ⟨q.2.fb, 0, none⟩)] W fun e w' => e = .returned (.bool (all q.1)) ∧ W = w' := by
  clear h
  go_enter Tryz.func73, Tryz.ntmps73
  go_wp2_with fail
  go_ret
  exact ⟨rfl, rfl⟩
end
section
variable {w : World} {p d g : Nat} {pm : PoolM} {mb : Nat} {es : Array MapEntry} {clk : Nat} {qs : List (Fr × Loc)}
set_option maxRecDepth 100000 in
set_option maxHeartbeats 2000000 in
theorem held26 (h : PoolAt w p d g pm mb es clk qs) (hql : qs.length ≤ 16) : Calls Tryz.prog 26 #[.pointer (some ⟨p, 0, none⟩)] w (FreshI w (pm.pick all)) := by
  have HG := Lib.hid (gathered61 h hql 73 ent73 all (fun W q _ hf => all73 W q hf))
  obtain ⟨P, hP⟩ : ∃ P, P = FreshI w (pm.pick all) := ⟨_, rfl⟩
  rw [← hP] at HG ⊢
  have HS : Hid (∀ e w', P e w' → ∃ a n c, e = .returned (.slice a n c)) := Lib.hid (fun e w' h => by rw [hP] at h; obtain ⟨a, c, e, _⟩ := h; exact ⟨_, _, _, e⟩)
  clear hP h
  go_enter Tryz.func26, Tryz.ntmps26
  go_wp2_with fail
  refine HG.out.mono ?_
  intro e w1 hr
  obtain ⟨a, n, c, rfl⟩ := HS.out e w1 hr
  have HF := Lib.hid hr
  clear hr HG
  go_wp2_with fail
  first | exact HF.out | (go_ret; exact HF.out)
def PoolM.unpin (pm : PoolM) (n : Nat) : PoolM := match pm.find n with | some f => if 0 < f.pins then pm.set { f with pins := f.pins - 1 } else pm | none => pm
set_option maxRecDepth 100000 in
set_option maxHeartbeats 2000000 in
theorem unpin27 (h : PoolAt w p d g pm mb es clk qs) (n : Nat) :
    Calls Tryz.prog 27 #[.pointer (some ⟨p, 0, none⟩), .int .i64 (n : Int)] w fun e w' => e = .returned (.tuple #[]) ∧ PoolStep p d g (p :: mb :: qs.flatMap (·.2.fp)) (pm.unpin n) w w' := by
  obtain ⟨_, _, _, k3, _, kf⟩ := h.cells
  have hlk := run_lookup_map (P := Tryz.prog) (t := 125) (k := 3) (e := 129) (clk := clk) Tryz.underlying125 Tryz.underlying3 zero129 h.ent mb (n : Int) false w h.map
  have hkeep : PoolStep p d g (p :: mb :: qs.flatMap (·.2.fp)) pm w w := ⟨_, ⟨mb, es, clk, qs, h, rfl⟩, Off.refl _ _, fun z hz => .inl hz⟩
  obtain ⟨P, hP⟩ : ∃ P : Ending → World → Prop, P = fun e w' => e = .returned (.tuple #[]) ∧ PoolStep p d g (p :: mb :: qs.flatMap (·.2.fp)) (pm.unpin n) w w' := ⟨_, rfl⟩
  rw [← hP]
  have HP := Lib.hid hP
  clear hP
  rcases h.look n with ⟨e1, _, e2⟩ | ⟨A, q, B, rfl, hq, e1, e2⟩
  · rw [e2] at hlk
    simp only [Bool.false_eq_true, if_false, Option.getD_none] at hlk
    have HF : Hid (P (.returned (.tuple #[])) w) := Lib.hid (by rw [HP.out]; refine ⟨rfl, ?_⟩; unfold PoolM.unpin; rw [e1]; exact hkeep)
    clear h e1 e2 hkeep
    go_enter Tryz.func27, Tryz.ntmps27
    go_wp2_with fail
    first | exact HF.out | (go_end0; exact HF.out)
  · rw [e2] at hlk
    simp only [Bool.false_eq_true, if_false, Option.getD_some] at hlk
    obtain ⟨f1, f2⟩ := h.fr q (by simp)
    have c1 := f1.cell 1
    simp only [frC, List.getElem?_toArray, List.getElem?_cons_zero, List.getElem?_cons_succ] at c1
    have cf := fun o => f1.unfrozen o
    have hpl := h.pins q (by simp)
    by_cases hz : 0 < q.1.pins
    · have HF : Hid (P (.returned (.tuple #[])) (w.setCell ⟨q.2.fb, 1, none⟩ (.int .i64 ((q.1.pins : Int) - 1)))) := Lib.hid (by
        rw [HP.out]; refine ⟨rfl, ?_⟩
        unfold PoolM.unpin; rw [e1]; simp only [hz, if_true]
        have ho : Off q.2.fp w (w.setCell ⟨q.2.fb, 1, none⟩ (.int .i64 ((q.1.pins : Int) - 1))) := (Off.refl _ w).setCell (.inl (by simp [Loc.fp])) _
        have hnq : q.2.fb ∉ blk q.2.bv := by
          have hn := h.nodup
          obtain ⟨_, m2⟩ := List.nodup_cons.1 hn
          obtain ⟨_, m4⟩ := List.nodup_cons.1 m2
          rw [List.flatMap_append, List.flatMap_cons] at m4
          exact (List.nodup_cons.1 (List.nodup_append.1 (List.nodup_append.1 m4).2.1).1).1
        refine (h.turn (f := { q.1 with pins := q.1.pins - 1 }) (bv := q.2.bv) rfl (by simp only; omega) ho ?_ (f2.off (S := [q.2.fb]) ((Off.refl _ w).setCell (.inl (by simp)) _) (fun z hz' hz2 => hnq (by simp at hz2; rw [← hz2]; exact hz'))) (.inl rfl)).2
        have q1 := f1.set 1 (.int .i64 ((q.1.pins : Int) - 1))
        have e : ((q.1.pins - 1 : Nat) : Int) = (q.1.pins : Int) - 1 := by omega
        simp only [frC, e]
        exact q1)
      clear h e1 e2 hkeep f1 f2
      generalize q.2.fb = fb at *
      generalize q.1.pins = pn at *
      have hpz : (0 : Int) < (pn : Int) := by omega
      go_enter Tryz.func27, Tryz.ntmps27
      go_wp2_with fail
      first | exact HF.out | (go_end0; exact HF.out)
    · have HF : Hid (P (.returned (.tuple #[])) w) := Lib.hid (by rw [HP.out]; refine ⟨rfl, ?_⟩; unfold PoolM.unpin; rw [e1]; simp only [hz, if_false]; exact hkeep)
      have hz0 : q.1.pins = 0 := by omega
      rw [hz0] at c1
      clear h e1 e2 hkeep f1 f2 hz
      generalize q.2.fb = fb at *
      go_enter Tryz.func27, Tryz.ntmps27
      go_wp2_with fail
      first | exact HF.out | (go_end0; exact HF.out)
end
/-- The blocks of a disk, of a log's manager, of a pool. -/
structure Fp3 where
  d : List Nat
  l : List Nat
  p : List Nat
def Whole (w : World) (d g p : Nat) (dm : DiskM) (lm : LogM) (pm : PoolM) (F : Fp3) : Prop := Desk 0 w d g dm lm F.d F.l ∧ PoolR w p d g pm F.p ∧ ∀ z ∈ F.p, z ∉ F.d ∧ z ∉ F.l
def Acc3 (F : Fp3) (w : World) (F1 : Fp3) (w1 : World) : Prop := Off (F.d ++ F.l ++ F.p) w w1 ∧ (∀ z ∈ F1.d, z ∈ F.d ∨ w.heap.size ≤ z) ∧ (∀ z ∈ F1.l, z ∈ F.l ∨ w.heap.size ≤ z) ∧ ∀ z ∈ F1.p, z ∈ F.p ∨ w.heap.size ≤ z
def WholeStep (d g p : Nat) (F : Fp3) (dm : DiskM) (lm : LogM) (pm : PoolM) (w w' : World) : Prop := ∃ F1, Whole w' d g p dm lm pm F1 ∧ Acc3 F w F1 w'
section
variable {d g p : Nat} {dm dm1 : DiskM} {lm lm1 : LogM} {pm pm1 : PoolM} {F F1 F2 : Fp3} {w w1 w2 : World}
theorem Acc3.refl : Acc3 F w F w := ⟨Off.refl _ _, fun z hz => .inl hz, fun z hz => .inl hz, fun z hz => .inl hz⟩
theorem Acc3.trans (h : Acc3 F w F1 w1) (k : Acc3 F1 w1 F2 w2) : Acc3 F w F2 w2 := by
  obtain ⟨h1, h2, h3, h4⟩ := h
  obtain ⟨k1, k2, k3, k4⟩ := k
  have hs := h1.size
  refine ⟨h1.trans k1 (fun z hz => ?_), fun z hz => ?_, fun z hz => ?_, fun z hz => ?_⟩
  · simp only [List.mem_append] at hz ⊢
    rcases hz with (q | q) | q
    · exact (h2 z q).imp_left fun a => .inl (.inl a)
    · exact (h3 z q).imp_left fun a => .inl (.inr a)
    · exact (h4 z q).imp_left fun a => .inr a
  · rcases k2 z hz with q | q
    · exact h2 z q
    · exact .inr (by omega)
  · rcases k3 z hz with q | q
    · exact h3 z q
    · exact .inr (by omega)
  · rcases k4 z hz with q | q
    · exact h4 z q
    · exact .inr (by omega)
theorem Acc3.quiet (ho : Off [] w w1) : Acc3 F w F w1 := ⟨ho.mono (by simp), fun z hz => .inl hz, fun z hz => .inl hz, fun z hz => .inl hz⟩
theorem Whole.off {S : List Nat} (h : Whole w d g p dm lm pm F) (ho : Off S w w1) (hn : ∀ z ∈ F.d ++ F.l ++ F.p, z ∉ S) : Whole w1 d g p dm lm pm F :=
  ⟨h.1.off ho (fun z hz => hn z (by simp [hz])) (fun z hz => hn z (by simp [hz])), h.2.1.off ho (fun z hz => hn z (by simp [hz])), h.2.2⟩
theorem Whole.lt (h : Whole w d g p dm lm pm F) : ∀ z ∈ F.d ++ F.l ++ F.p, z < w.heap.size := by
  intro z hz
  simp only [List.mem_append] at hz
  rcases hz with (q | q) | q
  · exact h.1.1.lt z q
  · exact h.1.2.1.lt z q
  · exact h.2.1.lt z q
theorem Whole.quiet (h : Whole w d g p dm lm pm F) (ho : Off [] w w1) : WholeStep d g p F dm lm pm w w1 := ⟨F, h.off ho (by simp), Acc3.quiet ho⟩
theorem Whole.deskAt (h : Whole w d g p dm lm pm F) (k : DeskStep 0 d g F.d F.l dm1 lm1 w w1) : ∃ D L, Whole w1 d g p dm1 lm1 pm ⟨D, L, F.p⟩ ∧ Acc3 F w ⟨D, L, F.p⟩ w1 ∧ Off (F.d ++ F.l) w w1 := by
  obtain ⟨D, L, k1, k2, k3, k4⟩ := k
  have hp := h.2.1.lt
  refine ⟨D, L, ⟨k1, h.2.1.off k2 (fun z hz hz' => ?_), fun z hz => ⟨fun hz' => ?_, fun hz' => ?_⟩⟩, ⟨k2.mono (fun z hz => .inl (by simp only [List.mem_append] at hz ⊢; exact .inl hz)), k3, k4, fun z hz => .inl hz⟩, k2⟩
  · rcases List.mem_append.1 hz' with q | q
    · exact (h.2.2 z hz).1 q
    · exact (h.2.2 z hz).2 q
  · rcases k3 z hz' with q | q
    · exact (h.2.2 z hz).1 q
    · have := hp z hz; omega
  · rcases k4 z hz' with q | q
    · exact (h.2.2 z hz).2 q
    · have := hp z hz; omega
theorem Whole.poolAt (h : Whole w d g p dm lm pm F) (k : PoolStep p d g F.p pm1 w w1) : ∃ Q, Whole w1 d g p dm lm pm1 ⟨F.d, F.l, Q⟩ ∧ Acc3 F w ⟨F.d, F.l, Q⟩ w1 := by
  obtain ⟨Q, k1, k2, k3⟩ := k
  have h1 := h.1.1.lt
  have h2 := h.1.2.1.lt
  refine ⟨Q, ⟨h.1.off k2 (fun z hz hz' => (h.2.2 z hz').1 hz) (fun z hz hz' => (h.2.2 z hz').2 hz), k1, fun z hz => ⟨fun hz' => ?_, fun hz' => ?_⟩⟩, k2.mono (fun z hz => .inl (by simp [hz])), fun z hz => .inl hz, fun z hz => .inl hz, k3⟩
  · rcases k3 z hz with q | q
    · exact (h.2.2 z q).1 hz'
    · have := h1 z hz'; omega
  · rcases k3 z hz with q | q
    · exact (h.2.2 z q).2 hz'
    · have := h2 z hz'; omega
theorem WholeStep.trans (h : WholeStep d g p F dm lm pm w w1) (k : ∀ F1, Whole w1 d g p dm lm pm F1 → WholeStep d g p F1 dm1 lm1 pm1 w1 w2) : WholeStep d g p F dm1 lm1 pm1 w w2 := by
  obtain ⟨F1, h1, h2⟩ := h
  obtain ⟨F2, k1, k2⟩ := k F1 h1
  exact ⟨F2, k1, h2.trans k2⟩
end
end Go.Proofs.YtfdgiblkllfpjaaGreatDoor

/- pool: write. -/
set_option linter.unusedVariables false
set_option linter.unusedSimpArgs false
namespace Go.Proofs.YtfdgiblkllfpjaaGreatDoor
open Go.ChangeShapes Go.WideShapes Go.ChangeAt Go.RowKit

/-- A disk and a log beside it, both alive, the log's bytes on the disk where they must be. -/
def DeskOk (dm : DiskM) (lm : LogM) (k : Nat) : Prop := dm.fit ∧ dm.plain ∧ dm.acts ≤ k ∧ dm.loose.length ≤ 2 ∧ dm.log.length = lm.disk ∧ lm.bytes ≤ dm.shp.log ∧ lm.dead = false
theorem DiskM.act_fit {m : DiskM} (h : m.fit) : m.act.fit := by
  obtain ⟨e1, e2, e3, e4, _⟩ := m.act_fields
  unfold DiskM.fit; rw [e1, e2, e3, e4]; exact h
theorem DiskM.fit_of {m m' : DiskM} (h : m.fit) (e1 : m'.shp = m.shp) (e2 : m'.lasts = m.lasts) (e3 : m'.reads = m.reads) (e4 : m'.loose = m.loose) : m'.fit := by
  unfold DiskM.fit; rw [e1, e2, e3, e4]; exact h
theorem DiskM.app_fields (m : DiskM) (l : List UInt8) (h : m.log.length + l.length ≤ m.shp.log) : (m.app l).shp = m.shp ∧ (m.app l).lasts = m.lasts ∧ (m.app l).reads = m.reads ∧ (m.app l).loose = m.loose ∧ (m.app l).log = m.log ++ l ∧ (m.app l).acts ≤ m.acts + 1 ∧ (m.app l).lasted = m.lasted := by
  obtain ⟨e1, e2, e3, e4, e5, e6, e7⟩ := m.act_fields
  have e : m.app l = { m.act with log := m.log ++ l } := by unfold DiskM.app; rw [if_pos h]
  rw [e]; exact ⟨e1, e2, e3, e4, rfl, m.act_acts, e6⟩
theorem DiskM.syncLog_fields (m : DiskM) : m.syncLog.shp = m.shp ∧ m.syncLog.lasts = m.lasts ∧ m.syncLog.reads = m.reads ∧ m.syncLog.loose = m.loose ∧ m.syncLog.log = m.log ∧ m.syncLog.acts ≤ m.acts + 1 ∧ m.syncLog.lasted = m.log.length := by
  obtain ⟨e1, e2, e3, e4, e5, e6, e7⟩ := m.act_fields
  exact ⟨e1, e2, e3, e4, e5, m.act_acts, rfl⟩
theorem flushM_code (dm : DiskM) (lm : LogM) (lsn : Nat) : (flushM dm lm lsn).2.2 = 0 ∨ (flushM dm lm lsn).2.2 = 1 := by
  unfold flushM
  split
  · exact .inl rfl
  · split
    · exact .inr rfl
    · split
      · exact .inr rfl
      · exact .inl rfl
theorem flushM_shp {dm : DiskM} {lm : LogM} {k : Nat} (h : DeskOk dm lm k) (hz : lm.bytes = lm.disk + lm.tail.length) (lsn : Nat) : (flushM dm lm lsn).1.shp = dm.shp := by
  obtain ⟨h1, h2, h3, h4, h5, h6, h7⟩ := h
  have a := dm.app_fields lm.tail (by rw [h5]; omega)
  unfold flushM
  split
  · rfl
  · split
    · exact dm.act_fields.1
    · split
      · exact (dm.app lm.tail).act_fields.1.trans a.1
      · exact (dm.app lm.tail).syncLog_fields.1.trans a.1
theorem flushM_ok {dm : DiskM} {lm : LogM} {k : Nat} (h : DeskOk dm lm k) (hz : lm.bytes = lm.disk + lm.tail.length) {lsn : Nat} (hc : (flushM dm lm lsn).2.2 = 0) : DeskOk (flushM dm lm lsn).1 (flushM dm lm lsn).2.1 (k + 2) := by
  obtain ⟨h1, h2, h3, h4, h5, h6, h7⟩ := h
  have a := dm.app_fields lm.tail (by rw [h5]; omega)
  have b := (dm.app lm.tail).syncLog_fields
  unfold flushM at hc ⊢
  by_cases c1 : lsn ≤ lm.base + lm.disk ∨ lm.tail = []
  · rw [if_pos c1]; exact ⟨h1, h2, by show dm.acts ≤ k + 2; omega, h4, h5, h6, h7⟩
  · rw [if_neg c1] at hc ⊢
    by_cases c2 : dm.stops = true
    · rw [if_pos c2] at hc; simp at hc
    · rw [if_neg c2] at hc ⊢
      by_cases c3 : (dm.app lm.tail).stops = true
      · rw [if_pos c3] at hc; simp at hc
      · rw [if_neg c3]
        refine ⟨DiskM.fit_of h1 (b.1.trans a.1) (b.2.1.trans a.2.1) (b.2.2.1.trans a.2.2.1) (b.2.2.2.1.trans a.2.2.2.1), ?_, ?_, ?_, ?_, ?_, h7⟩
        · intro x hx; rw [b.2.2.2.1, a.2.2.2.1] at hx; exact h2 x hx
        · show (dm.app lm.tail).syncLog.acts ≤ _; have := a.2.2.2.2.2.1; have := b.2.2.2.2.2.1; omega
        · show (dm.app lm.tail).syncLog.loose.length ≤ _; rw [b.2.2.2.1, a.2.2.2.1]; exact h4
        · show (dm.app lm.tail).syncLog.log.length = lm.bytes
          rw [b.2.2.2.2.1, a.2.2.2.2.1, List.length_append, h5]; omega
        · show lm.bytes ≤ (dm.app lm.tail).syncLog.shp.log
          rw [b.1, a.1]; exact h6
/-- A page's bytes as a stamped one has them. -/
def PageOk (t : Nat → Nat) (s : Shp) (f : Fr) (lsn : Nat) : Prop := f.num < s.pages ∧ f.b.length = s.pageB ∧ pageCheck t f.b (f.num : Int) (slotsN f.b.length : Nat) = some lsn ∧ pageLsn f.b = some lsn ∧ 1 ≤ lsn ∧ lsn ≤ 1152921504606846976
def writeM (dm : DiskM) (lm : LogM) (pm : PoolM) (f : Fr) (lsn : Nat) : DiskM × LogM × PoolM × Int :=
  if (flushM dm lm lsn).2.2 = 0 then
    (if (pairM (flushM dm lm lsn).1 f.num f.b (pairB lsn f.num f.b)).2 = 0 then ((pairM (flushM dm lm lsn).1 f.num f.b (pairB lsn f.num f.b)).1, (flushM dm lm lsn).2.1, pm.set { f with rc := 0 }, 0)
     else ((pairM (flushM dm lm lsn).1 f.num f.b (pairB lsn f.num f.b)).1, (flushM dm lm lsn).2.1, pm.met 1, 1))
  else ((flushM dm lm lsn).1, (flushM dm lm lsn).2.1, pm.met 1, 1)
theorem pairM_code (m : DiskM) (n : Nat) (b pb : List UInt8) : (pairM m n b pb).2 = 0 ∨ (pairM m n b pb).2 = 1 := by
  unfold pairM
  repeat' split
  all_goals first | exact .inl rfl | exact .inr rfl
def WPost (d g p : Nat) (F : Fp3) (r : DiskM × LogM × PoolM × Int) (w : World) (e : Ending) (w' : World) : Prop := e = .returned (.int .i64 r.2.2.2) ∧ WholeStep d g p F r.1 r.2.1 r.2.2.1 w w'
set_option maxRecDepth 100000 in
set_option maxHeartbeats 8000000 in
theorem write65 {t : Nat → Nat} {w : World} {d g p : Nat} {dm : DiskM} {lm : LogM} {pm : PoolM} {mb : Nat} {es : Array MapEntry} {clk : Nat} {A B : List (Fr × Loc)} {q : Fr × Loc} {df lf : List Nat} (ht : Tbl t w) (h : Whole w d g p dm lm pm ⟨df, lf, p :: mb :: (A ++ q :: B).flatMap (·.2.fp)⟩) (h0 : 0 ∉ df ∧ 0 ∉ lf)
    (hp : PoolAt w p d g pm mb es clk (A ++ q :: B)) {k : Nat} (hk : k < 3000000000000000000) (hok : DeskOk dm lm k) {lsn : Nat} (hpg : PageOk t dm.shp q.1 lsn) :
    Calls Tryz.prog 65 #[.pointer (some ⟨p, 0, none⟩), .int .i64 (q.1.num : Nat), .pointer (some ⟨q.2.fb, 0, none⟩)] w (WPost d g p ⟨df, lf, p :: mb :: (A ++ q :: B).flatMap (·.2.fp)⟩ (writeM dm lm pm q.1 lsn) w) := by
  obtain ⟨c0, c1, _, _, _, pf⟩ := hp.cells
  obtain ⟨f1, f2⟩ := hp.fr q (by simp)
  obtain ⟨g1, g2, g3, g4, g5, g6⟩ := hpg
  have hz := h.1.2.1.sized
  have hsh := h.1.1.ok.1
  have hlen : q.1.b.length ≤ 152 := by rw [g2]; unfold Shp.pageB; have := hsh.2.2.2.1; omega
  have hnq : q.2.fb ∉ blk q.2.bv ∧ p ∉ q.2.fp := by
    have hn := hp.nodup
    obtain ⟨m1, m2⟩ := List.nodup_cons.1 hn
    obtain ⟨_, m4⟩ := List.nodup_cons.1 m2
    have m4' := m4
    rw [List.flatMap_append, List.flatMap_cons] at m4
    exact ⟨(List.nodup_cons.1 (List.nodup_append.1 (List.nodup_append.1 m4).2.1).1).1, fun hz => m1 (List.mem_cons_of_mem _ (List.mem_flatMap.2 ⟨q, by simp, hz⟩))⟩
  have hdis : ∀ z ∈ p :: mb :: (A ++ q :: B).flatMap (·.2.fp), z ∉ df ++ lf := fun z hz hz' => by
    have := h.2.2 z hz
    rcases List.mem_append.1 hz' with e | e
    · exact this.1 e
    · exact this.2 e
  have hqin : ∀ z ∈ q.2.fp, z ∈ p :: mb :: (A ++ q :: B).flatMap (·.2.fp) := fun z hz => by simp only [List.mem_cons]; exact .inr (.inr (List.mem_flatMap.2 ⟨q, by simp, hz⟩))
  have HLS : Hid (∀ W, Off [] w W → Calls Tryz.prog 66 #[.pointer (some ⟨q.2.fb, 0, none⟩)] W fun e w' => e = .returned (.int .i64 (lsn : Nat)) ∧ Off [] W w') := Lib.hid (fun W ho => by
    have x := lsn66 (f1.off ho (by simp)) (f2.off ho (by simp)) (by omega)
    rw [g4] at x; exact x)
  have HFL : Hid (∀ W, Off [] w W → Calls Tryz.prog 95 #[.pointer (some ⟨g, 0, none⟩), .int .i64 (lsn : Nat)] W (FlushPost d g df lf (flushM dm lm lsn) W)) := Lib.hid (fun W ho => flush95 (h.1.off ho (by simp) (by simp)) hok.2.2.2.2.2.2 lsn hok.2.2.2.2.1 hok.2.2.2.2.2.1 (by have := hok.2.2.1; omega))
  obtain ⟨P, hP⟩ : ∃ P, P = WPost d g p ⟨df, lf, p :: mb :: (A ++ q :: B).flatMap (·.2.fp)⟩ (writeM dm lm pm q.1 lsn) w := ⟨_, rfl⟩
  rw [← hP]
  have HP := Lib.hid hP
  have HALL := Lib.hid (And.intro h (And.intro hp (And.intro hok (And.intro ht h0))))
  have HQ := Lib.hid (And.intro hnq (And.intro hdis hqin))
  have HFO := Lib.hid (fun hc => flushM_ok hok hz.2.2.2 (lsn := lsn) hc)
  have HFS := Lib.hid (flushM_shp hok hz.2.2.2 lsn)
  have HPG := Lib.hid (And.intro g1 (And.intro g2 (And.intro g3 (And.intro g5 g6))))
  have HK : Hid (∀ W, Off [] w W → W.cell? ⟨p, 1, none⟩ = some (.pointer (some ⟨g, 0, none⟩))) := Lib.hid (fun W ho => ho.cell c1 (by simp))
  have hcd := flushM_code dm lm lsn
  have HC0 := Lib.hid c0
  have HF1 := Lib.hid (And.intro f1 f2)
  clear hP h hp hok ht h0 hnq hdis hqin g1 g2 g3 g4 g5 g6 hz hsh hlen c0 f1 f2 pf
  have HR : Hid (flushM dm lm lsn = flushM dm lm lsn) := Lib.hid rfl
  generalize hrr : flushM dm lm lsn = r at *
  have HRR := Lib.hid hrr
  clear hrr HR
  generalize hq2 : q.2.fb = fb at *
  have HFB := Lib.hid hq2
  clear hq2
  go_enter Tryz.func65, Tryz.ntmps65
  go_wp2_with fail
  go_region_held3 (fun W => W.cell? ⟨p, 1, none⟩ = some (.pointer (some ⟨g, 0, none⟩)))
    (first | exact HK.out _ (Off.refl _ _) | exact HK.out _ (Off.refl _ _).drew | exact HK.out _ HOA.out | exact HKB.out | fail)
    (first
    | (go_at_call 66; refine (HLS.out _ (Off.refl _ _).drew).mono ?_; rintro e wa ⟨rfl, p2⟩; have HOA : Hid (Off [] w wa) := Lib.hid ((Off.refl [] w).drew.trans p2 (by simp)); clear p2)
    | (go_at_call 95; refine (HFL.out _ HOA.out).mono ?_; rintro e wf ⟨rfl, p2⟩; have HDF := Lib.hid p2; have HKB : Hid (wf.cell? ⟨p, 1, none⟩ = some (.pointer (some ⟨g, 0, none⟩))) := Lib.hid (by obtain ⟨_, _, _, o, _⟩ := p2; exact o.cell (HK.out wa HOA.out) (HQ.out.2.1 p (by simp))); clear p2))
  obtain ⟨hW, hPA, hOK, hT, h00⟩ := HALL.out
  have oa := HOA.out
  obtain ⟨D, L, hWf, hAf, hOf⟩ := (hW.off oa (by simp)).deskAt HDF.out
  have hPf : PoolAt wf p d g pm mb es clk (A ++ q :: B) := (hPA.off oa (by simp)).off hOf HQ.out.2.1
  have hDs : ∀ z ∈ p :: mb :: (A ++ q :: B).flatMap (·.2.fp), z ∉ D ∧ z ∉ L := fun z hz => hWf.2.2 z hz
  have hTf : Tbl t wf := (hT.off oa (by simp)).off hOf (by simp [h00.1, h00.2])
  have HWF := Lib.hid (And.intro hWf (And.intro hPf (And.intro hDs (And.intro hTf ((Acc3.quiet oa : Acc3 ⟨df, lf, p :: mb :: (A ++ q :: B).flatMap (·.2.fp)⟩ w ⟨df, lf, p :: mb :: (A ++ q :: B).flatMap (·.2.fp)⟩ wa).trans hAf)))))
  obtain ⟨d0, _, _, _, _, _⟩ := hPf.cells
  obtain ⟨e1, e2⟩ := hPf.fr q (by simp)
  rw [HFB.out] at e1
  have ef := fun o => e1.unfrozen o
  have x0 := e1.cell 0
  have x2 := e1.cell 2
  simp only [frC, List.getElem?_toArray, List.getElem?_cons_zero, List.getElem?_cons_succ] at x0 x2
  have HE2 := Lib.hid e2
  have HE1 := Lib.hid e1
  clear hW hPA hOK hT h00 oa hWf hAf hOf hPf hDs hTf e1 e2 HOA HKB HK HLS HFL c1 HDF
  rcases hcd with hc | hc
  · have HC := Lib.hid hc
    rw [hc]
    clear hc
    have hok2 := HFO.out HC.out
    have HW1 : Hid (∀ W, Off [] wf W → Calls Tryz.prog 131 #[.pointer (some ⟨d, 0, none⟩), .int .i64 (q.1.num : Nat), q.2.bv] W (PairPost d D (pairM r.1 q.1.num q.1.b (pairB lsn q.1.num q.1.b)) W)) := Lib.hid (fun W ho => by
      have hdd := HWF.out.1.1.1.off ho (by simp)
      exact write131 (HWF.out.2.2.2.1.off ho (by simp)) hdd hok2.1 hok2.2.1 (by have := hok2.2.2.1; omega) (by have := hok2.2.2.2.1; omega) q.1.num (by rw [HFS.out]; exact HPG.out.1) q.2.bv q.1.b (HE2.out.off ho (by simp)) (fun z hz => (HWF.out.2.2.1 z (HQ.out.2.2 z (by simp [Loc.fp, hz]))).1) (by rw [HFS.out]; exact HPG.out.2.1) lsn HPG.out.2.2.1 HPG.out.2.2.2.1 HPG.out.2.2.2.2)
    obtain ⟨vo, vc, hbv⟩ := HE2.out.val
    rw [hbv] at x0 HW1
    have hcd2 := pairM_code r.1 q.1.num q.1.b (pairB lsn q.1.num q.1.b)
    have HK2 : Hid (∀ W, Off D wf W → W.cell? ⟨p, 0, none⟩ = some (.pointer (some ⟨d, 0, none⟩)) ∧ W.cell? ⟨fb, 0, none⟩ = some (.slice vo q.1.b.length vc)) := Lib.hid (fun W ho => ⟨ho.cell d0 (HWF.out.2.2.1 p (by simp)).1, ho.cell x0 (HWF.out.2.2.1 fb (HQ.out.2.2 fb (by rw [← HFB.out]; simp [Loc.fp]))).1⟩)
    have HSS := Lib.hid (rfl : pairM r.1 q.1.num q.1.b (pairB lsn q.1.num q.1.b) = pairM r.1 q.1.num q.1.b (pairB lsn q.1.num q.1.b))
    generalize hss : pairM r.1 q.1.num q.1.b (pairB lsn q.1.num q.1.b) = s at *
    have HWM0 : Hid (s.2 = 0 → writeM dm lm pm q.1 lsn = (s.1, r.2.1, pm.set { q.1 with rc := 0 }, 0)) := Lib.hid (fun h => by unfold writeM; rw [HRR.out, if_pos HC.out, hss, if_pos h])
    have HWM1 : Hid (s.2 = 1 → writeM dm lm pm q.1 lsn = (s.1, r.2.1, pm.met 1, 1)) := Lib.hid (fun h => by unfold writeM; rw [HRR.out, if_pos HC.out, hss, if_neg (by omega)])
    clear hss hbv hok2 HSS
    generalize hbl : q.1.b.length = bl at *
    generalize hqn : q.1.num = qn at *
    clear hbl hqn
    go_wp2_with fail
    go_region_held3 (fun W => W.cell? ⟨p, 0, none⟩ = some (.pointer (some ⟨d, 0, none⟩)) ∧ W.cell? ⟨fb, 0, none⟩ = some (.slice vo bl vc))
      (first | exact HK2.out _ (Off.refl _ _) | exact HK2.out _ (Off.refl _ _).drew | exact HKB.out | fail)
      (first | (go_at_call 131; refine (HW1.out _ (Off.refl _ _).drew).mono ?_; rintro e wg ⟨rfl, p2⟩; have HDG := Lib.hid p2; have HKB := Lib.hid (HK2.out wg (by obtain ⟨_, _, o, _⟩ := p2; exact (Off.refl D wf).drew.trans o (fun z hz => .inl hz))); clear p2))
    have hdk : DeskStep 0 d g D L s.1 r.2.1 wf wg := DeskStep.before (Off.refl [] wf).drew ((HWF.out.1.1.off (Off.refl [] wf).drew (by simp) (by simp)).disk HDG.out)
    obtain ⟨D2, L2, hWg, hAg, hOg⟩ := HWF.out.1.deskAt hdk
    have hPg : PoolAt wg p d g pm mb es clk (A ++ q :: B) := HWF.out.2.1.off hOg (fun z hz hz' => by
      rcases List.mem_append.1 hz' with e | e
      · exact (HWF.out.2.2.1 z hz).1 e
      · exact (HWF.out.2.2.1 z hz).2 e)
    have HWG := Lib.hid (And.intro hWg (And.intro (HWF.out.2.2.2.2.trans hAg) hPg))
    obtain ⟨e1, e2⟩ := hPg.fr q (by simp)
    have hgf := fun o => e1.unfrozen o
    have x22 := e1.cell 2
    rw [HFB.out] at hgf x22
    simp only [frC, List.getElem?_toArray, List.getElem?_cons_zero, List.getElem?_cons_succ] at x22
    clear hdk hWg hAg hOg hPg HDG HKB HW1 HK2 x0 x2 ef d0
    rcases hcd2 with h2 | h2
    · have HF : Hid (P (.returned (.int .i64 0)) (wg.setCell ⟨fb, 2, none⟩ (.int .i64 0))) := Lib.hid (by
        rw [HP.out, HWM0.out h2]
        refine ⟨rfl, ?_⟩
        have ho : Off q.2.fp wg (wg.setCell ⟨fb, 2, none⟩ (.int .i64 0)) := (Off.refl _ wg).setCell (.inl (by rw [← HFB.out]; simp [Loc.fp])) _
        have hb2 : IsB (wg.setCell ⟨fb, 2, none⟩ (.int .i64 0)) q.2.bv q.1.b := e2.off (S := [fb]) ((Off.refl _ wg).setCell (.inl (by simp)) _) (fun z hz' hz2 => HQ.out.1.1 (by simp at hz2; rw [hz2] at hz'; exact hz'))
        obtain ⟨Q, y1, y2⟩ := HWG.out.1.poolAt (HWG.out.2.2.turn (f := { q.1 with rc := 0 }) (bv := q.2.bv) rfl (HWG.out.2.2.pins q (by simp)) ho (by rw [HFB.out]; rw [HFB.out] at e1; exact e1.set 2 _) hb2 (.inl rfl)).2
        exact ⟨_, y1, HWG.out.2.1.trans y2⟩)
      clear HWM0 HWM1
      rw [h2]
      clear h2 e1 e2
      go_wp2_with fail
      first | exact HF.out | (go_ret; exact HF.out)
    · have HM := Lib.hid (met63 HWG.out.2.2 1)
      rw [h2]
      have H2 := Lib.hid h2
      clear h2 e1 e2
      go_wp2_with fail
      refine HM.out.mono ?_
      rintro e wh ⟨rfl, y1, y2⟩
      have HF : Hid (P (.returned (.int .i64 1)) wh) := Lib.hid (by
        rw [HP.out, HWM1.out H2.out]
        refine ⟨rfl, ?_⟩
        obtain ⟨Q, z1, z2⟩ := HWG.out.1.poolAt ⟨_, ⟨mb, es, clk, _, y1, rfl⟩, y2.mono (fun z hz => .inl (by simp at hz; simp [hz])), fun z hz => .inl hz⟩
        exact ⟨_, z1, HWG.out.2.1.trans z2⟩)
      clear y1 y2 HM
      go_wp2_with fail
      first | exact HF.out | (go_ret; exact HF.out)
  · have HM := Lib.hid (met63 HWF.out.2.1 1)
    have HWM : Hid (writeM dm lm pm q.1 lsn = (r.1, r.2.1, pm.met 1, 1)) := Lib.hid (by unfold writeM; rw [HRR.out, if_neg (by rw [hc]; decide)])
    rw [hc]
    clear hc x0 x2 ef d0
    go_wp2_with fail
    refine HM.out.mono ?_
    rintro e wh ⟨rfl, y1, y2⟩
    have HF : Hid (P (.returned (.int .i64 1)) wh) := Lib.hid (by
      rw [HP.out, HWM.out]
      refine ⟨rfl, ?_⟩
      obtain ⟨Q, z1, z2⟩ := HWF.out.1.poolAt ⟨_, ⟨mb, es, clk, _, y1, rfl⟩, y2.mono (fun z hz => .inl (by simp at hz; simp [hz])), fun z hz => .inl hz⟩
      exact ⟨_, z1, HWF.out.2.2.2.2.trans z2⟩)
    clear y1 y2 HM
    go_wp2_with fail
    first | exact HF.out | (go_ret; exact HF.out)
end Go.Proofs.YtfdgiblkllfpjaaGreatDoor

/- pool: Change of a pinned page. -/
set_option linter.unusedVariables false
set_option linter.unusedSimpArgs false
namespace Go.Proofs.YtfdgiblkllfpjaaGreatDoor
open Go.ChangeShapes Go.WideShapes Go.ChangeAt Go.RowKit

def OkPost (d g p : Nat) (F : Fp3) (dm : DiskM) (lm : LogM) (pm : PoolM) (c : Int) (w : World) (e : Ending) (w' : World) : Prop := e = .returned (.int .i64 c) ∧ WholeStep d g p F dm lm pm w w'
set_option maxRecDepth 100000 in
set_option maxHeartbeats 8000000 in
theorem change17 {t : Nat → Nat} {w : World} {d g p : Nat} {dm : DiskM} {lm : LogM} {pm : PoolM} {F : Fp3} (ht : Tbl t w) (h : Whole w d g p dm lm pm F) (h0 : 0 ∉ F.l) (hdead : pm.dead = false) (n : Nat) (hn : n < 16) (f : Fr) (hf : pm.find n = some f) (hpin : 0 < f.pins)
    (v : Value) (b : List UInt8) (hb : IsB w v b) (hv : ∀ z ∈ blk v, z ∉ F.l) (hbl : b.length = f.b.length) (hs : slotsN b.length ≠ 0) (lsn : Nat) (hl1 : (pageLsn f.b).getD 0 < lsn) (hl2 : lsn < lm.fin) :
    Calls Tryz.prog 17 #[.pointer (some ⟨p, 0, none⟩), .int .i64 (n : Int), v, .int .i64 (lsn : Nat)] w (OkPost d g p F dm lm (pm.set { f with b := stampB t b n lsn, rc := if f.rc = 0 then lsn else f.rc }) 0 w) := by
  obtain ⟨D, L, pf⟩ := F
  have hp := h.2.1
  obtain ⟨mb, es, clk, qs, hp, hpf⟩ := hp
  simp only at hpf
  subst hpf
  obtain ⟨_, k1, _, k3, k4, kf⟩ := hp.cells
  rw [hdead] at k4
  have hlk := run_lookup_map (P := Tryz.prog) (t := 125) (k := 3) (e := 129) (clk := clk) Tryz.underlying125 Tryz.underlying3 zero129 hp.ent mb (n : Int) false w hp.map
  rcases hp.look n with ⟨e1, _⟩ | ⟨A, q, B, rfl, hq, e1, e2⟩
  · rw [hf] at e1; cases e1
  rw [hf] at e1
  injection e1 with e1
  subst e1
  rw [e2] at hlk
  simp only [Bool.false_eq_true, if_false, Option.getD_some] at hlk
  obtain ⟨f1, f2⟩ := hp.fr q (by simp)
  have x0 := f1.cell 0
  have x1 := f1.cell 1
  simp only [frC, List.getElem?_toArray, List.getElem?_cons_zero, List.getElem?_cons_succ] at x0 x1
  obtain ⟨bo, bc, rfl⟩ := hb.val
  obtain ⟨vo, vc, hbv⟩ := f2.val
  rw [hbv] at x0
  have h152 := slotsN_pos hs
  have hfin : lm.fin ≤ 1152921504606846976 := by unfold LogM.fin; have := h.1.2.1.sized; omega
  have HLS := Lib.hid (lsn66 f1 f2 (by omega))
  have hgf : g ∈ L := by obtain ⟨_, _, _, _, _, hgf⟩ := h.1.2.1.tailAt; exact hgf
  have HEN : Hid (∀ W, Off [] w W → Calls Tryz.prog 67 #[.pointer (some ⟨g, 0, none⟩)] W fun e w' => e = .returned (.int .i64 (lm.fin : Nat)) ∧ LogR w' g d lm L ∧ Off [g] W w') := Lib.hid (fun W ho => end67 (h.1.2.1.off ho (by simp)))
  have HST : Hid (∀ W, Off [g] w W → Calls Tryz.prog 18 #[.slice bo b.length bc, .int .i64 (n : Int), .int .i64 (lsn : Nat)] W (StampPost W (stampB t b n lsn))) := Lib.hid (fun W ho => stamp18 _ b n lsn hn (by omega) W (ht.off ho (fun hz => h0 (by simp at hz; rw [hz]; exact hgf))) (hb.off ho (fun z hz hz' => hv z hz (by simp at hz'; rw [hz']; exact hgf))) hs)
  obtain ⟨P, hP⟩ : ∃ P, P = OkPost d g p ⟨D, L, p :: mb :: (A ++ q :: B).flatMap (·.2.fp)⟩ dm lm (pm.set { q.1 with b := stampB t b n lsn, rc := if q.1.rc = 0 then lsn else q.1.rc }) 0 w := ⟨_, rfl⟩
  rw [← hP]
  have HP := Lib.hid hP
  have HALL := Lib.hid (And.intro h (And.intro hp (And.intro hgf hq)))
  have hpin2 : ((q.1.pins : Int) == 0) = false := by rw [beq_eq_false_iff_ne]; omega
  have hle : ((pageLsn q.1.b).getD 0 : Int) < (lsn : Int) := by omega
  have hlt : (lsn : Int) < (lm.fin : Int) := by omega
  have hbb : ((b.length : Int) != (q.1.b.length : Int)) = false := by rw [hbl]; simp
  have HBL := Lib.hid hbl
  have hnq : q.2.fb ∉ blk q.2.bv ∧ p ∉ [g] ∧ q.2.fb ∉ [g] ∧ (∀ z ∈ blk q.2.bv, z ∉ [g]) ∧ ∀ z ∈ p :: mb :: (A ++ q :: B).flatMap (·.2.fp), z ∉ [g] := by
    have hn := hp.nodup
    obtain ⟨m1, m2⟩ := List.nodup_cons.1 hn
    obtain ⟨_, m4⟩ := List.nodup_cons.1 m2
    rw [List.flatMap_append, List.flatMap_cons] at m4
    have hall : ∀ z ∈ p :: mb :: (A ++ q :: B).flatMap (·.2.fp), z ∉ [g] := fun z hz hz' => (h.2.2 z hz).2 (by simp at hz'; rw [hz']; exact hgf)
    have hqin : ∀ z ∈ q.2.fp, z ∈ p :: mb :: (A ++ q :: B).flatMap (·.2.fp) := fun z hz => by simp only [List.mem_cons]; exact .inr (.inr (List.mem_flatMap.2 ⟨q, by simp, hz⟩))
    exact ⟨(List.nodup_cons.1 (List.nodup_append.1 (List.nodup_append.1 m4).2.1).1).1, hall p (by simp), hall _ (hqin _ (by simp [Loc.fp])), fun z hz => hall z (hqin z (by simp [Loc.fp, hz])), hall⟩
  have HNQ := Lib.hid hnq
  have hxs := stampB_len t b n lsn (by omega)
  have HXS := Lib.hid hxs
  clear hP h hp ht hb hv hf hpin hbl hs hl1 hl2 h0 f2 hnq hbv hgf e2 hfin h152 hxs hq
  have HF1 := Lib.hid f1
  clear f1
  generalize hfb : q.2.fb = fb at *
  have HFB := Lib.hid hfb
  clear hfb
  generalize hST : stampB t b n lsn = S at *
  have HSS := Lib.hid hST
  clear hST
  generalize b.length = bl at *
  generalize (q.1.b.length : Nat) = ql at *
  generalize (pageLsn q.1.b).getD 0 = ql2 at *
  generalize lm.fin = fn at *
  go_enter Tryz.func17, Tryz.ntmps17
  go_wp2_with fail
  refine HLS.out.mono ?_
  rintro e w1 ⟨rfl, ho1⟩
  have k11 := ho1.cell k1 (by simp)
  have HO1 := Lib.hid ho1
  clear ho1 hlk HLS
  go_wp2_with fail
  refine (HEN.out w1 HO1.out).mono ?_
  rintro e w2 ⟨rfl, hl2, ho2⟩
  have HO2 : Hid (Off [g] w w2) := Lib.hid ((HO1.out.mono (by simp)).trans ho2 (fun z hz => .inl hz))
  have HL2 := Lib.hid (And.intro hl2 ho2)
  have HS2 := Lib.hid (HST.out w2 HO2.out)
  clear hl2 ho2 HEN HST
  go_wp2_with fail
  refine HS2.out.mono ?_
  rintro e w3 ⟨so, sc, rfl, hS3, ho3, hf3⟩
  have HO3 : Hid (Off [g] w w3) := Lib.hid (HO2.out.trans ho3 (by simp))
  have HS3 := Lib.hid (And.intro hS3 (And.intro hf3 ho3))
  have hi3 := HF1.out.off HO3.out HNQ.out.2.2.1
  have y0 := hi3.cell 0
  have y2 := hi3.cell 2
  have yf := fun o => hi3.unfrozen o
  simp only [frC, List.getElem?_toArray, List.getElem?_cons_zero, List.getElem?_cons_succ] at y0 y2
  have HI3 : Hid (IsC w3 fb #[q.2.bv, .int .i64 (q.1.pins : Nat), .int .i64 (q.1.rc : Nat)] 131) := Lib.hid hi3
  have HW2 : Hid (∃ D2 L2, Whole w2 d g p dm lm pm ⟨D2, L2, p :: mb :: (A ++ q :: B).flatMap (·.2.fp)⟩ ∧ Acc3 ⟨D, L, p :: mb :: (A ++ q :: B).flatMap (·.2.fp)⟩ w ⟨D2, L2, p :: mb :: (A ++ q :: B).flatMap (·.2.fp)⟩ w2) := Lib.hid (by
    obtain ⟨hW, hPA, hgf, _⟩ := HALL.out
    have hW1 := hW.off HO1.out (by simp)
    have hd2 : DeskStep 0 d g D L dm lm w1 w2 := hW1.1.log ⟨L, HL2.out.1, HL2.out.2.mono (fun z hz => .inl (by simp at hz; rw [hz]; exact hgf)), fun z hz => .inl hz⟩
    obtain ⟨D2, L2, z1, z2, _⟩ := hW1.deskAt hd2
    exact ⟨D2, L2, z1, (Acc3.quiet HO1.out : Acc3 ⟨D, L, p :: mb :: (A ++ q :: B).flatMap (·.2.fp)⟩ w ⟨D, L, p :: mb :: (A ++ q :: B).flatMap (·.2.fp)⟩ w1).trans z2⟩)
  have HEND : Hid (∀ w4 rc, Off [fb] w3 w4 → IsC w4 fb #[.slice so S.length sc, .int .i64 (q.1.pins : Nat), .int .i64 (rc : Nat)] 131 → rc = (if q.1.rc = 0 then lsn else q.1.rc) → P (.returned (.int .i64 0)) w4) := Lib.hid (fun w4 rc o4 i4 hrc => by
    subst hrc
    obtain ⟨hW, hPA, hgf, hqn⟩ := HALL.out
    obtain ⟨D2, L2, z1, z2⟩ := HW2.out
    have hP2 : PoolAt w2 p d g pm mb es clk (A ++ q :: B) := hPA.off HO2.out HNQ.out.2.2.2.2
    have o24 : Off q.2.fp w2 w4 := (HS3.out.2.2.mono (by simp)).trans o4 (fun z hz => .inl (by simp at hz; rw [hz, ← HFB.out]; simp [Loc.fp]))
    have hfbl : fb < w2.heap.size := by rw [← HFB.out]; exact hP2.lt _ (by simp only [List.mem_cons]; exact .inr (.inr (List.mem_flatMap.2 ⟨q, by simp, by simp [Loc.fp]⟩)))
    obtain ⟨Q, y1, y2⟩ := z1.poolAt (hP2.turn (f := { q.1 with b := S, rc := if q.1.rc = 0 then lsn else q.1.rc }) (bv := .slice so S.length sc) rfl (hPA.pins q (by simp)) o24 (by rw [HFB.out]; exact i4) (HS3.out.1.off o4 (fun z hz hz' => by have := HS3.out.2.1 z hz; simp at hz'; omega)) (.inr HS3.out.2.1)).2
    rw [HP.out]
    exact ⟨rfl, _, y1, z2.trans y2⟩)
  clear hS3 ho3 hf3 HS2 hi3 HALL HW2 HNQ HL2 HF1 HXS HBL HO1 k11 k1 k3 k4 kf x0 x1 hpin2 hle hlt hbb
  generalize hqr : q.1.rc = qr at *
  generalize (q.1.pins : Int) = qp at *
  generalize q.2.bv = qb at *
  by_cases hr : qr = 0
  · subst hr
    have HF := Lib.hid (HEND.out ((w3.setCell ⟨fb, 0, none⟩ (.slice so S.length sc)).setCell ⟨fb, 2, none⟩ (.int .i64 (lsn : Nat))) lsn (((Off.refl [fb] w3).setCell (.inl (by simp)) _).setCell (.inl (by simp)) _) ((HI3.out.set 0 _).set 2 _) (by rw [if_pos rfl]))
    clear HEND HI3
    go_wp2_with fail
    first | exact HF.out | (go_ret; exact HF.out)
  · have hr2 : ((qr : Int) == 0) = false := by rw [beq_eq_false_iff_ne]; omega
    have HF := Lib.hid (HEND.out (w3.setCell ⟨fb, 0, none⟩ (.slice so S.length sc)) qr ((Off.refl [fb] w3).setCell (.inl (by simp)) _) (HI3.out.set 0 _) (by rw [if_neg hr]))
    clear HEND HI3 hr
    go_wp2_with fail
    first | exact HF.out | (go_ret; exact HF.out)
end Go.Proofs.YtfdgiblkllfpjaaGreatDoor
