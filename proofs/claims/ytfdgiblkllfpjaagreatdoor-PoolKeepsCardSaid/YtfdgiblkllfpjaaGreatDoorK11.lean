/- pool: frames come and go; Pin of a held page. -/
import Derived.Test.YtfdgiblkllfpjaaGreatDoorK10
set_option linter.unusedVariables false
set_option linter.unusedSimpArgs false
namespace Go.Proofs.YtfdgiblkllfpjaaGreatDoor
open Go.ChangeShapes Go.WideShapes Go.ChangeAt Go.RowKit
open Go.ChangeMaps (setBlock)

theorem mdel_mid {α : Type} : ∀ (A : List (Int × α)) {k : Int} {u : α} {B : List (Int × α)}, mget A k = none → mdel (A ++ (k, u) :: B) k = A ++ B
  | [], k, u, B, _ => by simp [mdel]
  | (j, x) :: A, k, u, B, h => by
    by_cases e : j = k
    · simp [mget, e] at h
    · simp only [mget, if_neg e] at h
      rw [List.cons_append]
      simp only [mdel, if_neg e]
      rw [mdel_mid A h]; rfl
def PoolM.add (pm : PoolM) (f : Fr) : PoolM := { pm with held := pm.held ++ [f] }
def PoolM.del (pm : PoolM) (n : Nat) : PoolM := { pm with held := pm.held.filter (fun f => f.num != n) }
section
variable {w : World} {p d g : Nat} {pm : PoolM} {mb : Nat} {es : Array MapEntry} {clk : Nat} {qs : List (Fr × Loc)}
theorem PoolAt.insert (h : PoolAt w p d g pm mb es clk qs) {f : Fr} {bv : Value} {es' : Array MapEntry} {clk' : Nat} (hno : ∀ q ∈ qs, q.1.num ≠ f.num) (he : Ent es' (mput (qs.map entP) (f.num : Int) (.pointer (some ⟨w.heap.size, 0, none⟩)))) (hs : Stamp es' clk')
    (hb : IsB w bv f.b) (hbn : ∀ z ∈ blk bv, z ∉ p :: mb :: qs.flatMap (·.2.fp)) (hpin : f.pins < 4611686018427387904) :
    PoolAt (setBlock (w.alloc (.cells (frC f bv) 131)) mb (.map es' clk')) p d g (pm.add f) mb es' clk' (qs ++ [(f, ⟨w.heap.size, bv⟩)]) ∧ Off [mb] w (setBlock (w.alloc (.cells (frC f bv) 131)) mb (.map es' clk')) := by
  have hlt := h.lt
  have oa : Off [] w (w.alloc (.cells (frC f bv) 131)) := (Off.refl [] w).alloc _
  have ob : Off [mb] w (setBlock (w.alloc (.cells (frC f bv) 131)) mb (.map es' clk')) := (oa.mono (by simp)).setBlock (.inl (by simp)) _
  obtain ⟨n1, n2⟩ := List.nodup_cons.1 h.nodup
  obtain ⟨n3, n4⟩ := List.nodup_cons.1 n2
  have hmw := hlt mb (by simp)
  have hg := mget_ent_none hno
  refine ⟨⟨by simp [PoolM.add, h.held], h.head.off ob (by simp; exact fun e => n1 (by simp [e])), (IsM.alloc _ h.map).setSame, ?_, hs, fun q hq => ?_, ?_, ?_, h.most, fun q hq => ?_⟩, ob⟩
  · rw [mput_new _ _ _ hg] at he
    rw [List.map_append]; exact he
  · rcases List.mem_append.1 hq with e | e
    · exact (h.fr q e).off ob (fun z hz hz' => by simp at hz'; subst hz'; exact n3 (List.mem_flatMap.2 ⟨q, e, hz⟩))
    · simp at e; subst e
      refine ⟨?_, hb.off ob (fun z hz hz' => hbn z hz (by simp at hz'; simp [hz']))⟩
      exact IsC.setBlock _ (IsC.new _ _ _) (by simp only; omega)
  · rw [List.flatMap_append]
    simp only [List.flatMap_cons, List.flatMap_nil, List.append_nil]
    have hbl := hb.lt
    have hx : ∀ z ∈ (Loc.mk w.heap.size bv).fp, z ∉ p :: mb :: qs.flatMap (·.2.fp) := fun z hz hz' => by
      rcases List.mem_cons.1 hz with e | e
      · have := hlt z hz'; simp only at e; omega
      · exact hbn z e hz'
    refine List.nodup_cons.2 ⟨fun hz => ?_, List.nodup_cons.2 ⟨fun hz => ?_, List.nodup_append.2 ⟨n4, List.nodup_cons.2 ⟨fun hz => by have := hbl _ hz; simp only at this; omega, blk_nodup' _⟩, fun a ha b hb' e => hx b hb' (e ▸ List.mem_cons_of_mem _ (List.mem_cons_of_mem _ ha))⟩⟩⟩
    · simp only [List.mem_cons, List.mem_append] at hz
      rcases hz with e | e | e
      · exact n1 (by simp [e])
      · exact n1 (by simp [e])
      · exact hx p e (by simp)
    · rcases List.mem_append.1 hz with e | e
      · exact n3 e
      · exact hx mb e (by simp)
  · rw [List.map_append]
    exact List.nodup_append.2 ⟨h.nums, by simp, fun a ha b hb' e => by
      simp at hb'; obtain ⟨q, hq, rfl⟩ := List.mem_map.1 ha; exact hno q hq (by rw [e, hb'])⟩
  · rcases List.mem_append.1 hq with e | e
    · exact h.pins q e
    · simp at e; subst e; exact hpin
theorem PoolAt.remove {A B : List (Fr × Loc)} {q : Fr × Loc} (h : PoolAt w p d g pm mb es clk (A ++ q :: B)) {es' : Array MapEntry} (he : Ent es' (mdel ((A ++ q :: B).map entP) (q.1.num : Int))) (hs : Stamp es' clk) :
    PoolAt (setBlock w mb (.map es' clk)) p d g (pm.del q.1.num) mb es' clk (A ++ B) ∧ Off [mb] w (setBlock w mb (.map es' clk)) := by
  have ob : Off [mb] w (setBlock w mb (.map es' clk)) := (Off.refl [mb] w).setBlock (.inl (by simp)) _
  obtain ⟨n1, n2⟩ := List.nodup_cons.1 h.nodup
  obtain ⟨n3, n4⟩ := List.nodup_cons.1 n2
  have hsub : (A ++ B).Sublist (A ++ q :: B) := List.Sublist.append (List.Sublist.refl A) (List.sublist_cons_self q B)
  have hnn := h.nums
  rw [List.map_append, List.map_cons] at hnn
  obtain ⟨_, m2, m3⟩ := List.nodup_append.1 hnn
  obtain ⟨m4, _⟩ := List.nodup_cons.1 m2
  have hA : ∀ x ∈ A, x.1.num ≠ q.1.num := fun x hx => m3 _ (List.mem_map.2 ⟨x, hx, rfl⟩) _ (by simp)
  have hB : ∀ x ∈ B, x.1.num ≠ q.1.num := fun x hx e => m4 (List.mem_map.2 ⟨x, hx, e⟩)
  refine ⟨⟨?_, h.head.off ob (by simp; exact fun e => n1 (by simp [e])), h.map.setSame, ?_, hs, fun x hx => ?_, h.nodup.sublist (List.Sublist.cons_cons _ (List.Sublist.cons_cons _ ?_)), h.nums.sublist (hsub.map _), h.most, fun x hx => h.pins x (hsub.subset hx)⟩, ob⟩
  · unfold PoolM.del
    simp only
    rw [← h.held, List.map_append, List.map_append, List.map_cons, List.filter_append, List.filter_cons]
    have e1 : (A.map (·.1)).filter (fun f => f.num != q.1.num) = A.map (·.1) := List.filter_eq_self.2 (fun f hf => by obtain ⟨x, hx, rfl⟩ := List.mem_map.1 hf; simpa using hA x hx)
    have e2 : (B.map (·.1)).filter (fun f => f.num != q.1.num) = B.map (·.1) := List.filter_eq_self.2 (fun f hf => by obtain ⟨x, hx, rfl⟩ := List.mem_map.1 hf; simpa using hB x hx)
    rw [e1, e2]; simp
  · rw [List.map_append, List.map_cons] at he
    have : entP q = ((q.1.num : Int), .pointer (some ⟨q.2.fb, 0, none⟩)) := rfl
    rw [this, mdel_mid _ (mget_ent_none hA)] at he
    rw [List.map_append]; exact he
  · exact (h.fr x (hsub.subset hx)).off ob (fun z hz hz' => by simp at hz'; subst hz'; exact n3 (List.mem_flatMap.2 ⟨x, hsub.subset hx, hz⟩))
  · rw [List.flatMap_append, List.flatMap_append, List.flatMap_cons]
    exact List.Sublist.append (List.Sublist.refl _) (List.sublist_append_right _ _)
end
/-- What Pin answers that gives a page's bytes. -/
def PinPost (d g p : Nat) (F : Fp3) (dm : DiskM) (lm : LogM) (pm : PoolM) (l : List UInt8) (w : World) (e : Ending) (w' : World) : Prop :=
  ∃ F1 ao cap, e = .returned (.tuple #[.slice ao l.length cap, .int .i64 0]) ∧ Whole w' d g p dm lm pm F1 ∧ Acc3 F w F1 w' ∧ IsB w' (.slice ao l.length cap) l ∧ ∀ z ∈ blk (.slice ao l.length cap), w.heap.size ≤ z ∧ z ∉ F1.d ++ F1.l ++ F1.p
set_option maxRecDepth 100000 in
set_option maxHeartbeats 4000000 in
theorem pin16_held {w : World} {d g p : Nat} {dm : DiskM} {lm : LogM} {pm : PoolM} {F : Fp3} (h : Whole w d g p dm lm pm F) (hdead : pm.dead = false) (n : Nat) (hn : n < dm.shp.pages) (f : Fr) (hf : pm.find n = some f) (hfl : f.b.length < 1000000) (hpn : f.pins < 4000000000000000000) (pick : Int) :
    Calls Tryz.prog 16 #[.pointer (some ⟨p, 0, none⟩), .int .i64 (n : Int), .int .i64 pick] w (PinPost d g p F dm lm (pm.set { f with pins := f.pins + 1 }) f.b w) := by
  obtain ⟨D, L, pf⟩ := F
  have hp := h.2.1
  obtain ⟨mb, es, clk, qs, hp, hpf⟩ := hp
  simp only at hpf
  subst hpf
  obtain ⟨_, _, _, k3, k4, kf⟩ := hp.cells
  rw [hdead] at k4
  have HT := Lib.hid (there59 hp h.1.1 (n : Int))
  rw [decide_eq_true (show (0 : Int) ≤ (n : Int) ∧ (n : Int) < (dm.shp.pages : Int) by omega)] at HT
  have hlk := fun W hW => run_lookup_map (P := Tryz.prog) (t := 125) (k := 3) (e := 129) (clk := clk) Tryz.underlying125 Tryz.underlying3 zero129 hp.ent mb (n : Int) false W hW
  rcases hp.look n with ⟨e1, _⟩ | ⟨A, q, B, rfl, hq, e1, e2⟩
  · rw [hf] at e1; cases e1
  rw [hf] at e1
  injection e1 with e1
  subst e1
  rw [e2] at hlk
  simp only [Bool.false_eq_true, if_false, Option.getD_some] at hlk
  obtain ⟨f1, f2⟩ := hp.fr q (by simp)
  have hnq : q.2.fb ∉ blk q.2.bv := by
    have hn := hp.nodup
    obtain ⟨_, m2⟩ := List.nodup_cons.1 hn
    obtain ⟨_, m4⟩ := List.nodup_cons.1 m2
    rw [List.flatMap_append, List.flatMap_cons] at m4
    exact (List.nodup_cons.1 (List.nodup_append.1 (List.nodup_append.1 m4).2.1).1).1
  obtain ⟨vo, vc, hbv⟩ := f2.val
  obtain ⟨P, hP⟩ : ∃ P, P = PinPost d g p ⟨D, L, p :: mb :: (A ++ q :: B).flatMap (·.2.fp)⟩ dm lm (pm.set { q.1 with pins := q.1.pins + 1 }) q.1.b w := ⟨_, rfl⟩
  rw [← hP]
  have HP := Lib.hid hP
  have HALL := Lib.hid (And.intro h (And.intro hp (And.intro f1 (And.intro f2 (And.intro hnq (And.intro hfl hpn))))))
  have HBV := Lib.hid hbv
  clear hP h f1 f2 hf hn hnq hbv hq e2 hpn
  have HLK := Lib.hid hlk
  clear hlk
  have HMP := Lib.hid hp.map
  clear hp
  generalize hfb : q.2.fb = fb at *
  have HFB := Lib.hid hfb
  clear hfb
  go_enter Tryz.func16, Tryz.ntmps16
  go_wp2_with fail
  refine HT.out.mono ?_
  rintro e w1 ⟨rfl, ho1⟩
  have k31 := ho1.cell k3 (by simp)
  have HO1 := Lib.hid ho1
  have hlk := HLK.out w1 (HMP.out.off ho1 (by simp))
  have hi1 := HALL.out.2.2.1.off ho1 (by simp)
  rw [HBV.out] at hi1
  have x0 := hi1.cell 0
  have x1 := hi1.cell 1
  have xf := fun o => hi1.unfrozen o
  simp only [frC, List.getElem?_toArray, List.getElem?_cons_zero, List.getElem?_cons_succ] at x0 x1
  have HEND : Hid (Calls Tryz.prog 60 #[.slice vo q.1.b.length vc] (w1.setCell ⟨fb, 1, none⟩ (.int .i64 ((q.1.pins : Int) + 1))) (FreshB (w1.setCell ⟨fb, 1, none⟩ (.int .i64 ((q.1.pins : Int) + 1))) q.1.b) ∧
      ∀ w2 ao cap, IsB w2 (.slice ao q.1.b.length cap) q.1.b → Off [] (w1.setCell ⟨fb, 1, none⟩ (.int .i64 ((q.1.pins : Int) + 1))) w2 → (∀ z ∈ blk (.slice ao q.1.b.length cap), (w1.setCell ⟨fb, 1, none⟩ (.int .i64 ((q.1.pins : Int) + 1))).heap.size ≤ z) → P (.returned (.tuple #[.slice ao q.1.b.length cap, .int .i64 0])) w2) := Lib.hid (by
    obtain ⟨hW, hPA, y1, y2, y3, y4, y5⟩ := HALL.out
    have hW1 := hW.off HO1.out (by simp)
    have hP1 := hPA.off HO1.out (by simp)
    have ho : Off q.2.fp w1 (w1.setCell ⟨fb, 1, none⟩ (.int .i64 ((q.1.pins : Int) + 1))) := (Off.refl _ w1).setCell (.inl (by rw [← HFB.out]; simp [Loc.fp])) _
    have hb2 : IsB (w1.setCell ⟨fb, 1, none⟩ (.int .i64 ((q.1.pins : Int) + 1))) q.2.bv q.1.b := (y2.off HO1.out (by simp)).off (S := [fb]) ((Off.refl _ w1).setCell (.inl (by simp)) _) (fun z hz' hz2 => y3 (by simp at hz2; rw [hz2] at hz'; exact hz'))
    have hi2 : IsC (w1.setCell ⟨fb, 1, none⟩ (.int .i64 ((q.1.pins : Int) + 1))) q.2.fb (frC { q.1 with pins := q.1.pins + 1 } q.2.bv) 131 := by
      rw [HFB.out, HBV.out]; exact hi1.set 1 _
    refine ⟨by rw [← HBV.out]; exact clone60 _ _ _ hb2 (by omega), fun w2 ao cap z1 z2 z3 => ?_⟩
    obtain ⟨Q, u1, u2⟩ := hW1.poolAt (hP1.turn (f := { q.1 with pins := q.1.pins + 1 }) (bv := q.2.bv) rfl (by simp only; omega) ho hi2 hb2 (.inl rfl)).2
    rw [HP.out]
    refine ⟨⟨D, L, Q⟩, ao, cap, rfl, u1.off z2 (by simp), ((Acc3.quiet HO1.out : Acc3 ⟨D, L, p :: mb :: (A ++ q :: B).flatMap (·.2.fp)⟩ w ⟨D, L, p :: mb :: (A ++ q :: B).flatMap (·.2.fp)⟩ w1).trans u2).trans (Acc3.quiet z2), z1, fun z hz => ⟨?_, fun hz' => ?_⟩⟩
    · have a := z3 z hz; have b := HO1.out.size; simp only [World.size_setCell] at a; omega
    · have a := u1.lt z hz'; have b := z3 z hz; omega)
  have hpb : (q.1.pins : Int) < 4000000000000000000 := by have := HALL.out.2.2.2.2.2.2; omega
  have hpb0 : (0 : Int) ≤ (q.1.pins : Int) := by omega
  clear HALL hi1 HP HBV HLK HMP hfl
  generalize q.1.b = qb at *
  generalize (q.1.pins : Int) = qp at *
  have HC := Lib.hid HEND.out.1
  have HE := Lib.hid HEND.out.2
  clear HEND ho1 HT
  go_wp2_with fail
  refine HC.out.mono ?_
  rintro e w2 ⟨ao, cap, rfl, z1, z2, z3⟩
  have HF := Lib.hid (HE.out w2 ao cap z1 z2 z3)
  clear z1 z2 z3 HC HE
  go_wp2_with fail
  first | exact HF.out | (go_ret2; exact HF.out)
end Go.Proofs.YtfdgiblkllfpjaaGreatDoor

/- pool: Pin of a page that comes in while there is room. -/
set_option linter.unusedVariables false
set_option linter.unusedSimpArgs false
namespace Go.Proofs.YtfdgiblkllfpjaaGreatDoor
open Go.ChangeShapes Go.WideShapes Go.ChangeAt Go.RowKit
open Go.ChangeMaps (setBlock)

theorem PoolAt.len {w : World} {p d g : Nat} {pm : PoolM} {mb : Nat} {es : Array MapEntry} {clk : Nat} {qs : List (Fr × Loc)} (h : PoolAt w p d g pm mb es clk qs) : qs.length = pm.held.length := by rw [← h.held]; simp
/-- The page's bytes have come: the frame is laid, and the bytes are answered. -/
theorem pin_last {w w5 : World} {d g p : Nat} {dm : DiskM} {lm : LogM} {pm : PoolM} {D L : List Nat} {mb : Nat} {es : Array MapEntry} {clk : Nat} {qs : List (Fr × Loc)} {F0 : Fp3} {pf : List Nat}
    (hW : Whole w5 d g p dm lm pm ⟨D, L, p :: mb :: qs.flatMap (·.2.fp)⟩) (hA : Acc3 F0 w ⟨D, L, pf⟩ w5) (hsub : ∀ z ∈ p :: mb :: qs.flatMap (·.2.fp), z ∈ pf) (hP : PoolAt w5 p d g pm mb es clk qs) {n : Nat} {l : List UInt8} {bv : Value} {es' : Array MapEntry} {clk' : Nat} (hno : ∀ q ∈ qs, q.1.num ≠ n)
    (he : Ent es' (mput (qs.map entP) (n : Int) (.pointer (some ⟨w5.heap.size, 0, none⟩)))) (hs : Stamp es' clk') (hb : IsB w5 bv l) (hbn : ∀ z ∈ blk bv, w.heap.size ≤ z ∧ z ∉ D ∧ z ∉ L ∧ z ∉ p :: mb :: qs.flatMap (·.2.fp)) (hll : l.length < 1000000) :
    Calls Tryz.prog 60 #[bv] (setBlock (w5.alloc (.cells (frC ⟨n, l, 1, 0⟩ bv) 131)) mb (.map es' clk')) (FreshB (setBlock (w5.alloc (.cells (frC ⟨n, l, 1, 0⟩ bv) 131)) mb (.map es' clk')) l) ∧
      ∀ w6 ao cap, IsB w6 (.slice ao l.length cap) l → Off [] (setBlock (w5.alloc (.cells (frC ⟨n, l, 1, 0⟩ bv) 131)) mb (.map es' clk')) w6 → (∀ z ∈ blk (.slice ao l.length cap), (setBlock (w5.alloc (.cells (frC ⟨n, l, 1, 0⟩ bv) 131)) mb (.map es' clk')).heap.size ≤ z) → PinPost d g p F0 dm lm (pm.add ⟨n, l, 1, 0⟩) l w (.returned (.tuple #[.slice ao l.length cap, .int .i64 0])) w6 := by
  obtain ⟨h1, h2⟩ := hP.insert (f := ⟨n, l, 1, 0⟩) (bv := bv) hno he hs hb (fun z hz => (hbn z hz).2.2.2) (by show 1 < _; decide)
  have hlt := hW.lt
  have hbm : mb ∉ blk bv := fun hz => (hbn mb hz).2.2.2 (by simp)
  have hwz : w.heap.size ≤ w5.heap.size := hA.1.size
  refine ⟨clone60 _ _ _ (hb.off h2 (fun z hz hz' => by simp at hz'; subst hz'; exact hbm hz)) (by omega), fun w6 ao cap z1 z2 z3 => ?_⟩
  have hsz := h2.size
  have hm := hP.lt mb (by simp)
  have hdl : ∀ z ∈ D ++ L, z ∉ [mb] := fun z hz hz' => by
    simp at hz'; subst hz'
    have := hW.2.2 z (by simp)
    rcases List.mem_append.1 hz with e | e
    · exact this.1 e
    · exact this.2 e
  have hnew : ∀ z ∈ (qs ++ [((⟨n, l, 1, 0⟩ : Fr), (⟨w5.heap.size, bv⟩ : Loc))]).flatMap (·.2.fp), z ∈ qs.flatMap (·.2.fp) ∨ (w.heap.size ≤ z ∧ z ∉ D ∧ z ∉ L) := by
    intro z hz
    rw [List.flatMap_append] at hz
    rcases List.mem_append.1 hz with e | e
    · exact .inl e
    · simp only [List.flatMap_cons, List.flatMap_nil, List.append_nil, Loc.fp, List.mem_cons] at e
      rcases e with e | e
      · refine .inr ⟨by omega, fun hz' => ?_, fun hz' => ?_⟩
        · have := hlt z (by simp [hz']); omega
        · have := hlt z (by simp [hz']); omega
      · exact .inr ⟨(hbn z e).1, (hbn z e).2.1, (hbn z e).2.2.1⟩
  have hW2 : Whole (setBlock (w5.alloc (.cells (frC ⟨n, l, 1, 0⟩ bv) 131)) mb (.map es' clk')) d g p dm lm (pm.add ⟨n, l, 1, 0⟩) ⟨D, L, p :: mb :: (qs ++ [((⟨n, l, 1, 0⟩ : Fr), (⟨w5.heap.size, bv⟩ : Loc))]).flatMap (·.2.fp)⟩ := by
    refine ⟨hW.1.off h2 (fun z hz => hdl z (by simp [hz])) (fun z hz => hdl z (by simp [hz])), ⟨mb, es', clk', _, h1, rfl⟩, fun z hz => ?_⟩
    simp only [List.mem_cons] at hz
    rcases hz with rfl | rfl | hz
    · exact hW.2.2 z (by simp)
    · exact hW.2.2 z (by simp)
    · rcases hnew z hz with e | e
      · exact hW.2.2 z (by simp only [List.mem_cons]; exact .inr (.inr e))
      · exact ⟨e.2.1, e.2.2⟩
  have hW3 := hW2.off z2 (by simp)
  refine ⟨_, ao, cap, rfl, hW3, ?_, z1, fun z hz => ⟨?_, fun hz' => ?_⟩⟩
  · obtain ⟨a1, a2, a3, a4⟩ := hA
    have hmpf : mb ∈ pf := hsub mb (by simp)
    refine ⟨(a1.trans h2 (fun z hz => ?_)).trans z2 (by simp), a2, a3, fun z hz => ?_⟩
    · simp at hz; subst hz
      rcases a4 z hmpf with e | e
      · exact .inl (by simp [e])
      · exact .inr e
    · simp only [List.mem_cons] at hz
      rcases hz with e | e | e
      · exact a4 z (hsub z (by simp [e]))
      · exact a4 z (hsub z (by simp [e]))
      · rcases hnew z e with e | e
        · exact a4 z (hsub z (by simp only [List.mem_cons]; exact .inr (.inr e)))
        · exact .inr e.1
  · have := z3 z hz; omega
  · have := z3 z hz
    have := hW2.lt z hz'
    omega
theorem Whole.keep {w w1 : World} {d g p : Nat} {dm dm1 : DiskM} {lm : LogM} {pm : PoolM} {F : Fp3} (h : Whole w d g p dm lm pm F) (k : DiskKeep d F.d dm1 w w1) : Whole w1 d g p dm1 lm pm F ∧ Acc3 F w F w1 :=
  ⟨⟨⟨k.1, h.1.2.1.off k.2 (fun z hz hz' => h.1.2.2 z hz' hz), h.1.2.2⟩, h.2.1.off k.2 (fun z hz hz' => (h.2.2 z hz).1 hz'), h.2.2⟩, k.2.mono (fun z hz => .inl (by simp [hz])), fun z hz => .inl hz, fun z hz => .inl hz, fun z hz => .inl hz⟩
/-- What Pin answers where the disk is found dead. -/
def DeadPost (d g p : Nat) (F : Fp3) (dm : DiskM) (lm : LogM) (pm : PoolM) (w : World) (e : Ending) (w' : World) : Prop := e = .returned (.tuple #[.slice none 0 0, .int .i64 1]) ∧ WholeStep d g p F dm lm pm w w'
set_option maxRecDepth 100000 in
set_option maxHeartbeats 8000000 in
theorem pin16_room {t : Nat → Nat} {w : World} {d g p : Nat} {dm : DiskM} {lm : LogM} {pm : PoolM} {F : Fp3} (ht : Tbl t w) (h : Whole w d g p dm lm pm F) (h0 : 0 ∉ F.d) (hdead : pm.dead = false) (ha : dm.acts < 4611686018427387904) (hfit : dm.fit) (n : Nat) (hn : n < dm.shp.pages) (hf : pm.find n = none) (hroom : pm.held.length < pm.most)
    (l : List UInt8) (hl : dm.reads[n]? = some l) (x : Nat) (hck : pageCheck t l (n : Int) (dm.shp.slots : Nat) = some x) (hst : dm.stops = false) (pick : Int) :
    Calls Tryz.prog 16 #[.pointer (some ⟨p, 0, none⟩), .int .i64 (n : Int), .int .i64 pick] w (PinPost d g p F dm.act lm (pm.add ⟨n, l, 1, 0⟩) l w) := by
  obtain ⟨D, L, pf⟩ := F
  have hp := h.2.1
  obtain ⟨mb, es, clk, qs, hp, hpf⟩ := hp
  simp only at hpf
  subst hpf
  obtain ⟨c0, _, k2, k3, k4, kf⟩ := hp.cells
  rw [hdead] at k4
  have hql := hp.len
  have hm16 := hp.most
  have hsh := h.1.1.ok.1
  have hll : l.length ≤ 152 := by
    obtain ⟨l', e1, e2⟩ := hfit.2.1 n (by omega)
    rw [hl] at e1; injection e1 with e1; subst e1
    rw [e2]; unfold Shp.sizeB Shp.pageB; rw [if_pos hn]; have := hsh.2.2.2.1; omega
  have HT := Lib.hid (there59 hp h.1.1 (n : Int))
  rw [decide_eq_true (show (0 : Int) ≤ (n : Int) ∧ (n : Int) < (dm.shp.pages : Int) by omega)] at HT
  have HG : Hid (∀ W, Off [] w W → Calls Tryz.prog 61 #[.pointer (some ⟨p, 0, none⟩), .func (.func 62) #[] #[]] W (FreshI W (pm.pick idle))) := Lib.hid (fun W ho => gathered61 (hp.off ho (by simp)) (by omega) 62 ent62 idle (fun W' q _ hq => idle62 W' q hq))
  rcases hp.look n with ⟨e1, hno, e2⟩ | ⟨A, q, B, rfl, hq, e1, e2⟩
  rotate_left
  · rw [hf] at e1; cases e1
  have hlk := fun W hW => run_lookup_map (P := Tryz.prog) (t := 125) (k := 3) (e := 129) (clk := clk) Tryz.underlying125 Tryz.underlying3 zero129 hp.ent mb (n : Int) false W hW
  rw [e2] at hlk
  simp only [Bool.false_eq_true, if_false, Option.getD_none] at hlk
  have HLK := Lib.hid hlk
  have HLN : Hid (∀ W ty, IsM W mb es clk → (Builtin.len_ #[125] ty #[.map (some mb)]).run Tryz.prog W = .ok (.int .i64 (pm.held.length : Nat)) W) := Lib.hid (fun W ty hW => by
    have q := run_len_map (P := Tryz.prog) (k := 3) (e := 129) (clk := clk) Tryz.underlying125 hp.ent mb ty W hW
    rw [List.length_map, hql] at q; exact q)
  obtain ⟨fu, hfu1, hfu2⟩ := run_update_sta (P := Tryz.prog) (t := 125) (k := 3) (e := 129) (clk := clk) Tryz.underlying125 Tryz.underlying3 hp.ent hp.stamp mb (n : Int)
  have HFU := Lib.hid (And.intro hfu1 hfu2)
  have HRD : Hid (∀ W, Off [] w W → Calls Tryz.prog 24 #[.pointer (some ⟨d, 0, none⟩), .int .i64 (n : Int)] W (ReadPost d D dm l W)) := Lib.hid (fun W ho => readPage24 (h.1.1.off ho (by simp)) ha n hn l hl (by omega))
  obtain ⟨P, hP⟩ : ∃ P, P = PinPost d g p ⟨D, L, p :: mb :: qs.flatMap (·.2.fp)⟩ dm.act lm (pm.add ⟨n, l, 1, 0⟩) l w := ⟨_, rfl⟩
  rw [← hP]
  have HP := Lib.hid hP
  have HALL := Lib.hid (And.intro h (And.intro hp (And.intro ht (And.intro h0 (And.intro hno (And.intro hck (And.intro hll hst)))))))
  have hfull : ((pm.held.length : Int) == (pm.most : Int)) = false := by rw [beq_eq_false_iff_ne]; omega
  clear hP h hp ht h0 hf hn hroom hno hlk hfu1 hfu2 hck hfit ha hsh hql hm16 e1 e2 hl
  generalize hhl : pm.held.length = hln at *
  generalize hmo : pm.most = mo at *
  clear hhl hmo
  go_enter Tryz.func16, Tryz.ntmps16
  go_wp2_with fail
  refine HT.out.mono ?_
  rintro e w1 ⟨rfl, ho1⟩
  have HO1 := Lib.hid ho1
  have k31 := ho1.cell k3 (by simp)
  have hm1 := HALL.out.2.1.map.off ho1 (by simp)
  have hlk1 := HLK.out w1 hm1
  clear ho1 hm1 HT
  go_wp2_with fail
  refine (HG.out w1 HO1.out).mono ?_
  rintro e w2 ⟨io, ic, rfl, hI2, ho2, hfi⟩
  have HO2 := Lib.hid (HO1.out.trans ho2 (by simp))
  have k22 := HO2.out.cell k2 (by simp)
  have k32 := HO2.out.cell k3 (by simp)
  have k02 := HO2.out.cell c0 (by simp)
  have hln2 : ∀ ty j, (Builtin.len_ #[125] ty #[.map (some mb)]).run Tryz.prog (w2.drewN j) = .ok (.int .i64 (hln : Nat)) (w2.drewN j) := fun ty j => HLN.out _ ty ((HALL.out.2.1.map.off HO2.out (by simp)).off ((Off.refl [] w2).drewN j) (by simp))
  have hln3 : ∀ ty, (Builtin.len_ #[125] ty #[.map (some mb)]).run Tryz.prog w2 = .ok (.int .i64 (hln : Nat)) w2 := fun ty => HLN.out _ ty (HALL.out.2.1.map.off HO2.out (by simp))
  clear hI2 ho2 hfi HG hlk1 k31
  generalize (pm.pick idle).length = il at *
  go_wp2_with fail
  go_quiet (fail)
  clear hln2 hln3
  go_wp2_with fail
  refine (HRD.out _ (HO2.out.drewN _)).mono ?_
  rintro e w3 ⟨hk3, ⟨hs3, _⟩ | ⟨_, ao, cap, rfl, hb3, hf3⟩⟩
  · rw [HALL.out.2.2.2.2.2.2.2] at hs3; cases hs3
  have hw2 := (HALL.out.1.off (HO2.out.drewN nq) (by simp))
  obtain ⟨hw3, ha3⟩ := hw2.keep hk3
  have hp3 : PoolAt w3 p d g pm mb es clk qs := (HALL.out.2.1.off (HO2.out.drewN nq) (by simp)).off hk3.2 (fun z hz hz' => (hw2.2.2 z hz).1 hz')
  have HW3 := Lib.hid (And.intro hw3 (And.intro ((Acc3.quiet (HO2.out.drewN nq) : Acc3 ⟨D, L, p :: mb :: qs.flatMap (·.2.fp)⟩ w ⟨D, L, p :: mb :: qs.flatMap (·.2.fp)⟩ (w2.drewN nq)).trans ha3) hp3))
  have HT3 : Hid (Tbl t w3) := Lib.hid ((HALL.out.2.2.1.off (HO2.out.drewN nq) (by simp)).off hk3.2 HALL.out.2.2.2.1)
  have HB3 := Lib.hid (And.intro hb3 (fun z hz => Nat.le_trans (HO2.out.drewN nq).size (hf3 z hz)))
  obtain ⟨c03, _, _, k33, _, _⟩ := hp3.cells
  have HS3 := Lib.hid (shape51 hw3.1.1)
  rw [(act_shp dm).1] at HS3
  have hf1 := field28_1
  clear hk3 hb3 hf3 hw2 hw3 ha3 hp3 HRD k22 k32 k02
  go_wp2_with fail
  refine HS3.out.mono ?_
  rintro e w4 ⟨rfl, ho4⟩
  have HO4 := Lib.hid ho4
  have HC4 := Lib.hid (check64 _ l (n : Int) (dm.shp.slots : Nat) w4 (HT3.out.off ho4 (by simp)) (HB3.out.1.off ho4 (by simp)) (by have := HALL.out.2.2.2.2.2.2.1; omega))
  rw [HALL.out.2.2.2.2.2.1] at HC4
  unfold CheckPost at HC4
  rw [show (some x).getD 0 = x from rfl, show errOf (some x) 40 = 0 from rfl] at HC4
  clear ho4 HS3
  go_wp2_with fail
  refine HC4.out.mono ?_
  rintro e w5 ⟨rfl, ho5⟩
  have HO5 := Lib.hid (HO4.out.trans ho5 (by simp))
  have k35 := HO5.out.cell k33 (by simp)
  have hmu := HFU.out.2 (.pointer (some ⟨w5.heap.size, 0, none⟩)) (w5.alloc (.cells (frC ⟨n, l, 1, 0⟩ (.slice ao l.length cap)) 131)) (IsM.alloc _ (HW3.out.2.2.map.off HO5.out (by simp)))
  have HEND := Lib.hid (pin_last (w := w) (F0 := ⟨D, L, p :: mb :: qs.flatMap (·.2.fp)⟩) (HW3.out.1.off HO5.out (by simp)) (HW3.out.2.1.trans (Acc3.quiet HO5.out)) (fun z hz => hz) (HW3.out.2.2.off HO5.out (by simp)) (n := n) (l := l) (bv := .slice ao l.length cap) HALL.out.2.2.2.2.1 (HFU.out.1 _).1 (HFU.out.1 _).2 (HB3.out.1.off HO5.out (by simp)) (fun z hz => by
    have a := HB3.out.2 z hz
    have b := HALL.out.1.lt
    exact ⟨a, fun hz' => by have := b z (by simp [hz']); omega, fun hz' => by have := b z (by simp [hz']); omega, fun hz' => by have := b z (by simp only [List.mem_append]; exact .inr hz'); omega⟩) (by have := HALL.out.2.2.2.2.2.2.1; omega))
  rw [← HP.out] at HEND
  have eC : frC ⟨n, l, 1, 0⟩ (.slice ao l.length cap) = #[.slice ao l.length cap, .int .i64 1, .int .i64 0] := rfl
  rw [eC] at hmu HEND
  clear eC
  clear ho5 HC4 HFU HW3 HB3 HT3 HALL HP
  have HC := Lib.hid HEND.out.1
  have HE := Lib.hid HEND.out.2
  clear HEND
  go_wp2_with fail
  refine HC.out.mono ?_
  rintro e w6 ⟨bo, bc, rfl, z1, z2, z3⟩
  have HF := Lib.hid (HE.out w6 bo bc z1 z2 z3)
  clear z1 z2 z3 HC HE
  go_wp2_with fail
  first | exact HF.out | (go_ret2; exact HF.out)
end Go.Proofs.YtfdgiblkllfpjaaGreatDoor

/- pool: Clean. -/
set_option linter.unusedVariables false
set_option linter.unusedSimpArgs false
namespace Go.Proofs.YtfdgiblkllfpjaaGreatDoor
open Go.ChangeShapes Go.WideShapes Go.ChangeAt Go.RowKit

/-- Every frame holds a right page; a dirty one a stamped one. -/
def PoolOk (t : Nat → Nat) (s : Shp) (pm : PoolM) : Prop := ∀ f ∈ pm.held, f.num < s.pages ∧ f.b.length = s.pageB ∧ ∃ x, pageCheck t f.b (f.num : Int) (slotsN f.b.length : Nat) = some x ∧ pageLsn f.b = some x ∧ x ≤ 1152921504606846976 ∧ (0 < f.rc → 1 ≤ x)
theorem PoolOk.page {t : Nat → Nat} {s : Shp} {pm : PoolM} (h : PoolOk t s pm) {f : Fr} (hf : f ∈ pm.held) (hr : 0 < f.rc) : PageOk t s f ((pageLsn f.b).getD 0) := by
  obtain ⟨a, b, x, c, d, e, g⟩ := h f hf
  rw [d]
  exact ⟨a, b, c, d, g hr, e⟩
def cleanM (dm : DiskM) (lm : LogM) (pm : PoolM) (n : Nat) : DiskM × LogM × PoolM × Int :=
  match pm.find n with
  | some f => if 0 < f.rc then writeM dm lm pm f ((pageLsn f.b).getD 0) else (dm, lm, pm, 0)
  | none => (dm, lm, pm, 0)
set_option maxRecDepth 100000 in
set_option maxHeartbeats 4000000 in
theorem clean23 {t : Nat → Nat} {w : World} {d g p : Nat} {dm : DiskM} {lm : LogM} {pm : PoolM} {F : Fp3} (ht : Tbl t w) (h : Whole w d g p dm lm pm F) (h0 : 0 ∉ F.d ∧ 0 ∉ F.l) (hdead : pm.dead = false) {k : Nat} (hk : k < 3000000000000000000) (hok : DeskOk dm lm k) (hpo : PoolOk t dm.shp pm) (n : Nat) (hn : n < dm.shp.pages) :
    Calls Tryz.prog 23 #[.pointer (some ⟨p, 0, none⟩), .int .i64 (n : Int)] w (WPost d g p F (cleanM dm lm pm n) w) := by
  obtain ⟨D, L, pf⟩ := F
  have hp := h.2.1
  obtain ⟨mb, es, clk, qs, hp, hpf⟩ := hp
  simp only at hpf
  subst hpf
  obtain ⟨_, _, _, k3, k4, kf⟩ := hp.cells
  rw [hdead] at k4
  have HT := Lib.hid (there59 hp h.1.1 (n : Int))
  rw [decide_eq_true (show (0 : Int) ≤ (n : Int) ∧ (n : Int) < (dm.shp.pages : Int) by omega)] at HT
  have hlk := fun W hW => run_lookup_map (P := Tryz.prog) (t := 125) (k := 3) (e := 129) (clk := clk) Tryz.underlying125 Tryz.underlying3 zero129 hp.ent mb (n : Int) false W hW
  obtain ⟨P, hP⟩ : ∃ P, P = WPost d g p ⟨D, L, p :: mb :: qs.flatMap (·.2.fp)⟩ (cleanM dm lm pm n) w := ⟨_, rfl⟩
  rw [← hP]
  have HP := Lib.hid hP
  clear hP
  have HSK : Hid (cleanM dm lm pm n = (dm, lm, pm, 0) → ∀ w', Off [] w w' → P (.returned (.int .i64 0)) w') := Lib.hid (fun e w' ho => by rw [HP.out, e]; exact ⟨rfl, h.quiet ho⟩)
  rcases hp.look n with ⟨e1, hno, e2⟩ | ⟨A, q, B, rfl, hq, e1, e2⟩
  · rw [e2] at hlk
    simp only [Bool.false_eq_true, if_false, Option.getD_none] at hlk
    have HLK := Lib.hid (fun W ho => hlk W (hp.map.off (w' := W) (S := []) ho (by simp)))
    have HF := Lib.hid (HSK.out (by unfold cleanM; rw [e1]))
    clear h hp hlk e1 e2 hno HSK ht
    go_enter Tryz.func23, Tryz.ntmps23
    go_wp2_with fail
    refine HT.out.mono ?_
    rintro e w1 ⟨rfl, ho1⟩
    have k31 := ho1.cell k3 (by simp)
    have hlk1 := HLK.out w1 ho1
    have HF1 := Lib.hid (HF.out w1 ho1)
    clear ho1 HF HLK HT
    go_wp2_with fail
    first | exact HF1.out | (go_ret; exact HF1.out)
  · rw [e2] at hlk
    simp only [Bool.false_eq_true, if_false, Option.getD_some] at hlk
    have HLK := Lib.hid (fun W ho => hlk W (hp.map.off (w' := W) (S := []) ho (by simp)))
    obtain ⟨f1, f2⟩ := hp.fr q (by simp)
    have x2 := f1.cell 2
    simp only [frC, List.getElem?_toArray, List.getElem?_cons_zero, List.getElem?_cons_succ] at x2
    by_cases hr : 0 < q.1.rc
    · have ec : cleanM dm lm pm n = writeM dm lm pm q.1 ((pageLsn q.1.b).getD 0) := by unfold cleanM; rw [e1]; simp only [hr, if_true]
      have hpgk := hpo.page (f := q.1) (by rw [← hp.held]; simp) hr
      have HW : Hid (∀ W, Off [] w W → Calls Tryz.prog 65 #[.pointer (some ⟨p, 0, none⟩), .int .i64 (n : Int), .pointer (some ⟨q.2.fb, 0, none⟩)] W (WPost d g p ⟨D, L, p :: mb :: (A ++ q :: B).flatMap (·.2.fp)⟩ (writeM dm lm pm q.1 ((pageLsn q.1.b).getD 0)) W)) := Lib.hid (fun W ho => by
        rw [← hq]
        exact write65 (ht.off ho (by simp)) (h.off ho (by simp)) h0 (hp.off ho (by simp)) hk hok hpgk)
      have HPW : Hid (∀ W e w', Off [] w W → WPost d g p ⟨D, L, p :: mb :: (A ++ q :: B).flatMap (·.2.fp)⟩ (writeM dm lm pm q.1 ((pageLsn q.1.b).getD 0)) W e w' → P e w' ∧ ∃ c, e = .returned (.int .i64 c)) := Lib.hid (fun W e w' ho hw => by
        rw [HP.out, ec]
        obtain ⟨y1, F1, y2, y3⟩ := hw
        exact ⟨⟨y1, F1, y2, (Acc3.quiet ho).trans y3⟩, _, y1⟩)
      have hr2 : (0 : Int) < (q.1.rc : Int) := by omega
      clear h hp hlk e1 e2 HSK ht f1 f2 hr ec hpgk hpo hok
      generalize q.2.fb = fb at *
      generalize (q.1.rc : Int) = rc at *
      go_enter Tryz.func23, Tryz.ntmps23
      go_wp2_with fail
      refine HT.out.mono ?_
      rintro e w1 ⟨rfl, ho1⟩
      have k31 := ho1.cell k3 (by simp)
      have x21 := ho1.cell x2 (by simp)
      have hlk1 := HLK.out w1 ho1
      have HO1 := Lib.hid ho1
      clear ho1 HLK HT
      go_wp2_with fail
      refine (HW.out w1 HO1.out).mono ?_
      intro e w2 hw
      obtain ⟨hF, c, rfl⟩ := HPW.out w1 e w2 HO1.out hw
      have HF := Lib.hid hF
      clear hw hF HW HPW
      go_wp2_with fail
      first | exact HF.out | (go_ret; exact HF.out)
    · have HF := Lib.hid (HSK.out (by unfold cleanM; rw [e1]; simp only [hr, if_false]))
      have hr2 : q.1.rc = 0 := by omega
      rw [hr2] at x2
      clear h hp hlk e1 e2 HSK ht f1 f2 hr
      generalize q.2.fb = fb at *
      go_enter Tryz.func23, Tryz.ntmps23
      go_wp2_with fail
      refine HT.out.mono ?_
      rintro e w1 ⟨rfl, ho1⟩
      have k31 := ho1.cell k3 (by simp)
      have x21 := ho1.cell x2 (by simp)
      have hlk1 := HLK.out w1 ho1
      have HF1 := Lib.hid (HF.out w1 ho1)
      clear ho1 HF HLK HT
      go_wp2_with fail
      first | exact HF1.out | (go_ret; exact HF1.out)
end Go.Proofs.YtfdgiblkllfpjaaGreatDoor

/- pool: CleanAll. -/
set_option linter.unusedVariables false
set_option linter.unusedSimpArgs false
namespace Go.Proofs.YtfdgiblkllfpjaaGreatDoor
open Go.ChangeShapes Go.WideShapes Go.ChangeAt Go.RowKit

theorem pairM_zero {m : DiskM} {n : Nat} {b pb : List UInt8} (h : (pairM m n b pb).2 = 0) : (pairM m n b pb).1 = pairS m n b pb 4 := by
  unfold pairM at h ⊢
  repeat' split at h
  all_goals first | (simp at h; done) | skip
  simp_all
theorem DiskM.put_log (m : DiskM) (k : Nat) (l : List UInt8) : (m.put k l).log = m.log := m.act_fields.2.2.2.2.1
theorem pairS_more {m : DiskM} {n : Nat} {b pb : List UInt8} : (pairS m n b pb 4).log = m.log ∧ (pairS m n b pb 4).loose = [] := by
  refine ⟨?_, rfl⟩
  show ((m.put m.shp.pages pb).sync.put n b).sync.log = m.log
  rw [(DiskM.sync_fields _).2.2.2.2.1, DiskM.put_log, (DiskM.sync_fields _).2.2.2.2.1, DiskM.put_log]
theorem PoolM.find_some {pm : PoolM} {n : Nat} {f : Fr} (h : pm.find n = some f) : f ∈ pm.held ∧ f.num = n := by
  unfold PoolM.find at h
  exact ⟨List.mem_of_find?_eq_some h, by simpa using List.find?_some h⟩
theorem PoolOk.set {t : Nat → Nat} {s : Shp} {pm : PoolM} (h : PoolOk t s pm) {f : Fr} (hf : f ∈ pm.held) (r : Nat) (hr : r ≤ f.rc) : PoolOk t s (pm.set { f with rc := r }) := by
  intro y hy
  unfold PoolM.set at hy
  obtain ⟨z, hz, rfl⟩ := List.mem_map.1 hy
  split
  · obtain ⟨a, b, x, c, d, e, g⟩ := h f hf
    exact ⟨a, b, x, c, d, e, fun hq => g (by simp only at hq; omega)⟩
  · exact h z hz
/-- What a page's writing out keeps. -/
theorem cleanM_ok {t : Nat → Nat} {dm : DiskM} {lm : LogM} {pm : PoolM} {k : Nat} (hok : DeskOk dm lm k) (hpo : PoolOk t dm.shp pm) (hdead : pm.dead = false) (hz : lm.bytes = lm.disk + lm.tail.length) {n : Nat} (hc : (cleanM dm lm pm n).2.2.2 = 0) :
    DeskOk (cleanM dm lm pm n).1 (cleanM dm lm pm n).2.1 (k + 6) ∧ PoolOk t (cleanM dm lm pm n).1.shp (cleanM dm lm pm n).2.2.1 ∧ (cleanM dm lm pm n).2.2.1.dead = false ∧ (cleanM dm lm pm n).1.shp = dm.shp ∧ (cleanM dm lm pm n).2.2.1.held.map (·.num) = pm.held.map (·.num) ∧ (cleanM dm lm pm n).2.2.1.most = pm.most := by
  have hbase : DeskOk dm lm (k + 6) := ⟨hok.1, hok.2.1, by have := hok.2.2.1; omega, hok.2.2.2⟩
  unfold cleanM at hc ⊢
  cases hf : pm.find n with
  | none => exact ⟨hbase, hpo, hdead, rfl, rfl, rfl⟩
  | some f =>
    rw [hf] at hc
    simp only at hc ⊢
    by_cases hr : 0 < f.rc
    · rw [if_pos hr] at hc ⊢
      unfold writeM at hc ⊢
      by_cases h1 : (flushM dm lm ((pageLsn f.b).getD 0)).2.2 = 0
      · rw [if_pos h1] at hc ⊢
        have hok2 := flushM_ok hok hz h1
        have hsh2 := flushM_shp hok hz ((pageLsn f.b).getD 0)
        by_cases h2 : (pairM (flushM dm lm ((pageLsn f.b).getD 0)).1 f.num f.b (pairB ((pageLsn f.b).getD 0) f.num f.b)).2 = 0
        · rw [if_pos h2]
          obtain ⟨hfm, hfn⟩ := PoolM.find_some hf
          obtain ⟨g1, g2, _⟩ := hpo f hfm
          have hps := (pairS_ok hok2.1 hok2.2.1 (n := f.num) (by rw [hsh2]; exact g1) (b := f.b) (pb := pairB ((pageLsn f.b).getD 0) f.num f.b) (by rw [hsh2]; exact g2) (by rw [pairB_len, hsh2, g2])).2.2.2.2
          have hpm := pairS_more (m := (flushM dm lm ((pageLsn f.b).getD 0)).1) (n := f.num) (b := f.b) (pb := pairB ((pageLsn f.b).getD 0) f.num f.b)
          simp only
          rw [pairM_zero h2]
          refine ⟨⟨hps.2.1, hps.2.2.1, by have := hps.2.2.2.1; have := hok2.2.2.1; omega, by rw [hpm.2]; simp, by rw [hpm.1]; exact hok2.2.2.2.2.1, by rw [hps.1]; exact hok2.2.2.2.2.2.1, hok2.2.2.2.2.2.2⟩, ?_, hdead, hps.1.trans hsh2, ?_, rfl⟩
          · rw [hps.1, hsh2]
            exact hpo.set hfm 0 (by omega)
          · unfold PoolM.set
            simp only [List.map_map]
            refine List.map_congr_left (fun x _ => ?_)
            simp only [Function.comp_apply]
            split
            · rename_i e; exact e.symm
            · rfl
        · rw [if_neg h2] at hc; simp at hc
      · rw [if_neg h1] at hc; simp at hc
    · rw [if_neg hr] at hc ⊢
      exact ⟨hbase, hpo, hdead, rfl, rfl, rfl⟩
def cleanAllM : List Nat → DiskM → LogM → PoolM → DiskM × LogM × PoolM × Int
  | [], dm, lm, pm => (dm, lm, pm, 0)
  | n :: ns, dm, lm, pm => if (cleanM dm lm pm n).2.2.2 = 0 then cleanAllM ns (cleanM dm lm pm n).1 (cleanM dm lm pm n).2.1 (cleanM dm lm pm n).2.2.1 else cleanM dm lm pm n
theorem cleanM_code (dm : DiskM) (lm : LogM) (pm : PoolM) (n : Nat) : (cleanM dm lm pm n).2.2.2 = 0 ∨ (cleanM dm lm pm n).2.2.2 = 1 := by
  unfold cleanM
  split
  · split
    · unfold writeM
      split
      · split
        · exact .inl rfl
        · exact .inr rfl
      · exact .inr rfl
    · exact .inl rfl
  · exact .inl rfl
theorem pick_mem {pm : PoolM} {pr : Fr → Bool} {x : Int} (h : x ∈ pm.pick pr) : ∃ f ∈ pm.held, pr f = true ∧ x = (f.num : Int) := by
  unfold PoolM.pick at h
  have := (srtI_perm _).mem_iff.1 h
  unfold numsI at this
  obtain ⟨f, hf, rfl⟩ := List.mem_map.1 this
  obtain ⟨a, b⟩ := List.mem_filter.1 hf
  exact ⟨f, a, b, rfl⟩
def PoolM.dirtyN (pm : PoolM) : List Nat := (pm.pick dirty).map Int.toNat
def AllIn (t : Nat → Nat) (w1 : World) (d g p : Nat) (F : Fp3) (dm : DiskM) (lm : LogM) (pm : PoolM) (a : Nat) (Ln : List Nat) (k : Nat) (wr : World) : Prop :=
  ∃ dmk lmk pmk F1, Whole wr d g p dmk lmk pmk F1 ∧ Acc3 F w1 F1 wr ∧ DeskOk dmk lmk (a + 6 * k) ∧ PoolOk t dmk.shp pmk ∧ pmk.dead = false ∧ dmk.shp = dm.shp ∧ cleanAllM Ln dm lm pm = cleanAllM (Ln.drop k) dmk lmk pmk
set_option maxRecDepth 100000 in
set_option maxHeartbeats 4000000 in
theorem cleanAll31 {t : Nat → Nat} {w : World} {d g p : Nat} {dm : DiskM} {lm : LogM} {pm : PoolM} {F : Fp3} (ht : Tbl t w) (h : Whole w d g p dm lm pm F) (h0 : 0 ∉ F.d ∧ 0 ∉ F.l ∧ 0 ∉ F.p) (hdead : pm.dead = false) {a : Nat} (ha : a < 2000000000000000000) (hok : DeskOk dm lm a) (hpo : PoolOk t dm.shp pm) (hm : pm.held.length ≤ pm.most) :
    Calls Tryz.prog 31 #[.pointer (some ⟨p, 0, none⟩)] w (WPost d g p F (cleanAllM pm.dirtyN dm lm pm) w) := by
  have hp := h.2.1
  obtain ⟨mb, es, clk, qs, hp, hpf⟩ := hp
  obtain ⟨_, _, _, k3, k4, kf⟩ := hp.cells
  rw [hdead] at k4
  have HG := Lib.hid (gathered61 hp (by have := hp.len; have := hp.most; omega) 75 ent75 dirty (fun W' q _ hq => dirty75 W' q hq))
  obtain ⟨P, hP⟩ : ∃ P, P = WPost d g p F (cleanAllM pm.dirtyN dm lm pm) w := ⟨_, rfl⟩
  rw [← hP]
  have HP := Lib.hid hP
  have hpl : (pm.pick dirty).length ≤ 16 := by
    unfold PoolM.pick
    rw [srtI_len]; unfold numsI; rw [List.length_map]
    have := List.length_filter_le dirty pm.held
    have := hp.most; omega
  have HPL := Lib.hid hpl
  have HALL := Lib.hid (And.intro h (And.intro ht (And.intro h0 (And.intro hok hpo))))
  have HLN : Hid (pm.dirtyN.length = (pm.pick dirty).length) := Lib.hid (by unfold PoolM.dirtyN; rw [List.length_map])
  have HX : Hid (∀ k, k < (pm.pick dirty).length → ∃ n : Nat, (pm.pick dirty)[k]? = some (n : Int) ∧ pm.dirtyN[k]? = some n ∧ n < dm.shp.pages) := Lib.hid (fun k hk => by
    have hm := List.getElem_mem hk
    obtain ⟨f, hf, _, e⟩ := pick_mem hm
    refine ⟨f.num, by rw [List.getElem?_eq_getElem hk, e], ?_, (hpo f hf).1⟩
    unfold PoolM.dirtyN
    rw [List.getElem?_map, List.getElem?_eq_getElem hk, e]; rfl)
  clear hP h hp ht h0 hok hpo hpf hm hpl
  generalize hL : pm.pick dirty = Lp at *
  clear hL
  generalize pm.dirtyN = Ln at *
  go_enter Tryz.func31, Tryz.ntmps31
  go_wp2_with fail
  refine HG.out.mono ?_
  rintro e w1 ⟨io, ic, rfl, hI, ho1, hfi⟩
  have HI := Lib.hid (And.intro hI hfi)
  have HO1 := Lib.hid ho1
  have HIN : Hid (AllIn t w1 d g p F dm lm pm a Ln 0 w1) := Lib.hid ⟨dm, lm, pm, F, HALL.out.1.off ho1 (by simp), Acc3.refl, HALL.out.2.2.2.1, HALL.out.2.2.2.2, hdead, rfl, by rw [List.drop_zero]⟩
  have HIL := Lib.hid (hI.lt)
  clear hI ho1 hfi HG
  obtain ⟨lpl, hlpl⟩ : ∃ lpl, lpl = Lp.length := ⟨_, rfl⟩
  have HLL := Lib.hid hlpl
  rw [← hlpl] at HPL HLN HX HI HIL ⊢
  clear hlpl
  have hpl := HPL.out
  go_wp2_with fail
  go_loopw [13, 4, 5] (fun i _ _ wr => ∃ k : Nat, k ≤ lpl ∧ i = .int .i64 (k : Int) ∧ AllIn t w1 d g p F dm lm pm a Ln k wr) (fun i _ _ _ => lpl - (intOf i).toNat)
  case atStart => exact ⟨0, Nat.zero_le _, rfl, HIN.out⟩
  case round =>
    obtain ⟨k, hk, rfl, dmk, lmk, pmk, F1, hW, hA, hok, hpo, hdd, hsh, hcl⟩ := hrel
    have HW := Lib.hid (And.intro hW (And.intro hA (And.intro hok (And.intro hpo (And.intro hdd (And.intro hsh hcl))))))
    clear hW hA hok hpo hdd hsh hcl HIN
    by_cases hlt : k < lpl
    · obtain ⟨n, hx1, hx2, hx3⟩ := HX.out k hlt
      have hib : ∃ ib ioff, io = some ⟨ib, ioff, none⟩ ∧ wr.cell? ⟨ib, ioff + k, none⟩ = some (.int .i64 (n : Int)) := by
        have hI1 := HI.out.1
        have hnot : ∀ z ∈ blk (.slice io lpl ic), z ∉ F.d ++ F.l ++ F.p := fun z hz hz' => by have := HI.out.2 z hz; have := HALL.out.1.lt z hz'; omega
        have hI2 := hI1.off HW.out.2.1.1 hnot
        unfold IsI at hI2
        rw [← HLL.out] at hI2
        rcases hI2.2 with ⟨e, h0⟩ | ⟨ib, ioff, c, cur, e, hr⟩
        · injection e with _ e _; omega
        · injection e with e1 _ e3
          subst e1; subst e3
          refine ⟨ib, ioff, rfl, ?_⟩
          rw [Own.cellAt hI2 k (by have := HLL.out; omega)]
          unfold intsV
          rw [List.getElem?_map, hx1]; rfl
      obtain ⟨ib, ioff, rfl, hcell⟩ := hib
      have h00 : 0 ∉ F1.d ∧ 0 ∉ F1.l := by
        have hs : 0 < w1.heap.size := by have := HALL.out.2.1.1; have := HO1.out.size; omega
        exact ⟨fun hz => (HW.out.2.1.2.1 0 hz).elim (fun e => HALL.out.2.2.1.1 e) (fun e => by omega), fun hz => (HW.out.2.1.2.2.1 0 hz).elim (fun e => HALL.out.2.2.1.2.1 e) (fun e => by omega)⟩
      have HCL := Lib.hid (clean23 (k := a + 6 * k) ((HALL.out.2.1.off HO1.out (by simp)).off HW.out.2.1.1 (by have := HALL.out.2.2.1; simp [this.1, this.2.1, this.2.2])) HW.out.1 h00 HW.out.2.2.2.2.1 (by omega) HW.out.2.2.1 HW.out.2.2.2.1 n (by rw [HW.out.2.2.2.2.2.1]; exact hx3))
      have hcd := cleanM_code dmk lmk pmk n
      have HDR : Hid (Ln.drop k = n :: Ln.drop (k + 1)) := Lib.hid (by
        obtain ⟨hkl, e⟩ := List.getElem?_eq_some_iff.1 hx2
        rw [← e]; exact (List.getElem_cons_drop hkl).symm)
      clear hx1 hx2 hx3 h00
      go_wp2_with fail
      refine HCL.out.mono ?_
      rintro e w2 ⟨rfl, hw2⟩
      have HW2 := Lib.hid hw2
      clear hw2 HCL
      rcases hcd with hc | hc
      · have hokk := cleanM_ok HW.out.2.2.1 HW.out.2.2.2.1 HW.out.2.2.2.2.1 HW.out.1.1.2.1.sized.2.2.2 hc
        have HN : Hid (AllIn t w1 d g p F dm lm pm a Ln (k + 1) w2) := Lib.hid (by
          obtain ⟨F2, y1, y2⟩ := HW2.out
          refine ⟨_, _, _, F2, y1, HW.out.2.1.trans y2, ?_, hokk.2.1, hokk.2.2.1, hokk.2.2.2.1.trans HW.out.2.2.2.2.2.1, ?_⟩
          · have := hokk.1; rw [show a + 6 * (k + 1) = a + 6 * k + 6 by omega]; exact this
          · rw [HW.out.2.2.2.2.2.2, HDR.out]
            show (if (cleanM dmk lmk pmk n).2.2.2 = 0 then _ else _) = _
            rw [if_pos hc])
        rw [hc]
        clear hc hokk HW2 hcell
        go_wp2_with fail
        go_roundw
        case rel => exact ⟨k + 1, by omega, by go_num, HN.out⟩
        case measure => simp [intOf]; omega
      · have HF : Hid (P (.returned (.int .i64 1)) w2) := Lib.hid (by
          rw [HP.out, HW.out.2.2.2.2.2.2, HDR.out]
          show WPost d g p F (if (cleanM dmk lmk pmk n).2.2.2 = 0 then _ else _) w _ w2
          rw [if_neg (by omega)]
          obtain ⟨F2, y1, y2⟩ := HW2.out
          exact ⟨by rw [hc], F2, y1, ((Acc3.quiet HO1.out : Acc3 F w F w1).trans HW.out.2.1).trans y2⟩)
        rw [hc]
        clear hc HW2 hcell
        go_wp2_with fail
        first | exact HF.out | (go_ret; exact HF.out)
    · have hkn : k = lpl := by omega
      subst hkn
      have HF : Hid (P (.returned (.int .i64 0)) wr) := Lib.hid (by
        rw [HP.out, HW.out.2.2.2.2.2.2, List.drop_of_length_le (by rw [HLN.out]; exact Nat.le_refl _)]
        exact ⟨rfl, F1, HW.out.1, (Acc3.quiet HO1.out : Acc3 F w F w1).trans HW.out.2.1⟩)
      go_wp2_with fail
      first | exact HF.out | (go_ret; exact HF.out)
end Go.Proofs.YtfdgiblkllfpjaaGreatDoor

/- disk: a ground's copy. -/
set_option linter.unusedVariables false
set_option linter.unusedSimpArgs false
namespace Go.Proofs.YtfdgiblkllfpjaaGreatDoor
open Go.ChangeShapes Go.WideShapes Go.ChangeAt Go.RowKit

/-- The first k places are copied. -/
def CopyIn (w : World) (gs : List (List UInt8)) (k : Nat) (v : Value) (wr : World) : Prop :=
  ∃ g vs, v = .slice (some ⟨g, 0, none⟩) gs.length gs.length ∧ Own wr 22 1 v gs.length (vs ++ List.replicate (gs.length - k) (.slice none 0 0)) ∧
    Items wr vs (gs.take k) ∧ (g :: vs.flatMap blk).Nodup ∧ Off [] w wr ∧ (∀ z ∈ g :: vs.flatMap blk, w.heap.size ≤ z ∧ z < wr.heap.size)
theorem CopyIn.step {w wr w1 : World} {gs : List (List UInt8)} {k g cap : Nat} {l : List UInt8} {ao : Option Addr} {vs : List Value} (hl : gs[k]? = some l) (h1 : Own wr 22 1 (.slice (some ⟨g, 0, none⟩) gs.length gs.length) gs.length (vs ++ List.replicate (gs.length - k) (.slice none 0 0)))
    (h2 : Items wr vs (gs.take k)) (h3 : (g :: vs.flatMap blk).Nodup) (h4 : Off [] w wr) (h5 : ∀ z ∈ g :: vs.flatMap blk, w.heap.size ≤ z ∧ z < wr.heap.size) (ho : Off [] wr w1) (hb : IsB w1 (.slice ao l.length cap) l) (hbn : ∀ z ∈ blk (.slice ao l.length cap), wr.heap.size ≤ z) :
    CopyIn w gs (k + 1) (.slice (some ⟨g, 0, none⟩) gs.length gs.length) (w1.setCell ⟨g, k, none⟩ (.slice ao l.length cap)) := by
  have e1 := ho.size
  have hk := (List.getElem?_eq_some_iff.1 hl).1
  have hlv := h2.1
  rw [List.length_take, Nat.min_eq_left (by omega)] at hlv
  have hgl := (h5 g (by simp)).2
  have hset : Off [g] w1 (w1.setCell ⟨g, k, none⟩ (.slice ao l.length cap)) := (Off.refl [g] w1).setCell (.inl (by simp)) _
  have hset2 : Off [g] wr (w1.setCell ⟨g, k, none⟩ (.slice ao l.length cap)) := (ho.mono (by simp)).trans hset (fun z hz => .inl hz)
  have hgn : g ∉ vs.flatMap blk := (List.nodup_cons.1 h3).1
  have hbl := hb.lt
  refine ⟨g, vs ++ [.slice ao l.length cap], rfl, ?_, ⟨by simp [hlv]; omega, fun i l' hli => ?_⟩, ?_, ?_, ?_⟩
  · have q := (h1.off ho (by simp)).set k (.slice ao l.length cap)
    rw [Nat.zero_add] at q
    have e : (vs ++ List.replicate (gs.length - k) (Value.slice none 0 0)).set k (Value.slice ao l.length cap) = (vs ++ [Value.slice ao l.length cap]) ++ List.replicate (gs.length - (k + 1)) (Value.slice none 0 0) := by
      rw [List.set_append_right _ _ (by omega), hlv, Nat.sub_self, show gs.length - k = (gs.length - (k + 1)) + 1 by omega, List.replicate_succ, List.append_assoc]; rfl
    rw [e] at q; exact q
  · rw [List.take_succ_eq_append_getElem hk] at hli
    by_cases hi : i < k
    · rw [List.getElem?_append_left (by rw [List.length_take]; omega)] at hli
      obtain ⟨x, hx, hb'⟩ := h2.2 i l' hli
      refine ⟨x, by rw [List.getElem?_append_left (by omega)]; exact hx, hb'.off hset2 (fun z hz hz' => ?_)⟩
      simp at hz'; subst hz'
      exact hgn (List.mem_flatMap.2 ⟨x, List.mem_of_getElem? hx, hz⟩)
    · rw [List.getElem?_append_right (by rw [List.length_take]; omega), List.length_take, Nat.min_eq_left (by omega)] at hli
      have hik : i - k = 0 := by
        rcases Nat.eq_zero_or_pos (i - k) with h | h
        · exact h
        · rw [List.getElem?_eq_none (by simp; omega)] at hli; simp at hli
      rw [hik] at hli
      simp only [List.getElem?_cons_zero, Option.some.injEq] at hli
      have hll : l' = l := by rw [List.getElem?_eq_getElem hk] at hl; injection hl with hl; rw [← hli, hl]
      subst hll
      have hi2 : i = k := by omega
      subst hi2
      refine ⟨_, by rw [List.getElem?_append_right (by omega), hlv, Nat.sub_self]; rfl, ?_⟩
      exact hb.off hset (fun z hz hz' => by simp at hz'; have := hbn z hz; omega)
  · rw [List.flatMap_append, ← List.cons_append]
    refine List.nodup_append.2 ⟨h3, by simp only [List.flatMap_cons, List.flatMap_nil, List.append_nil]; exact blk_nodup' _, fun a ha b hb' e => ?_⟩
    simp only [List.flatMap_cons, List.flatMap_nil, List.append_nil] at hb'
    have := (h5 a ha).2
    have := hbn b hb'
    omega
  · exact (h4.trans ho (by simp)).trans (T := [g]) hset (fun z hz => .inr (by simp at hz; rw [hz]; exact (h5 g (by simp)).1))
  · intro z hz
    simp only [List.mem_cons, List.flatMap_append, List.flatMap_cons, List.flatMap_nil, List.append_nil, List.mem_append] at hz
    simp only [World.size_setCell]
    rcases hz with rfl | hz | hz
    · have := h5 z (by simp); omega
    · have := h5 z (List.mem_cons_of_mem _ hz); omega
    · have := hbn z hz; have := hbl z hz; have := h4.size; omega
theorem CopyIn.done {w wr : World} {gs : List (List UInt8)} {v : Value} (h : CopyIn w gs gs.length v wr) : GroundF w gs (.returned v) wr := by
  obtain ⟨g, vs, rfl, h1, h2, h3, h4, h5⟩ := h
  rw [Nat.sub_self, List.replicate_zero, List.append_nil] at h1
  rw [List.take_of_length_le (Nat.le_refl _)] at h2
  exact ⟨_, g :: vs.flatMap blk, rfl, ⟨vs, h1, h2, rfl, h3⟩, h4, fun z hz => (h5 z hz).1⟩
set_option maxRecDepth 100000 in
set_option maxHeartbeats 4000000 in
theorem copy78 {w : World} {v : Value} {gs : List (List UInt8)} {fp : List Nat} (h : Ground w v gs fp) (hn : gs.length < 1000) (hb : ∀ l ∈ gs, l.length < 1000000) (h0 : 0 < gs.length) : Calls Tryz.prog 78 #[v] w (GroundF w gs) := by
  obtain ⟨gb, goff, gcap, rfl⟩ : ∃ gb goff gcap, v = .slice (some ⟨gb, goff, none⟩) gs.length gcap := by
    obtain ⟨gb, goff, gcap, _, _, e, _⟩ := h.at 0 gs[0] (List.getElem?_eq_getElem h0)
    exact ⟨gb, goff, gcap, e⟩
  have HGR := Lib.hid h
  have HBL := Lib.hid hb
  have hmk : ∀ W, (Instr.makeSlice 100 (.int .i64 (gs.length : Int)) (.int .i64 (gs.length : Int))).run Tryz.prog W = .ok (.slice (some ⟨W.heap.size, 0, none⟩) gs.length gs.length) (W.alloc (.cells (Array.replicate gs.length (.slice none 0 0)) 22)) := fun W => makeG gs.length (by omega) W
  have HST : Hid (CopyIn w gs 0 (.slice (some ⟨w.heap.size, 0, none⟩) gs.length gs.length) (w.alloc (.cells (Array.replicate gs.length (.slice none 0 0)) 22))) := Lib.hid (by
    refine ⟨w.heap.size, [], rfl, ?_, ⟨by simp, by simp⟩, by simp, (Off.refl _ _).alloc _, by simp⟩
    have q := Own.new w 22 1 (Array.replicate gs.length (Value.slice none 0 0)) gs.length (by unfold maxLen; omega) (by simp)
    simpa using q)
  have HEND : Hid (∀ v wr, CopyIn w gs gs.length v wr → GroundF w gs (.returned v) wr) := Lib.hid (fun v wr q => q.done)
  obtain ⟨P, hP⟩ : ∃ P, P = GroundF w gs := ⟨_, rfl⟩
  rw [← hP] at HEND ⊢
  clear hP h hb
  obtain ⟨n, hN⟩ : ∃ n, n = gs.length := ⟨_, rfl⟩
  have HN := Lib.hid hN
  rw [← hN] at hmk HST HEND hn ⊢
  clear hN h0
  go_enter Tryz.func78, Tryz.ntmps78
  go_wp2_with fail
  obtain ⟨w1, hw1⟩ : ∃ w1, w1 = w.alloc (.cells (Array.replicate n (.slice none 0 0)) 22) := ⟨_, rfl⟩
  rw [← hw1] at HST ⊢
  clear hw1 hmk
  generalize w.heap.size = rb at *
  go_loopw [11, 4, 5] (fun i _ _ wr => ∃ k : Nat, k ≤ n ∧ i = .int .i64 (k : Int) ∧ CopyIn w gs k (.slice (some ⟨rb, 0, none⟩) n n) wr) (fun i _ _ _ => n - (intOf i).toNat)
  case atStart => exact ⟨0, Nat.zero_le _, rfl, HST.out⟩
  case round =>
    obtain ⟨k, hk, rfl, hin⟩ := hrel
    by_cases hlt : k < n
    · obtain ⟨g, vs, hv, h1, h2, h3, h4, h5⟩ := hin
      injection hv with e1 e2 e3
      injection e1 with e1
      injection e1 with e1 _ _
      subst e1
      clear e2 e3
      obtain ⟨l, hl⟩ : ∃ l, gs[k]? = some l := ⟨_, List.getElem?_eq_getElem (by have := HN.out; omega)⟩
      obtain ⟨gb', goff', gcap', xo, xc, hv', hcx, hbx, _⟩ := (HGR.out.off h4 (by simp)).at k l hl
      injection hv' with e1 _ e3
      injection e1 with e1
      injection e1 with e1 e2 _
      subst e1; subst e2
      have HC := Lib.hid (clone80 _ l wr hbx (by have := HBL.out l (List.mem_of_getElem? hl); omega))
      have h1' := h1
      rw [HN.out] at h1'
      have HSTP := Lib.hid (fun (w2 : World) (ao : Option Addr) (cap : Nat) a b c => CopyIn.step (w := w) (w1 := w2) (ao := ao) (cap := cap) hl h1' h2 h3 h4 h5 a b c)
      rw [← HN.out] at HSTP
      have HFZ : Hid (∀ w2, Off [] wr w2 → (∃ vv, w2.cell? ⟨rb, k, none⟩ = some vv) ∧ ∀ o, w2.frozen? ⟨rb, o, none⟩ = false) := Lib.hid (fun w2 ho => by
        refine ⟨?_, fun o => Own.unfrozen (h1'.off ho (by simp)) o⟩
        rcases (h1'.off ho (by simp)).2 with ⟨e, _⟩ | ⟨g, off, cap, cur, e, hc, hn', hm, hcs, _⟩
        · simp at e
        · injection e with e1 e2 e3
          injection e1 with e1
          injection e1 with e1 e4 _
          subst e1; subst e4; subst e3
          rw [hc.cell, Array.getElem?_eq_getElem (by have := HN.out; omega)]; exact ⟨_, rfl⟩)
      clear h1 h1' h2 h3 h4 h5 hbx hl e3
      go_wp2_with fail
      refine HC.out.mono ?_
      rintro e w2 ⟨ao, cap, rfl, x1, x2, x3⟩
      have HN2 := Lib.hid (HSTP.out w2 ao cap x2 x1 x3)
      obtain ⟨⟨vv, hvv⟩, hfz⟩ := HFZ.out w2 x2
      clear x1 x2 x3 HC HSTP HFZ hcx
      go_wp2_with fail
      go_roundw
      case rel => exact ⟨k + 1, by omega, by go_num, HN2.out⟩
      case measure => simp [intOf]; omega
    · have hkn : k = n := by omega
      subst hkn
      have HF := Lib.hid (HEND.out _ _ hin)
      clear hin
      go_wp2_with fail
      first | exact HF.out | (go_ret; exact HF.out)
end Go.Proofs.YtfdgiblkllfpjaaGreatDoor
