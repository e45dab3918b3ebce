/- pool: frames come and go; Pin of a held page. -/
import Derived.Test.YtfdgiblkllfpjaaGreatDoorL10
set_option linter.unusedVariables false
set_option linter.unusedSimpArgs false
namespace Go.Proofs.YtfdgiblkllfpjaaGreatDoor
open Go.ChangeShapes Go.WideShapes Go.ChangeAt Go.RowKit
open Go.ChangeMaps (setBlock)

theorem mdel_mid {α : Type} : ∀ (A : List (Int × α)) {k : Int} {u : α} {B : List (Int × α)}, mget A k = none → mdel (A ++ (k, u) :: B) k = A ++ B
  | [], k, u, B, _ => by simp [mdel]
  | (j, x) :: A, k, u, B, h => by
    by_cases e : j = k
    · simp [mget, e] at h
    · simp only [mget, if_neg e] at h
      rw [List.cons_append]
      simp only [mdel, if_neg e]
      rw [mdel_mid A h]; rfl
def PoolM.add (pm : PoolM) (f : Fr) : PoolM := { pm with held := pm.held ++ [f] }
def PoolM.del (pm : PoolM) (n : Nat) : PoolM := { pm with held := pm.held.filter (fun f => f.num != n) }
section
variable {w : World} {p d g : Nat} {pm : PoolM} {mb : Nat} {es : Array MapEntry} {clk : Nat} {qs : List (Fr × Loc)}
theorem PoolAt.insert (h : PoolAt w p d g pm mb es clk qs) {f : Fr} {bv : Value} {es' : Array MapEntry} {clk' : Nat} (hno : ∀ q ∈ qs, q.1.num ≠ f.num) (he : Ent es' (mput (qs.map entP) (f.num : Int) (.pointer (some ⟨w.heap.size, 0, none⟩)))) (hs : Stamp es' clk')
    (hb : IsB w bv f.b) (hbn : ∀ z ∈ blk bv, z ∉ p :: mb :: qs.flatMap (·.2.fp)) (hpin : f.pins < 4611686018427387904) :
    PoolAt (setBlock (w.alloc (.cells (frC f bv) 131)) mb (.map es' clk')) p d g (pm.add f) mb es' clk' (qs ++ [(f, ⟨w.heap.size, bv⟩)]) ∧ Off [mb] w (setBlock (w.alloc (.cells (frC f bv) 131)) mb (.map es' clk')) := by
  have hlt := h.lt
  have oa : Off [] w (w.alloc (.cells (frC f bv) 131)) := (Off.refl [] w).alloc _
  have ob : Off [mb] w (setBlock (w.alloc (.cells (frC f bv) 131)) mb (.map es' clk')) := (oa.mono (by simp)).setBlock (.inl (by simp)) _
  obtain ⟨n1, n2⟩ := List.nodup_cons.1 h.nodup
  obtain ⟨n3, n4⟩ := List.nodup_cons.1 n2
  have hmw := hlt mb (by simp)
  have hg := mget_ent_none hno
  refine ⟨⟨by simp [PoolM.add, h.held], h.head.off ob (by simp; exact fun e => n1 (by simp [e])), (IsM.alloc _ h.map).setSame, ?_, hs, fun q hq => ?_, ?_, ?_, h.most, fun q hq => ?_⟩, ob⟩
  · rw [mput_new _ _ _ hg] at he
    rw [List.map_append]; exact he
  · rcases List.mem_append.1 hq with e | e
    · exact (h.fr q e).off ob (fun z hz hz' => by simp at hz'; subst hz'; exact n3 (List.mem_flatMap.2 ⟨q, e, hz⟩))
    · simp at e; subst e
      refine ⟨?_, hb.off ob (fun z hz hz' => hbn z hz (by simp at hz'; simp [hz']))⟩
      exact IsC.setBlock _ (IsC.new _ _ _) (by simp only; omega)
  · rw [List.flatMap_append]
    simp only [List.flatMap_cons, List.flatMap_nil, List.append_nil]
    have hbl := hb.lt
    have hx : ∀ z ∈ (Loc.mk w.heap.size bv).fp, z ∉ p :: mb :: qs.flatMap (·.2.fp) := fun z hz hz' => by
      rcases List.mem_cons.1 hz with e | e
      · have := hlt z hz'; simp only at e; omega
      · exact hbn z e hz'
    refine List.nodup_cons.2 ⟨fun hz => ?_, List.nodup_cons.2 ⟨fun hz => ?_, List.nodup_append.2 ⟨n4, List.nodup_cons.2 ⟨fun hz => by have := hbl _ hz; simp only at this; omega, blk_nodup' _⟩, fun a ha b hb' e => hx b hb' (e ▸ List.mem_cons_of_mem _ (List.mem_cons_of_mem _ ha))⟩⟩⟩
    · simp only [List.mem_cons, List.mem_append] at hz
      rcases hz with e | e | e
      · exact n1 (by simp [e])
      · exact n1 (by simp [e])
      · exact hx p e (by simp)
    · rcases List.mem_append.1 hz with e | e
      · exact n3 e
      · exact hx mb e (by simp)
  · rw [List.map_append]
    exact List.nodup_append.2 ⟨h.nums, by simp, fun a ha b hb' e => by
      simp at hb'; obtain ⟨q, hq, rfl⟩ := List.mem_map.1 ha; exact hno q hq (by rw [e, hb'])⟩
  · rcases List.mem_append.1 hq with e | e
    · exact h.pins q e
    · simp at e; subst e; exact hpin
theorem PoolAt.remove {A B : List (Fr × Loc)} {q : Fr × Loc} (h : PoolAt w p d g pm mb es clk (A ++ q :: B)) {es' : Array MapEntry} (he : Ent es' (mdel ((A ++ q :: B).map entP) (q.1.num : Int))) (hs : Stamp es' clk) :
    PoolAt (setBlock w mb (.map es' clk)) p d g (pm.del q.1.num) mb es' clk (A ++ B) ∧ Off [mb] w (setBlock w mb (.map es' clk)) := by
  have ob : Off [mb] w (setBlock w mb (.map es' clk)) := (Off.refl [mb] w).setBlock (.inl (by simp)) _
  obtain ⟨n1, n2⟩ := List.nodup_cons.1 h.nodup
  obtain ⟨n3, n4⟩ := List.nodup_cons.1 n2
  have hsub : (A ++ B).Sublist (A ++ q :: B) := List.Sublist.append (List.Sublist.refl A) (List.sublist_cons_self q B)
  have hnn := h.nums
  rw [List.map_append, List.map_cons] at hnn
  obtain ⟨_, m2, m3⟩ := List.nodup_append.1 hnn
  obtain ⟨m4, _⟩ := List.nodup_cons.1 m2
  have hA : ∀ x ∈ A, x.1.num ≠ q.1.num := fun x hx => m3 _ (List.mem_map.2 ⟨x, hx, rfl⟩) _ (by simp)
  have hB : ∀ x ∈ B, x.1.num ≠ q.1.num := fun x hx e => m4 (List.mem_map.2 ⟨x, hx, e⟩)
  refine ⟨⟨?_, h.head.off ob (by simp; exact fun e => n1 (by simp [e])), h.map.setSame, ?_, hs, fun x hx => ?_, h.nodup.sublist (List.Sublist.cons_cons _ (List.Sublist.cons_cons _ ?_)), h.nums.sublist (hsub.map _), h.most, fun x hx => h.pins x (hsub.subset hx)⟩, ob⟩
  · unfold PoolM.del
    simp only
    rw [← h.held, List.map_append, List.map_append, List.map_cons, List.filter_append, List.filter_cons]
    have e1 : (A.map (·.1)).filter (fun f => f.num != q.1.num) = A.map (·.1) := List.filter_eq_self.2 (fun f hf => by obtain ⟨x, hx, rfl⟩ := List.mem_map.1 hf; simpa using hA x hx)
    have e2 : (B.map (·.1)).filter (fun f => f.num != q.1.num) = B.map (·.1) := List.filter_eq_self.2 (fun f hf => by obtain ⟨x, hx, rfl⟩ := List.mem_map.1 hf; simpa using hB x hx)
    rw [e1, e2]; simp
  · rw [List.map_append, List.map_cons] at he
    have : entP q = ((q.1.num : Int), .pointer (some ⟨q.2.fb, 0, none⟩)) := rfl
    rw [this, mdel_mid _ (mget_ent_none hA)] at he
    rw [List.map_append]; exact he
  · exact (h.fr x (hsub.subset hx)).off ob (fun z hz hz' => by simp at hz'; subst hz'; exact n3 (List.mem_flatMap.2 ⟨x, hsub.subset hx, hz⟩))
  · rw [List.flatMap_append, List.flatMap_append, List.flatMap_cons]
    exact List.Sublist.append (List.Sublist.refl _) (List.sublist_append_right _ _)
end
/-- What Pin answers that gives a page's bytes. -/
def PinPost (d g p : Nat) (F : Fp3) (dm : DiskM) (lm : LogM) (pm : PoolM) (l : List UInt8) (w : World) (e : Ending) (w' : World) : Prop :=
  ∃ F1 ao cap, e = .returned (.tuple #[.slice ao l.length cap, .int .i64 0]) ∧ Whole w' d g p dm lm pm F1 ∧ Acc3 F w F1 w' ∧ IsB w' (.slice ao l.length cap) l ∧ ∀ z ∈ blk (.slice ao l.length cap), w.heap.size ≤ z ∧ z ∉ F1.d ++ F1.l ++ F1.p
set_option maxRecDepth 100000 in
set_option maxHeartbeats 4000000 in
theorem pin16_held {w : World} {d g p : Nat} {dm : DiskM} {lm : LogM} {pm : PoolM} {F : Fp3} (h : Whole w d g p dm lm pm F) (hdead : pm.dead = false) (n : Nat) (hn : n < dm.shp.pages) (f : Fr) (hf : pm.find n = some f) (hfl : f.b.length < 1000000) (hpn : f.pins < 4000000000000000000) (pick : Int) :
    Calls Tryz.prog 16 #[.pointer (some ⟨p, 0, none⟩), .int .i64 (n : Int), .int .i64 pick] w (PinPost d g p F dm lm (pm.set { f with pins := f.pins + 1 }) f.b w) := by
  obtain ⟨D, L, pf⟩ := F
  have hp := h.2.1
  obtain ⟨mb, es, clk, qs, hp, hpf⟩ := hp
  simp only at hpf
  subst hpf
  obtain ⟨_, _, _, k3, k4, kf⟩ := hp.cells
  rw [hdead] at k4
  have HT := Lib.hid (there59 hp h.1.1 (n : Int))
  rw [decide_eq_true (show (0 : Int) ≤ (n : Int) ∧ (n : Int) < (dm.shp.pages : Int) by omega)] at HT
  have hlk := fun W hW => run_lookup_map (P := Tryz.prog) (t := 125) (k := 3) (e := 129) (clk := clk) Tryz.underlying125 Tryz.underlying3 zero129 hp.ent mb (n : Int) false W hW
  rcases hp.look n with ⟨e1, _⟩ | ⟨A, q, B, rfl, hq, e1, e2⟩
  · rw [hf] at e1; cases e1
  rw [hf] at e1
  injection e1 with e1
  subst e1
  rw [e2] at hlk
  simp only [Bool.false_eq_true, if_false, Option.getD_some] at hlk
  obtain ⟨f1, f2⟩ := hp.fr q (by simp)
  have hnq : q.2.fb ∉ blk q.2.bv := by
    have hn := hp.nodup
    obtain ⟨_, m2⟩ := List.nodup_cons.1 hn
    obtain ⟨_, m4⟩ := List.nodup_cons.1 m2
    rw [List.flatMap_append, List.flatMap_cons] at m4
    exact (List.nodup_cons.1 (List.nodup_append.1 (List.nodup_append.1 m4).2.1).1).1
  obtain ⟨vo, vc, hbv⟩ := f2.val
  obtain ⟨P, hP⟩ : ∃ P, P = PinPost d g p ⟨D, L, p :: mb :: (A ++ q :: B).flatMap (·.2.fp)⟩ dm lm (pm.set { q.1 with pins := q.1.pins + 1 }) q.1.b w := ⟨_, rfl⟩
  rw [← hP]
  have HP := Lib.hid hP
  have HALL := Lib.hid (And.intro h (And.intro hp (And.intro f1 (And.intro f2 (And.intro hnq (And.intro hfl hpn))))))
  have HBV := Lib.hid hbv
  clear hP h f1 f2 hf hn hnq hbv hq e2 hpn
  have HLK := Lib.hid hlk
  clear hlk
  have HMP := Lib.hid hp.map
  clear hp
  generalize hfb : q.2.fb = fb at *
  have HFB := Lib.hid hfb
  clear hfb
  go_enter Tryz.func16, Tryz.ntmps16
  go_wp2_with fail
  refine HT.out.mono ?_
  rintro e w1 ⟨rfl, ho1⟩
  have k31 := ho1.cell k3 (by simp)
  have HO1 := Lib.hid ho1
  have hlk := HLK.out w1 (HMP.out.off ho1 (by simp))
  have hi1 := HALL.out.2.2.1.off ho1 (by simp)
  rw [HBV.out] at hi1
  have x0 := hi1.cell 0
  have x1 := hi1.cell 1
  have xf := fun o => hi1.unfrozen o
  simp only [frC, List.getElem?_toArray, List.getElem?_cons_zero, List.getElem?_cons_succ] at x0 x1
  have HEND : Hid (Calls Tryz.prog 60 #[.slice vo q.1.b.length vc] (w1.setCell ⟨fb, 1, none⟩ (.int .i64 ((q.1.pins : Int) + 1))) (FreshB (w1.setCell ⟨fb, 1, none⟩ (.int .i64 ((q.1.pins : Int) + 1))) q.1.b) ∧
      ∀ w2 ao cap, IsB w2 (.slice ao q.1.b.length cap) q.1.b → Off [] (w1.setCell ⟨fb, 1, none⟩ (.int .i64 ((q.1.pins : Int) + 1))) w2 → (∀ z ∈ blk (.slice ao q.1.b.length cap), (w1.setCell ⟨fb, 1, none⟩ (.int .i64 ((q.1.pins : Int) + 1))).heap.size ≤ z) → P (.returned (.tuple #[.slice ao q.1.b.length cap, .int .i64 0])) w2) := Lib.hid (by
    obtain ⟨hW, hPA, y1, y2, y3, y4, y5⟩ := HALL.out
    have hW1 := hW.off HO1.out (by simp)
    have hP1 := hPA.off HO1.out (by simp)
    have ho : Off q.2.fp w1 (w1.setCell ⟨fb, 1, none⟩ (.int .i64 ((q.1.pins : Int) + 1))) := (Off.refl _ w1).setCell (.inl (by rw [← HFB.out]; simp [Loc.fp])) _
    have hb2 : IsB (w1.setCell ⟨fb, 1, none⟩ (.int .i64 ((q.1.pins : Int) + 1))) q.2.bv q.1.b := (y2.off HO1.out (by simp)).off (S := [fb]) ((Off.refl _ w1).setCell (.inl (by simp)) _) (fun z hz' hz2 => y3 (by simp at hz2; rw [hz2] at hz'; exact hz'))
    have hi2 : IsC (w1.setCell ⟨fb, 1, none⟩ (.int .i64 ((q.1.pins : Int) + 1))) q.2.fb (frC { q.1 with pins := q.1.pins + 1 } q.2.bv) 131 := by
      rw [HFB.out, HBV.out]; exact hi1.set 1 _
    refine ⟨by rw [← HBV.out]; exact clone60 _ _ _ hb2 (by omega), fun w2 ao cap z1 z2 z3 => ?_⟩
    obtain ⟨Q, u1, u2⟩ := hW1.poolAt (hP1.turn (f := { q.1 with pins := q.1.pins + 1 }) (bv := q.2.bv) rfl (by simp only; omega) ho hi2 hb2 (.inl rfl)).2
    rw [HP.out]
    refine ⟨⟨D, L, Q⟩, ao, cap, rfl, u1.off z2 (by simp), ((Acc3.quiet HO1.out : Acc3 ⟨D, L, p :: mb :: (A ++ q :: B).flatMap (·.2.fp)⟩ w ⟨D, L, p :: mb :: (A ++ q :: B).flatMap (·.2.fp)⟩ w1).trans u2).trans (Acc3.quiet z2), z1, fun z hz => ⟨?_, fun hz' => ?_⟩⟩
    · have a := z3 z hz; have b := HO1.out.size; simp only [World.size_setCell] at a; omega
    · have a := u1.lt z hz'; have b := z3 z hz; omega)
  have hpb : (q.1.pins : Int) < 4000000000000000000 := by have := HALL.out.2.2.2.2.2.2; omega
  have hpb0 : (0 : Int) ≤ (q.1.pins : Int) := by omega
  clear HALL hi1 HP HBV HLK HMP hfl
  generalize q.1.b = qb at *
  generalize (q.1.pins : Int) = qp at *
  have HC := Lib.hid HEND.out.1
  have HE := Lib.hid HEND.out.2
  clear HEND ho1 HT
  go_wp2_with fail
  refine HC.out.mono ?_
  rintro e w2 ⟨ao, cap, rfl, z1, z2, z3⟩
  have HF := Lib.hid (HE.out w2 ao cap z1 z2 z3)
  clear z1 z2 z3 HC HE
  go_wp2_with fail
  first | exact HF.out | (go_ret2; exact HF.out)
end Go.Proofs.YtfdgiblkllfpjaaGreatDoor

/- pool: Pin of a page that comes in while there is room. -/
set_option linter.unusedVariables false
set_option linter.unusedSimpArgs false
namespace Go.Proofs.YtfdgiblkllfpjaaGreatDoor
open Go.ChangeShapes Go.WideShapes Go.ChangeAt Go.RowKit
open Go.ChangeMaps (setBlock)

theorem PoolAt.len {w : World} {p d g : Nat} {pm : PoolM} {mb : Nat} {es : Array MapEntry} {clk : Nat} {qs : List (Fr × Loc)} (h : PoolAt w p d g pm mb es clk qs) : qs.length = pm.held.length := by rw [← h.held]; simp
/-- The page's bytes have come: the frame is laid, and the bytes are answered. -/
theorem pin_last {w w5 : World} {d g p : Nat} {dm : DiskM} {lm : LogM} {pm : PoolM} {D L : List Nat} {mb : Nat} {es : Array MapEntry} {clk : Nat} {qs : List (Fr × Loc)} {F0 : Fp3} {pf : List Nat}
    (hW : Whole w5 d g p dm lm pm ⟨D, L, p :: mb :: qs.flatMap (·.2.fp)⟩) (hA : Acc3 F0 w ⟨D, L, pf⟩ w5) (hsub : ∀ z ∈ p :: mb :: qs.flatMap (·.2.fp), z ∈ pf) (hP : PoolAt w5 p d g pm mb es clk qs) {n : Nat} {l : List UInt8} {bv : Value} {es' : Array MapEntry} {clk' : Nat} (hno : ∀ q ∈ qs, q.1.num ≠ n)
    (he : Ent es' (mput (qs.map entP) (n : Int) (.pointer (some ⟨w5.heap.size, 0, none⟩)))) (hs : Stamp es' clk') (hb : IsB w5 bv l) (hbn : ∀ z ∈ blk bv, w.heap.size ≤ z ∧ z ∉ D ∧ z ∉ L ∧ z ∉ p :: mb :: qs.flatMap (·.2.fp)) (hll : l.length < 1000000) :
    Calls Tryz.prog 60 #[bv] (setBlock (w5.alloc (.cells (frC ⟨n, l, 1, 0⟩ bv) 131)) mb (.map es' clk')) (FreshB (setBlock (w5.alloc (.cells (frC ⟨n, l, 1, 0⟩ bv) 131)) mb (.map es' clk')) l) ∧
      ∀ w6 ao cap, IsB w6 (.slice ao l.length cap) l → Off [] (setBlock (w5.alloc (.cells (frC ⟨n, l, 1, 0⟩ bv) 131)) mb (.map es' clk')) w6 → (∀ z ∈ blk (.slice ao l.length cap), (setBlock (w5.alloc (.cells (frC ⟨n, l, 1, 0⟩ bv) 131)) mb (.map es' clk')).heap.size ≤ z) → PinPost d g p F0 dm lm (pm.add ⟨n, l, 1, 0⟩) l w (.returned (.tuple #[.slice ao l.length cap, .int .i64 0])) w6 := by
  obtain ⟨h1, h2⟩ := hP.insert (f := ⟨n, l, 1, 0⟩) (bv := bv) hno he hs hb (fun z hz => (hbn z hz).2.2.2) (by show 1 < _; decide)
  have hlt := hW.lt
  have hbm : mb ∉ blk bv := fun hz => (hbn mb hz).2.2.2 (by simp)
  have hwz : w.heap.size ≤ w5.heap.size := hA.1.size
  refine ⟨clone60 _ _ _ (hb.off h2 (fun z hz hz' => by simp at hz'; subst hz'; exact hbm hz)) (by omega), fun w6 ao cap z1 z2 z3 => ?_⟩
  have hsz := h2.size
  have hm := hP.lt mb (by simp)
  have hdl : ∀ z ∈ D ++ L, z ∉ [mb] := fun z hz hz' => by
    simp at hz'; subst hz'
    have := hW.2.2 z (by simp)
    rcases List.mem_append.1 hz with e | e
    · exact this.1 e
    · exact this.2 e
  have hnew : ∀ z ∈ (qs ++ [((⟨n, l, 1, 0⟩ : Fr), (⟨w5.heap.size, bv⟩ : Loc))]).flatMap (·.2.fp), z ∈ qs.flatMap (·.2.fp) ∨ (w.heap.size ≤ z ∧ z ∉ D ∧ z ∉ L) := by
    intro z hz
    rw [List.flatMap_append] at hz
    rcases List.mem_append.1 hz with e | e
    · exact .inl e
    · simp only [List.flatMap_cons, List.flatMap_nil, List.append_nil, Loc.fp, List.mem_cons] at e
      rcases e with e | e
      · refine .inr ⟨by omega, fun hz' => ?_, fun hz' => ?_⟩
        · have := hlt z (by simp [hz']); omega
        · have := hlt z (by simp [hz']); omega
      · exact .inr ⟨(hbn z e).1, (hbn z e).2.1, (hbn z e).2.2.1⟩
  have hW2 : Whole (setBlock (w5.alloc (.cells (frC ⟨n, l, 1, 0⟩ bv) 131)) mb (.map es' clk')) d g p dm lm (pm.add ⟨n, l, 1, 0⟩) ⟨D, L, p :: mb :: (qs ++ [((⟨n, l, 1, 0⟩ : Fr), (⟨w5.heap.size, bv⟩ : Loc))]).flatMap (·.2.fp)⟩ := by
    refine ⟨hW.1.off h2 (fun z hz => hdl z (by simp [hz])) (fun z hz => hdl z (by simp [hz])), ⟨mb, es', clk', _, h1, rfl⟩, fun z hz => ?_⟩
    simp only [List.mem_cons] at hz
    rcases hz with rfl | rfl | hz
    · exact hW.2.2 z (by simp)
    · exact hW.2.2 z (by simp)
    · rcases hnew z hz with e | e
      · exact hW.2.2 z (by simp only [List.mem_cons]; exact .inr (.inr e))
      · exact ⟨e.2.1, e.2.2⟩
  have hW3 := hW2.off z2 (by simp)
  refine ⟨_, ao, cap, rfl, hW3, ?_, z1, fun z hz => ⟨?_, fun hz' => ?_⟩⟩
  · obtain ⟨a1, a2, a3, a4⟩ := hA
    have hmpf : mb ∈ pf := hsub mb (by simp)
    refine ⟨(a1.trans h2 (fun z hz => ?_)).trans z2 (by simp), a2, a3, fun z hz => ?_⟩
    · simp at hz; subst hz
      rcases a4 z hmpf with e | e
      · exact .inl (by simp [e])
      · exact .inr e
    · simp only [List.mem_cons] at hz
      rcases hz with e | e | e
      · exact a4 z (hsub z (by simp [e]))
      · exact a4 z (hsub z (by simp [e]))
      · rcases hnew z e with e | e
        · exact a4 z (hsub z (by simp only [List.mem_cons]; exact .inr (.inr e)))
        · exact .inr e.1
  · have := z3 z hz; omega
  · have := z3 z hz
    have := hW2.lt z hz'
    omega
theorem Whole.keep {w w1 : World} {d g p : Nat} {dm dm1 : DiskM} {lm : LogM} {pm : PoolM} {F : Fp3} (h : Whole w d g p dm lm pm F) (k : DiskKeep d F.d dm1 w w1) : Whole w1 d g p dm1 lm pm F ∧ Acc3 F w F w1 :=
  ⟨⟨⟨k.1, h.1.2.1.off k.2 (fun z hz hz' => h.1.2.2 z hz' hz), h.1.2.2⟩, h.2.1.off k.2 (fun z hz hz' => (h.2.2 z hz).1 hz'), h.2.2⟩, k.2.mono (fun z hz => .inl (by simp [hz])), fun z hz => .inl hz, fun z hz => .inl hz, fun z hz => .inl hz⟩
/-- What Pin answers where the disk is found dead. -/
def DeadPost (d g p : Nat) (F : Fp3) (dm : DiskM) (lm : LogM) (pm : PoolM) (w : World) (e : Ending) (w' : World) : Prop := e = .returned (.tuple #[.slice none 0 0, .int .i64 1]) ∧ WholeStep d g p F dm lm pm w w'
set_option maxRecDepth 100000 in
set_option maxHeartbeats 8000000 in
theorem pin16_room {t : Nat → Nat} {w : World} {d g p : Nat} {dm : DiskM} {lm : LogM} {pm : PoolM} {F : Fp3} (ht : Tbl t w) (h : Whole w d g p dm lm pm F) (h0 : 0 ∉ F.d) (hdead : pm.dead = false) (ha : dm.acts < 4611686018427387904) (hfit : dm.fit) (n : Nat) (hn : n < dm.shp.pages) (hf : pm.find n = none) (hroom : pm.held.length < pm.most)
    (l : List UInt8) (hl : dm.reads[n]? = some l) (x : Nat) (hck : pageCheck t l (n : Int) (dm.shp.slots : Nat) = some x) (hst : dm.stops = false) (pick : Int) :
    Calls Tryz.prog 16 #[.pointer (some ⟨p, 0, none⟩), .int .i64 (n : Int), .int .i64 pick] w (PinPost d g p F dm.act lm (pm.add ⟨n, l, 1, 0⟩) l w) := by
  obtain ⟨D, L, pf⟩ := F
  have hp := h.2.1
  obtain ⟨mb, es, clk, qs, hp, hpf⟩ := hp
  simp only at hpf
  subst hpf
  obtain ⟨c0, _, k2, k3, k4, kf⟩ := hp.cells
  rw [hdead] at k4
  have hql := hp.len
  have hm16 := hp.most
  have hsh := h.1.1.ok.1
  have hll : l.length ≤ 152 := by
    obtain ⟨l', e1, e2⟩ := hfit.2.1 n (by omega)
    rw [hl] at e1; injection e1 with e1; subst e1
    rw [e2]; unfold Shp.sizeB Shp.pageB; rw [if_pos hn]; have := hsh.2.2.2.1; omega
  have HT := Lib.hid (there59 hp h.1.1 (n : Int))
  rw [decide_eq_true (show (0 : Int) ≤ (n : Int) ∧ (n : Int) < (dm.shp.pages : Int) by omega)] at HT
  have HG : Hid (∀ W, Off [] w W → Calls Tryz.prog 61 #[.pointer (some ⟨p, 0, none⟩), .func (.func 62) #[] #[]] W (FreshI W (pm.pick idle))) := Lib.hid (fun W ho => gathered61 (hp.off ho (by simp)) (by omega) 62 ent62 idle (fun W' q _ hq => idle62 W' q hq))
  rcases hp.look n with ⟨e1, hno, e2⟩ | ⟨A, q, B, rfl, hq, e1, e2⟩
  rotate_left
  · rw [hf] at e1; cases e1
  have hlk := fun W hW => run_lookup_map (P := Tryz.prog) (t := 125) (k := 3) (e := 129) (clk := clk) Tryz.underlying125 Tryz.underlying3 zero129 hp.ent mb (n : Int) false W hW
  rw [e2] at hlk
  simp only [Bool.false_eq_true, if_false, Option.getD_none] at hlk
  have HLK := Lib.hid hlk
  have HLN : Hid (∀ W ty, IsM W mb es clk → (Builtin.len_ #[125] ty #[.map (some mb)]).run Tryz.prog W = .ok (.int .i64 (pm.held.length : Nat)) W) := Lib.hid (fun W ty hW => by
    have q := run_len_map (P := Tryz.prog) (k := 3) (e := 129) (clk := clk) Tryz.underlying125 hp.ent mb ty W hW
    rw [List.length_map, hql] at q; exact q)
  obtain ⟨fu, hfu1, hfu2⟩ := run_update_sta (P := Tryz.prog) (t := 125) (k := 3) (e := 129) (clk := clk) Tryz.underlying125 Tryz.underlying3 hp.ent hp.stamp mb (n : Int)
  have HFU := Lib.hid (And.intro hfu1 hfu2)
  have HRD : Hid (∀ W, Off [] w W → Calls Tryz.prog 24 #[.pointer (some ⟨d, 0, none⟩), .int .i64 (n : Int)] W (ReadPost d D dm l W)) := Lib.hid (fun W ho => readPage24 (h.1.1.off ho (by simp)) ha n hn l hl (by omega))
  obtain ⟨P, hP⟩ : ∃ P, P = PinPost d g p ⟨D, L, p :: mb :: qs.flatMap (·.2.fp)⟩ dm.act lm (pm.add ⟨n, l, 1, 0⟩) l w := ⟨_, rfl⟩
  rw [← hP]
  have HP := Lib.hid hP
  have HALL := Lib.hid (And.intro h (And.intro hp (And.intro ht (And.intro h0 (And.intro hno (And.intro hck (And.intro hll hst)))))))
  have hfull : ((pm.held.length : Int) == (pm.most : Int)) = false := by rw [beq_eq_false_iff_ne]; omega
  clear hP h hp ht h0 hf hn hroom hno hlk hfu1 hfu2 hck hfit ha hsh hql hm16 e1 e2 hl
  generalize hhl : pm.held.length = hln at *
  generalize hmo : pm.most = mo at *
  clear hhl hmo
  go_enter Tryz.func16, Tryz.ntmps16
  go_wp2_with fail
  refine HT.out.mono ?_
  rintro e w1 ⟨rfl, ho1⟩
  have HO1 := Lib.hid ho1
  have k31 := ho1.cell k3 (by simp)
  have hm1 := HALL.out.2.1.map.off ho1 (by simp)
  have hlk1 := HLK.out w1 hm1
  clear ho1 hm1 HT
  go_wp2_with fail
  refine (HG.out w1 HO1.out).mono ?_
  rintro e w2 ⟨io, ic, rfl, hI2, ho2, hfi⟩
  have HO2 := Lib.hid (HO1.out.trans ho2 (by simp))
  have k22 := HO2.out.cell k2 (by simp)
  have k32 := HO2.out.cell k3 (by simp)
  have k02 := HO2.out.cell c0 (by simp)
  have hln2 : ∀ ty j, (Builtin.len_ #[125] ty #[.map (some mb)]).run Tryz.prog (w2.drewN j) = .ok (.int .i64 (hln : Nat)) (w2.drewN j) := fun ty j => HLN.out _ ty ((HALL.out.2.1.map.off HO2.out (by simp)).off ((Off.refl [] w2).drewN j) (by simp))
  have hln3 : ∀ ty, (Builtin.len_ #[125] ty #[.map (some mb)]).run Tryz.prog w2 = .ok (.int .i64 (hln : Nat)) w2 := fun ty => HLN.out _ ty (HALL.out.2.1.map.off HO2.out (by simp))
  clear hI2 ho2 hfi HG hlk1 k31
  generalize (pm.pick idle).length = il at *
  go_wp2_with fail
  go_quiet (fail)
  clear hln2 hln3
  go_wp2_with fail
  refine (HRD.out _ (HO2.out.drewN _)).mono ?_
  rintro e w3 ⟨hk3, ⟨hs3, _⟩ | ⟨_, ao, cap, rfl, hb3, hf3⟩⟩
  · rw [HALL.out.2.2.2.2.2.2.2] at hs3; cases hs3
  have hw2 := (HALL.out.1.off (HO2.out.drewN nq) (by simp))
  obtain ⟨hw3, ha3⟩ := hw2.keep hk3
  have hp3 : PoolAt w3 p d g pm mb es clk qs := (HALL.out.2.1.off (HO2.out.drewN nq) (by simp)).off hk3.2 (fun z hz hz' => (hw2.2.2 z hz).1 hz')
  have HW3 := Lib.hid (And.intro hw3 (And.intro ((Acc3.quiet (HO2.out.drewN nq) : Acc3 ⟨D, L, p :: mb :: qs.flatMap (·.2.fp)⟩ w ⟨D, L, p :: mb :: qs.flatMap (·.2.fp)⟩ (w2.drewN nq)).trans ha3) hp3))
  have HT3 : Hid (Tbl t w3) := Lib.hid ((HALL.out.2.2.1.off (HO2.out.drewN nq) (by simp)).off hk3.2 HALL.out.2.2.2.1)
  have HB3 := Lib.hid (And.intro hb3 (fun z hz => Nat.le_trans (HO2.out.drewN nq).size (hf3 z hz)))
  obtain ⟨c03, _, _, k33, _, _⟩ := hp3.cells
  have HS3 := Lib.hid (shape51 hw3.1.1)
  rw [(act_shp dm).1] at HS3
  have hf1 := field28_1
  clear hk3 hb3 hf3 hw2 hw3 ha3 hp3 HRD k22 k32 k02
  go_wp2_with fail
  refine HS3.out.mono ?_
  rintro e w4 ⟨rfl, ho4⟩
  have HO4 := Lib.hid ho4
  have HC4 := Lib.hid (check64 _ l (n : Int) (dm.shp.slots : Nat) w4 (HT3.out.off ho4 (by simp)) (HB3.out.1.off ho4 (by simp)) (by have := HALL.out.2.2.2.2.2.2.1; omega))
  rw [HALL.out.2.2.2.2.2.1] at HC4
  unfold CheckPost at HC4
  rw [show (some x).getD 0 = x from rfl, show errOf (some x) 40 = 0 from rfl] at HC4
  clear ho4 HS3
  go_wp2_with fail
  refine HC4.out.mono ?_
  rintro e w5 ⟨rfl, ho5⟩
  have HO5 := Lib.hid (HO4.out.trans ho5 (by simp))
  have k35 := HO5.out.cell k33 (by simp)
  have hmu := HFU.out.2 (.pointer (some ⟨w5.heap.size, 0, none⟩)) (w5.alloc (.cells (frC ⟨n, l, 1, 0⟩ (.slice ao l.length cap)) 131)) (IsM.alloc _ (HW3.out.2.2.map.off HO5.out (by simp)))
  have HEND := Lib.hid (pin_last (w := w) (F0 := ⟨D, L, p :: mb :: qs.flatMap (·.2.fp)⟩) (HW3.out.1.off HO5.out (by simp)) (HW3.out.2.1.trans (Acc3.quiet HO5.out)) (fun z hz => hz) (HW3.out.2.2.off HO5.out (by simp)) (n := n) (l := l) (bv := .slice ao l.length cap) HALL.out.2.2.2.2.1 (HFU.out.1 _).1 (HFU.out.1 _).2 (HB3.out.1.off HO5.out (by simp)) (fun z hz => by
    have a := HB3.out.2 z hz
    have b := HALL.out.1.lt
    exact ⟨a, fun hz' => by have := b z (by simp [hz']); omega, fun hz' => by have := b z (by simp [hz']); omega, fun hz' => by have := b z (by simp only [List.mem_append]; exact .inr hz'); omega⟩) (by have := HALL.out.2.2.2.2.2.2.1; omega))
  rw [← HP.out] at HEND
  have eC : frC ⟨n, l, 1, 0⟩ (.slice ao l.length cap) = #[.slice ao l.length cap, .int .i64 1, .int .i64 0] := rfl
  rw [eC] at hmu HEND
  clear eC
  clear ho5 HC4 HFU HW3 HB3 HT3 HALL HP
  have HC := Lib.hid HEND.out.1
  have HE := Lib.hid HEND.out.2
  clear HEND
  go_wp2_with fail
  refine HC.out.mono ?_
  rintro e w6 ⟨bo, bc, rfl, z1, z2, z3⟩
  have HF := Lib.hid (HE.out w6 bo bc z1 z2 z3)
  clear z1 z2 z3 HC HE
  go_wp2_with fail
  first | exact HF.out | (go_ret2; exact HF.out)
end Go.Proofs.YtfdgiblkllfpjaaGreatDoor

/- pool: Pin where every frame is pinned: nothing comes in, and nothing is done. -/
set_option linter.unusedVariables false
set_option linter.unusedSimpArgs false
namespace Go.Proofs.YtfdgiblkllfpjaaGreatDoor
open Go.ChangeShapes Go.WideShapes Go.ChangeAt Go.RowKit

set_option maxRecDepth 100000 in
set_option maxHeartbeats 8000000 in
theorem pin16_none {w : World} {d g p : Nat} {dm : DiskM} {lm : LogM} {pm : PoolM} {F : Fp3} (h : Whole w d g p dm lm pm F) (hdead : pm.dead = false) (n : Nat) (hn : n < dm.shp.pages) (hf : pm.find n = none) (hful : pm.held.length = pm.most) (hidle : pm.pick idle = []) (pick : Int) :
    Calls Tryz.prog 16 #[.pointer (some ⟨p, 0, none⟩), .int .i64 (n : Int), .int .i64 pick] w (fun e w' => e = .returned (.tuple #[.slice none 0 0, .int .i64 141]) ∧ Off [] w w') := by
  obtain ⟨D, L, pf⟩ := F
  have hp := h.2.1
  obtain ⟨mb, es, clk, qs, hp, hpf⟩ := hp
  simp only at hpf
  subst hpf
  obtain ⟨c0, _, k2, k3, k4, kf⟩ := hp.cells
  rw [hdead] at k4
  have hql := hp.len
  have hm16 := hp.most
  have HT := Lib.hid (there59 hp h.1.1 (n : Int))
  rw [decide_eq_true (show (0 : Int) ≤ (n : Int) ∧ (n : Int) < (dm.shp.pages : Int) by omega)] at HT
  have HG : Hid (∀ W, Off [] w W → Calls Tryz.prog 61 #[.pointer (some ⟨p, 0, none⟩), .func (.func 62) #[] #[]] W (FreshI W (pm.pick idle))) := Lib.hid (fun W ho => gathered61 (hp.off ho (by simp)) (by omega) 62 ent62 idle (fun W' q _ hq => idle62 W' q hq))
  rw [hidle] at HG
  rcases hp.look n with ⟨e1, hno, e2⟩ | ⟨A, q, B, rfl, hq, e1, e2⟩
  rotate_left
  · rw [hf] at e1; cases e1
  have hlk := fun W hW => run_lookup_map (P := Tryz.prog) (t := 125) (k := 3) (e := 129) (clk := clk) Tryz.underlying125 Tryz.underlying3 zero129 hp.ent mb (n : Int) false W hW
  rw [e2] at hlk
  simp only [Bool.false_eq_true, if_false, Option.getD_none] at hlk
  have HLK := Lib.hid hlk
  have HLN : Hid (∀ W ty, IsM W mb es clk → (Builtin.len_ #[125] ty #[.map (some mb)]).run Tryz.prog W = .ok (.int .i64 (pm.held.length : Nat)) W) := Lib.hid (fun W ty hW => by
    have q := run_len_map (P := Tryz.prog) (k := 3) (e := 129) (clk := clk) Tryz.underlying125 hp.ent mb ty W hW
    rw [List.length_map, hql] at q; exact q)
  obtain ⟨P, hP⟩ : ∃ P : Ending → World → Prop, P = (fun e w' => e = .returned (.tuple #[.slice none 0 0, .int .i64 141]) ∧ Off [] w w') := ⟨_, rfl⟩
  rw [← hP]
  have HP := Lib.hid hP
  have HM := Lib.hid hp.map
  have hfull : ((pm.held.length : Int) == (pm.most : Int)) = true := by rw [beq_iff_eq]; omega
  clear hP h hp hf hn hno hlk hql hm16 e1 e2 hful hidle
  generalize hhl : pm.held.length = hln at *
  generalize hmo : pm.most = mo at *
  clear hhl hmo
  go_enter Tryz.func16, Tryz.ntmps16
  go_wp2_with fail
  refine HT.out.mono ?_
  rintro e w1 ⟨rfl, ho1⟩
  have HO1 := Lib.hid ho1
  have k31 := ho1.cell k3 (by simp)
  have hm1 := HM.out.off ho1 (by simp)
  have hlk1 := HLK.out w1 hm1
  clear ho1 hm1 HT
  go_wp2_with fail
  refine (HG.out w1 HO1.out).mono ?_
  rintro e w2 ⟨io, ic, rfl, hI2, ho2, hfi⟩
  have HO2 := Lib.hid (HO1.out.trans ho2 (by simp))
  have k22 := HO2.out.cell k2 (by simp)
  have k32 := HO2.out.cell k3 (by simp)
  have hln2 : ∀ ty j, (Builtin.len_ #[125] ty #[.map (some mb)]).run Tryz.prog (w2.drewN j) = .ok (.int .i64 (hln : Nat)) (w2.drewN j) := fun ty j => HLN.out _ ty ((HM.out.off HO2.out (by simp)).off ((Off.refl [] w2).drewN j) (by simp))
  have hln3 : ∀ ty, (Builtin.len_ #[125] ty #[.map (some mb)]).run Tryz.prog w2 = .ok (.int .i64 (hln : Nat)) w2 := fun ty => HLN.out _ ty (HM.out.off HO2.out (by simp))
  clear hI2 ho2 hfi HG hlk1 k31
  rw [List.length_nil]
  go_wp2_with fail
  go_quiet (fail)
  clear hln2 hln3
  have HOF := Lib.hid (HO2.out.drewN nq)
  go_wp2_with fail
  have HF : Hid (P (.returned (.tuple #[.slice none 0 0, .int .i64 141])) (w2.drewN nq)) := Lib.hid (by rw [HP.out]; exact ⟨rfl, HOF.out⟩)
  first | exact HF.out | (go_ret2; exact HF.out)
end Go.Proofs.YtfdgiblkllfpjaaGreatDoor

/- pool: Pin of a page that comes in where all frames are held and an idle clean one gives way. -/
set_option linter.unusedVariables false
set_option linter.unusedSimpArgs false
namespace Go.Proofs.YtfdgiblkllfpjaaGreatDoor
open Go.ChangeShapes Go.WideShapes Go.ChangeAt Go.RowKit
open Go.ChangeMaps (setBlock)

set_option maxRecDepth 100000 in
set_option maxHeartbeats 8000000 in
theorem pin16_evict {t : Nat → Nat} {w : World} {d g p : Nat} {dm : DiskM} {lm : LogM} {pm : PoolM} {F : Fp3} (ht : Tbl t w) (h : Whole w d g p dm lm pm F) (h0 : 0 ∉ F.d) (hdead : pm.dead = false) (ha : dm.acts < 4611686018427387904) (hfit : dm.fit) (n : Nat) (hn : n < dm.shp.pages) (pick : Int) (hf : pm.find n = none) (hful : pm.held.length = pm.most) (hsm : pm.most ≤ 16) {v j : Nat} {fv : Fr} (hj : (pick.tmod ((pm.pick idle).length : Nat) + ((pm.pick idle).length : Nat)).tmod ((pm.pick idle).length : Nat) = (j : Int)) (hidx : (pm.pick idle)[j]? = some (v : Int)) (hfv : pm.find v = some fv) (hrc : fv.rc = 0)
    (l : List UInt8) (hl : dm.reads[n]? = some l) (x : Nat) (hck : pageCheck t l (n : Int) (dm.shp.slots : Nat) = some x) (hst : dm.stops = false) :
    Calls Tryz.prog 16 #[.pointer (some ⟨p, 0, none⟩), .int .i64 (n : Int), .int .i64 pick] w (PinPost d g p F dm.act lm ((pm.del v).add ⟨n, l, 1, 0⟩) l w) := by
  obtain ⟨D, L, pf⟩ := F
  have hp := h.2.1
  obtain ⟨mb, es, clk, qs, hp, hpf⟩ := hp
  simp only at hpf
  subst hpf
  obtain ⟨c0, _, k2, k3, k4, kf⟩ := hp.cells
  rw [hdead] at k4
  have hql := hp.len
  have hm16 := hp.most
  have hsh := h.1.1.ok.1
  have hll : l.length ≤ 152 := by
    obtain ⟨l', e1, e2⟩ := hfit.2.1 n (by omega)
    rw [hl] at e1; injection e1 with e1; subst e1
    rw [e2]; unfold Shp.sizeB Shp.pageB; rw [if_pos hn]; have := hsh.2.2.2.1; omega
  have HT := Lib.hid (there59 hp h.1.1 (n : Int))
  rw [decide_eq_true (show (0 : Int) ≤ (n : Int) ∧ (n : Int) < (dm.shp.pages : Int) by omega)] at HT
  have HG : Hid (∀ W, Off [] w W → Calls Tryz.prog 61 #[.pointer (some ⟨p, 0, none⟩), .func (.func 62) #[] #[]] W (FreshI W (pm.pick idle))) := Lib.hid (fun W ho => gathered61 (hp.off ho (by simp)) (by omega) 62 ent62 idle (fun W' q _ hq => idle62 W' q hq))
  rcases hp.look n with ⟨e1, hno, e2⟩ | ⟨A, q, B, rfl, hq, e1, e2⟩
  rotate_left
  · rw [hf] at e1; cases e1
  have hlk := fun W hW => run_lookup_map (P := Tryz.prog) (t := 125) (k := 3) (e := 129) (clk := clk) Tryz.underlying125 Tryz.underlying3 zero129 hp.ent mb (n : Int) false W hW
  rw [e2] at hlk
  simp only [Bool.false_eq_true, if_false, Option.getD_none] at hlk
  obtain ⟨A, q, B, hqs, hqn, hq1, hq2⟩ : ∃ A q B, qs = A ++ q :: B ∧ q.1.num = v ∧ q.1.rc = 0 ∧ mget (qs.map entP) (v : Int) = some (.pointer (some ⟨q.2.fb, 0, none⟩)) := by
    rcases hp.look v with ⟨e1', _, _⟩ | ⟨A, q, B, hqs, hqn, e1', e2'⟩
    · rw [hfv] at e1'; cases e1'
    · rw [hfv] at e1'; injection e1' with e1'
      exact ⟨A, q, B, hqs, hqn, by rw [← e1']; exact hrc, e2'⟩
  have hlv := fun W hW => run_lookup_map (P := Tryz.prog) (t := 125) (k := 3) (e := 129) (clk := clk) Tryz.underlying125 Tryz.underlying3 zero129 hp.ent mb (v : Int) false W hW
  rw [hq2] at hlv
  simp only [Bool.false_eq_true, if_false, Option.getD_some] at hlv
  have HLV := Lib.hid hlv
  obtain ⟨es', hde, hds, hdel⟩ := run_delete_st (P := Tryz.prog) (t := 125) (k := 3) (e := 129) (clk := clk) Tryz.underlying125 Tryz.underlying3 hp.ent hp.stamp mb (v : Int)
  have HDEL := Lib.hid (And.intro hde (And.intro hds hdel))
  have HQ := Lib.hid (And.intro hqs (And.intro hqn hq1))
  clear hlv hde hds hdel hqs hqn hq1 hq2
  have HLK := Lib.hid hlk
  have HLN : Hid (∀ W ty, IsM W mb es clk → (Builtin.len_ #[125] ty #[.map (some mb)]).run Tryz.prog W = .ok (.int .i64 (pm.held.length : Nat)) W) := Lib.hid (fun W ty hW => by
    have q := run_len_map (P := Tryz.prog) (k := 3) (e := 129) (clk := clk) Tryz.underlying125 hp.ent mb ty W hW
    rw [List.length_map, hql] at q; exact q)
  obtain ⟨fu, hfu1, hfu2⟩ := run_update_sta (P := Tryz.prog) (t := 125) (k := 3) (e := 129) (clk := clk) Tryz.underlying125 Tryz.underlying3 hp.ent hp.stamp mb (n : Int)
  have HFU := Lib.hid (And.intro hfu1 hfu2)
  have HRD : Hid (∀ W, Off [] w W → Calls Tryz.prog 24 #[.pointer (some ⟨d, 0, none⟩), .int .i64 (n : Int)] W (ReadPost d D dm l W)) := Lib.hid (fun W ho => readPage24 (h.1.1.off ho (by simp)) ha n hn l hl (by omega))
  obtain ⟨P, hP⟩ : ∃ P, P = PinPost d g p ⟨D, L, p :: mb :: qs.flatMap (·.2.fp)⟩ dm.act lm ((pm.del v).add ⟨n, l, 1, 0⟩) l w := ⟨_, rfl⟩
  rw [← hP]
  have HP := Lib.hid hP
  have HALL := Lib.hid (And.intro h (And.intro hp (And.intro ht (And.intro h0 (And.intro hno (And.intro hck (And.intro hll hst)))))))
  have hfull : ((pm.held.length : Int) == (pm.most : Int)) = true := by rw [beq_iff_eq]; omega
  have hil : 0 < (pm.pick idle).length := by have := (List.getElem?_eq_some_iff.1 hidx).1; omega
  have HIDX := Lib.hid hidx
  have hjl : j < (pm.pick idle).length := (List.getElem?_eq_some_iff.1 hidx).1
  have hil16 : (pm.pick idle).length ≤ 16 := by
    have q : (pm.pick idle).length ≤ pm.held.length := by unfold PoolM.pick; rw [srtI_len]; unfold numsI; rw [List.length_map]; exact List.length_filter_le _ _
    omega
  have hwr : wrap64 (pick.tmod ((pm.pick idle).length : Nat) + ((pm.pick idle).length : Nat)) = pick.tmod ((pm.pick idle).length : Nat) + ((pm.pick idle).length : Nat) := by
    have a := Int.tmod_lt_of_pos pick (show (0 : Int) < ((pm.pick idle).length : Nat) by omega)
    have b := Int.lt_tmod_of_pos pick (show (0 : Int) < ((pm.pick idle).length : Nat) by omega)
    exact wadd (by omega) (by unfold imax; omega)
  clear hP h hp ht h0 hf hn hful hidx hno hlk hfu1 hfu2 hck hfit ha hsh hql hm16 e1 e2 hl
  generalize hhl : pm.held.length = hln at *
  generalize hmo : pm.most = mo at *
  clear hhl hmo
  go_enter Tryz.func16, Tryz.ntmps16
  go_wp2_with fail
  refine HT.out.mono ?_
  rintro e w1 ⟨rfl, ho1⟩
  have HO1 := Lib.hid ho1
  have k31 := ho1.cell k3 (by simp)
  have hm1 := HALL.out.2.1.map.off ho1 (by simp)
  have hlk1 := HLK.out w1 hm1
  clear ho1 hm1 HT
  go_wp2_with fail
  refine (HG.out w1 HO1.out).mono ?_
  rintro e w2 ⟨io, ic, rfl, hI2, ho2, hfi⟩
  have HO2 := Lib.hid (HO1.out.trans ho2 (by simp))
  have k22 := HO2.out.cell k2 (by simp)
  have k32 := HO2.out.cell k3 (by simp)
  have k02 := HO2.out.cell c0 (by simp)
  have hln2 : ∀ ty j, (Builtin.len_ #[125] ty #[.map (some mb)]).run Tryz.prog (w2.drewN j) = .ok (.int .i64 (hln : Nat)) (w2.drewN j) := fun ty j => HLN.out _ ty ((HALL.out.2.1.map.off HO2.out (by simp)).off ((Off.refl [] w2).drewN j) (by simp))
  have hln3 : ∀ ty, (Builtin.len_ #[125] ty #[.map (some mb)]).run Tryz.prog w2 = .ok (.int .i64 (hln : Nat)) w2 := fun ty => HLN.out _ ty (HALL.out.2.1.map.off HO2.out (by simp))
  obtain ⟨ib, ioff, rfl, hcell⟩ : ∃ ib ioff, io = some ⟨ib, ioff, none⟩ ∧ w2.cell? ⟨ib, ioff + j, none⟩ = some (.int .i64 (v : Int)) := by
    rcases hI2.2 with ⟨e, h0⟩ | ⟨g1, off1, c1, cur1, e, _⟩
    · omega
    · injection e with e1 _ e3
      subst e1; subst e3
      refine ⟨g1, off1, rfl, ?_⟩
      have q := Own.cellAt hI2 j (by omega)
      rw [q]; unfold intsV; rw [List.getElem?_map, HIDX.out]; rfl
  have hib : w.heap.size ≤ ib := Nat.le_trans HO1.out.size (hfi ib (by simp [blk]))
  have HIB := Lib.hid hib
  have HCE := Lib.hid hcell
  clear hib hcell
  clear hI2 ho2 hfi HG hlk1 k31
  generalize (pm.pick idle).length = il at *
  have hil0 : ((il : Int) == 0) = false := by rw [beq_eq_false_iff_ne]; omega
  go_wp2_with fail
  go_quiet (fail)
  clear hln2 hln3
  go_wp2_with fail
  refine (HRD.out _ (HO2.out.drewN _)).mono ?_
  rintro e w3 ⟨hk3, ⟨hs3, _⟩ | ⟨_, ao, cap, rfl, hb3, hf3⟩⟩
  · rw [HALL.out.2.2.2.2.2.2.2] at hs3; cases hs3
  have hw2 := (HALL.out.1.off (HO2.out.drewN nq) (by simp))
  obtain ⟨hw3, ha3⟩ := hw2.keep hk3
  have hp3 : PoolAt w3 p d g pm mb es clk qs := (HALL.out.2.1.off (HO2.out.drewN nq) (by simp)).off hk3.2 (fun z hz hz' => (hw2.2.2 z hz).1 hz')
  have HW3 := Lib.hid (And.intro hw3 (And.intro ((Acc3.quiet (HO2.out.drewN nq) : Acc3 ⟨D, L, p :: mb :: qs.flatMap (·.2.fp)⟩ w ⟨D, L, p :: mb :: qs.flatMap (·.2.fp)⟩ (w2.drewN nq)).trans ha3) hp3))
  have HT3 : Hid (Tbl t w3) := Lib.hid ((HALL.out.2.2.1.off (HO2.out.drewN nq) (by simp)).off hk3.2 HALL.out.2.2.2.1)
  have HB3 := Lib.hid (And.intro hb3 (fun z hz => Nat.le_trans (HO2.out.drewN nq).size (hf3 z hz)))
  obtain ⟨c03, _, _, k33, _, _⟩ := hp3.cells
  have HS3 := Lib.hid (shape51 hw3.1.1)
  rw [(act_shp dm).1] at HS3
  have hf1 := field28_1
  have HC3 : Hid (w3.cell? ⟨ib, ioff + j, none⟩ = some (.int .i64 (v : Int))) := Lib.hid (hk3.2.cell ((Off.refl [] w2).drewN nq |>.cell HCE.out (by simp)) (fun hz => by have := HALL.out.1.lt ib (by simp [hz]); have := HIB.out; omega))
  clear hk3 hb3 hf3 hw2 hw3 ha3 hp3 HRD k22 k32 k02
  go_wp2_with fail
  refine HS3.out.mono ?_
  rintro e w4 ⟨rfl, ho4⟩
  have HO4 := Lib.hid ho4
  have HC4 := Lib.hid (check64 _ l (n : Int) (dm.shp.slots : Nat) w4 (HT3.out.off ho4 (by simp)) (HB3.out.1.off ho4 (by simp)) (by have := HALL.out.2.2.2.2.2.2.1; omega))
  rw [HALL.out.2.2.2.2.2.1] at HC4
  unfold CheckPost at HC4
  rw [show (some x).getD 0 = x from rfl, show errOf (some x) 40 = 0 from rfl] at HC4
  clear ho4 HS3
  go_wp2_with fail
  refine HC4.out.mono ?_
  rintro e w5 ⟨rfl, ho5⟩
  have HO5 := Lib.hid (HO4.out.trans ho5 (by simp))
  have k35 := HO5.out.cell k33 (by simp)
  have hij : (0 : Int) ≤ (j : Int) := by omega
  have hji : (j : Int) < (il : Int) := by omega
  have hc5 : w5.cell? ⟨ib, ioff + j, none⟩ = some (.int .i64 (v : Int)) := HO5.out.cell HC3.out (by simp)
  have hm5 : IsM w5 mb es clk := HW3.out.2.2.map.off HO5.out (by simp)
  have hlv5 := HLV.out w5 hm5
  have hfr5 : w5.cell? ⟨q.2.fb, 2, none⟩ = some (.int .i64 0) := by
    have q5 := (HW3.out.2.2.off HO5.out (by simp)).fr q (by rw [HQ.out.1]; simp)
    rw [q5.1.cell]
    show some (Value.int .i64 (q.1.rc : Nat)) = _
    rw [HQ.out.2.2]; rfl
  have hp5 := HW3.out.2.2.off HO5.out (by simp)
  have hw5 := HW3.out.1.off HO5.out (by simp)
  obtain ⟨W6, hW6⟩ : ∃ W6, W6 = setBlock w5 mb (.map es' clk) := ⟨_, rfl⟩
  have hdl5 := fun ty => HDEL.out.2.2 w5 ty hm5
  rw [← hW6] at hdl5
  obtain ⟨h61, h62⟩ : PoolAt W6 p d g (pm.del v) mb es' clk (A ++ B) ∧ Off [mb] w5 W6 := by
    rw [hW6]
    have hq5 : PoolAt w5 p d g pm mb es clk (A ++ q :: B) := by rw [← HQ.out.1]; exact hp5
    have r := hq5.remove (es' := es') (by rw [← HQ.out.1, HQ.out.2.1]; exact HDEL.out.1) HDEL.out.2.1
    rw [HQ.out.2.1] at r; exact r
  have hsub : ∀ z ∈ p :: mb :: (A ++ B).flatMap (·.2.fp), z ∈ p :: mb :: qs.flatMap (·.2.fp) := fun z hz => by
    rw [HQ.out.1]
    simp only [List.mem_cons, List.flatMap_append, List.flatMap_cons, List.mem_append] at hz ⊢
    rcases hz with e | e | e | e
    · exact .inl e
    · exact .inr (.inl e)
    · exact .inr (.inr (.inl e))
    · exact .inr (.inr (.inr (.inr e)))
  have hmbd : ∀ z ∈ D ++ L, z ∉ [mb] := fun z hz hz' => by
    simp at hz'; subst hz'
    have := hw5.2.2 z (by simp)
    rcases List.mem_append.1 hz with e | e
    · exact this.1 e
    · exact this.2 e
  have hw6 : Whole W6 d g p dm.act lm (pm.del v) ⟨D, L, p :: mb :: (A ++ B).flatMap (·.2.fp)⟩ := ⟨hw5.1.off h62 (fun z hz => hmbd z (by simp [hz])) (fun z hz => hmbd z (by simp [hz])), ⟨mb, es', clk, A ++ B, h61, rfl⟩, fun z hz => hw5.2.2 z (hsub z hz)⟩
  have ha6 : Acc3 ⟨D, L, p :: mb :: qs.flatMap (·.2.fp)⟩ w ⟨D, L, p :: mb :: qs.flatMap (·.2.fp)⟩ W6 := (HW3.out.2.1.trans (Acc3.quiet HO5.out)).trans ⟨h62.mono (fun z hz => .inl (by simp at hz; simp [hz])), fun z hz => .inl hz, fun z hz => .inl hz, fun z hz => .inl hz⟩
  obtain ⟨fu6, hfa, hfb⟩ := run_update_sta (P := Tryz.prog) (t := 125) (k := 3) (e := 129) (clk := clk) Tryz.underlying125 Tryz.underlying3 h61.ent h61.stamp mb (n : Int)
  obtain ⟨_, _, _, k36, _, _⟩ := h61.cells
  have hb6 := (HB3.out.1.off HO5.out (by simp)).off h62 (fun z hz hz' => by
    simp at hz'; subst hz'
    have a := HB3.out.2 z hz
    have b := HALL.out.1.lt z (by simp)
    omega)
  have hno6 : ∀ x ∈ A ++ B, x.1.num ≠ n := fun x hx => HALL.out.2.2.2.2.1 x (by rw [HQ.out.1]; simp only [List.mem_append, List.mem_cons] at hx ⊢; rcases hx with e | e; exact .inl e; exact .inr (.inr e))
  have hmu := hfb (.pointer (some ⟨W6.heap.size, 0, none⟩)) (W6.alloc (.cells (frC ⟨n, l, 1, 0⟩ (.slice ao l.length cap)) 131)) (IsM.alloc _ h61.map)
  have HEND := Lib.hid (pin_last (w := w) (F0 := ⟨D, L, p :: mb :: qs.flatMap (·.2.fp)⟩) hw6 ha6 hsub h61 (n := n) (l := l) (bv := .slice ao l.length cap) hno6 (hfa _).1 (hfa _).2 hb6 (fun z hz => by
    have a := HB3.out.2 z hz
    have b := HALL.out.1.lt
    exact ⟨a, fun hz' => by have := b z (by simp [hz']); omega, fun hz' => by have := b z (by simp [hz']); omega, fun hz' => by have := b z (by simp only [List.mem_append]; exact .inr (hsub z hz')); omega⟩) (by have := HALL.out.2.2.2.2.2.2.1; omega))
  rw [← HP.out] at HEND
  have eC : frC ⟨n, l, 1, 0⟩ (.slice ao l.length cap) = #[.slice ao l.length cap, .int .i64 1, .int .i64 0] := rfl
  rw [eC] at hmu HEND
  clear eC hfa hfb hb6 hno6 hw6 ha6 hmbd hsub h61 h62 hp5 hw5 hW6
  clear ho5 HC4 HFU HW3 HB3 HT3 HALL HP
  have HC := Lib.hid HEND.out.1
  have HE := Lib.hid HEND.out.2
  clear HEND
  go_wp2_with fail
  refine HC.out.mono ?_
  rintro e w6 ⟨bo, bc, rfl, z1, z2, z3⟩
  have HF := Lib.hid (HE.out w6 bo bc z1 z2 z3)
  clear z1 z2 z3 HC HE
  go_wp2_with fail
  first | exact HF.out | (go_ret2; exact HF.out)
end Go.Proofs.YtfdgiblkllfpjaaGreatDoor

/- pool: Clean. -/
set_option linter.unusedVariables false
set_option linter.unusedSimpArgs false
namespace Go.Proofs.YtfdgiblkllfpjaaGreatDoor
open Go.ChangeShapes Go.WideShapes Go.ChangeAt Go.RowKit

/-- Every frame holds a right page; a dirty one a stamped one. -/
def PoolOk (t : Nat → Nat) (s : Shp) (pm : PoolM) : Prop := ∀ f ∈ pm.held, f.num < s.pages ∧ f.b.length = s.pageB ∧ ∃ x, pageCheck t f.b (f.num : Int) (slotsN f.b.length : Nat) = some x ∧ pageLsn f.b = some x ∧ x ≤ 1152921504606846976 ∧ (0 < f.rc → 1 ≤ x)
theorem PoolOk.page {t : Nat → Nat} {s : Shp} {pm : PoolM} (h : PoolOk t s pm) {f : Fr} (hf : f ∈ pm.held) (hr : 0 < f.rc) : PageOk t s f ((pageLsn f.b).getD 0) := by
  obtain ⟨a, b, x, c, d, e, g⟩ := h f hf
  rw [d]
  exact ⟨a, b, c, d, g hr, e⟩
def cleanM (dm : DiskM) (lm : LogM) (pm : PoolM) (n : Nat) : DiskM × LogM × PoolM × Int :=
  match pm.find n with
  | some f => if 0 < f.rc then writeM dm lm pm f ((pageLsn f.b).getD 0) else (dm, lm, pm, 0)
  | none => (dm, lm, pm, 0)
set_option maxRecDepth 100000 in
set_option maxHeartbeats 4000000 in
theorem clean23 {t : Nat → Nat} {w : World} {d g p : Nat} {dm : DiskM} {lm : LogM} {pm : PoolM} {F : Fp3} (ht : Tbl t w) (h : Whole w d g p dm lm pm F) (h0 : 0 ∉ F.d ∧ 0 ∉ F.l) (hdead : pm.dead = false) {k : Nat} (hk : k < 3000000000000000000) (hok : DeskOk dm lm k) (hpo : PoolOk t dm.shp pm) (n : Nat) (hn : n < dm.shp.pages) :
    Calls Tryz.prog 23 #[.pointer (some ⟨p, 0, none⟩), .int .i64 (n : Int)] w (WPost d g p F (cleanM dm lm pm n) w) := by
  obtain ⟨D, L, pf⟩ := F
  have hp := h.2.1
  obtain ⟨mb, es, clk, qs, hp, hpf⟩ := hp
  simp only at hpf
  subst hpf
  obtain ⟨_, _, _, k3, k4, kf⟩ := hp.cells
  rw [hdead] at k4
  have HT := Lib.hid (there59 hp h.1.1 (n : Int))
  rw [decide_eq_true (show (0 : Int) ≤ (n : Int) ∧ (n : Int) < (dm.shp.pages : Int) by omega)] at HT
  have hlk := fun W hW => run_lookup_map (P := Tryz.prog) (t := 125) (k := 3) (e := 129) (clk := clk) Tryz.underlying125 Tryz.underlying3 zero129 hp.ent mb (n : Int) false W hW
  obtain ⟨P, hP⟩ : ∃ P, P = WPost d g p ⟨D, L, p :: mb :: qs.flatMap (·.2.fp)⟩ (cleanM dm lm pm n) w := ⟨_, rfl⟩
  rw [← hP]
  have HP := Lib.hid hP
  clear hP
  have HSK : Hid (cleanM dm lm pm n = (dm, lm, pm, 0) → ∀ w', Off [] w w' → P (.returned (.int .i64 0)) w') := Lib.hid (fun e w' ho => by rw [HP.out, e]; exact ⟨rfl, h.quiet ho⟩)
  rcases hp.look n with ⟨e1, hno, e2⟩ | ⟨A, q, B, rfl, hq, e1, e2⟩
  · rw [e2] at hlk
    simp only [Bool.false_eq_true, if_false, Option.getD_none] at hlk
    have HLK := Lib.hid (fun W ho => hlk W (hp.map.off (w' := W) (S := []) ho (by simp)))
    have HF := Lib.hid (HSK.out (by unfold cleanM; rw [e1]))
    clear h hp hlk e1 e2 hno HSK ht
    go_enter Tryz.func23, Tryz.ntmps23
    go_wp2_with fail
    refine HT.out.mono ?_
    rintro e w1 ⟨rfl, ho1⟩
    have k31 := ho1.cell k3 (by simp)
    have hlk1 := HLK.out w1 ho1
    have HF1 := Lib.hid (HF.out w1 ho1)
    clear ho1 HF HLK HT
    go_wp2_with fail
    first | exact HF1.out | (go_ret; exact HF1.out)
  · rw [e2] at hlk
    simp only [Bool.false_eq_true, if_false, Option.getD_some] at hlk
    have HLK := Lib.hid (fun W ho => hlk W (hp.map.off (w' := W) (S := []) ho (by simp)))
    obtain ⟨f1, f2⟩ := hp.fr q (by simp)
    have x2 := f1.cell 2
    simp only [frC, List.getElem?_toArray, List.getElem?_cons_zero, List.getElem?_cons_succ] at x2
    by_cases hr : 0 < q.1.rc
    · have ec : cleanM dm lm pm n = writeM dm lm pm q.1 ((pageLsn q.1.b).getD 0) := by unfold cleanM; rw [e1]; simp only [hr, if_true]
      have hpgk := hpo.page (f := q.1) (by rw [← hp.held]; simp) hr
      have HW : Hid (∀ W, Off [] w W → Calls Tryz.prog 65 #[.pointer (some ⟨p, 0, none⟩), .int .i64 (n : Int), .pointer (some ⟨q.2.fb, 0, none⟩)] W (WPost d g p ⟨D, L, p :: mb :: (A ++ q :: B).flatMap (·.2.fp)⟩ (writeM dm lm pm q.1 ((pageLsn q.1.b).getD 0)) W)) := Lib.hid (fun W ho => by
        rw [← hq]
        exact write65 (ht.off ho (by simp)) (h.off ho (by simp)) h0 (hp.off ho (by simp)) hk hok hpgk)
      have HPW : Hid (∀ W e w', Off [] w W → WPost d g p ⟨D, L, p :: mb :: (A ++ q :: B).flatMap (·.2.fp)⟩ (writeM dm lm pm q.1 ((pageLsn q.1.b).getD 0)) W e w' → P e w' ∧ ∃ c, e = .returned (.int .i64 c)) := Lib.hid (fun W e w' ho hw => by
        rw [HP.out, ec]
        obtain ⟨y1, F1, y2, y3⟩ := hw
        exact ⟨⟨y1, F1, y2, (Acc3.quiet ho).trans y3⟩, _, y1⟩)
      have hr2 : (0 : Int) < (q.1.rc : Int) := by omega
      clear h hp hlk e1 e2 HSK ht f1 f2 hr ec hpgk hpo hok
      generalize q.2.fb = fb at *
      generalize (q.1.rc : Int) = rc at *
      go_enter Tryz.func23, Tryz.ntmps23
      go_wp2_with fail
      refine HT.out.mono ?_
      rintro e w1 ⟨rfl, ho1⟩
      have k31 := ho1.cell k3 (by simp)
      have x21 := ho1.cell x2 (by simp)
      have hlk1 := HLK.out w1 ho1
      have HO1 := Lib.hid ho1
      clear ho1 HLK HT
      go_wp2_with fail
      refine (HW.out w1 HO1.out).mono ?_
      intro e w2 hw
      obtain ⟨hF, c, rfl⟩ := HPW.out w1 e w2 HO1.out hw
      have HF := Lib.hid hF
      clear hw hF HW HPW
      go_wp2_with fail
      first | exact HF.out | (go_ret; exact HF.out)
    · have HF := Lib.hid (HSK.out (by unfold cleanM; rw [e1]; simp only [hr, if_false]))
      have hr2 : q.1.rc = 0 := by omega
      rw [hr2] at x2
      clear h hp hlk e1 e2 HSK ht f1 f2 hr
      generalize q.2.fb = fb at *
      go_enter Tryz.func23, Tryz.ntmps23
      go_wp2_with fail
      refine HT.out.mono ?_
      rintro e w1 ⟨rfl, ho1⟩
      have k31 := ho1.cell k3 (by simp)
      have x21 := ho1.cell x2 (by simp)
      have hlk1 := HLK.out w1 ho1
      have HF1 := Lib.hid (HF.out w1 ho1)
      clear ho1 HF HLK HT
      go_wp2_with fail
      first | exact HF1.out | (go_ret; exact HF1.out)
end Go.Proofs.YtfdgiblkllfpjaaGreatDoor
