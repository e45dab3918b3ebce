/- disk: image, Lasts. -/
import Derived.Test.YtfdgiblkllfpjaaGreatDoorK11
import Derived.Outline
import Derived.Laws.BytesArg
set_option linter.unusedVariables false
set_option linter.unusedSimpArgs false
namespace Go.Proofs.YtfdgiblkllfpjaaGreatDoor
open Go.ChangeShapes Go.WideShapes Go.ChangeAt Go.RowKit

/-- The first p places, as a slice of their own. -/
def PagesIs (w : World) (v : Value) (gs : List (List UInt8)) : Prop := ∃ vs, Own w 22 1 v gs.length vs ∧ Items w vs gs
theorem PagesIs.off {w w' : World} {v : Value} {gs : List (List UInt8)} (h : PagesIs w v gs) (ho : Off [] w w') : PagesIs w' v gs := by
  obtain ⟨vs, h1, h2⟩ := h
  exact ⟨vs, h1.off ho (by simp), h2.off ho (by simp)⟩
theorem Ground.pages {w : World} {g off cap : Nat} {gs : List (List UInt8)} {fp : List Nat} (h : Ground w (.slice (some ⟨g, off, none⟩) gs.length cap) gs fp) (p : Nat) (hp : p ≤ gs.length) : PagesIs w (.slice (some ⟨g, off, none⟩) p p) (gs.take p) := by
  obtain ⟨vs, h1, h2, _⟩ := h
  have hl : (gs.take p).length = p := by rw [List.length_take]; omega
  refine ⟨vs.take p, ?_, ⟨by rw [List.length_take, List.length_take, h2.1], fun i l hi => ?_⟩⟩
  · rw [hl]
    rcases h1.2 with ⟨e, _⟩ | ⟨g', off', cap', cur, e, hc, hn, hm, hcs, ht⟩
    · simp at e
    · injection e with e1 _ e3
      injection e1 with e1
      injection e1 with e1 e4 _
      subst e1; subst e4; subst e3
      have hvl : vs.length = gs.length := h2.1
      refine ⟨by rw [List.length_take]; omega, .inr ⟨g, off, p, cur, rfl, hc, Nat.le_refl _, by omega, by omega, ?_⟩⟩
      rw [← ht, List.take_take]; congr 1; omega
  · by_cases hip : i < p
    · rw [List.getElem?_take, if_pos hip] at hi
      obtain ⟨x, hx, hb⟩ := h2.2 i l hi
      exact ⟨x, by rw [List.getElem?_take, if_pos hip]; exact hx, hb⟩
    · rw [List.getElem?_take, if_neg hip] at hi; cases hi
/-- It holds in every world in which only blocks below B have changed. -/
def Lives (B : Nat) (w : World) (Q : World → Prop) : Prop := ∀ S W, Off S w W → (∀ z ∈ S, z < B) → Q W
theorem Lives.now {B : Nat} {w : World} {Q : World → Prop} (h : Lives B w Q) : Q w := h [] w (Off.refl _ _) (by simp)
theorem Lives.step {B C : Nat} {w w' : World} {S : List Nat} {Q : World → Prop} (h : Lives B w Q) (ho : Off S w w') (hS : ∀ z ∈ S, z < B) (hC : C ≤ B) : Lives C w' Q := fun T W oT hT =>
  h (S ++ T) W ((ho.mono (fun z hz => .inl (by simp [hz]))).trans oT (fun z hz => .inl (by simp [hz]))) (fun z hz => by
    rcases List.mem_append.1 hz with q | q
    · exact hS z q
    · have := hT z q; omega)
def ImagePost (gs : List (List UInt8)) (p : Nat) (l : List UInt8) (w : World) (e : Ending) (w' : World) : Prop :=
  ∃ pv xv lv m0 m1, e = .returned (.agg #[pv, xv, lv, m0, m1]) ∧ Lives w.heap.size w' (fun W => PagesIs W pv (gs.take p) ∧ IsB W xv (gs.getD p []) ∧ IsB W lv l ∧ IsB W m0 (gs.getD (p + 1) []) ∧ IsB W m1 (gs.getD (p + 2) [])) ∧ Off [] w w' ∧
    (∃ a n c, pv = .slice a n c) ∧ (∃ a n c, xv = .slice a n c) ∧ (∃ a n c, lv = .slice a n c) ∧ (∃ a n c, m0 = .slice a n c) ∧ (∃ a n c, m1 = .slice a n c)
theorem isize22 : (Tryz.prog.info? 22).map (·.size) = some 1 := by kernel_rfl
theorem slice_pp (g off n cap p : Nat) (h1 : 1 ≤ p) (h2 : p ≤ cap) (W : World) : (Instr.slice 100 (.slice (some ⟨g, off, none⟩) n cap) none (some (.int .i64 (p : Int))) (some (.int .i64 (p : Int)))).run Tryz.prog W = .ok (.slice (some ⟨g, off, none⟩) p p) W := by
  have hel : Tryz.prog.elem 100 = 22 := by simp [Program.elem, Tryz.underlying100]
  have ht' : Tryz.prog.underlying 100 = some (.slice (Tryz.prog.elem 100)) := by rw [hel]; exact Tryz.underlying100
  have hsz : (sizeOf (Tryz.prog.elem 100)).run Tryz.prog W = .ok 1 W := by
    rw [hel]
    have hi := isize22
    cases hq : Tryz.prog.info? 22 with
    | none => rw [hq] at hi; simp at hi
    | some i => rw [hq] at hi; simp at hi; simp [sizeOf, typeInfo, hq, hi]
  rw [run_slice_hm (w := W) 100 (some ⟨g, off, none⟩) n cap ht' .i64 .i64 (p : Int) (p : Int) (by omega) (by omega) (by omega), hsz]
  have hp0 : p ≠ 0 := by omega
  simp [sliced, hp0, Addr.add_lit]
set_option maxRecDepth 100000 in
set_option maxHeartbeats 4000000 in
theorem image77 {w : World} {d : Nat} {m : DiskM} {fp0 : List Nat} (hd : DiskR w d m fp0) {v lv : Value} {gs : List (List UInt8)} {fp : List Nat} {l : List UInt8} (h : Ground w v gs fp) (hlen : gs.length = m.shp.pages + 3) (hb : ∀ l ∈ gs, l.length < 1000000) (hl : IsB w lv l) (hll : l.length < 1000000) :
    Calls Tryz.prog 77 #[.pointer (some ⟨d, 0, none⟩), v, lv] w (ImagePost gs m.shp.pages l w) := by
  obtain ⟨k0, _⟩ := hd.cells
  have hp1 := hd.ok.1.1
  have hp2 := hd.ok.1.2.1
  obtain ⟨lo, lc, rfl⟩ := hl.val
  obtain ⟨P, hP⟩ : ∃ P, P = ImagePost gs m.shp.pages l w := ⟨_, rfl⟩
  rw [← hP]
  have HP := Lib.hid hP
  clear hP
  generalize m.shp.pages = p at *
  obtain ⟨W0, hW0⟩ : ∃ W0, W0 = w.alloc (.cells #[.slice none 0 0, .slice none 0 0, .slice none 0 0, .slice none 0 0, .slice none 0 0] 78) := ⟨_, rfl⟩
  have ho0 : Off [] w W0 := by rw [hW0]; exact (Off.refl [] w).alloc _
  have i0 : IsC W0 w.heap.size #[.slice none 0 0, .slice none 0 0, .slice none 0 0, .slice none 0 0, .slice none 0 0] 78 := by rw [hW0]; exact IsC.new _ _ _
  have HC := Lib.hid (copy78 (h.off ho0 (by simp)) (by omega) hb (by omega))
  have hv := h.val
  obtain ⟨vo, vc, rfl⟩ := hv
  have HLN := Lib.hid (And.intro hlen (And.intro hll (And.intro hp1 (And.intro hp2 hb))))
  have HL := Lib.hid hl
  have HO0 := Lib.hid ho0
  have HI0 := Lib.hid i0
  have k00 := ho0.cell k0 (by simp)
  clear h hd hl ho0 i0 hb k0 hlen hll
  go_enter Tryz.func77, Tryz.ntmps77
  go_wp2_with fail
  rw [← hW0]
  clear hW0
  refine HC.out.mono ?_
  rintro e w1 ⟨cv, fc, rfl, hG, ho1, hf1⟩
  have HG := Lib.hid hG
  have HO1 := Lib.hid ho1
  obtain ⟨xa, hxa⟩ : ∃ l, gs[p]? = some l := ⟨_, List.getElem?_eq_getElem (by have := HLN.out.1; omega)⟩
  obtain ⟨xb, hxb⟩ : ∃ l, gs[p + 1]? = some l := ⟨_, List.getElem?_eq_getElem (by have := HLN.out.1; omega)⟩
  obtain ⟨xc, hxc⟩ : ∃ l, gs[p + 2]? = some l := ⟨_, List.getElem?_eq_getElem (by have := HLN.out.1; omega)⟩
  obtain ⟨g, off, cap, ao, ac, rfl, ca, ba, na⟩ := hG.at p xa hxa
  have hgr : g ≠ w.heap.size := fun e => by
    have q : g ∈ fc := by obtain ⟨vs, _, _, e, _⟩ := hG; rw [e]; simp [blk]
    have := hf1 g q; have := HI0.out.lt; omega
  obtain ⟨g', off', cap', bo, bc, e, cb, bb, nb⟩ := hG.at (p + 1) xb hxb
  injection e with e1 _ e3
  injection e1 with e1
  injection e1 with e1 e4 _
  subst e1; subst e4; subst e3
  obtain ⟨g', off', cap', co, cc, e, cd, bd, nd⟩ := hG.at (p + 2) xc hxc
  injection e with e1 _ e3
  injection e1 with e1
  injection e1 with e1 e4 _
  subst e1; subst e4; subst e3
  have HBB := Lib.hid (And.intro ba (And.intro bb bd))
  have HX := Lib.hid (And.intro hxa (And.intro hxb hxc))
  have hcp : p ≤ cap := by
    obtain ⟨vs, h1, _⟩ := hG
    obtain ⟨_, _, _, q⟩ := h1.isC
    have := HLN.out.1
    omega
  have hsl := fun W => slice_pp g off gs.length cap p hp1 hcp W
  have HK : Hid (∀ W S, Off S w1 W → (∀ z ∈ S, z = w.heap.size) → W.cell? ⟨g, off + p, none⟩ = some (.slice ao xa.length ac) ∧ W.cell? ⟨g, off + (p + 1), none⟩ = some (.slice bo xb.length bc) ∧ W.cell? ⟨g, off + (p + 2), none⟩ = some (.slice co xc.length cc)) := Lib.hid (fun W S ho hS => ⟨ho.cell ca (fun h => hgr (hS _ h)), ho.cell cb (fun h => hgr (hS _ h)), ho.cell cd (fun h => hgr (hS _ h))⟩)
  have k01 := ho1.cell k00 (by simp)
  have HCL : Hid (∀ W, Off [] w1 W → Calls Tryz.prog 80 #[.slice lo l.length lc] W (FreshB W l)) := Lib.hid (fun W ho => clone80 _ l W (((HL.out.off HO0.out (by simp)).off HO1.out (by simp)).off ho (by simp)) (by have := HLN.out.2.1; omega))
  have hrb : ∀ o, w1.frozen? ⟨w.heap.size, o, none⟩ = false := fun o => (HI0.out.off ho1 (by simp)).unfrozen o
  have HI1 := Lib.hid (HI0.out.off ho1 (by simp))
  have HRB : Hid (∀ W, Off [] w1 W → W.cell? ⟨w.heap.size, 0, none⟩ = some (.slice none 0 0) ∧ W.cell? ⟨w.heap.size, 1, none⟩ = some (.slice none 0 0) ∧ W.cell? ⟨w.heap.size, 2, none⟩ = some (.slice none 0 0) ∧ W.cell? ⟨w.heap.size, 3, none⟩ = some (.slice none 0 0) ∧ W.cell? ⟨w.heap.size, 4, none⟩ = some (.slice none 0 0) ∧ ∀ o, W.frozen? ⟨w.heap.size, o, none⟩ = false) := Lib.hid (fun W ho => by
    have q := HI1.out.off ho (by simp)
    exact ⟨by rw [q.cell]; rfl, by rw [q.cell]; rfl, by rw [q.cell]; rfl, by rw [q.cell]; rfl, by rw [q.cell]; rfl, fun o => q.unfrozen o⟩)
  have hg1 : (1 : Int) ≤ (p : Int) := by omega
  have hg2 : (p : Int) ≤ 16 := by omega
  have hg3 : (p : Int) + 2 < (gs.length : Int) := by have := HLN.out.1; omega
  have hg4 : (p : Int) + 1 < (gs.length : Int) := by omega
  have hg5 : (p : Int) < (gs.length : Int) := by omega
  have hg6 : p < gs.length := by omega
  have hw1 : IntKind.i64.wrap ((p : Int) + 1) = (p : Int) + 1 := by rw [IntKind.wrap_i64]; omega
  have hw2 : IntKind.i64.wrap ((p : Int) + 2) = (p : Int) + 2 := by rw [IntKind.wrap_i64]; omega
  have ht1 : ((p : Int) + 1).toNat = p + 1 := by omega
  have ht2 : ((p : Int) + 2).toNat = p + 2 := by omega
  have hz1 : (0 : Int) ≤ (p : Int) + 1 := by omega
  have hz2 : (0 : Int) ≤ (p : Int) + 2 := by omega
  have HEND : Hid (∀ W2 W eo ec, Off [] w1 W2 → IsB W2 (.slice eo l.length ec) l → (∀ z ∈ blk (.slice eo l.length ec), w1.heap.size ≤ z) → Off [w.heap.size] W2 W → P (.returned (.agg #[.slice (some ⟨g, off, none⟩) p p, .slice ao xa.length ac, .slice eo l.length ec, .slice bo xb.length bc, .slice co xc.length cc])) W) := Lib.hid (fun W2 W eo ec o1 ib ih o2 => by
    rw [HP.out]
    have hrl := HI0.out.lt
    have hs1 := ho1.size
    have hws : w.heap.size ≤ W0.heap.size := HO0.out.size
    refine ⟨_, _, _, _, _, rfl, fun S W' o3 hS => ?_, (HO0.out.trans ho1 (by simp)).trans ((o1.mono (by simp)).trans o2 (fun z hz => .inl hz)) (fun z hz => .inr (by simp at hz; omega)), ⟨_, _, _, rfl⟩, ⟨_, _, _, rfl⟩, ⟨_, _, _, rfl⟩, ⟨_, _, _, rfl⟩, ⟨_, _, _, rfl⟩⟩
    have oo : Off (w.heap.size :: S) w1 W' := ((o1.mono (by simp)).trans o2 (fun z hz => .inl (by simp at hz; simp [hz]))).trans o3 (fun z hz => .inl (by simp [hz]))
    have hfr : ∀ z ∈ fc, z ∉ w.heap.size :: S := fun z hz hz' => by
      have := hf1 z hz
      rcases List.mem_cons.1 hz' with q | q
      · omega
      · have := hS z q; omega
    refine ⟨(hG.off oo hfr).pages p (by have := HLN.out.1; omega), ?_, ?_, ?_, ?_⟩
    · rw [List.getD_eq_getElem?_getD, hxa]; exact ba.off oo (fun z hz => hfr z (na z hz))
    · exact (ib.off o2 (fun z hz hz' => by have := ih z hz; simp at hz'; omega)).off o3 (fun z hz hz' => by have := ih z hz; have := hS z hz'; omega)
    · rw [List.getD_eq_getElem?_getD, hxb]; exact bb.off oo (fun z hz => hfr z (nb z hz))
    · rw [List.getD_eq_getElem?_getD, hxc]; exact bd.off oo (fun z hz => hfr z (nd z hz)))
  clear na nb nd hgr hG ho1 hf1 hxa hxb hxc ca cb cd ba bb bd hcp HC k00
  generalize w.heap.size = rb at *
  generalize gs.length = gl at *
  go_wp2_with fail
  go_region_held3 (fun W => W.cell? ⟨g, off + p, none⟩ = some (.slice ao xa.length ac) ∧ W.cell? ⟨g, off + (p + 1), none⟩ = some (.slice bo xb.length bc) ∧ W.cell? ⟨g, off + (p + 2), none⟩ = some (.slice co xc.length cc))
    (first | exact HK.out _ [] (Off.refl _ _) (by simp) | exact HK.out _ [] (Off.refl _ _).drew (by simp) | exact HK.out _ [] HOA.out (by simp) | exact HK.out _ [rb] (Off.setCell (Off.setCell (Off.setCell (Off.setCell (Off.setCell (HOA.out.mono (by simp)) (.inl (by simp)) _) (.inl (by simp)) _) (.inl (by simp)) _) (.inl (by simp)) _) (.inl (by simp)) _) (by simp) | fail)
    (first | (go_at_call 80; refine (HCL.out _ (Off.refl _ _).drew).mono ?_; rintro e w2 ⟨eo, ec, rfl, x1, x2, x3⟩; have HBE := Lib.hid (And.intro x1 x3); have HOA : Hid (Off [] w1 w2) := Lib.hid ((Off.refl [] w1).drew.trans x2 (by simp)); clear x1 x2 x3; obtain ⟨r0, r1, r2, r3, r4, rf⟩ := HRB.out w2 HOA.out))
  have HF := Lib.hid (HEND.out w2 (((((w2.setCell ⟨rb, 0, none⟩ (.slice (some ⟨g, off, none⟩) p p)).setCell ⟨rb, 1, none⟩ (.slice ao xa.length ac)).setCell ⟨rb, 2, none⟩ (.slice eo l.length ec)).setCell ⟨rb, 3, none⟩ (.slice bo xb.length bc)).setCell ⟨rb, 4, none⟩ (.slice co xc.length cc)) eo ec HOA.out HBE.out.1 (fun z hz => HBE.out.2 z hz) (Off.setCell (Off.setCell (Off.setCell (Off.setCell (Off.setCell (Off.refl _ _) (.inl (by simp)) _) (.inl (by simp)) _) (.inl (by simp)) _) (.inl (by simp)) _) (.inl (by simp)) _))
  go_wp2_with fail
  refine bodyPost_ret (v := .agg #[.slice (some ⟨g, off, none⟩) p p, .slice ao xa.length ac, .slice eo l.length ec, .slice bo xb.length bc, .slice co xc.length cc]) (by rw [results_cell1 rfl]; go_simp; try rfl) rfl ?_
  exact HF.out
end Go.Proofs.YtfdgiblkllfpjaaGreatDoor

/- disk: Lasts. wal: Flushed. -/
set_option linter.unusedVariables false
set_option linter.unusedSimpArgs false
namespace Go.Proofs.YtfdgiblkllfpjaaGreatDoor
open Go.ChangeShapes Go.WideShapes Go.ChangeAt Go.RowKit

set_option maxRecDepth 100000 in
set_option maxHeartbeats 4000000 in
theorem lasts33 {w : World} {d : Nat} {m : DiskM} {fp : List Nat} (h : DiskR w d m fp) (hfit : m.fit) (hla : m.lasted ≤ m.log.length) (hlg : m.log.length < 1000000) :
    Calls Tryz.prog 33 #[.pointer (some ⟨d, 0, none⟩)] w (ImagePost m.lasts m.shp.pages (m.log.take m.lasted) w) := by
  obtain ⟨W0, hW0⟩ : ∃ W0, W0 = w.alloc (.cells #[.slice none 0 0, .slice none 0 0, .slice none 0 0, .slice none 0 0, .slice none 0 0] 78) := ⟨_, rfl⟩
  have ho0 : Off [] w W0 := by rw [hW0]; exact (Off.refl [] w).alloc _
  have i0 : IsC W0 w.heap.size #[.slice none 0 0, .slice none 0 0, .slice none 0 0, .slice none 0 0, .slice none 0 0] 78 := by rw [hW0]; exact IsC.new _ _ _
  have hd := h.off ho0 (by simp)
  obtain ⟨lv, fl, c3, hG, hsub, hdf, _⟩ := hd.lastsAt
  obtain ⟨ao, cap, c6, c7, hb, hbf⟩ := hd.logAt
  have hsz : ∀ l ∈ m.lasts, l.length < 1000000 := fun l hl => by
    obtain ⟨i, hi, rfl⟩ := List.getElem_of_mem hl
    have hk := h.ok.2.1
    obtain ⟨l', e1, e2⟩ := hfit.1 i (by omega)
    rw [List.getElem?_eq_getElem hi] at e1; injection e1 with e1
    rw [e1, e2]; have := m.shp.size_lt h.ok.1 i; omega
  obtain ⟨vo, vc, rfl⟩ := hG.val
  obtain ⟨a2, c2, b2, hbk2, l2, _, _, r2⟩ := hb.cut 0 m.lasted (by omega) hla
  simp only [List.drop_zero, Nat.sub_zero] at b2 l2 r2 hbk2
  have HR2 := Lib.hid (r2 trivial)
  have q2 : ∀ W, (Instr.slice 22 (.slice ao m.log.length cap) none (some (.int .i64 (m.lasted : Int))) none).run Tryz.prog W = .ok (.slice a2 m.lasted c2) W := fun W => HR2.out W m.lasted rfl
  have HIM : Hid (∀ W, Off [] W0 W → Calls Tryz.prog 77 #[.pointer (some ⟨d, 0, none⟩), .slice vo m.lasts.length vc, .slice a2 m.lasted c2] W (ImagePost m.lasts m.shp.pages (m.log.take m.lasted) W)) := Lib.hid (fun W ho => by
    exact image77 (hd.off ho (by simp)) (hG.off ho (by simp)) h.ok.2.1 hsz (b2.off ho (by simp)) (by rw [l2]; omega))
  obtain ⟨P, hP⟩ : ∃ P, P = ImagePost m.lasts m.shp.pages (m.log.take m.lasted) w := ⟨_, rfl⟩
  rw [← hP]
  have HP := Lib.hid hP
  have HI0 := Lib.hid i0
  have HO0 := Lib.hid ho0
  have hdl : d < W0.heap.size := World.block_lt_of_cell? W0 _ c3
  have hdr : d < w.heap.size := h.lt d (by obtain ⟨_, _, _, _, _, _, _, _, _, _, _, _, e, _⟩ := h; rw [e]; simp)
  have HK : Hid (∀ W S, Off S W0 W → (∀ z ∈ S, z = w.heap.size) → W.cell? ⟨d, 3, none⟩ = some (.slice vo m.lasts.length vc) ∧ W.cell? ⟨d, 6, none⟩ = some (.slice ao m.log.length cap) ∧ W.cell? ⟨d, 7, none⟩ = some (.int .i64 (m.lasted : Nat))) := Lib.hid (fun W S ho hS => ⟨ho.cell c3 (fun h => by have := hS _ h; omega), ho.cell c6 (fun h => by have := hS _ h; omega), ho.cell c7 (fun h => by have := hS _ h; omega)⟩)
  have HRB : Hid (∀ W, Off [] W0 W → W.cell? ⟨w.heap.size, 0, none⟩ = some (.slice none 0 0) ∧ W.cell? ⟨w.heap.size, 1, none⟩ = some (.slice none 0 0) ∧ W.cell? ⟨w.heap.size, 2, none⟩ = some (.slice none 0 0) ∧ W.cell? ⟨w.heap.size, 3, none⟩ = some (.slice none 0 0) ∧ W.cell? ⟨w.heap.size, 4, none⟩ = some (.slice none 0 0) ∧ ∀ o, W.frozen? ⟨w.heap.size, o, none⟩ = false) := Lib.hid (fun W ho => by
    have q := HI0.out.off ho (by simp)
    exact ⟨by rw [q.cell]; rfl, by rw [q.cell]; rfl, by rw [q.cell]; rfl, by rw [q.cell]; rfl, by rw [q.cell]; rfl, fun o => q.unfrozen o⟩)
  have hml : (m.lasted : Int) ≤ (cap : Int) := by have := hb.cap_ge; omega
  clear h hd hG hsub hdf hb hbf b2 l2 r2 hbk2 HR2 hla hlg hsz hfit ho0 i0 c3 c6 c7 hP
  have HRS : Hid (w.heap.size < W0.heap.size) := Lib.hid HI0.out.lt
  generalize m.lasts.length = gl at *
  generalize m.log.length = ll at *
  generalize hrb : w.heap.size = rb at *
  go_enter Tryz.func33, Tryz.ntmps33
  go_wp2_with fail
  rw [← hW0]
  clear hW0
  have HRBE := Lib.hid hrb
  clear hrb
  go_region_held3 (fun W => W.cell? ⟨d, 3, none⟩ = some (.slice vo gl vc) ∧ W.cell? ⟨d, 6, none⟩ = some (.slice ao ll cap) ∧ W.cell? ⟨d, 7, none⟩ = some (.int .i64 (m.lasted : Nat)))
    (first | exact HK.out _ [] (Off.refl _ _) (by simp) | exact HK.out _ [] (Off.refl _ _).drew (by simp) | exact HK.out _ [] HOA.out (by simp) | exact HK.out _ [rb] (Off.setCell (Off.setCell (Off.setCell (Off.setCell (Off.setCell (HOA.out.mono (by simp)) (.inl (by simp)) _) (.inl (by simp)) _) (.inl (by simp)) _) (.inl (by simp)) _) (.inl (by simp)) _) (by simp) | fail)
    (first | (go_at_call 77; refine (HIM.out _ (Off.refl _ _).drew).mono ?_; rintro e w2 ⟨pv, xv, lv, m0, m1, rfl, x1, x2, ⟨pa, pn, pc, rfl⟩, ⟨xa, xn, xc, rfl⟩, ⟨la, ln, lc, rfl⟩, ⟨ma, mn, mc, rfl⟩, ⟨na, nn, nc, rfl⟩⟩; have HBE := Lib.hid x1; have HOA : Hid (Off [] W0 w2) := Lib.hid ((Off.refl [] W0).drew.trans x2 (by simp)); clear x1 x2; obtain ⟨r0, r1, r2, r3, r4, rf⟩ := HRB.out w2 HOA.out))
  have HF : Hid (P (.returned (.agg #[.slice pa pn pc, .slice xa xn xc, .slice la ln lc, .slice ma mn mc, .slice na nn nc])) (((((w2.setCell ⟨rb, 0, none⟩ (.slice pa pn pc)).setCell ⟨rb, 1, none⟩ (.slice xa xn xc)).setCell ⟨rb, 2, none⟩ (.slice la ln lc)).setCell ⟨rb, 3, none⟩ (.slice ma mn mc)).setCell ⟨rb, 4, none⟩ (.slice na nn nc))) := Lib.hid (by
    rw [HP.out]
    have oo : Off [rb] w2 (((((w2.setCell ⟨rb, 0, none⟩ (.slice pa pn pc)).setCell ⟨rb, 1, none⟩ (.slice xa xn xc)).setCell ⟨rb, 2, none⟩ (.slice la ln lc)).setCell ⟨rb, 3, none⟩ (.slice ma mn mc)).setCell ⟨rb, 4, none⟩ (.slice na nn nc)) := Off.setCell (Off.setCell (Off.setCell (Off.setCell (Off.setCell (Off.refl _ _) (.inl (by simp)) _) (.inl (by simp)) _) (.inl (by simp)) _) (.inl (by simp)) _) (.inl (by simp)) _
    exact ⟨_, _, _, _, _, rfl, HBE.out.step oo (fun z hz => by simp at hz; rw [hz]; exact HRS.out) HO0.out.size, (HO0.out.trans HOA.out (by simp)).trans oo (fun z hz => .inr (by simp at hz; rw [hz, ← HRBE.out]; exact Nat.le_refl _)), ⟨_, _, _, rfl⟩, ⟨_, _, _, rfl⟩, ⟨_, _, _, rfl⟩, ⟨_, _, _, rfl⟩, ⟨_, _, _, rfl⟩⟩)
  go_wp2_with fail
  refine bodyPost_ret (v := .agg #[.slice pa pn pc, .slice xa xn xc, .slice la ln lc, .slice ma mn mc, .slice na nn nc]) (by rw [results_cell1 rfl]; go_simp; try rfl) rfl ?_
  exact HF.out
open Go.MuLone in
set_option maxRecDepth 100000 in
set_option maxHeartbeats 2000000 in
theorem flushed48 {w : World} {g d : Nat} {m : LogM} {fp : List Nat} (h : LogR w g d m fp) : Calls Tryz.prog 48 #[.pointer (some ⟨g, 0, none⟩)] w fun e w' => e = .returned (.int .i64 ((m.base + m.disk + 1 : Nat) : Int)) ∧ LogR w' g d m fp ∧ Off [g] w w' := by
  obtain ⟨k0, _, k3, _, k7, _, kf⟩ := h.cells
  have hz := h.sized
  obtain ⟨h1, o1⟩ := h.turn 1
  have HH := Lib.hid h1
  have HO := Lib.hid o1
  have HV : Hid (((m.base + m.disk + 1 : Nat) : Int) = (m.base : Int) + (m.disk : Int) + 1) := Lib.hid (by omega)
  have HC : Hid (∀ n, ((w.setCell ⟨g, 0, none⟩ (.int .i32 1)).drewN n).cell? ⟨g, 0, none⟩ = some (.int .i32 1) ∧ ((w.setCell ⟨g, 0, none⟩ (.int .i32 1)).drewN n).frozen? ⟨g, 0, none⟩ = false) := Lib.hid (fun n => by
    obtain ⟨c0, _, _, _, _, _, cf⟩ := (HH.out.off ((Off.refl [] _).drewN n) (by simp)).cells
    exact ⟨c0, cf 0⟩)
  have hb1 := hz.1
  have hb2 : m.disk ≤ 65536 := by omega
  rw [HV.out]
  clear h h1 o1 hz HV
  generalize hbs : m.base = bs at *
  generalize hdk : m.disk = dk at *
  clear hbs hdk
  go_enter_defers Tryz.func48, Tryz.ntmps48
  go_wp2_with (go_at_call 55; refine (lock_free Tryz.muLib ⟨g, 0, none⟩ _ k0 (kf 0)).mono ?_; rintro e w' ⟨rfl, rfl⟩)
  go_quiet (fail)
  go_wp2_with fail
  refine leaves_cons (f := 56) (args := #[.pointer (some ⟨g, 0, none⟩)]) (by simp) (by simp [go_sem]) ?_
  refine (unlock_deferred Tryz.muLib ⟨g, 0, none⟩ .returning _ (HC.out _).1 (HC.out _).2).mono ?_
  rintro e u' w'' ⟨rfl, rfl, rfl⟩
  refine ⟨_, results_tmp rfl _ _ _, ?_⟩
  obtain ⟨p1, p2⟩ := (HH.out.off ((Off.refl [] _).drewN nq) (by simp)).turn 0
  exact ⟨rfl, p1, (HO.out.trans ((Off.refl [] _).drewN nq) (by simp)).trans p2 (fun z hz => .inl hz)⟩
end Go.Proofs.YtfdgiblkllfpjaaGreatDoor

/- the laws' own: a new disk, a log and a pool over it; num. -/
set_option linter.unusedVariables false
set_option linter.unusedSimpArgs false
namespace Go.Proofs.YtfdgiblkllfpjaaGreatDoor
open Go.ChangeShapes Go.WideShapes Go.ChangeAt Go.RowKit

theorem num9 (x : Int) (w : World) : Calls Tryz.prog 9 #[.int .i64 x] w fun e w' => e = .returned (.int .i64 x) ∧ w = w' := by
  go_enter Tryz.func9, Tryz.ntmps9
  go_wp2
  go_ret
  exact ⟨rfl, rfl⟩
theorem blankG_at (s : Shp) (k : Nat) (hk : k < s.pages + 3) : (blankG s)[k]? = some (List.replicate (s.sizeB k) 0) := by
  unfold blankG
  rw [List.getElem?_map, List.getElem?_range hk]; rfl
theorem newDisk_fit (s : Shp) : (newDisk s).fit :=
  ⟨fun k hk => ⟨_, blankG_at s k hk, by rw [List.length_replicate]; rfl⟩, fun k hk => ⟨_, blankG_at s k hk, by rw [List.length_replicate]; rfl⟩, by simp [newDisk]⟩
theorem zeros_rep (n : Nat) : zeros (List.replicate n 0) = true := by
  unfold zeros; rw [List.all_eq_true]; intro x hx
  rw [List.mem_replicate] at hx; rw [hx.2]; rfl
theorem pageLen_ok {s : Nat} (h1 : 1 ≤ s) (h2 : s ≤ 8) : pageLen (s : Int) = ((24 + s * 16 : Nat) : Int) := by
  unfold pageLen; rw [if_neg (by omega)]; omega
theorem slotsN_pageB {s : Nat} (h1 : 1 ≤ s) (h2 : s ≤ 8) : slotsN (24 + s * 16) = s := slotsN_is h1 h2 (by omega)
theorem check_zeros (t : Nat → Nat) (n s : Nat) (hn : n < 16) (h1 : 1 ≤ s) (h2 : s ≤ 8) : pageCheck t (List.replicate (24 + s * 16) 0) (n : Int) (s : Int) = some 0 := by
  unfold pageCheck
  rw [if_neg, if_pos (zeros_rep _)]
  rw [pageLen_ok h1 h2, List.length_replicate]
  omega
theorem lsn_zeros (s : Nat) (h1 : 1 ≤ s) (h2 : s ≤ 8) : pageLsn (List.replicate (24 + s * 16) 0) = some 0 := by
  unfold pageLsn
  rw [List.length_replicate, slotsN_pageB h1 h2, if_neg (by omega)]
  have hz : num8 ((List.replicate (24 + s * 16) 0).take 8) = 0 := zeros_le _ (by rw [List.take_replicate]; exact zeros_rep _)
  have : intOk (List.replicate (24 + s * 16) 0) = true := by
    unfold intOk; rw [decide_eq_true_eq, hz, List.length_replicate]; omega
  rw [if_pos this, hz]
/-- A disk, a log's manager and a pool, one behind the other, are a whole. -/
theorem Whole.start {w w1 w2 w3 : World} {d g p n : Nat} {dm : DiskM} {lm : LogM} {D L Q : List Nat} (hd : DiskR w2 d dm D) (hD : ∀ z ∈ D, w.heap.size ≤ z ∧ z < w1.heap.size) (hl : LogR w2 g d lm L) (hL : ∀ z ∈ L, w1.heap.size ≤ z ∧ z < w2.heap.size) (ho1 : w.heap.size ≤ w1.heap.size) (hp : PoolR w3 p d g ⟨n, [], false⟩ Q) (ho : Off [] w2 w3) (hQ : ∀ z ∈ Q, w2.heap.size ≤ z) (h12 : w1.heap.size ≤ w2.heap.size) :
    Whole w3 d g p dm lm ⟨n, [], false⟩ ⟨D, L, Q⟩ ∧ ∀ z ∈ D ++ L ++ Q, w.heap.size ≤ z := by
  refine ⟨⟨⟨hd.off ho (by simp), hl.off ho (by simp), fun z hz hz' => ?_⟩, hp, fun z hz => ⟨fun hz' => ?_, fun hz' => ?_⟩⟩, fun z hz => ?_⟩
  · have := (hD z hz).2; have := (hL z hz').1; omega
  · have := hQ z hz; have := (hD z hz').2; omega
  · have := hQ z hz; have := (hL z hz').2; omega
  · simp only [List.mem_append] at hz
    rcases hz with (q | q) | q
    · exact (hD z q).1
    · have := (hL z q).1; omega
    · have := hQ z q; omega
end Go.Proofs.YtfdgiblkllfpjaaGreatDoor

/- A disk that never stops: acts counted; what lies behind a page's writing out. -/
set_option linter.unusedVariables false
set_option linter.unusedSimpArgs false
namespace Go.Proofs.YtfdgiblkllfpjaaGreatDoor
open Go.ChangeShapes Go.WideShapes Go.ChangeAt Go.RowKit

def DiskM.live (m : DiskM) : Prop := m.dead = false ∧ m.stop = 0
theorem DiskM.live.stops {m : DiskM} (h : m.live) : m.stops = false := by unfold DiskM.stops; rw [h.1, h.2]; rfl
theorem DiskM.live.act {m : DiskM} (h : m.live) : m.act.live ∧ m.act.acts = m.acts + 1 := by
  have e : m.act = { m with acts := m.acts + 1 } := by unfold DiskM.act; rw [if_neg (by rw [h.stops]; simp)]
  rw [e]; exact ⟨h, rfl⟩
theorem DiskM.live.put {m : DiskM} (h : m.live) (k : Nat) (l : List UInt8) : (m.put k l).live ∧ (m.put k l).acts = m.acts + 1 := h.act
theorem DiskM.live.sync {m : DiskM} (h : m.live) : m.sync.live ∧ m.sync.acts = m.acts + 1 := h.act
theorem DiskM.live.syncLog {m : DiskM} (h : m.live) : m.syncLog.live ∧ m.syncLog.acts = m.acts + 1 := h.act
theorem DiskM.live.app {m : DiskM} (h : m.live) (l : List UInt8) : (m.app l).live ∧ (m.app l).acts = m.acts + 1 := by
  unfold DiskM.app
  split
  · exact h.act
  · exact h.act
theorem DiskM.live.pair {m : DiskM} (h : m.live) (n : Nat) (b pb : List UInt8) : pairM m n b pb = (pairS m n b pb 4, 0) ∧ (pairS m n b pb 4).live ∧ (pairS m n b pb 4).acts = m.acts + 4 := by
  have h1 := h.put m.shp.pages pb
  have h2 := h1.1.sync
  have h3 := h2.1.put n b
  have h4 := h3.1.sync
  refine ⟨pairM_done (fun j hj => ?_), h4.1, ?_⟩
  · match j, hj with
    | 0, _ => exact h.stops
    | 1, _ => exact h1.1.stops
    | 2, _ => exact h2.1.stops
    | 3, _ => exact h3.1.stops
  · have : (pairS m n b pb 4).acts = ((m.put m.shp.pages pb).sync.put n b).sync.acts := rfl
    rw [this, h4.2, h3.2, h2.2, h1.2]
theorem DiskM.live.flush {dm : DiskM} {lm : LogM} (h : dm.live) (lsn : Nat) : (flushM dm lm lsn).2.2 = 0 ∧ (flushM dm lm lsn).1.live ∧ (flushM dm lm lsn).1.acts = dm.acts + (if lsn ≤ lm.base + lm.disk ∨ lm.tail = [] then 0 else 2) ∧
    (flushM dm lm lsn).2.1 = (if lsn ≤ lm.base + lm.disk ∨ lm.tail = [] then lm else lm.flushed) := by
  have h1 := h.app lm.tail
  have h2 := h1.1.syncLog
  unfold flushM
  by_cases c : lsn ≤ lm.base + lm.disk ∨ lm.tail = []
  · rw [if_pos c]; exact ⟨rfl, h, by rw [if_pos c]; rfl, by rw [if_pos c]⟩
  · rw [if_neg c, if_neg (by rw [h.stops]; simp), if_neg (by rw [h1.1.stops]; simp)]
    exact ⟨rfl, h2.1, by rw [if_neg c, h2.2, h1.2], by rw [if_neg c]⟩
theorem flushM_grounds {dm : DiskM} {lm : LogM} {k : Nat} (h : DeskOk dm lm k) (hz : lm.bytes = lm.disk + lm.tail.length) (lsn : Nat) : (flushM dm lm lsn).1.lasts = dm.lasts ∧ (flushM dm lm lsn).1.reads = dm.reads ∧ (flushM dm lm lsn).1.loose = dm.loose := by
  obtain ⟨h1, h2, h3, h4, h5, h6, h7⟩ := h
  have a := dm.app_fields lm.tail (by rw [h5]; omega)
  unfold flushM
  split
  · exact ⟨rfl, rfl, rfl⟩
  · split
    · have b := dm.act_fields; exact ⟨b.2.1, b.2.2.1, b.2.2.2.1⟩
    · split
      · have b := (dm.app lm.tail).act_fields; exact ⟨b.2.1.trans a.2.1, b.2.2.1.trans a.2.2.1, b.2.2.2.1.trans a.2.2.2.1⟩
      · have b := (dm.app lm.tail).syncLog_fields; exact ⟨b.2.1.trans a.2.1, b.2.2.1.trans a.2.2.1, b.2.2.2.1.trans a.2.2.2.1⟩
theorem laid_at {gs : List (List UInt8)} {k : Nat} {l : List UInt8} {y : List UInt8} (hk : gs[k]? = some y) (hl : y.length = l.length) (j : Nat) : (laid gs k l.length l)[j]? = if j = k then some l else gs[j]? := by
  have hlt := (List.getElem?_eq_some_iff.1 hk).1
  unfold laid
  by_cases e : j = k
  · subst e
    rw [if_pos rfl, List.getElem?_set_self hlt, List.getD_eq_getElem?_getD, hk]
    simp [hl]
  · rw [if_neg e, List.getElem?_set_ne (Ne.symm e)]
/-- Behind a page's writing out the page lies there, and lasts. -/
theorem pairS_grounds {m : DiskM} (hfit : m.fit) (hlo : m.loose = []) {n : Nat} (hn : n < m.shp.pages) {b pb : List UInt8} (hb : b.length = m.shp.pageB) (hpb : pb.length = 16 + m.shp.pageB) (j : Nat) (hj : j < m.shp.pages) :
    (pairS m n b pb 4).lasts[j]? = (if j = n then some b else m.lasts[j]?) ∧ (pairS m n b pb 4).reads[j]? = (if j = n then some b else m.reads[j]?) := by
  obtain ⟨y1, e1, f1⟩ := hfit.1 m.shp.pages (by omega)
  obtain ⟨y2, e2, f2⟩ := hfit.2.1 m.shp.pages (by omega)
  obtain ⟨y3, e3, f3⟩ := hfit.1 n (by omega)
  obtain ⟨y4, e4, f4⟩ := hfit.2.1 n (by omega)
  have s1 : m.shp.sizeB m.shp.pages = pb.length := by rw [hpb]; unfold Shp.sizeB; rw [if_neg (by omega), if_pos rfl]
  have s2 : m.shp.sizeB n = b.length := by rw [hb]; unfold Shp.sizeB; rw [if_pos hn]
  have a1 := m.put_fields m.shp.pages pb
  have a2 := (m.put m.shp.pages pb).sync_fields
  have a3 := (m.put m.shp.pages pb).sync.put_fields n b
  have a4 := ((m.put m.shp.pages pb).sync.put n b).sync_fields
  have l1 : (m.put m.shp.pages pb).sync.lasts = laid m.lasts m.shp.pages pb.length pb := by rw [a2.2.1, a1.2.1, a1.2.2.2.1, hlo]; rfl
  have r1 : (m.put m.shp.pages pb).sync.reads = laid m.reads m.shp.pages pb.length pb := by rw [a2.2.2.1, a1.2.2.1]
  have l2 : (pairS m n b pb 4).lasts = laid (laid m.lasts m.shp.pages pb.length pb) n b.length b := by
    show ((m.put m.shp.pages pb).sync.put n b).sync.lasts = _
    rw [a4.2.1, a3.2.1, a3.2.2.2.1, a2.2.2.2.1, l1]; rfl
  have r2 : (pairS m n b pb 4).reads = laid (laid m.reads m.shp.pages pb.length pb) n b.length b := by
    show ((m.put m.shp.pages pb).sync.put n b).sync.reads = _
    rw [a4.2.2.1, a3.2.2.1, r1]
  have q1 := laid_at (l := pb) e1 (by rw [f1, s1])
  have q2 := laid_at (l := pb) e2 (by rw [f2, s1])
  rw [l2, r2]
  refine ⟨?_, ?_⟩
  · rw [laid_at (y := y3) (by rw [q1, if_neg (by omega)]; exact e3) (by rw [f3, s2]) j]
    by_cases e : j = n
    · rw [if_pos e, if_pos e]
    · rw [if_neg e, if_neg e, q1, if_neg (by omega)]
  · rw [laid_at (y := y4) (by rw [q2, if_neg (by omega)]; exact e4) (by rw [f4, s2]) j]
    by_cases e : j = n
    · rw [if_pos e, if_pos e]
    · rw [if_neg e, if_neg e, q2, if_neg (by omega)]
/-- The bytes of a stamped page. -/
theorem stamp_first (t : Nat → Nat) (l : List UInt8) (number lsn : Nat) (h : 24 ≤ l.length) : (stampB t l number lsn)[0]? = some (UInt8.ofNat lsn) := by
  have q := stamp_take8 (t := t) (l := l) (number := number) (lsn := lsn)
  have e : ((stampB t l number lsn).take 8)[0]? = (stampB t l number lsn)[0]? := by rw [List.getElem?_take, if_pos (by omega)]
  rw [← e, q]
  simp [le]
theorem stamp_mid (t : Nat → Nat) (l : List UInt8) (number lsn : Nat) (h : 24 ≤ l.length) (j : Nat) (h1 : 16 ≤ j) (h2 : j < l.length - 8) : (stampB t l number lsn)[j]? = l[j]? := by
  have q := stamp_drop16 (t := t) (l := l) (number := number) (lsn := lsn)
  have e : ((stampB t l number lsn).drop 16)[j - 16]? = (stampB t l number lsn)[j]? := by rw [List.getElem?_drop]; congr 1; omega
  rw [← e, q]
  unfold pageRest
  rw [List.getElem?_append_left (by rw [List.length_take, List.length_drop]; omega), List.getElem?_take, if_pos (by omega), List.getElem?_drop]
  congr 1; omega
theorem pairS_lasted {m : DiskM} {n : Nat} {b pb : List UInt8} : (pairS m n b pb 4).lasted = m.lasted := by
  show ((m.put m.shp.pages pb).sync.put n b).sync.lasted = m.lasted
  rw [(DiskM.sync_fields _).2.2.2.2.2.2, (DiskM.put_fields _ _ _).2.2.2.2.2.2, (DiskM.sync_fields _).2.2.2.2.2.2, (DiskM.put_fields _ _ _).2.2.2.2.2.2]
theorem DiskM.live.flush_lasted {dm : DiskM} {lm : LogM} (h : dm.live) {lsn : Nat} (hne : ¬ (lsn ≤ lm.base + lm.disk ∨ lm.tail = [])) : (flushM dm lm lsn).1.lasted = (flushM dm lm lsn).1.log.length := by
  have h1 := h.app lm.tail
  unfold flushM
  rw [if_neg hne, if_neg (by rw [h.stops]; simp), if_neg (by rw [h1.1.stops]; simp)]
  have b := (dm.app lm.tail).syncLog_fields
  show (dm.app lm.tail).syncLog.lasted = (dm.app lm.tail).syncLog.log.length
  rw [b.2.2.2.2.2.2, b.2.2.2.2.1]
/-- A dirty page's writing out on a disk that never stops. -/
theorem cleanM_live {t : Nat → Nat} {dm : DiskM} {lm : LogM} {pm : PoolM} (hl : dm.live) {n : Nat} {f : Fr} (hf : pm.find n = some f) (hr : 0 < f.rc) :
    cleanM dm lm pm n = (pairS (flushM dm lm ((pageLsn f.b).getD 0)).1 f.num f.b (pairB ((pageLsn f.b).getD 0) f.num f.b) 4, (flushM dm lm ((pageLsn f.b).getD 0)).2.1, pm.set { f with rc := 0 }, 0) := by
  have h1 := hl.flush (lm := lm) ((pageLsn f.b).getD 0)
  have h2 := h1.2.1.pair f.num f.b (pairB ((pageLsn f.b).getD 0) f.num f.b)
  unfold cleanM
  rw [hf]
  simp only [hr, if_true]
  unfold writeM
  rw [if_pos h1.1, if_pos (by rw [h2.1]), h2.1]
theorem srtI_one (x : Int) : srtI [x] = [x] := by unfold srtI; simp
theorem IsB.put {w : World} {g off n cap : Nat} {l : List UInt8} (h : IsB w (.slice (some ⟨g, off, none⟩) n cap) l) (i : Nat) (x : UInt8) : IsB (w.setCell ⟨g, off + i, none⟩ (bv x)) (.slice (some ⟨g, off, none⟩) n cap) (l.set i x) := by
  have hn : n = l.length := by obtain ⟨a, c, e⟩ := h.val; injection e
  subst hn
  have q := Own.set h i (bv x)
  unfold IsB
  rw [List.length_set]
  have e : bytesV (l.set i x) = (bytesV l).set i (bv x) := by unfold bytesV; rw [List.map_set]
  rw [e]; exact q
/-- A whole that is newer than w, and w unchanged. -/
def Since (w : World) (d g p : Nat) (dm : DiskM) (lm : LogM) (pm : PoolM) (F : Fp3) (w' : World) : Prop := Whole w' d g p dm lm pm F ∧ (∀ z ∈ F.d ++ F.l ++ F.p, w.heap.size ≤ z) ∧ Off [] w w'
section
variable {w w1 w2 : World} {d g p : Nat} {dm dm1 : DiskM} {lm lm1 : LogM} {pm pm1 : PoolM} {F F1 : Fp3}
theorem Since.step (h : Since w d g p dm lm pm F w1) (h1 : Whole w2 d g p dm1 lm1 pm1 F1) (h2 : Acc3 F w1 F1 w2) : Since w d g p dm1 lm1 pm1 F1 w2 := by
  have hs := h.2.2.size
  refine ⟨h1, fun z hz => ?_, h.2.2.trans h2.1 (fun z hz => .inr (h.2.1 z hz))⟩
  simp only [List.mem_append] at hz
  rcases hz with (q | q) | q
  · rcases h2.2.1 z q with e | e
    · exact h.2.1 z (by simp [e])
    · omega
  · rcases h2.2.2.1 z q with e | e
    · exact h.2.1 z (by simp [e])
    · omega
  · rcases h2.2.2.2 z q with e | e
    · exact h.2.1 z (by simp [e])
    · omega
theorem Since.write {S : List Nat} (h : Since w d g p dm lm pm F w1) (ho : Off S w1 w2) (h1 : ∀ z ∈ S, w.heap.size ≤ z ∧ z ∉ F.d ++ F.l ++ F.p) : Since w d g p dm lm pm F w2 :=
  ⟨h.1.off ho (fun z hz hz' => (h1 z hz').2 hz), h.2.1, h.2.2.trans ho (fun z hz => .inr (h1 z hz).1)⟩
theorem Since.zero {t : Nat → Nat} (h : Since w d g p dm lm pm F w1) (ht : Tbl t w) : Tbl t w1 ∧ 0 ∉ F.d ∧ 0 ∉ F.l ∧ 0 ∉ F.p :=
  ⟨ht.off h.2.2 (by simp), fun hz => by have := h.2.1 0 (by simp [hz]); have := ht.1; omega, fun hz => by have := h.2.1 0 (by simp [hz]); have := ht.1; omega, fun hz => by have := h.2.1 0 (by simp [hz]); have := ht.1; omega⟩
end
end Go.Proofs.YtfdgiblkllfpjaaGreatDoor

/- alive. -/
set_option linter.unusedVariables false
set_option linter.unusedSimpArgs false
namespace Go.Proofs.YtfdgiblkllfpjaaGreatDoor
open Go.ChangeShapes Go.WideShapes Go.ChangeAt Go.RowKit

def sh1 : Shp := ⟨1, 1, 1024⟩
theorem new8_sh1 (w : World) : Calls Tryz.prog 8 #[.agg #[.int .i64 1, .int .i64 1, .int .i64 1024]] w (NewPost sh1 w) := new8 sh1 (by unfold Shp.ok sh1; decide) w
def dmA : DiskM := (newDisk sh1).act.act
def lmA (t : Nat → Nat) : LogM := (newLog 0).begin t 3
def zA : List UInt8 := List.replicate 40 0
def pgA (t : Nat → Nat) : List UInt8 := stampB t (zA.set 16 1) 0 1
def pmA (t : Nat → Nat) : PoolM := (PoolM.add ⟨2, [], false⟩ ⟨0, zA, 1, 0⟩).set { num := 0, b := pgA t, pins := 1, rc := 1 }
theorem zA_len : (zA.set 16 1).length = 40 := by rw [List.length_set]; unfold zA; rw [List.length_replicate]
theorem pgA_len (t : Nat → Nat) : (pgA t).length = 40 := by unfold pgA; rw [stampB_len _ _ _ _ (by rw [zA_len]; omega), zA_len]
theorem slots40 : slotsN 40 = 1 := slotsN_is (by omega) (by omega) (by omega)
theorem pgA_lsn (t : Nat → Nat) : pageLsn (pgA t) = some 1 := pageLsn_stamp (by rw [zA_len, slots40]; omega) (by omega)
theorem pgA_check {t : Nat → Nat} {w : World} (ht : Tbl t w) : pageCheck t (pgA t) 0 1 = some 1 :=
  check_stamp ht (by rw [zA_len, slots40]; omega) (by omega) (by omega) (by rw [zA_len]; rfl)
theorem dmA_live : dmA.live ∧ dmA.acts = 2 := by
  have h0 : (newDisk sh1).live := ⟨rfl, rfl⟩
  exact ⟨h0.act.1.act.1, rfl⟩
theorem dmA_fit : dmA.fit := DiskM.act_fit (DiskM.act_fit (newDisk_fit sh1))
theorem lmA_is (t : Nat → Nat) : (lmA t).base = 0 ∧ (lmA t).disk = 0 ∧ (lmA t).bytes = 34 ∧ (lmA t).tail.length = 34 ∧ (lmA t).dead = false := by
  have hl : (frameB t (newLog 0).fin (beginB 3)).length = 34 := by rw [frameB_len, beginB_len]
  refine ⟨rfl, rfl, ?_, ?_, rfl⟩
  · show 0 + (frameB t (newLog 0).fin (beginB 3)).length = 34; rw [hl]
  · show ([] ++ frameB t (newLog 0).fin (beginB 3)).length = 34; rw [List.nil_append, hl]
theorem pmA_held (t : Nat → Nat) : (pmA t).held = [{ num := 0, b := pgA t, pins := 1, rc := 1 }] := rfl
theorem pmA_find (t : Nat → Nat) : (pmA t).find 0 = some { num := 0, b := pgA t, pins := 1, rc := 1 } := rfl
theorem pmA_dirty (t : Nat → Nat) : (pmA t).dirtyN = [0] := by
  unfold PoolM.dirtyN PoolM.pick numsI
  rw [pmA_held]
  show (srtI [((0 : Nat) : Int)]).map Int.toNat = [0]
  rw [srtI_one]; rfl
theorem deskA (t : Nat → Nat) : DeskOk dmA (lmA t) 100 := by
  obtain ⟨h1, h2, h3, h4, h5⟩ := lmA_is t
  exact ⟨dmA_fit, fun x hx => by simp [dmA, DiskM.act, DiskM.stops, newDisk] at hx, by rw [dmA_live.2]; omega, by simp [dmA, DiskM.act, DiskM.stops, newDisk], by rw [h2]; rfl, by rw [h3]; decide, h5⟩
theorem poolA {t : Nat → Nat} {w : World} (ht : Tbl t w) : PoolOk t dmA.shp (pmA t) := by
  intro f hf
  rw [pmA_held] at hf
  simp at hf; subst hf
  refine ⟨by show 0 < 1; omega, by rw [pgA_len]; rfl, 1, ?_, pgA_lsn t, by omega, fun _ => by omega⟩
  simp only [pgA_len, slots40]
  exact pgA_check ht
/-- What alive comes to. -/
theorem aliveEnd (t : Nat → Nat) : ∃ dmf lmf pmf, cleanAllM (pmA t).dirtyN dmA (lmA t) (pmA t) = (dmf, lmf, pmf, 0) ∧ dmf.acts = 8 ∧ lmf.base + lmf.disk + 1 = 35 ∧ dmf.lasts[0]? = some (pgA t) ∧ dmf.fit ∧ dmf.lasted ≤ dmf.log.length ∧ dmf.log.length < 1000000 ∧ dmf.shp = sh1 := by
  obtain ⟨h1, h2, h3, h4, h5⟩ := lmA_is t
  have hz : (lmA t).bytes = (lmA t).disk + (lmA t).tail.length := by omega
  have hc := cleanM_live (t := t) dmA_live.1 (lm := lmA t) (pmA_find t) (by show 0 < 1; omega)
  have hx : (pageLsn (pgA t)).getD 0 = 1 := by rw [pgA_lsn]; rfl
  simp only [hx] at hc
  have hne : ¬ (1 ≤ (lmA t).base + (lmA t).disk ∨ (lmA t).tail = []) := by
    rintro (q | q)
    · omega
    · rw [q] at h4; simp at h4
  have hf := dmA_live.1.flush (lm := lmA t) 1
  rw [if_neg hne, if_neg hne] at hf
  have hok := flushM_ok (deskA t) hz hf.1
  have hg := flushM_grounds (deskA t) hz 1
  have hs := flushM_shp (deskA t) hz 1
  have hp := hf.2.1.pair 0 (pgA t) (pairB 1 0 (pgA t))
  have hpo := (pairS_ok hok.1 hok.2.1 (n := 0) (by rw [hs]; decide) (b := pgA t) (pb := pairB 1 0 (pgA t)) (by rw [hs, pgA_len]; rfl) (by rw [pairB_len, hs, pgA_len]; rfl)).2.2.2.2
  have hpm := pairS_more (m := (flushM dmA (lmA t) 1).1) (n := 0) (b := pgA t) (pb := pairB 1 0 (pgA t))
  have hlo : (flushM dmA (lmA t) 1).1.loose = [] := hg.2.2
  have hpg := pairS_grounds hok.1 hlo (n := 0) (by rw [hs]; decide) (b := pgA t) (pb := pairB 1 0 (pgA t)) (by rw [hs, pgA_len]; rfl) (by rw [pairB_len, hs, pgA_len]; rfl) 0 (by rw [hs]; decide)
  have hlen : (flushM dmA (lmA t) 1).1.log.length = 34 := by
    have := hok.2.2.2.2.1
    rw [hf.2.2.2] at this
    rw [this]; exact h3
  refine ⟨_, _, _, by rw [pmA_dirty]; show (if (cleanM dmA (lmA t) (pmA t) 0).2.2.2 = 0 then _ else _) = _; rw [hc, if_pos rfl]; rfl, ?_, ?_, ?_, hpo.2.1, ?_, ?_, hpo.1.trans hs⟩
  · rw [hp.2.2, hf.2.2.1, dmA_live.2]
  · rw [hf.2.2.2]; show (lmA t).base + (lmA t).bytes + 1 = 35; omega
  · rw [hpg.1, if_pos rfl]
  · rw [hpm.1, pairS_lasted, dmA_live.1.flush_lasted hne]; exact Nat.le_refl _
  · rw [hpm.1, hlen]; omega
set_option maxRecDepth 100000 in
set_option maxHeartbeats 8000000 in
theorem alive10 {t : Nat → Nat} {w : World} (ht : Tbl t w) : Calls Tryz.prog 10 #[] w fun e w' => e = .returned (.bool true) ∧ Off [] w w' := by
  obtain ⟨P, hP⟩ : ∃ P : Ending → World → Prop, P = fun e w' => e = .returned (.bool true) ∧ Off [] w w' := ⟨_, rfl⟩
  rw [← hP]
  have HP := Lib.hid hP
  have HT := Lib.hid ht
  clear hP ht
  go_enter Tryz.func10, Tryz.ntmps10
  go_wp2_with fail
  refine (new8_sh1 w).mono ?_
  rintro e w1 ⟨d, D, rfl, hd1, ho1, hD1⟩
  have HD1 := Lib.hid (And.intro hd1 (And.intro ho1 hD1))
  have HOP : Hid (Calls Tryz.prog 11 #[.pointer (some ⟨d, 0, none⟩), .int .i64 0] w1 (OpenPost d D (newDisk sh1) 0 w1)) := Lib.hid (open11_nil hd1 (by decide) rfl rfl 0 (by omega))
  clear hd1 ho1 hD1
  go_wp2_with (go_at_call 9; refine (num9 _ _).mono ?_; rintro e w' ⟨rfl, rfl⟩)
  refine HOP.out.mono ?_
  rintro e w2 ⟨g, L, rfl, hl2, hk2, hL2⟩
  have HL2 := Lib.hid (And.intro hl2 (And.intro hk2 hL2))
  clear hl2 hk2 hL2 HOP
  go_wp2_with (go_at_call 9; refine (num9 _ _).mono ?_; rintro e w' ⟨rfl, rfl⟩)
  refine (new12 d g 2 (by omega) (by omega) w2).mono ?_
  rintro e w3 ⟨p, Q, rfl, hp3, ho3, hQ3⟩
  have HW3 : Hid (Since w d g p (newDisk sh1).act (newLog 0) ⟨2, [], false⟩ ⟨D, L, Q⟩ w3) := Lib.hid (by
    have a1 := HD1.out
    have a2 := HL2.out
    have s1 := a1.2.1.size
    have s2 := a2.2.1.2.size
    obtain ⟨x1, x2⟩ := Whole.start (w := w) (w1 := w1) (w2 := w2) (w3 := w3) a2.2.1.1 (fun z hz => ⟨a1.2.2 z hz, a1.1.lt z hz⟩) a2.1 (fun z hz => ⟨a2.2.2 z hz, a2.1.lt z hz⟩) s1 hp3 ho3 hQ3 s2
    exact ⟨x1, x2, (a1.2.1.trans (a2.2.1.2) (fun z hz => .inr (a1.2.2 z hz))).trans ho3 (by simp)⟩)
  have HT3 : Hid (Tbl t w3 ∧ 0 < w.heap.size) := Lib.hid ⟨HT.out.off HW3.out.2.2 (by simp), HT.out.1⟩
  clear hp3 ho3 hQ3 HD1 HL2
  have hap := append13 HT3.out.1 HW3.out.1.1 rfl 3 (by omega) (by omega) (by simp [newLog]) (fun hz => by have := HW3.out.2.1 0 (by simp [hz]); have := HT3.out.2; omega)
  unfold beginV at hap
  have HAP := Lib.hid hap
  clear hap
  go_wp2_with (go_at_call 9; refine (num9 _ _).mono ?_; rintro e w' ⟨rfl, rfl⟩)
  refine HAP.out.mono ?_
  rintro e w4 (⟨_, rfl, hs4⟩ | ⟨hbad, _⟩)
  rotate_left
  · exact absurd hbad (by decide)
  have hfin : (((newLog 0).fin : Nat) : Int) = 1 := rfl
  rw [hfin]
  obtain ⟨D4, L4, hW4, hA4, _⟩ := HW3.out.1.deskAt (HW3.out.1.1.log hs4)
  have HW4 := Lib.hid (HW3.out.step hW4 hA4)
  clear hs4 hW4 hA4 HAP hfin
  go_wp2_with (go_at_call 9; refine (num9 _ _).mono ?_; rintro e w' ⟨rfl, rfl⟩)
  obtain ⟨hT4, z1, z2, z3⟩ := HW4.out.zero HT.out
  have HPIN : Hid (Calls Tryz.prog 16 #[.pointer (some ⟨p, 0, none⟩), .int .i64 0, .int .i64 0] w4 (PinPost d g p ⟨D4, L4, Q⟩ dmA (lmA t) (PoolM.add ⟨2, [], false⟩ ⟨0, zA, 1, 0⟩) zA w4)) :=
    Lib.hid (pin16_room hT4 HW4.out.1 z1 rfl (by decide) (DiskM.act_fit (newDisk_fit sh1)) 0 (by decide) rfl (by decide) zA (by exact blankG_at sh1 0 (by decide)) 0 (check_zeros t 0 1 (by omega) (by omega) (by omega)) rfl 0)
  clear hT4 z1 z2 z3
  refine HPIN.out.mono ?_
  rintro e w5 ⟨F5, ao, cap, rfl, hW5, hA5, hb5, hf5⟩
  have hz40 : zA.length = 40 := by unfold zA; rw [List.length_replicate]
  rw [hz40] at hb5 hf5 ⊢
  obtain ⟨bb, boff, rfl⟩ := hb5.base (by rw [hz40]; omega)
  have k16 := hb5.cell 16 (by rw [hz40]; omega)
  have kf := fun o => Own.unfrozen hb5 o
  have HS5 := Lib.hid (HW4.out.step hW5 hA5)
  have HB5 := Lib.hid (And.intro hb5 (hf5 bb (by simp [blk])))
  clear hW5 hA5 hb5 hf5 HPIN
  go_wp2_with (go_at_call 9; refine (num9 _ _).mono ?_; rintro e w' ⟨rfl, rfl⟩)
  obtain ⟨W6, hW6⟩ : ∃ W6, W6 = w5.setCell ⟨bb, boff + 16, none⟩ (.int .u8 1) := ⟨_, rfl⟩
  rw [← hW6]
  have ho6 : Off [bb] w5 W6 := by rw [hW6]; exact (Off.refl [bb] w5).setCell (.inl (by simp)) _
  have HS6 := Lib.hid (HS5.out.write ho6 (fun z hz => by simp at hz; rw [hz]; exact ⟨Nat.le_trans HW4.out.2.2.size HB5.out.2.1, HB5.out.2.2⟩))
  have hb6 : IsB W6 (.slice (some ⟨bb, boff, none⟩) 40 cap) (zA.set 16 1) := by rw [hW6]; exact HB5.out.1.put 16 1
  have HB6 := Lib.hid hb6
  have HCH : Hid (Calls Tryz.prog 17 #[.pointer (some ⟨p, 0, none⟩), .int .i64 0, .slice (some ⟨bb, boff, none⟩) 40 cap, .int .i64 1] W6 (OkPost d g p F5 dmA (lmA t) (pmA t) 0 W6)) := Lib.hid (by
    obtain ⟨hT6, z1, z2, z3⟩ := HS6.out.zero HT.out
    exact change17 hT6 HS6.out.1 z2 rfl 0 (by omega) ⟨0, zA, 1, 0⟩ rfl (by show 0 < 1; omega) _ (zA.set 16 1) HB6.out (fun z hz hz' => HB5.out.2.2 (by simp [blk] at hz; rw [← hz]; simp [hz'])) (by rw [zA_len, hz40]) (by rw [zA_len, slots40]; omega) 1 (by show (pageLsn zA).getD 0 < 1; rw [show pageLsn zA = some 0 from lsn_zeros 1 (by omega) (by omega)]; decide) (by
      obtain ⟨e1, e2, e3, _, _⟩ := lmA_is t
      show 1 < (lmA t).base + (lmA t).bytes + 1; omega))
  clear hW6 ho6 hb6 k16 kf HB5
  refine HCH.out.mono ?_
  rintro e w7 ⟨rfl, F7, hW7, hA7⟩
  have HS7 := Lib.hid (HS6.out.step hW7 hA7)
  have HCA : Hid (Calls Tryz.prog 31 #[.pointer (some ⟨p, 0, none⟩)] w7 (WPost d g p F7 (cleanAllM (pmA t).dirtyN dmA (lmA t) (pmA t)) w7)) := Lib.hid (by
    obtain ⟨hT7, z1, z2, z3⟩ := HS7.out.zero HT.out
    exact cleanAll31 hT7 HS7.out.1 ⟨z1, z2, z3⟩ rfl (a := 100) (by omega) (deskA t) (poolA HT.out) (by rw [pmA_held]; show 1 ≤ 2; omega))
  obtain ⟨dmf, lmf, pmf, hce, hac, hfl, hla, hfi, hll, hlg, hsh⟩ := aliveEnd t
  rw [hce] at HCA
  have HE := Lib.hid (And.intro hla (And.intro hfi (And.intro hll (And.intro hlg hsh))))
  have HNUM := Lib.hid (And.intro hac hfl)
  clear hW7 hA7 HCH hce hac hfl hla hfi hll hlg hsh
  go_wp2_with (go_at_call 9; refine (num9 _ _).mono ?_; rintro e w' ⟨rfl, rfl⟩)
  refine HCA.out.mono ?_
  rintro e w8 ⟨rfl, F8, hW8, hA8⟩
  have HS8 := Lib.hid (HS7.out.step hW8 hA8)
  have HLA := Lib.hid (lasts33 hW8.1.1 HE.out.2.1 HE.out.2.2.1 HE.out.2.2.2.1)
  clear hW8 hA8 HCA
  go_wp2_with (go_at_call 9; refine (num9 _ _).mono ?_; rintro e w' ⟨rfl, rfl⟩)
  refine HLA.out.mono ?_
  rintro e w9 ⟨pv, xv, lv, m0, m1, rfl, hlive, ho9, ⟨pa, pn, pc, rfl⟩, ⟨xa, xn, xc, rfl⟩, ⟨la, ln, lc, rfl⟩, ⟨ma, mn, mc, rfl⟩, ⟨na, nn, nc, rfl⟩⟩
  have hpg := hlive.now.1
  have HS9 := Lib.hid (HS8.out.step (HS8.out.1.off ho9 (by simp)) (Acc3.quiet ho9))
  have e1 : (dmf.lasts.take dmf.shp.pages) = [pgA t] := by
    rw [HE.out.2.2.2.2]
    have := HE.out.1
    cases h : dmf.lasts with
    | nil => rw [h] at this; simp at this
    | cons x xs => rw [h] at this; simp at this; rw [this]; rfl
  rw [e1] at hpg
  obtain ⟨vs, hown, hit⟩ := hpg
  obtain ⟨x, hx1, hx2⟩ := hit.2 0 (pgA t) rfl
  obtain ⟨yo, yc, rfl⟩ := hx2.val
  rw [pgA_len] at hx1 hx2
  obtain ⟨yb, yoff, rfl⟩ := hx2.base (by rw [pgA_len]; omega)
  have hpn : pn = 1 := by obtain ⟨_, _, e, _⟩ := hown.val; injection e
  subst hpn
  obtain ⟨pb, poff, rfl, hc0⟩ : ∃ pb poff, pa = some ⟨pb, poff, none⟩ ∧ w9.cell? ⟨pb, poff, none⟩ = some (.slice (some ⟨yb, yoff, none⟩) 40 yc) := by
    rcases hown.2 with ⟨e, h0⟩ | ⟨pb, poff, c, cur, e, _⟩
    · simp at h0
    · injection e with e1 _ e3
      subst e1; subst e3
      refine ⟨pb, poff, rfl, ?_⟩
      have q := Own.cellAt hown 0 (by simp)
      rw [Nat.add_zero, hx1] at q; exact q
  have b16 : (pgA t)[16]? = some 1 := by
    unfold pgA
    rw [stamp_mid _ _ _ _ (by rw [zA_len]; omega) 16 (by omega) (by rw [zA_len]; omega), List.getElem?_set_self (by unfold zA; rw [List.length_replicate]; omega)]
  have b0 : (pgA t)[0]? = some 1 := by unfold pgA; rw [stamp_first _ _ _ _ (by rw [zA_len]; omega)]; rfl
  have c16 : w9.cell? ⟨yb, yoff + 16, none⟩ = some (.int .u8 1) := by
    rw [hx2.cell 16 (by rw [pgA_len]; omega)]
    rw [List.getElem?_eq_getElem (by rw [pgA_len]; omega)] at b16
    injection b16 with b16; rw [b16]; rfl
  have c00 : w9.cell? ⟨yb, yoff, none⟩ = some (.int .u8 1) := by
    have q := hx2.cell 0 (by rw [pgA_len]; omega)
    rw [Nat.add_zero] at q
    rw [q]
    rw [List.getElem?_eq_getElem (by rw [pgA_len]; omega)] at b0
    injection b0 with b0; rw [b0]; rfl
  have n1 : pb < w9.heap.size := World.block_lt_of_cell? w9 _ hc0
  have n2 : yb < w9.heap.size := World.block_lt_of_cell? w9 _ c00
  have HFL : Hid (∀ W, Off [] w9 W → Calls Tryz.prog 48 #[.pointer (some ⟨g, 0, none⟩)] W fun e w' => e = .returned (.int .i64 35) ∧ Off [g] W w') := Lib.hid (fun W ho => by
    have q := flushed48 (HS9.out.1.1.2.1.off ho (by simp))
    rw [HNUM.out.2] at q
    exact q.mono (fun e w' h => ⟨h.1, h.2.2⟩))
  have hgl : g ∈ F8.l := by obtain ⟨_, _, _, _, _, hgf⟩ := HS9.out.1.1.2.1.tailAt; exact hgf
  have HAC : Hid (∀ W, Off [g] w9 W → Calls Tryz.prog 28 #[.pointer (some ⟨d, 0, none⟩)] W fun e w' => e = .returned (.int .i64 8) ∧ W = w') := Lib.hid (fun W ho => by
    have q := acts28 (HS9.out.1.1.1.off ho (fun z hz hz' => by simp at hz'; subst hz'; exact HS9.out.1.1.2.2 _ hz hgl))
    rw [HNUM.out.1] at q
    exact q)
  have HFIN : Hid (∀ W, Off [g] w9 W → P (.returned (.bool true)) W) := Lib.hid (fun W ho => by
    rw [HP.out]
    exact ⟨rfl, HS9.out.2.2.trans ho (fun z hz => .inr (by simp at hz; rw [hz]; exact HS9.out.2.1 g (by simp [hgl])))⟩)
  clear hown hit hx1 hx2 b16 b0 hlive ho9 e1 HLA
  go_wp2_with fail
  refine (HFL.out _ ((Off.refl [] w9).alloc _)).mono ?_
  rintro e wx ⟨rfl, hox⟩
  have HOX : Hid (Off [g] w9 wx) := Lib.hid (((Off.refl [g] w9).alloc _).trans hox (fun z hz => .inl hz))
  clear hox HFL hc0 c16 c00
  go_wp2_with fail
  refine (HAC.out wx HOX.out).mono ?_
  rintro e wy ⟨rfl, rfl⟩
  have HF := Lib.hid (HFIN.out _ HOX.out)
  clear HFIN HAC
  go_wp2_with fail
  first | exact HF.out | (go_ret; exact HF.out)
end Go.Proofs.YtfdgiblkllfpjaaGreatDoor

/- the laws' own: fitted, lent, whole, grown, full. -/
set_option linter.unusedVariables false
set_option linter.unusedSimpArgs false
namespace Go.Proofs.YtfdgiblkllfpjaaGreatDoor
open Go.ChangeShapes Go.WideShapes Go.ChangeAt Go.RowKit

theorem IsB.free {w : World} {g off n cap : Nat} {l : List UInt8} (h : IsB w (.slice (some ⟨g, off, none⟩) n cap) l) (o : Nat) : w.frozen? ⟨g, o, none⟩ = false := by
  have hn : n = l.length := by obtain ⟨a, c, e⟩ := h.val; injection e
  subst hn
  exact Own.unfrozen h o
def fitB (l : List UInt8) : List UInt8 := l.take 40 ++ List.replicate (40 - l.length) 0
theorem fitB_len (l : List UInt8) : (fitB l).length = 40 := by unfold fitB; rw [List.length_append, List.length_take, List.length_replicate]; omega
theorem newB (w : World) (n : Nat) (hn : n < 1000000) : IsB (w.alloc (.cells (Array.replicate n (.int .u8 0)) 5)) (.slice (some ⟨w.heap.size, 0, none⟩) n n) (List.replicate n 0) := by
  unfold IsB
  rw [List.length_replicate, bytesV_zeros]
  have q := Own.new w 5 1 (Array.replicate n (.int .u8 0)) n (by unfold maxLen; omega) (by simp)
  simpa using q
theorem fit_step (l : List UInt8) (k : Nat) (hk : k < 40) (hl : k < l.length) : (l.take k ++ List.replicate (40 - k) 0).set k l[k] = l.take (k + 1) ++ List.replicate (40 - (k + 1)) 0 := by
  have h1 : (l.take k).length = k := by rw [List.length_take]; omega
  rw [List.set_append_right _ _ (by omega), h1, Nat.sub_self, show 40 - k = (40 - (k + 1)) + 1 by omega, List.replicate_succ, List.set_cons_zero, List.take_succ_eq_append_getElem hl, List.append_assoc]; rfl
/-- Bytes that came in: they are read, no more. -/
def ReadB (w : World) (v : Value) (l : List UInt8) : Prop :=
  ∃ ao cap, v = .slice ao l.length cap ∧ ∀ k (hk : k < l.length), ∃ g off, ao = some ⟨g, off, none⟩ ∧ g < w.heap.size ∧ w.cell? ⟨g, off + k, none⟩ = some (bv l[k])
theorem ReadB.off {w w' : World} {v : Value} {l : List UInt8} (h : ReadB w v l) (ho : Off [] w w') : ReadB w' v l := by
  obtain ⟨ao, cap, e, hc⟩ := h
  refine ⟨ao, cap, e, fun k hk => ?_⟩
  obtain ⟨g, off, e1, e2, e3⟩ := hc k hk
  exact ⟨g, off, e1, Nat.lt_of_lt_of_le e2 ho.size, by rw [World.cell?_of_block (a := ⟨g, off + k, none⟩) (ho.old g e2 (by simp))]; exact e3⟩
theorem ReadB.val {w : World} {v : Value} {l : List UInt8} (h : ReadB w v l) : ∃ ao cap, v = .slice ao l.length cap := by obtain ⟨a, c, e, _⟩ := h; exact ⟨a, c, e⟩
theorem ReadB.cellAt {w : World} {ao : Option Addr} {n cap : Nat} {l : List UInt8} (h : ReadB w (.slice ao n cap) l) {k : Nat} (hk : k < l.length) : ∃ g off, ao = some ⟨g, off, none⟩ ∧ w.cell? ⟨g, off + k, none⟩ = some (bv l[k]) := by
  obtain ⟨ao', cap', e, hc⟩ := h
  injection e with e1 e2 e3
  subst e1
  obtain ⟨g, off, q1, _, q3⟩ := hc k hk
  exact ⟨g, off, q1, q3⟩
set_option maxRecDepth 100000 in
set_option maxHeartbeats 4000000 in
theorem fitted15 {w : World} {v : Value} {l : List UInt8} (h : ReadB w v l) (hm : l.length ≤ 140737488355328) : Calls Tryz.prog 15 #[v, .int .i64 1] w (FreshB w (fitB l)) := by
  obtain ⟨vo, vc, rfl⟩ := h.val
  have hmk : ∀ W, (Instr.makeSlice 22 (.int .i64 40) (.int .i64 40)).run Tryz.prog W = .ok (.slice (some ⟨W.heap.size, 0, none⟩) 40 40) (W.alloc (.cells (Array.replicate 40 (.int .u8 0)) 5)) := fun W => makeB 40 (by omega) W
  have HB := Lib.hid h
  obtain ⟨P, hP⟩ : ∃ P, P = FreshB w (fitB l) := ⟨_, rfl⟩
  rw [← hP]
  have HP := Lib.hid hP
  obtain ⟨W0, hW0⟩ : ∃ W0, W0 = w.alloc (.cells (Array.replicate 40 (.int .u8 0)) 5) := ⟨_, rfl⟩
  have HN : Hid (IsB W0 (.slice (some ⟨w.heap.size, 0, none⟩) 40 40) (List.replicate 40 0)) := Lib.hid (by rw [hW0]; exact newB w 40 (by omega))
  have HO : Hid (Off [] w W0) := Lib.hid (by rw [hW0]; exact (Off.refl [] w).alloc _)
  clear h hP
  generalize hn : l.length = n at *
  have HNL := Lib.hid hn
  clear hn
  go_enter Tryz.func15, Tryz.ntmps15
  go_wp2_with fail
  rw [← hW0]
  clear hmk hW0
  generalize hg : w.heap.size = g at *
  have HGE := Lib.hid hg
  clear hg
  go_loopw [6] (fun i wr => ∃ k : Nat, k ≤ 40 ∧ k ≤ n ∧ i = .int .i64 (k : Int) ∧ IsB wr (.slice (some ⟨g, 0, none⟩) 40 40) (l.take k ++ List.replicate (40 - k) 0) ∧ Off [g] W0 wr) (fun i _ => 40 - (intOf i).toNat)
  case atStart => exact ⟨0, by omega, by omega, rfl, by simpa using HN.out, Off.refl _ _⟩
  case round =>
    obtain ⟨k, hk, hkn, rfl, hb, ho⟩ := hrel
    have HI := Lib.hid (And.intro hb ho)
    have hend : (k = 40 ∨ k = n) → P (.returned (.slice (some ⟨g, 0, none⟩) 40 40)) wr := fun hc => by
      rw [HP.out]
      have e : l.take k ++ List.replicate (40 - k) 0 = fitB l := by
        unfold fitB
        rw [HNL.out]
        rcases hc with rfl | rfl
        · rw [Nat.sub_self]
          have : 40 - n = 0 := by omega
          rw [this]
        · rw [List.take_of_length_le (by rw [HNL.out]; exact Nat.le_refl _), List.take_of_length_le (by rw [HNL.out]; omega)]
      refine ⟨some ⟨g, 0, none⟩, 40, by rw [fitB_len], by rw [fitB_len, ← e]; exact HI.out.1, HO.out.trans HI.out.2 (fun z hz => .inr (by simp at hz; rw [hz, HGE.out]; exact Nat.le_refl _)), fun z hz => by rw [fitB_len] at hz; simp [blk] at hz; rw [hz, HGE.out]; exact Nat.le_refl _⟩
    have HE := Lib.hid hend
    clear hend hb ho
    by_cases h40 : k < 40
    · by_cases hkl : k < n
      · have hlv : k < l.length := by rw [HNL.out]; exact hkl
        obtain ⟨vb, voff, rfl, c1⟩ := (HB.out.off (HO.out.trans HI.out.2 (fun z hz => .inr (by simp at hz; rw [hz, HGE.out]; exact Nat.le_refl _)))).cellAt hlv
        have c2 : wr.cell? ⟨g, 0 + k, none⟩ = some (bv ((l.take k ++ List.replicate (40 - k) 0)[k]'(by rw [List.length_append, List.length_take, List.length_replicate]; omega))) := HI.out.1.cell k (by rw [List.length_append, List.length_take, List.length_replicate]; omega)
        rw [Nat.zero_add] at c2
        have cf := fun o => HI.out.1.free o
        have HSET : Hid (IsB (wr.setCell ⟨g, k, none⟩ (bv l[k])) (.slice (some ⟨g, 0, none⟩) 40 40) (l.take (k + 1) ++ List.replicate (40 - (k + 1)) 0)) := Lib.hid (by
          have q := HI.out.1.put k l[k]
          rw [fit_step l k h40 hlv, Nat.zero_add] at q; exact q)
        have HOS : Hid (Off [g] W0 (wr.setCell ⟨g, k, none⟩ (bv l[k]))) := Lib.hid (HI.out.2.setCell (.inl (by simp)) _)
        clear HB
        unfold bv at c1 c2 HSET HOS
        generalize ((l[k].toNat : Nat) : Int) = bk at *
        generalize (((l.take k ++ List.replicate (40 - k) 0)[k]'_).toNat : Int) = bo at *
        go_wp2_with fail
        go_roundw
        case rel => exact ⟨k + 1, by omega, by omega, by go_num, HSET.out, HOS.out⟩
        case measure => simp [intOf]; omega
      · have hF := HE.out (.inr (by omega))
        have HF := Lib.hid hF
        clear hF HE
        go_wp2_with fail
        first | exact HF.out | (go_ret; exact HF.out)
    · have hF := HE.out (.inl (by omega))
      have HF := Lib.hid hF
      clear hF HE
      go_wp2_with fail
      first | exact HF.out | (go_ret; exact HF.out)
end Go.Proofs.YtfdgiblkllfpjaaGreatDoor
