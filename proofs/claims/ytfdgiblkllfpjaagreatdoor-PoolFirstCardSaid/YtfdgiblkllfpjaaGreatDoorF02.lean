/- PoolFirst: a disk that a crash left, repaired, plainly. -/
import Derived.Test.YtfdgiblkllfpjaaGreatDoorF01
set_option linter.unusedVariables false
set_option linter.unusedSimpArgs false
namespace Go.Proofs.YtfdgiblkllfpjaaGreatDoor
open Go.ChangeShapes Go.WideShapes Go.ChangeAt Go.RowKit

/-- The grounds of a disk that a crash left; L: how far its log goes. -/
structure LeftJ (t : Nat → Nat) (N : Nat) (wf : Nat → List (List UInt8)) (L : Nat) (pb : List UInt8) (m : DiskM) : Prop where
  small : N ≤ 15
  live : m.live
  shp : m.shp = ⟨N, 1, 65536⟩
  fit : m.fit
  loose : m.loose = []
  page : ∀ n, n < N → ∃ b, m.reads[n]? = some b ∧ b.length = 40 ∧ ∀ z, pageCheck t b (n : Int) 1 = some z → z ≤ L
  pair : m.reads[N]? = some pb ∧ pb.length = 56
  parse : ∀ k c y, parseM t N pb = some (k, c, y) → y ≤ L ∧ c ∈ wf k
  back : ∀ n, n < N → (∃ b, m.reads[n]? = some b ∧ b ∈ wf n) ∨ ∃ c y, parseM t N pb = some (n, c, y)
section
variable {t : Nat → Nat} {N L : Nat} {wf : Nat → List (List UInt8)} {pb : List UInt8} {m : DiskM}
theorem LeftI.grounds {ids : List Nat} {part : List UInt8} (h : LeftI t N wf ids part m) : ∃ pb, LeftJ t N wf (34 * ids.length) pb m := by
  obtain ⟨pb, h1, h2, h3, h4⟩ := h.pair
  exact ⟨pb, ⟨h.small, h.live, h.shp, h.fit, h.loose, (by rw [h.same]; exact h.page), (by rw [h.same]; exact ⟨h1, h2⟩), h3, (by rw [h.same]; exact h4)⟩⟩
theorem LeftJ.act (h : LeftJ t N wf L pb m) : LeftJ t N wf L pb m.act := by
  obtain ⟨e1, e2, e3, e4, e5, e6, e7⟩ := m.act_fields
  exact ⟨h.small, h.live.act.1, e1.trans h.shp, DiskM.act_fit h.fit, e4.trans h.loose, by rw [e3]; exact h.page, by rw [e3]; exact h.pair, h.parse, by rw [e3]; exact h.back⟩
theorem LeftJ.size (h : LeftJ t N wf L pb m) : ∀ n, n < N → m.shp.sizeB n = 40 := fun i hi => by rw [h.shp]; unfold Shp.sizeB Shp.pageB; simp only; rw [if_pos hi]
/-- The pages, each one that it was. -/
def Mended (N : Nat) (wf : Nat → List (List UInt8)) (m : DiskM) : Prop := m.live ∧ m.shp = ⟨N, 1, 65536⟩ ∧ ∀ n, n < N → ∃ b, m.reads[n]? = some b ∧ b.length = 40 ∧ b ∈ wf n
theorem Mended.act (h : Mended N wf m) : Mended N wf m.act := by
  obtain ⟨e1, e2, e3, _⟩ := m.act_fields
  exact ⟨h.1.act.1, e1.trans h.2.1, by rw [e3]; exact h.2.2⟩
theorem parse_len {n : Nat} {c : List UInt8} {y : Nat} (hl : pb.length = 56) (h : parseM t N pb = some (n, c, y)) : c.length = 40 ∧ n < N := by
  obtain ⟨h1, h2, _⟩ := parse_inv hl h
  exact ⟨by rw [h2, List.length_drop, hl], h1⟩
theorem LeftJ.repair (h : LeftJ t N wf L pb m) {n : Nat} {c : List UInt8} {y : Nat} (hp : parseM t N pb = some (n, c, y)) : Mended N wf ((m.put n c).sync) := by
  obtain ⟨c40, hn⟩ := parse_len h.pair.2 hp
  obtain ⟨b0, p1, p2, _⟩ := h.page n hn
  have hla := laid_at (l := c) p1 (by rw [p2, c40])
  have a := m.put_fields n c
  have b := (m.put n c).sync_fields
  refine ⟨(h.live.put n c).1.sync.1, b.1.trans (a.1.trans h.shp), fun i hi => ?_⟩
  rw [b.2.2.1, a.2.2.1, hla]
  by_cases e : i = n
  · subst e; rw [if_pos rfl]; exact ⟨c, rfl, c40, (h.parse _ _ _ hp).2⟩
  · rw [if_neg e]
    obtain ⟨b1, q1, q2, _⟩ := h.page i hi
    rcases h.back i hi with ⟨b2, q3, q4⟩ | ⟨c', y', q3⟩
    · rw [q1] at q3; injection q3 with q3; subst q3; exact ⟨b1, q1, q2, q4⟩
    · rw [hp] at q3; injection q3 with q3; simp only [Prod.mk.injEq] at q3; exact absurd q3.1.symm e
theorem LeftJ.rest (h : LeftJ t N wf L pb m) (hp : parseM t N pb = none) : Mended N wf m := by
  refine ⟨h.live, h.shp, fun i hi => ?_⟩
  obtain ⟨b1, q1, q2, _⟩ := h.page i hi
  rcases h.back i hi with ⟨b2, q3, q4⟩ | ⟨c', y', q3⟩
  · rw [q1] at q3; injection q3 with q3; subst q3; exact ⟨b1, q1, q2, q4⟩
  · rw [hp] at q3; cases q3
theorem LeftJ.cleared (h : LeftJ t N wf L pb m) (hp : parseM t N pb = none) (z : List UInt8) : Mended N wf ((m.put N z).sync) := by
  obtain ⟨_, _, hr⟩ := h.rest hp
  have a := m.put_fields N z
  have b := (m.put N z).sync_fields
  refine ⟨(h.live.put N z).1.sync.1, b.1.trans (a.1.trans h.shp), fun i hi => ?_⟩
  rw [b.2.2.1, a.2.2.1]
  unfold laid
  rw [List.getElem?_set_ne (by omega)]
  exact hr i hi
end
end Go.Proofs.YtfdgiblkllfpjaaGreatDoor

/- pair: Page, Number, Lsn, Parse. -/
set_option linter.unusedVariables false
set_option linter.unusedSimpArgs false
namespace Go.Proofs.YtfdgiblkllfpjaaGreatDoor
open Go.ChangeShapes Go.WideShapes Go.ChangeAt Go.RowKit

/-- The rest of the bytes from i on, of a pair's bytes. -/
theorem IsB.cutP {w : World} {v : Value} {l : List UInt8} (h : IsB w v l) (i : Nat) (hi : i ≤ l.length) :
    ∃ ao cap, IsB w (.slice ao (l.length - i) cap) (l.drop i) ∧ blk (.slice ao (l.length - i) cap) = blk v ∧ ∀ (W : World) (x : Int), x = i → (Instr.slice 218 v (some (.int .i64 x)) none none).run Tryz.prog W = .ok (.slice ao (l.length - i) cap) W := by
  obtain ⟨ao, cap, h1, h2, h3, h4, h5⟩ := Own.cut h Tryz.underlying218 isize5 i l.length hi (Nat.le_refl _)
  refine ⟨ao, cap, ?_, h2, fun W x hx => h4 rfl W x hx⟩
  unfold IsB
  rw [List.length_drop]
  have e : bytesV (l.drop i) = ((bytesV l).drop (i * 1)).take ((l.length - i) * 1) := by
    have hb := bytesV_len l
    unfold bytesV at hb ⊢
    rw [List.map_drop, Nat.mul_one, Nat.mul_one, List.take_of_length_le (by rw [List.length_drop]; omega)]
  rw [e]; exact h1
section
set_option maxRecDepth 100000
set_option maxHeartbeats 2000000
theorem pairPage161 (v : Value) (pb : List UInt8) (w : World) (h : IsB w v pb) (hl : pb.length = 56) : Calls Tryz.prog 161 #[v] w (FreshB w (pb.drop 16)) := by
  obtain ⟨vo, vc, rfl⟩ := h.val
  obtain ⟨ao, cap, b1, b2, b3⟩ := h.cutP 16 (by omega)
  have HC : Hid (∀ W, Off [] w W → Calls Tryz.prog 219 #[.slice ao (pb.length - 16) cap] W (FreshB W (pb.drop 16))) := Lib.hid (fun W ho => clone219 _ _ W (b1.off ho (by simp)) (by rw [List.length_drop]; omega))
  have q2 : ∀ W, (Instr.slice 218 (.slice vo pb.length vc) (some (.int .i64 16)) none none).run Tryz.prog W = .ok (.slice ao (pb.length - 16) cap) W := fun W => b3 W 16 rfl
  have hn : ¬ ((pb.length : Int) ≤ 16) := by omega
  obtain ⟨P, hP⟩ : ∃ P, P = FreshB w (pb.drop 16) := ⟨_, rfl⟩
  rw [← hP]
  have HP := Lib.hid hP
  have hdl : (pb.drop 16).length = 40 := by rw [List.length_drop, hl]
  have HDL := Lib.hid hdl
  clear h b1 b2 b3 hl hP hdl
  generalize pb.drop 16 = c at *
  generalize pb.length - 16 = k at *
  generalize pb.length = n at *
  go_enter Tryz.func161, Tryz.ntmps161
  go_wp2_with fail
  refine (HC.out _ (Off.refl _ _)).mono ?_
  rintro e w1 ⟨bo, bc, rfl, x1, x2, x3⟩
  have HF : Hid (P (.returned (.slice bo c.length bc)) w1) := Lib.hid (by rw [HP.out]; exact ⟨bo, bc, rfl, x1, x2, x3⟩)
  clear x1 x2 x3 HC
  go_wp2_with fail
  first | exact HF.out | (go_ret; exact HF.out)
theorem pairNumber162 (v : Value) (pb : List UInt8) (w : World) (h : IsB w v pb) (hl : pb.length = 56) : Calls Tryz.prog 162 #[v] w fun e w' => e = .returned (.int .i64 (num8 ((pb.drop 8).take 4) : Nat)) ∧ w = w' := by
  obtain ⟨vo, vc, rfl⟩ := h.val
  obtain ⟨ao, cap, b1, b2, b3⟩ := h.cutP 8 (by omega)
  have hg : getN 4 (pb.drop 8) = num8 ((pb.drop 8).take 4) := by unfold getN; rw [if_neg (by rw [List.length_drop]; omega)]
  have hge : getE 4 (pb.drop 8) = 0 := by unfold getE; rw [if_neg (by rw [List.length_drop]; omega)]
  have HG := Lib.hid (get129 _ (pb.drop 8) w b1 (by rw [List.length_drop]; omega))
  rw [hg, hge] at HG
  have q2 : ∀ W, (Instr.slice 218 (.slice vo pb.length vc) (some (.int .i64 8)) none none).run Tryz.prog W = .ok (.slice ao (pb.length - 8) cap) W := fun W => b3 W 8 rfl
  have hlt : num8 ((pb.drop 8).take 4) < 4294967296 := by
    have := num8_lt ((pb.drop 8).take 4)
    rw [List.length_take, List.length_drop, hl] at this
    exact Nat.lt_of_lt_of_le this (by decide)
  obtain ⟨x, hx⟩ : ∃ x, x = num8 ((pb.drop 8).take 4) := ⟨_, rfl⟩
  rw [← hx] at HG hlt ⊢
  have hw : IntKind.i64.wrap (x : Int) = (x : Int) := by rw [IntKind.wrap_i64]; omega
  have hn : ¬ ((pb.length : Int) < 12) := by omega
  clear h b1 b2 b3 hl hx hlt hg hge
  generalize pb.length - 8 = k at *
  generalize pb.length = n at *
  go_enter Tryz.func162, Tryz.ntmps162
  go_wp2_with fail
  refine HG.out.mono ?_
  rintro e w1 ⟨rfl, rfl⟩
  go_wp2_with fail
  go_ret
  exact ⟨rfl, rfl⟩
/-- The LSN in a pair's head, as it is told. -/
def headLsn (pb : List UInt8) : Nat := if num8 (pb.take 8) ≤ 1152921504606846976 then num8 (pb.take 8) else 0
theorem pairLsn163 (v : Value) (pb : List UInt8) (w : World) (h : IsB w v pb) (hl : pb.length = 56) : Calls Tryz.prog 163 #[v] w fun e w' => e = .returned (.int .i64 (headLsn pb : Nat)) ∧ w = w' := by
  obtain ⟨vo, vc, rfl⟩ := h.val
  have hg : getN 8 pb = num8 (pb.take 8) := by unfold getN; rw [if_neg (by omega)]
  have hge : getE 8 pb = 0 := by unfold getE; rw [if_neg (by omega)]
  have HG := Lib.hid (get128 _ pb w h (by omega))
  rw [hg, hge] at HG
  unfold headLsn
  by_cases hx0 : num8 (pb.take 8) ≤ 1152921504606846976
  · rw [if_pos hx0]
    obtain ⟨x, hx⟩ : ∃ x, x = num8 (pb.take 8) := ⟨_, rfl⟩
    rw [← hx] at HG hx0 ⊢
    have hw : IntKind.i64.wrap (x : Int) = (x : Int) := by rw [IntKind.wrap_i64]; omega
    have hd : ¬ ((x : Int) > 1152921504606846976) := by omega
    have hd2 : ¬ (1152921504606846976 < (x : Int)) := by omega
    clear h hl hx hg hge hx0
    generalize pb.length = n at *
    go_enter Tryz.func163, Tryz.ntmps163
    go_wp2_with fail
    refine HG.out.mono ?_
    rintro e w1 ⟨rfl, rfl⟩
    go_wp2_with fail
    go_ret
    exact ⟨rfl, rfl⟩
  · rw [if_neg hx0]
    obtain ⟨x, hx⟩ : ∃ x, x = num8 (pb.take 8) := ⟨_, rfl⟩
    rw [← hx] at HG hx0
    have hd : ((x : Int) > 1152921504606846976) := by omega
    have hd2 : (1152921504606846976 < (x : Int)) := by omega
    clear h hl hx hg hge hx0
    generalize pb.length = n at *
    go_enter Tryz.func163, Tryz.ntmps163
    go_wp2_with fail
    refine HG.out.mono ?_
    rintro e w1 ⟨rfl, rfl⟩
    go_wp2_with fail
    go_ret
    exact ⟨rfl, rfl⟩
end
/-- What Parse answers. -/
def ParsePost (w : World) (o : Option (Nat × List UInt8 × Nat)) (e : Ending) (w' : World) : Prop :=
  match o with
  | none => e = .returned (.tuple #[.int .i64 0, .slice none 0 0, .int .i64 130]) ∧ Off [] w w'
  | some (n, c, z) => ∃ ao cap, e = .returned (.tuple #[.int .i64 (n : Nat), .slice ao 40 cap, .int .i64 0]) ∧ IsB w' (.slice ao 40 cap) c ∧ Off [] w w' ∧ ∀ y ∈ blk (.slice ao 40 cap), w.heap.size ≤ y
theorem parse_head {t : Nat → Nat} {N : Nat} {pb : List UInt8} {n z : Nat} {c : List UInt8} (hl : pb.length = 56) (h : parseM t N pb = some (n, c, z)) : headLsn pb = z ∧ pageCheck t (pb.drop 16) (num8 ((pb.drop 8).take 4) : Nat) 1 = some z ∧ n = num8 ((pb.drop 8).take 4) ∧ c = pb.drop 16 ∧ n < N ∧ 1 ≤ z := by
  obtain ⟨h1, h2, h3, h4, h5, h6, h7, h8⟩ := parse_inv hl h
  have hz : z ≤ 1152921504606846976 := by
    rcases (check_inv h8).2 with ⟨_, e⟩ | ⟨e, _⟩
    · omega
    · exact pageLsn_le e
  refine ⟨by unfold headLsn; rw [← h5, if_pos hz], by rw [← h2, ← h3]; exact h8, h3, h2, h1, h4⟩
theorem parse_none {t : Nat → Nat} {N : Nat} {pb : List UInt8} {z : Nat} (h : parseM t N pb = none) (hc : pageCheck t (pb.drop 16) (num8 ((pb.drop 8).take 4) : Nat) 1 = some z) : N ≤ num8 ((pb.drop 8).take 4) ∨ z < 1 ∨ z ≠ headLsn pb := by
  unfold parseM at h
  rw [hc] at h
  simp only at h
  split at h
  · cases h
  · rename_i hn
    by_cases h1 : num8 ((pb.drop 8).take 4) < N
    · by_cases h2 : 1 ≤ z
      · refine .inr (.inr (fun e => hn ⟨h1, h2, ?_⟩))
        unfold headLsn at e
        split at e
        · exact e
        · omega
      · exact .inr (.inl (by omega))
    · exact .inl (by omega)
end Go.Proofs.YtfdgiblkllfpjaaGreatDoor

/- pair: Parse, the walk; among. -/
set_option linter.unusedVariables false
set_option linter.unusedSimpArgs false
namespace Go.Proofs.YtfdgiblkllfpjaaGreatDoor
open Go.ChangeShapes Go.WideShapes Go.ChangeAt Go.RowKit

set_option maxRecDepth 100000 in
set_option maxHeartbeats 4000000 in
theorem parse107 {t : Nat → Nat} (v : Value) (pb : List UInt8) (w : World) (ht : Tbl t w) (h : IsB w v pb) (hl : pb.length = 56) (N : Nat) (hN : N ≤ 15) :
    Calls Tryz.prog 107 #[v, .int .i64 (N : Nat), .int .i64 1] w (ParsePost w (parseM t N pb)) := by
  obtain ⟨vo, vc, rfl⟩ := h.val
  have HPG := Lib.hid (pairPage161 _ pb w h hl)
  have HNU : Hid (∀ W, Off [] w W → Calls Tryz.prog 162 #[.slice vo pb.length vc] W fun e w' => e = .returned (.int .i64 (num8 ((pb.drop 8).take 4) : Nat)) ∧ W = w') := Lib.hid (fun W ho => pairNumber162 _ pb W (h.off ho (by simp)) hl)
  have HLS : Hid (∀ W, Off [] w W → Calls Tryz.prog 163 #[.slice vo pb.length vc] W fun e w' => e = .returned (.int .i64 (headLsn pb : Nat)) ∧ W = w') := Lib.hid (fun W ho => pairLsn163 _ pb W (h.off ho (by simp)) hl)
  have hcl : (pb.drop 16).length = 40 := by rw [List.length_drop]; omega
  have HCK : Hid (∀ W v, Off [] w W → IsB W v (pb.drop 16) → Calls Tryz.prog 64 #[v, .int .i64 (num8 ((pb.drop 8).take 4) : Nat), .int .i64 1] W (CheckPost W (pageCheck t (pb.drop 16) (num8 ((pb.drop 8).take 4) : Nat) 1))) := Lib.hid (fun W v ho hb => check64 v (pb.drop 16) _ 1 W (ht.off ho (by simp)) hb (by omega))
  obtain ⟨P, hP⟩ : ∃ P, P = ParsePost w (parseM t N pb) := ⟨_, rfl⟩
  rw [← hP]
  have HSO : Hid (∀ n c z, parseM t N pb = some (n, c, z) → headLsn pb = z ∧ pageCheck t (pb.drop 16) (num8 ((pb.drop 8).take 4) : Nat) 1 = some z ∧ n = num8 ((pb.drop 8).take 4) ∧ c = pb.drop 16 ∧ n < N ∧ 1 ≤ z) := Lib.hid (fun n c z hh => parse_head hl hh)
  have HNO : Hid (parseM t N pb = none → ∀ z, pageCheck t (pb.drop 16) (num8 ((pb.drop 8).take 4) : Nat) 1 = some z → N ≤ num8 ((pb.drop 8).take 4) ∨ z < 1 ∨ z ≠ headLsn pb) := Lib.hid (fun hh z hc => parse_none hh hc)
  have HP := Lib.hid hP
  have HCL := Lib.hid hcl
  clear h hl ht hP hcl
  generalize num8 ((pb.drop 8).take 4) = nm at *
  generalize headLsn pb = hd at *
  generalize pb.drop 16 = c at *
  generalize hpm : parseM t N pb = pm at *
  clear hpm
  generalize pb.length = n at *
  go_enter Tryz.func107, Tryz.ntmps107
  go_wp2_with fail
  refine HPG.out.mono ?_
  rintro e w1 ⟨ao, cap, rfl, x1, x2, x3⟩
  rw [HCL.out] at x1 x3 ⊢
  have HX := Lib.hid (And.intro x1 (And.intro x2 x3))
  clear x1 x2 x3 HPG
  go_wp2_with fail
  refine (HNU.out w1 HX.out.2.1).mono ?_
  rintro e w1' ⟨rfl, rfl⟩
  have HC1 := Lib.hid (HCK.out w1 _ HX.out.2.1 HX.out.1)
  clear HCK HNU
  unfold CheckPost at HC1
  generalize hpc : pageCheck t c (nm : Int) 1 = o at *
  clear hpc
  go_wp2_with fail
  refine HC1.out.mono ?_
  rintro e w2 ⟨rfl, o2⟩
  have HX2 : Hid (IsB w2 (.slice ao 40 cap) c ∧ Off [] w w2 ∧ ∀ z ∈ blk (.slice ao 40 cap), w.heap.size ≤ z) := Lib.hid ⟨HX.out.1.off o2 (by simp), HX.out.2.1.trans o2 (by simp), HX.out.2.2⟩
  have HL2 := Lib.hid (HLS.out w2 HX2.out.2.1)
  clear o2 HC1 HX HLS
  have HBAD : Hid (pm = none → P (.returned (.tuple #[.int .i64 0, .slice none 0 0, .int .i64 130])) w2) := Lib.hid (fun hh => by rw [HP.out, hh]; exact ⟨rfl, HX2.out.2.1⟩)
  cases pm with
  | none =>
    have HF := Lib.hid (HBAD.out rfl)
    cases o with
    | none =>
      have e1 : errOf (none : Option Nat) 40 = 40 := rfl
      rw [e1]
      go_wp2_with fail
      first | exact HF.out | (go_ret3; exact HF.out)
    | some z =>
      have e1 : errOf (some z) 40 = 0 := rfl
      have e2 : (some z).getD 0 = z := rfl
      rw [e1, e2]
      rcases HNO.out rfl z rfl with q | q | q
      · have hg : (nm : Int) ≥ (N : Int) := by omega
        have hg2 : (N : Int) ≤ (nm : Int) := by omega
        go_wp2_with fail
        first | exact HF.out | (go_ret3; exact HF.out)
      · have hg : (z : Int) < 1 := by omega
        by_cases hn : (N : Int) ≤ (nm : Int)
        · go_wp2_with fail
          first | exact HF.out | (go_ret3; exact HF.out)
        · go_wp2_with fail
          first | exact HF.out | (go_ret3; exact HF.out)
      · have hg : ((z : Int) != (hd : Int)) = true := by rw [bne_iff_ne]; omega
        by_cases hn : (N : Int) ≤ (nm : Int)
        · go_wp2_with fail
          first | exact HF.out | (go_ret3; exact HF.out)
        · by_cases hz : (z : Int) < 1
          · go_wp2_with fail
            first | exact HF.out | (go_ret3; exact HF.out)
          · go_wp2_with (go_at_call 163; refine HL2.out.mono ?_; rintro e w' ⟨rfl, rfl⟩)
            first | exact HF.out | (go_ret3; exact HF.out)
  | some r =>
    obtain ⟨m, c', z⟩ := r
    obtain ⟨r1, r2, r3, r4, r5, r6⟩ := HSO.out m c' z rfl
    subst r1; subst r2; subst r3; subst r4
    have e1 : errOf (some hd) 40 = 0 := rfl
    have e2 : (some hd).getD 0 = hd := rfl
    rw [e1, e2]
    have HF : Hid (P (.returned (.tuple #[.int .i64 (m : Nat), .slice ao 40 cap, .int .i64 0])) w2) := Lib.hid (by rw [HP.out]; exact ⟨ao, cap, rfl, HX2.out.1, HX2.out.2.1, HX2.out.2.2⟩)
    have hn : ¬ ((N : Int) ≤ (m : Int)) := by omega
    have hn2 : ¬ ((m : Int) ≥ (N : Int)) := by omega
    have hz : ¬ ((hd : Int) < 1) := by omega
    clear r5 r6 HSO HNO HBAD
    go_wp2_with (go_at_call 163; refine HL2.out.mono ?_; rintro e w' ⟨rfl, rfl⟩)
    first | exact HF.out | (go_ret3; exact HF.out)
theorem strB_list (a : List UInt8) : (strB a).toList = a := by
  unfold strB
  simp
theorem strB_beq (a b : List UInt8) : ((strB a).toList == (strB b).toList) = decide (a = b) := by
  rw [strB_list, strB_list]
  cases h : (a == b) <;> simp_all
theorem strB_inj {a b : List UInt8} (h : strB a = strB b) : a = b := by
  unfold strB at h
  simpa using h
set_option maxRecDepth 100000 in
set_option maxHeartbeats 4000000 in
/-- Has the page ever been this? It has. -/
theorem among110 {w : World} {v : Value} {ls : List (List UInt8)} {b : List UInt8} (h : StrsAt w v ls) (hb : b ∈ ls) :
    Calls Tryz.prog 110 #[v, .string (strB b)] w fun e w' => e = .returned (.bool true) ∧ Off [] w w' := by
  have h0 := h
  have hm : ls.length ≤ 9223372036854775807 := by
    rcases h.2 with ⟨_, e0⟩ | ⟨_, _, _, _, _, _, q1, q2, _⟩
    · omega
    · have : maxLen = 9223372036854775807 := by decide
      omega
  obtain ⟨so, sc, rfl, _⟩ := Own.val h
  have HC : Hid (∀ k x, ls[k]? = some x → ∃ sb soff, so = some ⟨sb, soff, none⟩ ∧ w.cell? ⟨sb, soff + k, none⟩ = some (.string (strB x))) := Lib.hid (fun k x hk => by
    have hk1 := (List.getElem?_eq_some_iff.1 hk).1
    rcases h0.2 with ⟨q, e0⟩ | ⟨sb, soff, sc', cur, q, hc, _⟩
    · omega
    · injection q with q1 _ q3
      subst q1; subst q3
      refine ⟨sb, soff, rfl, ?_⟩
      rw [Own.cellAt h k (by omega)]
      unfold strsV
      rw [List.getElem?_map, hk]; rfl)
  obtain ⟨P, hP⟩ : ∃ P : Ending → World → Prop, P = fun e w' => e = .returned (.bool true) ∧ Off [] w w' := ⟨_, rfl⟩
  rw [← hP]
  have HF : Hid (P (.returned (.bool true)) w) := Lib.hid (by rw [hP]; exact ⟨rfl, Off.refl _ _⟩)
  have HB := Lib.hid (And.intro hb hm)
  clear hP h h0 hb hm
  generalize hn : ls.length = n at *
  have HN := Lib.hid hn
  clear hn
  go_enter Tryz.func110, Tryz.ntmps110
  go_wp2_with fail
  go_loopw [5] (fun i wr => ∃ k : Nat, k ≤ n ∧ i = .int .i64 (k : Int) ∧ w = wr ∧ b ∉ ls.take k) (fun i _ => n - (intOf i).toNat)
  case atStart => exact ⟨0, by omega, rfl, rfl, by simp⟩
  case round =>
    obtain ⟨k, hk, rfl, rfl, hnot⟩ := hrel
    have HNOT := Lib.hid hnot
    clear hnot
    by_cases hkn : k < n
    · have hkn' : (k : Int) < (n : Int) := by omega
      have hk0 : (0 : Int) ≤ (k : Int) := by omega
      obtain ⟨x, hx⟩ : ∃ x, ls[k]? = some x := ⟨_, List.getElem?_eq_getElem (by rw [HN.out]; exact hkn)⟩
      obtain ⟨sb, soff, rfl, hc⟩ := HC.out k _ hx
      have HX := Lib.hid hx
      clear hx
      by_cases he : strB x = strB b
      · have hb : ((strB x).toList == (strB b).toList) = true := by rw [strB_beq]; exact decide_eq_true (strB_inj he)
        rw [he] at hc
        go_wp2_with fail
        first | exact HF.out | (go_ret; exact HF.out)
      · have hb : ((strB x).toList == (strB b).toList) = false := by rw [strB_beq]; exact decide_eq_false (fun q => he (by rw [q]))
        have HNE : Hid (x ≠ b) := Lib.hid (fun q => he (by rw [q]))
        have hkb : (k : Int) < 9223372036854775807 := by have := HB.out.2; omega
        go_wp2_with fail
        go_roundw
        case rel =>
          refine ⟨k + 1, by omega, by go_num, by trivial, ?_⟩
          rw [List.take_add_one, HX.out]
          simp only [Option.toList_some, List.mem_append, List.mem_singleton, not_or]
          exact ⟨HNOT.out, fun e => HNE.out e.symm⟩
        case measure => simp [intOf]; omega
    · obtain rfl : k = n := by omega
      refine absurd HB.out.1 ?_
      have := HNOT.out
      rwa [List.take_of_length_le (by rw [HN.out]; exact Nat.le_refl _)] at this
end Go.Proofs.YtfdgiblkllfpjaaGreatDoor

/- scan: the range over a log that ends within a frame. -/
set_option linter.unusedVariables false
set_option linter.unusedSimpArgs false
namespace Go.Proofs.YtfdgiblkllfpjaaGreatDoor
open Go.ChangeShapes Go.WideShapes Go.ChangeAt Go.RowKit

/-- A part of a frame: not even its length, or less than it tells. -/
def Short (part : List UInt8) : Prop := part.length < 4 ∨ (getN 4 part = 18 ∧ 4 ≤ part.length ∧ part.length < 34)
theorem short_part {t : Nat → Nat} {lsn x : Nat} {part : List UInt8} (h : part.length < 34) (hp : part = (frameB t lsn (beginB x)).take part.length) : Short part := by
  by_cases h4 : part.length < 4
  · exact .inl h4
  · refine .inr ⟨?_, by omega, h⟩
    unfold getN
    rw [if_neg h4]
    have e : part.take 4 = le 4 18 := by
      rw [hp, List.take_take, Nat.min_eq_left (by omega)]
      unfold frameB frameHead
      have h0 := le_len 4 (beginB x).length
      simp only [List.append_assoc]
      rw [List.take_append_of_le_length (by omega), List.take_of_length_le (by omega), beginB_len]
    rw [e]; exact num8_le 4 18 (by decide)
theorem short_nil : Short [] := .inl (by simp)
set_option maxRecDepth 100000 in
set_option maxHeartbeats 2000000 in
theorem open222_short (v : Value) (part : List UInt8) (lsn : Nat) (w : World) (h : IsB w v part) (hp : Short part) (h1 : 1 ≤ lsn) (h2 : lsn ≤ 1152921504606846976) :
    Calls Tryz.prog 222 #[v, .int .i64 (lsn : Int)] w fun e w' => e = .returned (.tuple #[.slice none 0 0, .int .i64 0, .int .i64 80]) ∧ Off [] w w' := by
  have hlt : part.length < 34 := by rcases hp with q | q <;> omega
  have HG := Lib.hid (get129 v part w h (by omega))
  have HI : Hid (∀ W, Calls Tryz.prog 122 #[.int .i64 (lsn : Int)] W fun e w' => e = .returned (.bool true) ∧ W = w') := Lib.hid (fun W => by
    have q := isLsn122 (lsn : Int) W
    rw [decide_eq_true (by omega)] at q; exact q)
  obtain ⟨vo, vc, rfl⟩ := h.val
  rcases hp with q | ⟨q, q4, _⟩
  · have e1 : getN 4 part = 0 := by unfold getN; rw [if_pos q]
    have e2 : getE 4 part = 10 := by unfold getE; rw [if_pos q]
    rw [e1, e2] at HG
    have HS : Hid (∀ W, Calls Tryz.prog 121 #[.int .i64 0] W fun e w' => e = .returned (.int .i64 0) ∧ W = w') := Lib.hid (fun W => size121 0 W)
    clear h h1 h2 q e1 e2 hlt
    generalize part.length = pl at *
    go_enter Tryz.func222, Tryz.ntmps222
    go_wp2_with fail
    refine HG.out.mono ?_
    rintro e w1 ⟨rfl, rfl⟩
    go_wp2_with fail
    refine (HS.out _).mono ?_
    rintro e w1 ⟨rfl, rfl⟩
    go_wp2_with fail
    refine (HI.out _).mono ?_
    rintro e w1 ⟨rfl, rfl⟩
    go_wp2_with fail
    go_ret3
    exact ⟨rfl, by first | exact Off.refl _ _ | exact (Off.refl _ _).drew | exact (Off.refl _ _).drewN _⟩
  · have e2 : getE 4 part = 0 := by unfold getE; rw [if_neg (by omega)]
    rw [q, e2] at HG
    have HS : Hid (∀ W, Calls Tryz.prog 121 #[.int .i64 18] W fun e w' => e = .returned (.int .i64 34) ∧ W = w') := Lib.hid (fun W => size121 18 W)
    have hd : ((part.length : Nat) : Int) < 34 := by omega
    clear h h1 h2 q q4 e2 hlt
    generalize part.length = pl at *
    go_enter Tryz.func222, Tryz.ntmps222
    go_wp2_with fail
    refine HG.out.mono ?_
    rintro e w1 ⟨rfl, rfl⟩
    go_wp2_with fail
    refine (HS.out _).mono ?_
    rintro e w1 ⟨rfl, rfl⟩
    go_wp2_with fail
    refine (HI.out _).mono ?_
    rintro e w1 ⟨rfl, rfl⟩
    go_wp2_with fail
    go_ret3
    exact ⟨rfl, by first | exact Off.refl _ _ | exact (Off.refl _ _).drew | exact (Off.refl _ _).drewN _⟩
set_option maxRecDepth 100000 in
set_option maxHeartbeats 2000000 in
theorem next170_cut (v : Value) (l part : List UInt8) (base : Nat) (w : World) (h : IsB w v (l ++ part)) (hp : Short part) (h2 : base + l.length < 1152921504606846976) :
    Calls Tryz.prog 170 #[v, .int .i64 (base : Int), .int .i64 (l.length : Nat)] w fun e w' => e = .returned (.tuple #[.agg found0, .bool false]) ∧ Off [] w w' := by
  obtain ⟨vo, vc, rfl⟩ := h.val
  have hL : (l ++ part).length - l.length = part.length := by rw [List.length_append]; omega
  obtain ⟨a2, c2, b2, _, l2, _, r2, _⟩ := h.cut l.length (l ++ part).length (by rw [List.length_append]; omega) (Nat.le_refl _)
  rw [hL] at b2 r2
  rw [List.drop_left, List.take_of_length_le (Nat.le_refl _)] at b2
  have q2 : ∀ W, (Instr.slice 22 (.slice vo (l ++ part).length vc) (some (.int .i64 (l.length : Nat))) none none).run Tryz.prog W = .ok (.slice a2 part.length c2) W := fun W => r2 rfl W _ rfl
  have HO : Hid (∀ W, Off [] w W → Calls Tryz.prog 222 #[.slice a2 part.length c2, .int .i64 ((base + l.length + 1 : Nat) : Int)] W fun e w' => e = .returned (.tuple #[.slice none 0 0, .int .i64 0, .int .i64 80]) ∧ Off [] W w') := Lib.hid (fun W ho => open222_short _ part (base + l.length + 1) W (b2.off ho (by simp)) hp (by omega) (by omega))
  obtain ⟨lsn, hl⟩ : ∃ lsn, lsn = base + l.length + 1 := ⟨_, rfl⟩
  obtain ⟨bp, hbp⟩ : ∃ bp, bp = base + l.length := ⟨_, rfl⟩
  rw [← hl] at HO
  have w0 : wrap64 ((base : Int) + ((l.length : Nat) : Int)) = (bp : Int) := by rw [hbp]; unfold wrap64; omega
  have w1 : wrap64 ((bp : Int) + 1) = (lsn : Int) := by clear w0; rw [hl, hbp]; unfold wrap64; omega
  clear h b2 r2 l2 h2 hl hbp hL hp
  generalize (l ++ part).length = lpl at *
  generalize part.length = prl at *
  generalize l.length = pl at *
  go_enter Tryz.func170, Tryz.ntmps170
  go_wp2_with fail
  simp only [w0, w1]
  clear w0 w1
  refine (HO.out _ ((Off.refl [] w).alloc _)).mono ?_
  rintro e w1 ⟨rfl, ho1⟩
  have hi := IsC.off (S := []) (IsC.new w found0 122) ho1 (by simp)
  have HOW := Lib.hid (((Off.refl [] w).alloc (.cells found0 122)).trans ho1 (by simp))
  have HI := Lib.hid hi
  clear ho1
  have hf : ∀ o, w1.frozen? ⟨w.heap.size, o, none⟩ = false := fun o => hi.unfrozen o
  have k0 := hi.cell 0
  have k1 := hi.cell 1
  have k2 := hi.cell 2
  have k3 := hi.cell 3
  have k4 := hi.cell 4
  have k5 := hi.cell 5
  have k6 := hi.cell 6
  have k7 := hi.cell 7
  have k8 := hi.cell 8
  have k9 := hi.cell 9
  have k10 := hi.cell 10
  have k11 := hi.cell 11
  have k12 := hi.cell 12
  simp only [found0, List.getElem?_toArray, List.getElem?_cons_zero, List.getElem?_cons_succ] at k0 k1 k2 k3 k4 k5 k6 k7 k8 k9 k10 k11 k12
  clear hi
  have HFIN : Hid (∀ W, Off [w.heap.size] w1 W → Off [] w W) := Lib.hid (fun W ho => HOW.out.trans ho (fun z hz => .inr (by simp at hz; omega)))
  generalize w.heap.size = rb at *
  go_wp2_with fail
  refine bodyPost_ret (v := .tuple #[.agg found0, .bool false]) (by rw [results_cell_tmp rfl]; go_simp; try rfl) rfl ?_
  refine ⟨rfl, HFIN.out _ ?_⟩
  iterate 13 refine Off.setCell ?_ (.inl (by simp)) _
  exact Off.refl _ _
set_option maxRecDepth 100000 in
set_option maxHeartbeats 4000000 in
theorem frames169_part {t : Nat → Nat} {part : List UInt8} (hpart : Short part) (n : Nat) (hn : 1 ≤ n) (l bb lb ob nb base : Nat) (v : Value) (ids : List Nat) (J Jx : List (Nat × Nat) → World → Prop) (W : World) (hJ : AbidesFrom W.heap.size J)
    (hY : ∀ pre x W1, J pre W1 → pre.length < (itemsB (base + 1) ids).length → YieldAt Fence.wide (n - 1) Tryz.prog l (encB x) W1 fun e W' => (e = .returned (.bool true) ∧ J (pre ++ [x]) W' ∧ Kp ob nb W1 W') ∨ (e = .returned (.bool false) ∧ Jx (pre ++ [x]) W'))
    (ht : Tbl t W) (hb : IsC W bb #[.int .i64 (base : Nat)] 3) (hl : IsC W lb #[v] 22) (h : IsB W v (logB t (base + 1) ids ++ part)) (hids : ∀ x ∈ ids, 1 ≤ x ∧ x ≤ 64) (hlen : ids.length ≤ 2000) (hbase : base ≤ 1152921504606715904)
    (hT : ∀ z ∈ Tk ob nb W, z < W.heap.size) (hTn : 0 ∉ Tk ob nb W ∧ bb ∉ Tk ob nb W ∧ lb ∉ Tk ob nb W ∧ ∀ z ∈ blk v, z ∉ Tk ob nb W) (h0 : J [] W) :
    CallsIn Fence.wide n Tryz.prog 169 #[.func (.yield l) #[] #[], .pointer (some ⟨bb, 0, none⟩), .pointer (some ⟨lb, 0, none⟩)] W fun e W' => (∃ v, e = .returned v) ∧ ((∃ ys, ys = itemsB (base + 1) ids ∧ J ys W') ∨ (∃ pre, pre <+: itemsB (base + 1) ids ∧ Jx pre W')) := by
  have HJ := Lib.hid hJ
  have HPART : Hid (Short part ∧ part.length < 34) := Lib.hid ⟨hpart, by rcases hpart with q | q <;> omega⟩
  have HY := Lib.hid hY
  have HALL := Lib.hid (And.intro ht (And.intro hb (And.intro hl (And.intro h (And.intro hT hTn)))))
  have HID := Lib.hid (And.intro hids (And.intro hlen hbase))
  have k0 := hb.cell 0
  simp only [List.getElem?_toArray, List.getElem?_cons_zero] at k0
  have b1 : ¬ ((base : Int) < 0) := by omega
  have b2 : ¬ (1152921504606846976 < (base : Int)) := by omega
  have H0 := Lib.hid h0
  obtain ⟨P, hP⟩ : ∃ P : Ending → World → Prop, P = fun e W' => (∃ v, e = .returned v) ∧ ((∃ ys, ys = itemsB (base + 1) ids ∧ J ys W') ∨ (∃ pre, pre <+: itemsB (base + 1) ids ∧ Jx pre W')) := ⟨_, rfl⟩
  rw [← hP]
  have HP := Lib.hid hP
  clear hpart hJ hY ht hb hl h hids hlen hbase hT hTn h0 hP
  refine callsIn_of_wp Tryz.func169 rfl trivial ?_ rfl
  simp only [Tryz.ntmps169, List.size_toArray, List.length_cons, List.length_nil, Nat.reduceAdd, Nat.reduceSub, Array.replicate_succ, Array.replicate_zero, List.push_toArray, List.append_toArray, List.nil_append, List.cons_append]
  gi_wp2
  clear k0 b1 b2
  gi_loopw [4, 5, 6] (fun p _ _ wr => ∃ pre rest : List Nat, ids = pre ++ rest ∧ p = .int .i64 ((34 * pre.length : Nat) : Int) ∧ J (itemsB (base + 1) pre) wr ∧ Kp ob nb W wr) (fun p _ _ _ => 34 * ids.length - (intOf p).toNat)
  case atStart => exact ⟨[], ids, rfl, rfl, H0.out, Kp.off (Off.refl _ _) (HALL.out.2.2.2.2.1 ob (by simp [Tk]))⟩
  case round =>
    obtain ⟨pre, rest, hx, rfl, hJs, hK⟩ := hrel
    have HK := Lib.hid (And.intro hx (And.intro hJs hK))
    have hbr := HALL.out.2.1.kp hK HALL.out.2.2.2.2.2.2.1
    have hlr := HALL.out.2.2.1.kp hK HALL.out.2.2.2.2.2.2.2.1
    have HBR : Hid (Tbl t wr ∧ IsB wr v (logB t (base + 1) ids ++ part)) := Lib.hid ⟨HALL.out.1.kp hK HALL.out.2.2.2.2.2.1, HALL.out.2.2.2.1.kp hK HALL.out.2.2.2.2.2.2.2.2⟩
    have c0 := hbr.cell 0
    have c1 := hlr.cell 0
    simp only [List.getElem?_toArray, List.getElem?_cons_zero] at c0 c1
    clear hbr hlr hJs hK
    cases rest with
    | nil =>
      rw [List.append_nil] at hx
      subst hx
      have hnx := next170_cut v (logB t (base + 1) ids) part base wr HBR.out.2 HPART.out.1 (by rw [logB_len]; have := HID.out.2.1; have := HID.out.2.2; omega)
      rw [logB_len] at hnx
      unfold found0 at hnx
      have HN := Lib.hid hnx
      clear hnx
      refine wpIn_wide.2 ?_
      go_wp2_with fail
      refine HN.out.mono ?_
      rintro e w1 ⟨rfl, ho1⟩
      have HO1 := Lib.hid ho1
      clear ho1 c0 c1
      go_wp2_with fail
      refine bodyPost_ret (results_none rfl _ _ _) rfl ?_
      rw [HP.out]
      refine ⟨⟨_, rfl⟩, .inl ⟨_, rfl, HJ.out _ wr _ none HK.out.2.1 ?_ (fun r e => by cases e)⟩⟩
      exact Off.grown0 (HO1.out.trans ((Off.refl [] w1).alloc _) (by simp))
    | cons x rest =>
      obtain ⟨hx1, hx2⟩ := HID.out.1 x (by rw [hx]; simp)
      have hlg : logB t (base + 1) ids ++ part = logB t (base + 1) pre ++ (frameB t (base + (logB t (base + 1) pre).length + 1) (beginB x) ++ (logB t (base + 1 + 34 * pre.length + 34) rest ++ part)) := by
        rw [hx, logB_app, logB_len, logB_cons, List.append_assoc, List.append_assoc]
        rw [show base + 34 * pre.length + 1 = base + 1 + 34 * pre.length by omega]
      have hbr := HBR.out.2
      rw [hlg] at hbr
      have hil : pre.length + rest.length + 1 = ids.length := by rw [hx]; simp only [List.length_append, List.length_cons]; omega
      have hnx := next170_frame v (logB t (base + 1) pre) (logB t (base + 1 + 34 * pre.length + 34) rest ++ part) base x wr HBR.out.1 hbr hx1 hx2 HID.out.2.2 (by rw [List.length_append, logB_len, logB_len]; have := HID.out.2.1; have := HPART.out.2; omega)
      rw [logB_len, show base + 34 * pre.length + 1 = base + 1 + 34 * pre.length by omega] at hnx
      have HIL := Lib.hid hil
      obtain ⟨lsn, hlsn⟩ : ∃ lsn, lsn = base + 1 + 34 * pre.length := ⟨_, rfl⟩
      rw [← hlsn] at hnx
      have hit : itemsB (base + 1) ids = itemsB (base + 1) pre ++ (lsn, x) :: itemsB (lsn + 34) rest := by
        rw [hx, itemsB_app, ← hlsn, itemsB_cons]
      have hitp : itemsB (base + 1) (pre ++ [x]) = itemsB (base + 1) pre ++ [(lsn, x)] := by
        rw [itemsB_app, ← hlsn]; rfl
      have HIT := Lib.hid (And.intro hit hitp)
      unfold foundC at hnx
      have HN := Lib.hid hnx
      clear hnx hbr hlg hil hlsn hit hitp hx1 hx2
      gi_wp2_with fail
      refine ⟨trivial, ?_⟩
      gi_at_call 170
      refine (callsIn_wide.2 HN.out).mono ?_
      rintro e w1 ⟨rfl, ho1⟩
      have HO1 := Lib.hid ho1
      clear ho1 c0 c1 HN
      have hJ5 : J (itemsB (base + 1) pre) (w1.alloc (.cells (foundC (lsn : Nat) (x : Nat)) 122)) := HJ.out _ wr _ none HK.out.2.1 (Off.grown0 (HO1.out.alloc _)) (fun r e => by cases e)
      obtain ⟨fn, tmps, assign, body, hy, hR⟩ := HY.out (itemsB (base + 1) pre) (lsn, x) _ hJ5 (by rw [itemsB_len, itemsB_len]; have := HIL.out; omega)
      have HR := Lib.hid hR
      have HWV : Hid (Kp ob nb W (w1.alloc (.cells (foundC (lsn : Nat) (x : Nat)) 122)) ∧ IsC (w1.alloc (.cells (foundC (lsn : Nat) (x : Nat)) 122)) w1.heap.size (foundC (lsn : Nat) (x : Nat)) 122 ∧ w1.heap.size ∉ Tk ob nb (w1.alloc (.cells (foundC (lsn : Nat) (x : Nat)) 122))) := Lib.hid (by
        have hob : ob < wr.heap.size := Nat.lt_of_lt_of_le (HALL.out.2.2.2.2.1 ob (by simp [Tk])) HK.out.2.2.1
        have hof : Off [] wr (w1.alloc (.cells (foundC (lsn : Nat) (x : Nat)) 122)) := HO1.out.alloc _
        refine ⟨HK.out.2.2.trans (Kp.off hof hob), IsC.new _ _ _, fun hz => ?_⟩
        rw [Tk.off hof hob] at hz
        have := HK.out.2.2.2.2.2 HALL.out.2.2.2.2.1 _ hz
        have := HO1.out.size
        omega)
      clear hJ5 hR
      unfold encB foundC at hy
      gi_wp2_with fail
      refine HR.out.mono ?_
      rintro e W6 (⟨rfl, hJ6, hk6⟩ | ⟨rfl, hJx6⟩)
      · have ht5 := HWV.out.2.1.kp hk6 HWV.out.2.2
        have c1 := ht5.cell 1
        simp only [foundC, List.getElem?_toArray, List.getElem?_cons_zero, List.getElem?_cons_succ] at c1
        have H6 := Lib.hid (And.intro hJ6 (HWV.out.1.trans hk6))
        clear hJ6 hk6 ht5 hy
        have hb0 : (0 : Int) ≤ 34 * (pre.length : Int) := by omega
        have hb1 : 34 * (pre.length : Int) ≤ 68000 := by have := HIL.out; have := HID.out.2.1; omega
        gi_wp2_with fail
        go_roundw
        case rel => exact ⟨pre ++ [x], rest, by rw [hx]; simp, by simp only [List.length_append, List.length_cons, List.length_nil]; go_num, by rw [HIT.out.2]; exact H6.out.1, H6.out.2⟩
        case measure => have := HIL.out; simp [intOf]; omega
      · have HJX := Lib.hid hJx6
        clear hJx6 hy
        gi_wp2_with fail
        refine bodyPost_ret (results_none rfl _ _ _) rfl ?_
        rw [HP.out]
        exact ⟨⟨_, rfl⟩, .inr ⟨_, ⟨itemsB (lsn + 34) rest, by rw [HIT.out.1]; simp⟩, HJX.out⟩⟩
theorem stops169_part {t : Nat → Nat} {part : List UInt8} (hpart : Short part) (n : Nat) (hn : 1 ≤ n) (bb lb ob nb base : Nat) (v : Value) (ids : List Nat) (w : World) (ht : Tbl t w) (hb : IsC w bb #[.int .i64 (base : Nat)] 3) (hl : IsC w lb #[v] 22) (h : IsB w v (logB t (base + 1) ids ++ part)) (hids : ∀ x ∈ ids, 1 ≤ x ∧ x ≤ 64) (hlen : ids.length ≤ 2000) (hbase : base ≤ 1152921504606715904)
    (hT : ∀ z ∈ Tk ob nb w, z < w.heap.size) (hTn : 0 ∉ Tk ob nb w ∧ bb ∉ Tk ob nb w ∧ lb ∉ Tk ob nb w ∧ ∀ z ∈ blk v, z ∉ Tk ob nb w) :
    SeqStopsK Fence.wide n Tryz.prog 169 #[.pointer (some ⟨bb, 0, none⟩), .pointer (some ⟨lb, 0, none⟩)] encB (Kp ob nb) (fun ys => ys = itemsB (base + 1) ids) (fun pre => pre <+: itemsB (base + 1) ids) (itemsB (base + 1) ids).length w := by
  intro l J Jx W hW hJ hJx hY h0
  have ho : Off [] w W := Below.offN hW
  have hTk := Tk.off (ob := ob) (nb := nb) ho (hT ob (by simp [Tk]))
  exact frames169_part hpart n hn l bb lb ob nb base v ids J Jx W hJ hY (ht.off ho (by simp)) (hb.off ho (by simp)) (hl.off ho (by simp)) (h.off ho (by simp)) hids hlen hbase (by rw [hTk]; exact fun z hz => Nat.lt_of_lt_of_le (hT z hz) ho.size) (by rw [hTk]; exact hTn) h0
end Go.Proofs.YtfdgiblkllfpjaaGreatDoor
