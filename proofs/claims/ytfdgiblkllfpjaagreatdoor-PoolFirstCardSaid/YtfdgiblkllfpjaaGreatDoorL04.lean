/- frame: Size, Wrap. -/
import Derived.Test.YtfdgiblkllfpjaaGreatDoorL03
import Derived.Deep.RegionHeld3
import Derived.Laws.MakeOwn
import Derived.Laws.ResultCell
set_option linter.unusedVariables false
set_option linter.unusedSimpArgs false
namespace Go.Proofs.YtfdgiblkllfpjaaGreatDoor
open Go.ChangeShapes Go.WideShapes Go.ChangeAt Go.RowKit

def frameSize (n : Int) : Int := if n < 1 ∨ 1024 < n then 0 else 12 + n + 4
set_option maxHeartbeats 1000000 in
theorem size121 (s : Int) (w : World) : Calls Tryz.prog 121 #[.int .i64 s] w fun e w' => e = .returned (.int .i64 (frameSize s)) ∧ w = w' := by
  by_cases h1 : s < 1
  · have e : frameSize s = 0 := by unfold frameSize; rw [if_pos (.inl h1)]
    rw [e]
    go_enter Tryz.func121, Tryz.ntmps121
    go_wp2
    go_ret
    exact ⟨rfl, rfl⟩
  · by_cases h2 : 1024 < s
    · have e : frameSize s = 0 := by unfold frameSize; rw [if_pos (.inr h2)]
      rw [e]
      go_enter Tryz.func121, Tryz.ntmps121
      go_wp2
      go_ret
      exact ⟨rfl, rfl⟩
    · have e : frameSize s = 12 + s + 4 := by unfold frameSize; rw [if_neg (by omega)]
      rw [e]
      have h3 : 1 ≤ s := by omega
      have h4 : s ≤ 1024 := by omega
      clear h1 h2
      go_enter Tryz.func121, Tryz.ntmps121
      go_wp2
      go_ret
      exact ⟨rfl, rfl⟩
set_option maxHeartbeats 1000000 in
theorem isLsn122 (x : Int) (w : World) : Calls Tryz.prog 122 #[.int .i64 x] w fun e w' => e = .returned (.bool (decide (1 ≤ x ∧ x ≤ 1152921504606846976))) ∧ w = w' := by
  by_cases h1 : 1 ≤ x
  · by_cases h2 : x ≤ 1152921504606846976
    · have e : decide (1 ≤ x ∧ x ≤ 1152921504606846976) = true := by simp [h1, h2]
      rw [e]; clear e
      go_enter Tryz.func122, Tryz.ntmps122
      go_wp2
      go_ret
      exact ⟨rfl, rfl⟩
    · have e : decide (1 ≤ x ∧ x ≤ 1152921504606846976) = false := by simp; omega
      rw [e]; clear e
      go_enter Tryz.func122, Tryz.ntmps122
      go_wp2
      go_ret
      exact ⟨rfl, rfl⟩
  · have e : decide (1 ≤ x ∧ x ≤ 1152921504606846976) = false := by simp; omega
    rw [e]; clear e
    go_enter Tryz.func122, Tryz.ntmps122
    go_wp2
    go_ret
    exact ⟨rfl, rfl⟩
theorem isRows1 {w : World} {v1 : Value} {l1 : List UInt8} (h1 : IsB w v1 l1) : IsRows (w.alloc (.cells #[v1] 22)) (.slice (some ⟨w.heap.size, 0, none⟩) 1 1) [l1] := by
  have ho := (Off.refl [] w).alloc (.cells #[v1] 22)
  refine ⟨[v1], Own.new w 22 1 #[v1] 1 (by decide) rfl, fun i l hl => ?_⟩
  match i, hl with
  | 0, hl => simp at hl; subst hl; exact ⟨v1, rfl, h1.off ho (by simp)⟩

/-- A frame's bytes. -/
def frameHead (lsn : Nat) (l : List UInt8) : List UInt8 := (le 4 l.length ++ le 8 lsn) ++ l
def frameB (t : Nat → Nat) (lsn : Nat) (l : List UInt8) : List UInt8 := frameHead lsn l ++ le 4 (crcSum t [frameHead lsn l])
theorem frameHead_len (lsn : Nat) (l : List UInt8) : (frameHead lsn l).length = 12 + l.length := by unfold frameHead; simp only [List.length_append, le_len]
theorem frameB_len (t : Nat → Nat) (lsn : Nat) (l : List UInt8) : (frameB t lsn l).length = 16 + l.length := by unfold frameB; rw [List.length_append, le_len, frameHead_len]; omega
set_option maxRecDepth 100000 in
set_option maxHeartbeats 4000000 in
theorem wrap58 {t : Nat → Nat} (lsn : Nat) (v : Value) (l : List UInt8) (w : World) (ht : Tbl t w) (h : IsB w v l) (h1 : 1 ≤ l.length) (h2 : l.length ≤ 1024) (h3 : 1 ≤ lsn) (h4 : lsn ≤ 1152921504606846976) :
    Calls Tryz.prog 58 #[.int .i64 (lsn : Int), v] w (StampPost w (frameB t lsn l)) := by
  obtain ⟨vo, vc, rfl⟩ := h.val
  have HT := Lib.hid ht
  have HB := Lib.hid h
  obtain ⟨F, hF⟩ : ∃ F, F = frameB t lsn l := ⟨_, rfl⟩
  have HFD := Lib.hid hF
  have HFL : Hid (F.length = 16 + l.length) := Lib.hid (by rw [hF, frameB_len])
  rw [← hF]
  have hp1 := put123 (.slice none 0 0) [] l.length (Nat.lt_of_le_of_lt h2 (by decide)) w (IsB.nil w) (by simp)
  rw [List.nil_append] at hp1
  have HP1 := Lib.hid hp1
  have hs := size121 (l.length : Int) w
  rw [show frameSize (l.length : Int) = 12 + (l.length : Int) + 4 by unfold frameSize; rw [if_neg (by omega)]] at hs
  have hi := isLsn122 (lsn : Int) w
  rw [decide_eq_true (by omega)] at hi
  have HS := Lib.hid hs
  have HI := Lib.hid hi
  have hlw : IntKind.u64.wrap (lsn : Int) = (lsn : Int) := by rw [IntKind.wrap_u64]; omega
  have HL4 := Lib.hid h4
  obtain ⟨n, hN⟩ : ∃ n, n = l.length := ⟨_, rfl⟩
  have HN := Lib.hid hN
  rw [← hN] at h1 h2 HFL HP1 HS ⊢
  clear hN h hF hp1 hs hi h4 ht
  go_enter Tryz.func58, Tryz.ntmps58
  go_wp2_with fail
  refine HS.out.mono ?_
  rintro e w1 ⟨rfl, rfl⟩
  go_wp2_with fail
  refine HI.out.mono ?_
  rintro e w1 ⟨rfl, rfl⟩
  clear HS HI
  go_wp2_with fail
  refine HP1.out.mono ?_
  rintro e w1 ⟨so, sc, rfl, hs1, ho1, hf1⟩
  rw [le_len] at hs1 ⊢
  have HP2 := Lib.hid (put115 _ (le 4 n) lsn (Nat.lt_of_le_of_lt HL4.out (by decide)) w1 hs1 (by rw [le_len]; omega))
  have HO1 := Lib.hid ho1
  clear hs1 ho1 hf1 HP1
  go_wp2_with fail
  refine HP2.out.mono ?_
  rintro e w2 ⟨qo, qc, rfl, hs2, ho2, hf2⟩
  rw [List.length_append, le_len, le_len] at hs2 ⊢
  simp only [Nat.reduceAdd] at hs2 ⊢
  have HO2 := Lib.hid (HO1.out.trans ho2 (by simp))
  have hb2 := HB.out.off HO2.out (by simp)
  rw [← HN.out] at hb2
  have hj := join118 _ [le 4 n ++ le 8 lsn, l] _ (isRows2 hs2 hb2) (by simp [le_len]; have := HN.out; omega) (by simp)
  rw [show [le 4 n ++ le 8 lsn, l].flatten = frameHead lsn l by unfold frameHead; rw [HN.out]; simp] at hj
  have HJ := Lib.hid hj
  have HO2a := Lib.hid (HO2.out.trans ((Off.refl [] w2).alloc (.cells #[.slice qo 12 qc, .slice vo n vc] 22)) (by simp))
  clear hs2 hb2 ho2 hf2 hj HP2 HO1 HO2
  go_wp2_with fail
  refine HJ.out.mono ?_
  rintro e w3 ⟨ro, rc, rfl, hs3, ho3, hf3⟩
  have hRl : (frameHead lsn l).length = 12 + n := by rw [frameHead_len, HN.out]
  obtain ⟨R, hR⟩ : ∃ R, R = frameHead lsn l := ⟨_, rfl⟩
  have hst : F = R ++ le 4 (crcSum t [R]) := by rw [HFD.out, hR]; rfl
  have HST := Lib.hid hst
  rw [← hR] at hs3 hRl ⊢
  rw [hRl] at hs3 ⊢
  clear hst hR HJ hf3
  have HO3 := Lib.hid (HO2a.out.trans ho3 (by simp))
  have ht3 := HT.out.off (HO3.out.trans ((Off.refl [] w3).alloc (.cells #[.slice ro (12 + n) rc] 22)) (by simp)) (by simp)
  have HSU := Lib.hid (sum124 _ [R] _ ht3 (isRows1 hs3) (by simp; omega) (by simp))
  have hcl := sum_lt ht3 [R]
  generalize crcSum t [R] = c at *
  have hp4 := put123 (.slice ro (12 + n) rc) R c hcl (w3.alloc (.cells #[.slice ro (12 + n) rc] 22)) (hs3.off ((Off.refl [] w3).alloc _) (by simp)) (by omega)
  rw [← HST.out] at hp4
  have HP4 := Lib.hid (hp4.mono fun e w' hh => hh.ends (HO3.out.trans ((Off.refl [] w3).alloc _) (by simp)))
  clear hs3 ho3 ht3 hcl hp4 hRl HO3 HO2a
  go_wp2_with fail
  refine HSU.out.mono ?_
  rintro e w4 ⟨rfl, rfl⟩
  go_wp2_with fail
  refine HP4.out.mono ?_
  rintro e w5 ⟨fo, fc, rfl, h5⟩
  have HF : Hid (StampPost w F (.returned (.tuple #[.slice fo F.length fc, .int .i64 0])) w5) := ⟨fo, fc, rfl, h5⟩
  clear h5 HP4 HSU
  go_wp2_with fail
  go_ret2
  exact HF.out
end Go.Proofs.YtfdgiblkllfpjaaGreatDoor

/- record: the bytes of a begin. -/
set_option linter.unusedVariables false
set_option linter.unusedSimpArgs false
namespace Go.Proofs.YtfdgiblkllfpjaaGreatDoor
open Go.ChangeShapes Go.WideShapes Go.ChangeAt Go.RowKit

/-- A begin's record. -/
def beginV (x : Int) : Value := .agg #[.int .i64 1, .int .i64 0, .int .i64 0, .int .i64 x, .int .i64 0, .int .i64 0, .slice none 0 0, .slice none 0 0, .int .i64 0, .slice none 0 0, .slice none 0 0]
def beginB (x : Nat) : List UInt8 := ((le 1 1 ++ le 8 0) ++ le 8 0) ++ le 1 x
theorem beginB_len (x : Nat) : (beginB x).length = 18 := by unfold beginB; simp only [List.length_append, le_len]
set_option maxRecDepth 100000 in
set_option maxHeartbeats 4000000 in
theorem bare171_begin (x : Int) (w : World) : Calls Tryz.prog 171 #[beginV x, .bool true, .bool false, .bool false, .bool false, .bool false] w fun e w' => e = .returned (.bool true) ∧ Off [] w w' := by
  unfold beginV
  go_enter Tryz.func171, Tryz.ntmps171
  go_wp2_with fail
  go_ret
  exact ⟨rfl, (Off.refl _ _).alloc _⟩
set_option maxRecDepth 100000 in
set_option maxHeartbeats 4000000 in
theorem right113_begin (x : Int) (h1 : 1 ≤ x) (h2 : x ≤ 64) (w : World) : Calls Tryz.prog 113 #[beginV x] w fun e w' => e = .returned (.bool true) ∧ Off [] w w' := by
  have HB := Lib.hid (bare171_begin x (w.alloc (.cells #[.int .i64 1, .int .i64 0, .int .i64 0, .int .i64 x, .int .i64 0, .int .i64 0, .slice none 0 0, .slice none 0 0, .int .i64 0, .slice none 0 0, .slice none 0 0] 42)))
  unfold beginV at HB ⊢
  go_enter Tryz.func113, Tryz.ntmps113
  go_wp2_with fail
  refine HB.out.mono ?_
  rintro e w1 ⟨rfl, ho⟩
  have HO := Lib.hid (((Off.refl [] w).alloc _).trans ho (by simp))
  clear ho HB
  go_wp2_with fail
  go_ret
  exact ⟨rfl, HO.out⟩
set_option maxRecDepth 100000 in
set_option maxHeartbeats 4000000 in
theorem lsn114 (v : Value) (l : List UInt8) (x : Nat) (hx : x ≤ 1152921504606846976) (w : World) (h : IsB w v l) (hn : l.length < 1000000) : Calls Tryz.prog 114 #[v, .int .i64 (x : Int)] w (FreshB w (l ++ le 8 x)) := by
  have HP := Lib.hid (put115 v l x (Nat.lt_of_le_of_lt hx (by decide)) w h (by omega))
  obtain ⟨vo, vc, rfl⟩ := h.val
  have hxw : IntKind.u64.wrap (x : Int) = (x : Int) := by rw [IntKind.wrap_u64]; omega
  obtain ⟨F, hF⟩ : ∃ F, F = l ++ le 8 x := ⟨_, rfl⟩
  rw [← hF] at HP ⊢
  clear h hF hx
  generalize l.length = n at *
  go_enter Tryz.func114, Tryz.ntmps114
  go_wp2_with fail
  refine HP.out.mono ?_
  rintro e w1 ⟨fo, fc, rfl, h1⟩
  have HF : Hid (FreshB w F (.returned (.slice fo F.length fc)) w1) := ⟨fo, fc, rfl, h1⟩
  clear h1 HP
  go_wp2_with fail
  go_ret
  exact HF.out
set_option maxRecDepth 100000 in
set_option maxHeartbeats 4000000 in
theorem bytes53_begin (x : Nat) (h1 : 1 ≤ x) (h2 : x ≤ 64) (w : World) : Calls Tryz.prog 53 #[beginV x] w (StampPost w (beginB x)) := by
  have HR := Lib.hid (right113_begin x (by omega) (by omega) (w.alloc (.cells #[.int .i64 1, .int .i64 0, .int .i64 0, .int .i64 x, .int .i64 0, .int .i64 0, .slice none 0 0, .slice none 0 0, .int .i64 0, .slice none 0 0, .slice none 0 0] 42)))
  unfold beginV at HR ⊢
  go_enter Tryz.func53, Tryz.ntmps53
  go_wp2_with fail
  refine HR.out.mono ?_
  rintro e w1 ⟨rfl, ho⟩
  have hb1 := IsC.off (S := []) (IsC.new w #[.int .i64 1, .int .i64 0, .int .i64 0, .int .i64 x, .int .i64 0, .int .i64 0, .slice none 0 0, .slice none 0 0, .int .i64 0, .slice none 0 0, .slice none 0 0] 42) ho (by simp)
  have HO1 := Lib.hid (((Off.refl [] w).alloc _).trans ho (by simp))
  have c0 := hb1.cell 0
  have c1 := hb1.cell 1
  have c2 := hb1.cell 2
  have c3 := hb1.cell 3
  simp only [List.getElem?_toArray, List.getElem?_cons_zero, List.getElem?_cons_succ] at c0 c1 c2 c3
  have HK : Hid (∀ W, Off [] w1 W → W.cell? ⟨w.heap.size, 0, none⟩ = some (.int .i64 1) ∧ W.cell? ⟨w.heap.size, 1, none⟩ = some (.int .i64 0) ∧ W.cell? ⟨w.heap.size, 2, none⟩ = some (.int .i64 0) ∧ W.cell? ⟨w.heap.size, 3, none⟩ = some (.int .i64 x)) := Lib.hid (fun W hW => by
    have hb := IsC.off (S := []) hb1 hW (by simp)
    exact ⟨by rw [hb.cell]; rfl, by rw [hb.cell]; rfl, by rw [hb.cell]; rfl, by rw [hb.cell]; rfl⟩)
  have HP1 : Hid (∀ W, Calls Tryz.prog 116 #[.slice none 0 0, .int .u8 1] W (FreshB W (le 1 1))) := Lib.hid (fun W => by
    have q := put116 (.slice none 0 0) [] 1 (by decide) W (IsB.nil W) (by simp)
    rw [List.nil_append] at q; exact q)
  have HL : Hid (∀ W v l, IsB W v l → l.length < 1000000 → Calls Tryz.prog 114 #[v, .int .i64 0] W (FreshB W (l ++ le 8 0))) := Lib.hid (fun W v l h hn => lsn114 v l 0 (by omega) W h hn)
  clear ho HR hb1
  generalize w.heap.size = rb at *
  go_wp2_with fail
  go_region_held3 (fun W => W.cell? ⟨rb, 0, none⟩ = some (.int .i64 1) ∧ W.cell? ⟨rb, 1, none⟩ = some (.int .i64 0) ∧ W.cell? ⟨rb, 2, none⟩ = some (.int .i64 0) ∧ W.cell? ⟨rb, 3, none⟩ = some (.int .i64 x))
    (first | exact HK.out _ (Off.refl _ _) | exact HK.out _ (Off.refl _ _).drew | exact HK.out _ HOC.out | exact HK.out _ HOB.out | exact HK.out _ HOA.out | fail)
    (first
    | (go_at_call 116; refine (HP1.out _).mono ?_; rintro e wa ⟨ao, ac, rfl, p1, p2, p3⟩; have HPA := Lib.hid p1; have HOA : Hid (Off [] w1 wa) := Lib.hid ((Off.refl [] w1).drew.trans p2 (by simp)); clear p1 p2 p3)
    | (go_at_call 114; refine (HL.out _ _ _ HPA.out (by decide)).mono ?_; rintro e wb ⟨bo, bc, rfl, p1, p2, p3⟩; have HPB := Lib.hid p1; have HOB : Hid (Off [] w1 wb) := Lib.hid (HOA.out.trans p2 (by simp)); clear p1 p2 p3)
    | (go_at_call 114; refine (HL.out _ _ _ HPB.out (by decide)).mono ?_; rintro e wc ⟨co, cc, rfl, p1, p2, p3⟩; have HPC := Lib.hid p1; have HOC : Hid (Off [] w1 wc) := Lib.hid (HOB.out.trans p2 (by simp)); clear p1 p2 p3))
  have e17 : ((le 1 1 ++ le 8 0) ++ le 8 0).length = 17 := by simp only [List.length_append, le_len]
  have hpc := HPC.out
  rw [e17] at hpc
  rw [show (le 1 1).length + ((le 8 0).length + (le 8 0).length) = 17 by simp only [le_len]]
  have hp4 := put116 (.slice co 17 cc) ((le 1 1 ++ le 8 0) ++ le 8 0) x (by omega) wc hpc (by rw [e17]; omega)
  have HP4 : Hid (Calls Tryz.prog 116 #[.slice co 17 cc, .int .u8 (x : Int)] wc (FreshB w (beginB x))) := Lib.hid (hp4.mono fun e w' hh => hh.ends (HO1.out.trans HOC.out (by simp)))
  have hx8 : IntKind.u8.wrap (x : Int) = (x : Int) := by rw [IntKind.wrap_u8]; omega
  obtain ⟨k0, k1, k2, k3⟩ := HK.out _ HOC.out
  have HBL := Lib.hid (beginB_len x)
  clear hpc hp4 e17 HPC HPB HPA HOA HOB HOC HP1 HL HK c0 c1 c2 c3
  generalize (le 1 1).length + (le 8 0).length = m9 at *
  generalize (le 1 1).length = m1 at *
  generalize beginB x = F at *
  go_wp2_with fail
  refine HP4.out.mono ?_
  rintro e wd ⟨fo, fc, rfl, h5⟩
  have HF : Hid (StampPost w F (.returned (.tuple #[.slice fo F.length fc, .int .i64 0])) wd) := ⟨fo, fc, rfl, h5⟩
  clear h5 HP4
  go_wp2_with fail
  go_ret2
  exact HF.out
end Go.Proofs.YtfdgiblkllfpjaaGreatDoor

/- disk: the small ones. -/
set_option linter.unusedVariables false
set_option linter.unusedSimpArgs false
namespace Go.Proofs.YtfdgiblkllfpjaaGreatDoor
open Go.ChangeShapes Go.WideShapes Go.ChangeAt Go.RowKit

/-- A shape that may be. -/
structure Shp where
  pages : Nat
  slots : Nat
  log : Nat
def Shp.ok (s : Shp) : Prop := 1 ≤ s.pages ∧ s.pages ≤ 16 ∧ 1 ≤ s.slots ∧ s.slots ≤ 8 ∧ 1024 ≤ s.log ∧ s.log ≤ 65536
def Shp.pageB (s : Shp) : Nat := 24 + s.slots * 16
def Shp.sizeB (s : Shp) (k : Nat) : Nat := if k < s.pages then s.pageB else if k = s.pages then 16 + s.pageB else 40
theorem Shp.size_lt {s : Shp} (h : s.ok) (k : Nat) : 40 ≤ s.sizeB k ∧ s.sizeB k ≤ 168 := by
  obtain ⟨_, _, h3, h4, _, _⟩ := h
  unfold Shp.sizeB Shp.pageB
  by_cases h1 : k < s.pages
  · rw [if_pos h1]; omega
  · rw [if_neg h1]
    by_cases h2 : k = s.pages
    · rw [if_pos h2]; omega
    · rw [if_neg h2]; omega
abbrev Shp.agg (s : Shp) : Value := .agg #[.int .i64 s.pages, .int .i64 s.slots, .int .i64 s.log]
section
set_option maxHeartbeats 2000000
theorem pageBytes132 (a b c : Int) (hb : 0 ≤ b ∧ b ≤ 8) (w : World) : Calls Tryz.prog 132 #[.agg #[.int .i64 a, .int .i64 b, .int .i64 c]] w fun e w' => e = .returned (.int .i64 (16 + b * 16 + 8)) ∧ Off [] w w' := by
  obtain ⟨h1, h2⟩ := hb
  go_enter Tryz.func132, Tryz.ntmps132
  go_wp2
  go_ret
  exact ⟨rfl, (Off.refl _ _).alloc _⟩
theorem size86 (s : Shp) (h : s.ok) (k : Nat) (hk : k < 1000000) (w : World) : Calls Tryz.prog 86 #[.agg #[.int .i64 s.pages, .int .i64 s.slots, .int .i64 s.log], .int .i64 (k : Int)] w fun e w' => e = .returned (.int .i64 (s.sizeB k : Nat)) ∧ Off [] w w' := by
  obtain ⟨p1, p2, s1, s2, _, _⟩ := h
  have HPB : Hid (∀ W, Off [] w W → Calls Tryz.prog 132 #[.agg #[.int .i64 s.pages, .int .i64 s.slots, .int .i64 s.log]] W fun e w' => e = .returned (.int .i64 (s.pageB : Nat)) ∧ Off [] w w') := Lib.hid (fun W ho => (pageBytes132 s.pages s.slots s.log (by omega) W).mono fun e w' ⟨he, ho'⟩ => ⟨by rw [he]; refine ret_int ?_; unfold Shp.pageB; omega, ho.trans ho' (by simp)⟩)
  have hpb : s.pageB ≤ 152 := by unfold Shp.pageB; omega
  have HA := Lib.hid ((Off.refl [] w).alloc (.cells #[.int .i64 s.pages, .int .i64 s.slots, .int .i64 s.log] 28))
  obtain ⟨sz, hsz⟩ : ∃ sz, sz = s.sizeB k := ⟨_, rfl⟩
  rw [← hsz]
  unfold Shp.sizeB at hsz
  obtain ⟨sp, ss, sl⟩ := s
  simp only at *
  by_cases h1 : k < sp
  · rw [if_pos h1] at hsz
    rw [← hsz] at HPB
    clear hsz
    go_enter Tryz.func86, Tryz.ntmps86
    go_wp2_with fail
    refine (HPB.out _ HA.out).mono ?_
    rintro e w1 ⟨rfl, ho⟩
    have HO := Lib.hid ho
    clear ho HPB
    go_wp2_with fail
    go_ret
    exact ⟨rfl, HO.out⟩
  · rw [if_neg h1] at hsz
    by_cases h2 : k = sp
    · rw [if_pos h2] at hsz
      generalize Shp.pageB ⟨sp, ss, sl⟩ = pb at *
      subst h2; subst hsz
      go_enter Tryz.func86, Tryz.ntmps86
      go_wp2_with fail
      refine (HPB.out _ HA.out).mono ?_
      rintro e w1 ⟨rfl, ho⟩
      have HO := Lib.hid ho
      clear ho HPB
      go_wp2_with fail
      go_ret
      exact ⟨rfl, HO.out⟩
    · rw [if_neg h2] at hsz
      have h3 : ((k : Int) == (sp : Int)) = false := by simp; omega
      subst hsz
      clear HPB h2
      go_enter Tryz.func86, Tryz.ntmps86
      go_wp2_with fail
      go_ret
      exact ⟨rfl, HA.out⟩
theorem right46 (s : Shp) (h : s.ok) (w : World) : Calls Tryz.prog 46 #[.agg #[.int .i64 s.pages, .int .i64 s.slots, .int .i64 s.log]] w fun e w' => e = .returned (.bool true) ∧ Off [] w w' := by
  obtain ⟨p1, p2, s1, s2, l1, l2⟩ := h
  obtain ⟨sp, ss, sl⟩ := s
  simp only at *
  go_enter Tryz.func46, Tryz.ntmps46
  go_wp2_with fail
  go_ret
  exact ⟨ret_bool (decide_eq_true (by omega)), (Off.refl _ _).alloc _⟩
end
end Go.Proofs.YtfdgiblkllfpjaaGreatDoor

/- disk: grounds; blank. -/
set_option linter.unusedVariables false
set_option linter.unusedSimpArgs false
namespace Go.Proofs.YtfdgiblkllfpjaaGreatDoor
open Go.ChangeShapes Go.WideShapes Go.ChangeAt Go.RowKit

theorem iinfo22 : (Tryz.prog.info? 22).map (fun i => (i.zero, i.size, i.bytes)) = some (some (.slice none 0 0), 1, 24) := by kernel_rfl
theorem made_one (v : Value) (hv : v.cells = #[v]) (n : Nat) : madeCells v.cells (n * 1) = Array.replicate n v := by
  rw [hv, Nat.mul_one]
  apply Array.ext
  · simp [madeCells]
  · intro i h1 h2
    simp [madeCells, Nat.mod_one]
theorem makeB (n : Nat) (hn : n < 1000000) (W : World) : (Instr.makeSlice 22 (.int .i64 (n : Int)) (.int .i64 (n : Int))).run Tryz.prog W = .ok (.slice (some ⟨W.heap.size, 0, none⟩) n n) (W.alloc (.cells (Array.replicate n (.int .u8 0)) 5)) := by
  obtain ⟨i, hi, hz, hsz, hby⟩ := info_parts iinfo5
  have q := run_makeSlice (P := Tryz.prog) (w := W) 22 5 i (.int .u8 0) Tryz.underlying22 hi hz .i64 .i64 n n (by omega) (by omega) (by rw [hsz]; simp; omega) (by rw [hby]; omega) (by omega)
  rw [hsz, Int.toNat_natCast, made_one _ rfl] at q
  exact q
theorem makeG (n : Nat) (hn : n < 1000000) (W : World) : (Instr.makeSlice 100 (.int .i64 (n : Int)) (.int .i64 (n : Int))).run Tryz.prog W = .ok (.slice (some ⟨W.heap.size, 0, none⟩) n n) (W.alloc (.cells (Array.replicate n (.slice none 0 0)) 22)) := by
  obtain ⟨i, hi, hz, hsz, hby⟩ := info_parts iinfo22
  have q := run_makeSlice (P := Tryz.prog) (w := W) 100 22 i (.slice none 0 0) Tryz.underlying100 hi hz .i64 .i64 n n (by omega) (by omega) (by rw [hsz]; simp; omega) (by rw [hby]; omega) (by omega)
  rw [hsz, Int.toNat_natCast, made_one _ rfl] at q
  exact q

/-- The bytes' slices of a ground, one by one. -/
def Items (w : World) (vs : List Value) (gs : List (List UInt8)) : Prop := vs.length = gs.length ∧ ∀ (i : Nat) (l : List UInt8), gs[i]? = some l → ∃ x, vs[i]? = some x ∧ IsB w x l
theorem Items.off {w w' : World} {vs : List Value} {gs : List (List UInt8)} {S : List Nat} (h : Items w vs gs) (ho : Off S w w') (hn : ∀ z ∈ vs.flatMap blk, z ∉ S) : Items w' vs gs := by
  refine ⟨h.1, fun i l hl => ?_⟩
  obtain ⟨x, hx, hb⟩ := h.2 i l hl
  exact ⟨x, hx, hb.off ho (fun z hz => hn z (List.mem_flatMap.2 ⟨x, List.mem_of_getElem? hx, hz⟩))⟩
/-- A ground: what is at the places; its blocks. -/
def Ground (w : World) (v : Value) (gs : List (List UInt8)) (fp : List Nat) : Prop :=
  ∃ vs, Own w 22 1 v gs.length vs ∧ Items w vs gs ∧ fp = blk v ++ vs.flatMap blk ∧ fp.Nodup
theorem Ground.off {w w' : World} {v : Value} {gs : List (List UInt8)} {fp S : List Nat} (h : Ground w v gs fp) (ho : Off S w w') (hn : ∀ z ∈ fp, z ∉ S) : Ground w' v gs fp := by
  obtain ⟨vs, h1, h2, rfl, h4⟩ := h
  exact ⟨vs, h1.off ho (fun z hz => hn z (by simp [hz])), h2.off ho (fun z hz => hn z (by simp only [List.mem_append]; exact .inr hz)), rfl, h4⟩
/-- The first k places are laid. -/
def BlankIn (w : World) (s : Shp) (k : Nat) (v : Value) (wr : World) : Prop :=
  ∃ g vs, v = .slice (some ⟨g, 0, none⟩) (s.pages + 3) (s.pages + 3) ∧ Own wr 22 1 v (s.pages + 3) (vs ++ List.replicate (s.pages + 3 - k) (.slice none 0 0)) ∧
    Items wr vs ((List.range k).map (fun i => List.replicate (s.sizeB i) 0)) ∧ (g :: vs.flatMap blk).Nodup ∧ Off [] w wr ∧ (∀ z ∈ g :: vs.flatMap blk, w.heap.size ≤ z ∧ z < wr.heap.size)
theorem bytesV_zeros (n : Nat) : bytesV (List.replicate n 0) = List.replicate n (.int .u8 0) := by
  unfold bytesV; rw [List.map_replicate]; rfl
theorem BlankIn.step {w wr w1 : World} {s : Shp} {k g : Nat} {vs : List Value} (hk : k < s.pages + 3) (h1 : Own wr 22 1 (.slice (some ⟨g, 0, none⟩) (s.pages + 3) (s.pages + 3)) (s.pages + 3) (vs ++ List.replicate (s.pages + 3 - k) (.slice none 0 0)))
    (h2 : Items wr vs ((List.range k).map (fun i => List.replicate (s.sizeB i) 0))) (h3 : (g :: vs.flatMap blk).Nodup) (h4 : Off [] w wr) (h5 : ∀ z ∈ g :: vs.flatMap blk, w.heap.size ≤ z ∧ z < wr.heap.size) (ho : Off [] wr w1) (hsz : s.sizeB k < 1000000) (h0 : 0 < s.sizeB k) :
    BlankIn w s (k + 1) (.slice (some ⟨g, 0, none⟩) (s.pages + 3) (s.pages + 3)) ((w1.alloc (.cells (Array.replicate (s.sizeB k) (.int .u8 0)) 5)).setCell ⟨g, k, none⟩ (.slice (some ⟨w1.heap.size, 0, none⟩) (s.sizeB k) (s.sizeB k))) := by
  have e1 := ho.size
  have hl := h2.1
  rw [List.length_map, List.length_range] at hl
  have ha := (Off.refl [] w1).alloc (.cells (Array.replicate (s.sizeB k) (.int .u8 0)) 5)
  have hoa := ho.trans ha (by simp)
  have hgl := (h5 g (by simp)).2
  have hset : Off [g] w1 ((w1.alloc (.cells (Array.replicate (s.sizeB k) (.int .u8 0)) 5)).setCell ⟨g, k, none⟩ (.slice (some ⟨w1.heap.size, 0, none⟩) (s.sizeB k) (s.sizeB k))) := (ha.mono (by simp)).setCell (.inl (by simp)) _
  have hset2 : Off [g] wr ((w1.alloc (.cells (Array.replicate (s.sizeB k) (.int .u8 0)) 5)).setCell ⟨g, k, none⟩ (.slice (some ⟨w1.heap.size, 0, none⟩) (s.sizeB k) (s.sizeB k))) := (hoa.mono (by simp)).setCell (.inl (by simp)) _
  have hnew : IsB (w1.alloc (.cells (Array.replicate (s.sizeB k) (.int .u8 0)) 5)) (.slice (some ⟨w1.heap.size, 0, none⟩) (s.sizeB k) (s.sizeB k)) (List.replicate (s.sizeB k) 0) := by
    unfold IsB
    rw [List.length_replicate, bytesV_zeros]
    have q := Own.new w1 5 1 (Array.replicate (s.sizeB k) (.int .u8 0)) (s.sizeB k) (by unfold maxLen; omega) (by simp)
    simpa using q
  have hgn : g ∉ vs.flatMap blk := (List.nodup_cons.1 h3).1
  refine ⟨g, vs ++ [.slice (some ⟨w1.heap.size, 0, none⟩) (s.sizeB k) (s.sizeB k)], rfl, ?_, ⟨by simp [hl], fun i l hli => ?_⟩, ?_, ?_, ?_⟩
  · have q := (h1.off hoa (by simp)).set k (.slice (some ⟨w1.heap.size, 0, none⟩) (s.sizeB k) (s.sizeB k))
    rw [Nat.zero_add] at q
    have e : (vs ++ List.replicate (s.pages + 3 - k) (Value.slice none 0 0)).set k (Value.slice (some ⟨w1.heap.size, 0, none⟩) (s.sizeB k) (s.sizeB k)) = (vs ++ [Value.slice (some ⟨w1.heap.size, 0, none⟩) (s.sizeB k) (s.sizeB k)]) ++ List.replicate (s.pages + 3 - (k + 1)) (Value.slice none 0 0) := by
      rw [List.set_append_right _ _ (by omega), hl, Nat.sub_self, show s.pages + 3 - k = (s.pages + 3 - (k + 1)) + 1 by omega, List.replicate_succ, List.append_assoc]; rfl
    rw [e] at q; exact q
  · rw [List.range_succ, List.map_append] at hli
    by_cases hi : i < k
    · rw [List.getElem?_append_left (by simpa using hi)] at hli
      obtain ⟨x, hx, hb⟩ := h2.2 i l hli
      refine ⟨x, by rw [List.getElem?_append_left (by omega)]; exact hx, hb.off hset2 (fun z hz hz' => ?_)⟩
      simp at hz'; subst hz'
      exact hgn (List.mem_flatMap.2 ⟨x, List.mem_of_getElem? hx, hz⟩)
    · rw [List.getElem?_append_right (by simp; omega)] at hli
      simp only [List.length_map, List.length_range, List.map_cons, List.map_nil] at hli
      have hik : i - k = 0 := by
        rcases Nat.eq_zero_or_pos (i - k) with h | h
        · exact h
        · rw [List.getElem?_eq_none (by simp; omega)] at hli; simp at hli
      rw [hik] at hli
      simp at hli
      subst hli
      have hi2 : i = k := by omega
      subst hi2
      refine ⟨_, by rw [List.getElem?_append_right (by omega), hl, Nat.sub_self]; rfl, ?_⟩
      exact Own.setCell hnew _ _ (by simp [blk]; omega)
  · rw [List.flatMap_append, ← List.cons_append]
    refine List.nodup_append.2 ⟨h3, by simp [blk], fun a ha b hb e => ?_⟩
    simp [blk] at hb
    have := (h5 a ha).2
    omega
  · exact (h4.trans hoa (by simp)).trans (T := [g]) ((Off.refl [g] _).setCell (.inl (by simp)) _) (fun z hz => .inr (by simp at hz; rw [hz]; exact (h5 g (by simp)).1))
  · intro z hz
    simp only [List.mem_cons, List.flatMap_append, List.mem_append] at hz
    simp only [World.size_setCell, World.size_alloc]
    rcases hz with rfl | hz | hz
    · have := h5 z (by simp); omega
    · have := h5 z (List.mem_cons_of_mem _ hz); omega
    · simp [blk] at hz; have := h4.size; omega
end Go.Proofs.YtfdgiblkllfpjaaGreatDoor

/- disk: blank. -/
set_option linter.unusedVariables false
set_option linter.unusedSimpArgs false
namespace Go.Proofs.YtfdgiblkllfpjaaGreatDoor
open Go.ChangeShapes Go.WideShapes Go.ChangeAt Go.RowKit

def blankG (s : Shp) : List (List UInt8) := (List.range (s.pages + 3)).map (fun i => List.replicate (s.sizeB i) 0)
theorem blankG_len (s : Shp) : (blankG s).length = s.pages + 3 := by unfold blankG; simp
/-- A ground that nobody else knows. -/
def GroundF (w : World) (gs : List (List UInt8)) (e : Ending) (w' : World) : Prop :=
  ∃ v fp, e = .returned v ∧ Ground w' v gs fp ∧ Off [] w w' ∧ ∀ z ∈ fp, w.heap.size ≤ z
theorem BlankIn.done {w wr : World} {s : Shp} {v : Value} (h : BlankIn w s (s.pages + 3) v wr) : GroundF w (blankG s) (.returned v) wr := by
  obtain ⟨g, vs, rfl, h1, h2, h3, h4, h5⟩ := h
  rw [Nat.sub_self, List.replicate_zero, List.append_nil] at h1
  refine ⟨_, g :: vs.flatMap blk, rfl, ⟨vs, by rw [blankG_len]; exact h1, h2, rfl, h3⟩, h4, fun z hz => (h5 z hz).1⟩
theorem BlankIn.start {w : World} {s : Shp} (h : s.ok) : BlankIn w s 0 (.slice (some ⟨w.heap.size, 0, none⟩) (s.pages + 3) (s.pages + 3)) (w.alloc (.cells (Array.replicate (s.pages + 3) (.slice none 0 0)) 22)) := by
  obtain ⟨_, p2, _⟩ := h
  refine ⟨w.heap.size, [], rfl, ?_, ⟨by simp, by simp⟩, by simp, (Off.refl _ _).alloc _, by simp⟩
  have q := Own.new w 22 1 (Array.replicate (s.pages + 3) (Value.slice none 0 0)) (s.pages + 3) (by unfold maxLen; omega) (by simp)
  simpa using q
set_option maxRecDepth 100000 in
set_option maxHeartbeats 4000000 in
theorem blank47 (s : Shp) (h : s.ok) (w : World) : Calls Tryz.prog 47 #[.agg #[.int .i64 s.pages, .int .i64 s.slots, .int .i64 s.log]] w (GroundF w (blankG s)) := by
  have HSZ : Hid (∀ (k : Nat) W, k < 1000000 → Calls Tryz.prog 86 #[.agg #[.int .i64 s.pages, .int .i64 s.slots, .int .i64 s.log], .int .i64 (k : Int)] W fun e w' => e = .returned (.int .i64 (s.sizeB k : Nat)) ∧ Off [] W w') := Lib.hid (fun k W hk => size86 s h k hk W)
  have HSL := Lib.hid (Shp.size_lt h)
  obtain ⟨w1, hw1⟩ : ∃ w1, w1 = w.alloc (.cells #[.int .i64 s.pages, .int .i64 s.slots, .int .i64 s.log] 28) := ⟨_, rfl⟩
  have HB := Lib.hid (IsC.new w #[.int .i64 s.pages, .int .i64 s.slots, .int .i64 s.log] 28)
  have HO1 := Lib.hid ((Off.refl [] w).alloc (.cells #[.int .i64 s.pages, .int .i64 s.slots, .int .i64 s.log] 28))
  rw [← hw1] at HB HO1
  have hbs := BlankIn.start (w := w1) h
  have HBS := Lib.hid hbs
  have HEND : Hid (∀ v wr, BlankIn w1 s (s.pages + 3) v wr → GroundF w (blankG s) (.returned v) wr) := Lib.hid (fun v wr hb => by
    obtain ⟨v', fp, e1, e2, e3, e4⟩ := hb.done
    exact ⟨v', fp, e1, e2, HO1.out.trans e3 (by simp), fun z hz => Nat.le_trans HO1.out.size (e4 z hz)⟩)
  obtain ⟨p1, p2, _, _, _, _⟩ := h
  obtain ⟨n, hn⟩ : ∃ n, n = s.pages := ⟨_, rfl⟩
  have HN := Lib.hid hn
  have hmk : ∀ W, (Instr.makeSlice 100 (.int .i64 ((n : Int) + 3)) (.int .i64 ((n : Int) + 3))).run Tryz.prog W = .ok (.slice (some ⟨W.heap.size, 0, none⟩) (n + 3) (n + 3)) (W.alloc (.cells (Array.replicate (n + 3) (.slice none 0 0)) 22)) := fun W => makeG (n + 3) (by omega) W
  rw [← hn] at p1 p2 HSZ HB HBS HEND hw1 ⊢
  generalize ((s.slots : Nat) : Int) = a at *
  generalize ((s.log : Nat) : Int) = b at *
  clear hn hbs
  go_enter Tryz.func47, Tryz.ntmps47
  go_wp2_with fail
  have hs1 : w1.heap.size = w.heap.size + 1 := by rw [hw1]; simp
  rw [hs1] at HBS
  rw [← hw1]
  generalize w.heap.size = rb at *
  go_loopw [4, 11] (fun _ i wr => ∃ k : Nat, k ≤ n + 3 ∧ i = .int .i64 (k : Nat) ∧ BlankIn w1 s k (.slice (some ⟨rb + 1, 0, none⟩) (n + 3) (n + 3)) wr) (fun _ i _ => n + 3 - (intOf i).toNat)
  case atStart => exact ⟨0, by omega, by go_num, HBS.out⟩
  case round =>
    obtain ⟨k, hk, rfl, hin⟩ := hrel
    by_cases hlt : k < n + 3
    · obtain ⟨g, vs, hv, h1, h2, h3, h4, h5⟩ := hin
      injection hv with e1 e2 e3
      injection e1 with e1
      injection e1 with e1 e4 e5
      subst e1
      clear e2 e3
      rw [← HN.out] at h1
      have hbr := IsC.off (S := []) HB.out h4 (by simp)
      have c0 := hbr.cell 0
      have c1 := hbr.cell 1
      have c2 := hbr.cell 2
      simp only [List.getElem?_toArray, List.getElem?_cons_zero, List.getElem?_cons_succ] at c0 c1 c2
      have hsl := HSL.out k
      have HSZ1 := Lib.hid (HSZ.out k wr (by omega))
      have HST := Lib.hid (fun (w2 : World) (ho : Off [] wr w2) => BlankIn.step (w1 := w2) (by rw [← HN.out]; exact hlt) (by rw [← HN.out]; exact h1) h2 h3 h4 h5 ho (by omega) (by omega))
      have HFZ : Hid (∀ w2, Off [] wr w2 → ∃ vv, w2.cell? ⟨rb + 1, k, none⟩ = some vv) := Lib.hid (fun w2 ho => by
        rcases (h1.off ho (by simp)).2 with ⟨e, _⟩ | ⟨g, off, cap, cur, e, hc, hn', hm, hcs, _⟩
        · simp at e
        · injection e with e1 e2 e3
          injection e1 with e1
          injection e1 with e1 e4 _
          subst e1; subst e4; subst e3
          rw [hc.cell, Array.getElem?_eq_getElem (by omega)]; exact ⟨_, rfl⟩)
      have HUF : Hid (∀ w2, Off [] wr w2 → ∀ o, w2.frozen? ⟨rb + 1, o, none⟩ = false) := Lib.hid (fun w2 ho o => Own.unfrozen (h1.off ho (by simp)) o)
      rw [← HN.out] at HST
      clear h1 h2 h3 h4 h5 hbr
      generalize s.sizeB k = sz at *
      go_wp2_with fail
      refine HSZ1.out.mono ?_
      rintro e w2 ⟨rfl, ho2⟩
      have hmb := makeB sz (by omega) w2
      obtain ⟨vv, hvv⟩ := HFZ.out _ (ho2.alloc (.cells (Array.replicate sz (.int .u8 0)) 5))
      have huf := HUF.out _ (ho2.alloc (.cells (Array.replicate sz (.int .u8 0)) 5))
      have hs2 := ho2.size
      have HS2 := Lib.hid (HST.out w2 ho2)
      clear ho2 HST HSZ1 HFZ HUF c0 c1 c2
      go_wp2_with fail
      exact ⟨⟨k + 1, by omega, by go_num, HS2.out⟩, by simp [intOf]; omega⟩
    · have hkn : n + 3 = k := by omega
      subst hkn
      have HF := Lib.hid (HEND.out _ _ hin)
      clear hin
      go_wp2_with fail
      go_ret
      exact HF.out
end Go.Proofs.YtfdgiblkllfpjaaGreatDoor

/- disk: the disk as a plain model over the heap; act. -/
set_option linter.unusedVariables false
set_option linter.unusedSimpArgs false
namespace Go.Proofs.YtfdgiblkllfpjaaGreatDoor
open Go.ChangeShapes Go.WideShapes Go.ChangeAt Go.RowKit

/-- A loose write. -/
structure LooseW where
  master : Bool
  place : Nat
  bytes : List UInt8
structure DiskM where
  shp : Shp
  lasts : List (List UInt8)
  reads : List (List UInt8)
  loose : List LooseW
  log : List UInt8
  lasted : Nat
  acts : Nat
  stop : Int
  dead : Bool
/-- The variables that a loose write's function holds: the place's, the bytes', the bytes' slice. -/
structure Held where
  pb : Nat
  mb : Nat
  mv : Value
def Held.fp (p : Held) : List Nat := p.pb :: p.mb :: blk p.mv
def looseC (x : LooseW) (p : Held) : List Value := [.bool x.master, .int .i64 (x.bytes.length : Nat), .func (.func 259) #[] #[.pointer (some ⟨p.pb, 0, none⟩), .pointer (some ⟨p.mb, 0, none⟩)]]
def HeldOk (w : World) (x : LooseW) (p : Held) : Prop := IsC w p.pb #[.int .i64 (x.place : Nat)] 3 ∧ IsC w p.mb #[p.mv] 22 ∧ IsB w p.mv x.bytes
def Loose (w : World) (v : Value) (ls : List LooseW) (fp : List Nat) : Prop :=
  ∃ ps : List Held, ps.length = ls.length ∧ Own w 150 3 v ls.length ((ls.zip ps).flatMap fun q => looseC q.1 q.2) ∧ (∀ q ∈ ls.zip ps, HeldOk w q.1 q.2) ∧ fp = blk v ++ ps.flatMap Held.fp
theorem Loose.off {w w' : World} {v : Value} {ls : List LooseW} {fp S : List Nat} (h : Loose w v ls fp) (ho : Off S w w') (hn : ∀ z ∈ fp, z ∉ S) : Loose w' v ls fp := by
  obtain ⟨ps, h1, h2, h3, rfl⟩ := h
  refine ⟨ps, h1, h2.off ho (fun z hz => hn z (by simp [hz])), fun q hq => ?_, rfl⟩
  obtain ⟨k1, k2, k3⟩ := h3 q hq
  have hin : ∀ z ∈ q.2.fp, z ∉ S := fun z hz => hn z (List.mem_append_right _ (List.mem_flatMap.2 ⟨q.2, (List.of_mem_zip hq).2, hz⟩))
  exact ⟨k1.off ho (hin _ (by simp [Held.fp])), k2.off ho (hin _ (by simp [Held.fp])), k3.off ho (fun z hz => hin z (by simp [Held.fp, hz]))⟩
def headC (m : DiskM) (lv rv ov gv : Value) : Array Value :=
  #[.int .i64 m.shp.pages, .int .i64 m.shp.slots, .int .i64 m.shp.log, lv, rv, ov, gv, .int .i64 (m.lasted : Nat), .int .i64 (m.acts : Nat), .int .i64 m.stop, .bool m.dead]
/-- The disk lies here, in these blocks. -/
def DiskR (w : World) (d : Nat) (m : DiskM) (fp : List Nat) : Prop :=
  ∃ lv rv ov gv fl fr fo, IsC w d (headC m lv rv ov gv) 104 ∧ Ground w lv m.lasts fl ∧ Ground w rv m.reads fr ∧ Loose w ov m.loose fo ∧ IsB w gv m.log ∧
    fp = d :: (fl ++ (fr ++ (fo ++ blk gv))) ∧ fp.Nodup ∧ m.shp.ok ∧ m.lasts.length = m.shp.pages + 3 ∧ m.reads.length = m.shp.pages + 3
theorem DiskR.off {w w' : World} {d : Nat} {m : DiskM} {fp S : List Nat} (h : DiskR w d m fp) (ho : Off S w w') (hn : ∀ z ∈ fp, z ∉ S) : DiskR w' d m fp := by
  obtain ⟨lv, rv, ov, gv, fl, fr, fo, h1, h2, h3, h4, h5, rfl, h6, h7⟩ := h
  refine ⟨lv, rv, ov, gv, fl, fr, fo, h1.off ho (hn d (by simp)), h2.off ho (fun z hz => hn z (by simp [hz])), h3.off ho (fun z hz => hn z (by simp [hz])), h4.off ho (fun z hz => hn z (by simp [hz])), h5.off ho (fun z hz => hn z (by simp [hz])), rfl, h6, h7⟩
theorem Items.lt {w : World} {vs : List Value} {gs : List (List UInt8)} (h : Items w vs gs) : ∀ z ∈ vs.flatMap blk, z < w.heap.size := by
  intro z hz
  obtain ⟨x, hx, hz⟩ := List.mem_flatMap.1 hz
  obtain ⟨i, hi, rfl⟩ := List.getElem_of_mem hx
  have hig : i < gs.length := by rw [← h.1]; exact hi
  obtain ⟨y, hy, hb⟩ := h.2 i gs[i] (List.getElem?_eq_getElem hig)
  rw [List.getElem?_eq_getElem hi] at hy
  injection hy with hy
  subst hy
  exact hb.lt z hz
theorem Ground.lt {w : World} {v : Value} {gs : List (List UInt8)} {fp : List Nat} (h : Ground w v gs fp) : ∀ z ∈ fp, z < w.heap.size := by
  obtain ⟨vs, h1, h2, rfl, _⟩ := h
  intro z hz
  rcases List.mem_append.1 hz with q | q
  · exact h1.lt z q
  · exact h2.lt z q
theorem Loose.lt {w : World} {v : Value} {ls : List LooseW} {fp : List Nat} (h : Loose w v ls fp) : ∀ z ∈ fp, z < w.heap.size := by
  obtain ⟨ps, h1, h2, h3, rfl⟩ := h
  intro z hz
  rcases List.mem_append.1 hz with q | q
  · exact h2.lt z q
  · obtain ⟨p, hp, hz⟩ := List.mem_flatMap.1 q
    obtain ⟨i, hi, rfl⟩ := List.getElem_of_mem hp
    have hil : i < ls.length := by omega
    have hzip : (ls[i], ps[i]) ∈ ls.zip ps := by
      have q := List.getElem_mem (l := ls.zip ps) (n := i) (by rw [List.length_zip]; omega)
      rw [List.getElem_zip] at q; exact q
    obtain ⟨k1, k2, k3⟩ := h3 _ hzip
    simp only [Held.fp, List.mem_cons] at hz
    rcases hz with rfl | rfl | hz
    · exact k1.lt
    · exact k2.lt
    · exact k3.lt z hz
theorem DiskR.lt {w : World} {d : Nat} {m : DiskM} {fp : List Nat} (h : DiskR w d m fp) : ∀ z ∈ fp, z < w.heap.size := by
  obtain ⟨lv, rv, ov, gv, fl, fr, fo, h1, h2, h3, h4, h5, rfl, _⟩ := h
  intro z hz
  simp only [List.mem_cons, List.mem_append] at hz
  rcases hz with rfl | q | q | q | q
  · exact h1.lt
  · exact h2.lt z q
  · exact h3.lt z q
  · exact h4.lt z q
  · exact h5.lt z q
/-- A call has been made of it. -/
def DiskStep (d : Nat) (fp : List Nat) (m : DiskM) (w w' : World) : Prop := ∃ fp', DiskR w' d m fp' ∧ Off fp w w' ∧ ∀ z ∈ fp', z ∈ fp ∨ w.heap.size ≤ z
/-- A call has been made of it; its blocks are the same. -/
def DiskKeep (d : Nat) (fp : List Nat) (m : DiskM) (w w' : World) : Prop := DiskR w' d m fp ∧ Off fp w w'
theorem DiskKeep.step {d : Nat} {fp : List Nat} {m : DiskM} {w w' : World} (h : DiskKeep d fp m w w') : DiskStep d fp m w w' := ⟨fp, h.1, h.2, fun z hz => .inl hz⟩
def DiskM.stops (m : DiskM) : Bool := m.dead || (decide (0 < m.stop) && decide (m.stop ≤ (m.acts : Int) + 1))
def DiskM.act (m : DiskM) : DiskM := if m.stops then { m with dead := true } else { m with acts := m.acts + 1 }
theorem DiskR.head {w w' : World} {d : Nat} {m m' : DiskM} {fp : List Nat} (h : DiskR w d m fp) (j : Nat) (u : Value) (hw : w' = w.setCell ⟨d, j, none⟩ u) (hc : ∀ lv rv ov gv, (headC m lv rv ov gv).setIfInBounds j u = headC m' lv rv ov gv)
    (e1 : m'.shp = m.shp) (e2 : m'.lasts = m.lasts) (e3 : m'.reads = m.reads) (e4 : m'.loose = m.loose) (e5 : m'.log = m.log) : DiskKeep d fp m' w w' := by
  subst hw
  obtain ⟨lv, rv, ov, gv, fl, fr, fo, h1, h2, h3, h4, h5, rfl, h6, h7, h8, h9⟩ := h
  have ho : Off [d] w (w.setCell ⟨d, j, none⟩ u) := (Off.refl [d] w).setCell (.inl (by simp)) u
  obtain ⟨n1, n2⟩ := List.nodup_cons.1 h6
  have hin : ∀ z, z ∈ fl ++ (fr ++ (fo ++ blk gv)) → z ∉ [d] := fun z hz hz' => by simp at hz'; subst hz'; exact n1 hz
  refine ⟨⟨lv, rv, ov, gv, fl, fr, fo, ?_, ?_, ?_, ?_, ?_, rfl, h6, ?_, ?_, ?_⟩, ho.mono (by simp)⟩
  · have q := h1.set j u; rw [hc] at q; exact q
  · rw [e2]; exact h2.off ho (fun z hz => hin z (by simp [hz]))
  · rw [e3]; exact h3.off ho (fun z hz => hin z (by simp [hz]))
  · rw [e4]; exact h4.off ho (fun z hz => hin z (by simp [hz]))
  · rw [e5]; exact h5.off ho (fun z hz => hin z (by simp [hz]))
  · rw [e1]; exact h7
  · rw [e1, e2]; exact h8
  · rw [e1, e3]; exact h9
theorem DiskKeep.before {d : Nat} {fp : List Nat} {m : DiskM} {w w1 w2 : World} (ho : Off [] w w1) (h : DiskKeep d fp m w1 w2) : DiskKeep d fp m w w2 := ⟨h.1, (ho.mono (by simp)).trans h.2 (fun z hz => .inl hz)⟩
theorem DiskKeep.behind {d : Nat} {fp : List Nat} {m : DiskM} {w w1 w2 : World} (h : DiskKeep d fp m w w1) (ho : Off [] w1 w2) : DiskKeep d fp m w w2 := ⟨h.1.off ho (by simp), h.2.trans ho (by simp)⟩
theorem DiskStep.before {d : Nat} {fp : List Nat} {m : DiskM} {w w1 w2 : World} (ho : Off [] w w1) (h : DiskStep d fp m w1 w2) : DiskStep d fp m w w2 := by
  obtain ⟨fp', h1, h2, h3⟩ := h
  exact ⟨fp', h1, (ho.mono (by simp)).trans h2 (fun z hz => .inl hz), fun z hz => (h3 z hz).imp_right fun q => Nat.le_trans ho.size q⟩
end Go.Proofs.YtfdgiblkllfpjaaGreatDoor

/- disk: act, page, Shape, Acts. -/
set_option linter.unusedVariables false
set_option linter.unusedSimpArgs false
namespace Go.Proofs.YtfdgiblkllfpjaaGreatDoor
open Go.ChangeShapes Go.WideShapes Go.ChangeAt Go.RowKit

theorem DiskR.cells {w : World} {d : Nat} {m : DiskM} {fp : List Nat} (h : DiskR w d m fp) :
    w.cell? ⟨d, 0, none⟩ = some (.int .i64 m.shp.pages) ∧ w.cell? ⟨d, 1, none⟩ = some (.int .i64 m.shp.slots) ∧ w.cell? ⟨d, 2, none⟩ = some (.int .i64 m.shp.log) ∧ w.cell? ⟨d, 8, none⟩ = some (.int .i64 (m.acts : Nat)) ∧ w.cell? ⟨d, 9, none⟩ = some (.int .i64 m.stop) ∧ w.cell? ⟨d, 10, none⟩ = some (.bool m.dead) ∧ ∀ o, w.frozen? ⟨d, o, none⟩ = false := by
  obtain ⟨lv, rv, ov, gv, fl, fr, fo, h1, _⟩ := h
  refine ⟨?_, ?_, ?_, ?_, ?_, ?_, fun o => h1.unfrozen o⟩ <;> rw [h1.cell] <;> rfl
theorem stops_dead {m : DiskM} (h : m.dead = true) : m.stops = true := by unfold DiskM.stops; rw [h]; rfl
theorem act_stop {w w1 : World} {d : Nat} {m : DiskM} {fp : List Nat} (h : DiskR w d m fp) (hs : m.stops = true) (ho : Off [] w w1) : DiskKeep d fp m.act w (w1.setCell ⟨d, 10, none⟩ (.bool true)) := by
  refine DiskKeep.before ho (DiskR.head (h.off ho (by simp)) 10 _ rfl ?_ ?_ ?_ ?_ ?_ ?_)
  all_goals (unfold DiskM.act; rw [if_pos hs])
  intros; rfl
theorem act_go {w w1 : World} {d : Nat} {m : DiskM} {fp : List Nat} (h : DiskR w d m fp) (hs : m.stops = false) (ho : Off [] w w1) : DiskKeep d fp m.act w (w1.setCell ⟨d, 8, none⟩ (.int .i64 ((m.acts : Int) + 1))) := by
  refine DiskKeep.before ho (DiskR.head (h.off ho (by simp)) 8 _ rfl ?_ ?_ ?_ ?_ ?_ ?_)
  all_goals (unfold DiskM.act; rw [if_neg (by rw [hs]; simp)])
  intros; rfl
def ActPost (d : Nat) (fp : List Nat) (m : DiskM) (w : World) (e : Ending) (w' : World) : Prop := e = .returned (.bool (!m.stops)) ∧ DiskKeep d fp m.act w w'
set_option maxRecDepth 100000 in
set_option maxHeartbeats 4000000 in
theorem act111 {w : World} {d : Nat} {m : DiskM} {fp : List Nat} (h : DiskR w d m fp) (ha : m.acts < 4611686018427387904) : Calls Tryz.prog 111 #[.pointer (some ⟨d, 0, none⟩)] w (ActPost d fp m w) := by
  obtain ⟨_, _, _, k8, k9, k10, hf⟩ := h.cells
  have HS : Hid (m.stops = true → ∀ w1, Off [] w w1 → ActPost d fp m w (.returned (.bool false)) (w1.setCell ⟨d, 10, none⟩ (.bool true))) := Lib.hid (fun hs w1 ho => ⟨by rw [hs]; rfl, act_stop h hs ho⟩)
  have HG : Hid (m.stops = false → ∀ w1, Off [] w w1 → ActPost d fp m w (.returned (.bool true)) (w1.setCell ⟨d, 8, none⟩ (.int .i64 ((m.acts : Int) + 1)))) := Lib.hid (fun hs w1 ho => ⟨by rw [hs]; rfl, act_go h hs ho⟩)
  have HST : Hid (m.stops = (m.dead || (decide (0 < m.stop) && decide (m.stop ≤ (m.acts : Int) + 1)))) := Lib.hid rfl
  have ha2 : ((m.acts : Nat) : Int) < 4611686018427387904 := by omega
  clear h ha
  generalize m.dead = dead at *
  generalize m.stop = stop at *
  generalize m.acts = acts at *
  cases dead
  · by_cases h1 : 0 < stop
    · by_cases h2 : stop ≤ (acts : Int) + 1
      · have hs : m.stops = true := by rw [HST.out, decide_eq_true h1, decide_eq_true h2]; rfl
        have HP := Lib.hid (HS.out hs)
        have d1 : decide (stop ≤ (acts : Int) + 1) = true := decide_eq_true h2
        clear HS HG HST hs
        go_enter Tryz.func111, Tryz.ntmps111
        go_wp2_with fail
        go_quiet (fail)
        go_wp2_with fail
        go_ret
        exact HP.out _ ((Off.refl _ _).drewN _)
      · have hs : m.stops = false := by rw [HST.out, decide_eq_true h1, decide_eq_false h2]; rfl
        have HP := Lib.hid (HG.out hs)
        have d1 : decide (stop ≤ (acts : Int) + 1) = false := decide_eq_false h2
        clear HS HG HST hs
        go_enter Tryz.func111, Tryz.ntmps111
        go_wp2_with fail
        go_quiet (fail)
        go_wp2_with fail
        go_ret
        exact HP.out _ ((Off.refl _ _).drewN _)
    · have hs : m.stops = false := by rw [HST.out, decide_eq_false h1]; rfl
      have HP := Lib.hid (HG.out hs)
      have d1 : decide (0 < stop) = false := decide_eq_false h1
      clear HS HG HST hs
      go_enter Tryz.func111, Tryz.ntmps111
      go_wp2_with fail
      go_quiet (fail)
      go_wp2_with fail
      go_ret
      exact HP.out _ ((Off.refl _ _).drewN _)
  · have hs : m.stops = true := by rw [HST.out]; rfl
    have HP := Lib.hid (HS.out hs)
    clear HS HG HST hs
    go_enter Tryz.func111, Tryz.ntmps111
    go_wp2_with fail
    go_quiet (fail)
    go_wp2_with fail
    go_ret
    exact HP.out _ ((Off.refl _ _).drewN _)
end Go.Proofs.YtfdgiblkllfpjaaGreatDoor

/- disk: page, Shape, read, ReadPage, ReadPair. -/
set_option linter.unusedVariables false
set_option linter.unusedSimpArgs false
namespace Go.Proofs.YtfdgiblkllfpjaaGreatDoor
open Go.ChangeShapes Go.WideShapes Go.ChangeAt Go.RowKit

theorem results_cell1 {fn : Func} {p : Tmp} {ty : TypeId} (h : fn.results = #[.cell p ty]) (tmps : Array Value) (P : Program) (w : World) :
    (results fn tmps).run P w = ((asAddr (tmps.getD p undef)).run P w).andThen fun a w₁ => (loadVar ty a).run P w₁ := by
  simp only [results, h]
  simp [Sem.run_bind, Result.andThen]
theorem Ground.at {w : World} {v : Value} {gs : List (List UInt8)} {fp : List Nat} (h : Ground w v gs fp) (k : Nat) (l : List UInt8) (hl : gs[k]? = some l) :
    ∃ g off cap xo xc, v = .slice (some ⟨g, off, none⟩) gs.length cap ∧ w.cell? ⟨g, off + k, none⟩ = some (.slice xo l.length xc) ∧ IsB w (.slice xo l.length xc) l ∧ (∀ z ∈ blk (.slice xo l.length xc), z ∈ fp) := by
  obtain ⟨vs, h1, h2, rfl, _⟩ := h
  obtain ⟨x, hx, hb⟩ := h2.2 k l hl
  have hk := (List.getElem?_eq_some_iff.1 hl).1
  obtain ⟨xo, xc, rfl⟩ := hb.val
  rcases h1.2 with ⟨e, h0⟩ | ⟨g, off, c, cur, rfl, hr⟩
  · omega
  · refine ⟨g, off, c, xo, xc, rfl, ?_, hb, fun z hz => List.mem_append_right _ (List.mem_flatMap.2 ⟨_, List.mem_of_getElem? hx, hz⟩)⟩
    rw [Own.cellAt h1 k (by omega)]; exact hx
theorem DiskR.readAt {w : World} {d : Nat} {m : DiskM} {fp : List Nat} (h : DiskR w d m fp) (k : Nat) (l : List UInt8) (hl : m.reads[k]? = some l) :
    ∃ g off cap xo xc, w.cell? ⟨d, 4, none⟩ = some (.slice (some ⟨g, off, none⟩) m.reads.length cap) ∧ w.cell? ⟨g, off + k, none⟩ = some (.slice xo l.length xc) ∧ IsB w (.slice xo l.length xc) l := by
  obtain ⟨lv, rv, ov, gv, fl, fr, fo, h1, h2, h3, _⟩ := h
  obtain ⟨g, off, cap, xo, xc, rfl, k1, k2, _⟩ := h3.at k l hl
  exact ⟨g, off, cap, xo, xc, by rw [h1.cell]; rfl, k1, k2⟩
theorem DiskR.ok {w : World} {d : Nat} {m : DiskM} {fp : List Nat} (h : DiskR w d m fp) : m.shp.ok ∧ m.lasts.length = m.shp.pages + 3 ∧ m.reads.length = m.shp.pages + 3 := by
  obtain ⟨_, _, _, _, _, _, _, _, _, _, _, _, _, _, h⟩ := h; exact h
theorem act_shp (m : DiskM) : m.act.shp = m.shp ∧ m.act.lasts = m.lasts ∧ m.act.reads = m.reads ∧ m.act.loose = m.loose ∧ m.act.log = m.log := by unfold DiskM.act; split <;> exact ⟨rfl, rfl, rfl, rfl, rfl⟩
set_option maxRecDepth 100000 in
set_option maxHeartbeats 2000000 in
theorem page72 {w : World} {d : Nat} {m : DiskM} {fp : List Nat} (h : DiskR w d m fp) (p : Nat) (hp : p < m.shp.pages) : Calls Tryz.prog 72 #[.pointer (some ⟨d, 0, none⟩), .int .i64 (p : Int)] w fun e w' => e = .returned (.int .i64 (p : Int)) ∧ w = w' := by
  obtain ⟨k0, _⟩ := h.cells
  obtain ⟨⟨_, h16, _⟩, _⟩ := h.ok
  generalize m.shp.pages = n at *
  clear h
  go_enter Tryz.func72, Tryz.ntmps72
  go_wp2_with fail
  go_ret
  exact ⟨rfl, rfl⟩
set_option maxRecDepth 100000 in
set_option maxHeartbeats 2000000 in
theorem shape51 {w : World} {d : Nat} {m : DiskM} {fp : List Nat} (h : DiskR w d m fp) : Calls Tryz.prog 51 #[.pointer (some ⟨d, 0, none⟩)] w fun e w' => e = .returned (.agg #[.int .i64 m.shp.pages, .int .i64 m.shp.slots, .int .i64 m.shp.log]) ∧ Off [] w w' := by
  obtain ⟨k0, k1, k2, _⟩ := h.cells
  have hd := h.lt d (by obtain ⟨_, _, _, _, _, _, _, _, _, _, _, _, rfl, _⟩ := h; simp)
  obtain ⟨⟨_, h16, _⟩, _⟩ := h.ok
  generalize m.shp.pages = n at *
  generalize m.shp.slots = s at *
  generalize m.shp.log = g at *
  clear h
  go_enter Tryz.func51, Tryz.ntmps51
  go_wp2_with fail
  refine bodyPost_ret (v := .agg #[.int .i64 n, .int .i64 s, .int .i64 g]) (by rw [results_cell1 rfl]; go_simp; try rfl) rfl ?_
  exact ⟨rfl, (Off.refl _ _).alloc _⟩
/-- What a reading call answers. -/
def ReadPost (d : Nat) (fp : List Nat) (m : DiskM) (l : List UInt8) (w : World) (e : Ending) (w' : World) : Prop :=
  DiskKeep d fp m.act w w' ∧ ((m.stops = true ∧ e = .returned (.tuple #[.slice none 0 0, .int .i64 1])) ∨
    (m.stops = false ∧ ∃ ao cap, e = .returned (.tuple #[.slice ao l.length cap, .int .i64 0]) ∧ IsB w' (.slice ao l.length cap) l ∧ ∀ z ∈ blk (.slice ao l.length cap), w.heap.size ≤ z))
set_option maxRecDepth 100000 in
set_option maxHeartbeats 2000000 in
theorem read71 {w : World} {d : Nat} {m : DiskM} {fp : List Nat} (h : DiskR w d m fp) (ha : m.acts < 4611686018427387904) (k : Nat) (l : List UInt8) (hl : m.reads[k]? = some l) (hll : l.length < 1000000) :
    Calls Tryz.prog 71 #[.pointer (some ⟨d, 0, none⟩), .int .i64 (k : Int)] w (ReadPost d fp m l w) := by
  have HA := Lib.hid (act111 h ha)
  have hkn := (List.getElem?_eq_some_iff.1 hl).1
  have hok := h.ok
  have hk20 : k < 20 := by have := hok.1.2.1; omega
  have HL := Lib.hid hl
  cases hs : m.stops
  · unfold ActPost at HA
    rw [hs] at HA
    clear h
    go_enter Tryz.func71, Tryz.ntmps71
    go_wp2_with fail
    refine HA.out.mono ?_
    rintro e w1 ⟨rfl, hk⟩
    obtain ⟨g, off, cap, xo, xc, c1, c2, hb⟩ := hk.1.readAt k l (by rw [(act_shp m).2.2.1]; exact HL.out)
    rw [(act_shp m).2.2.1] at c1
    have HC := Lib.hid (clone80 _ l w1 hb (by omega))
    have HK := Lib.hid hk
    have HSZ : Hid (w.heap.size ≤ w1.heap.size) := Lib.hid hk.2.size
    clear hk hb HA hl hok
    generalize m.reads.length = n at *
    go_wp2_with fail
    refine HC.out.mono ?_
    rintro e w2 ⟨ao, cp, rfl, h1, h2, h3⟩
    have HF : Hid (ReadPost d fp m l w (.returned (.tuple #[.slice ao l.length cp, .int .i64 0])) w2) := Lib.hid ⟨HK.out.behind h2, .inr ⟨hs, ao, cp, rfl, h1, fun z hz => Nat.le_trans HSZ.out (h3 z hz)⟩⟩
    clear h1 h2 h3 HC
    go_wp2_with fail
    go_ret2
    exact HF.out
  · unfold ActPost at HA
    rw [hs] at HA
    clear h
    go_enter Tryz.func71, Tryz.ntmps71
    go_wp2_with fail
    refine HA.out.mono ?_
    rintro e w1 ⟨rfl, hk⟩
    have HF : Hid (ReadPost d fp m l w (.returned (.tuple #[.slice none 0 0, .int .i64 1])) w1) := Lib.hid ⟨hk, .inl ⟨hs, rfl⟩⟩
    clear hk HA
    go_wp2_with fail
    go_ret2
    exact HF.out
end Go.Proofs.YtfdgiblkllfpjaaGreatDoor

/- disk: ReadPage, ReadPair, LogLen, SyncLog, Append, ReadLog, Acts. -/
set_option linter.unusedVariables false
set_option linter.unusedSimpArgs false
namespace Go.Proofs.YtfdgiblkllfpjaaGreatDoor
open Go.ChangeShapes Go.WideShapes Go.ChangeAt Go.RowKit

set_option maxRecDepth 100000 in
set_option maxHeartbeats 2000000 in
theorem readPage24 {w : World} {d : Nat} {m : DiskM} {fp : List Nat} (h : DiskR w d m fp) (ha : m.acts < 4611686018427387904) (p : Nat) (hp : p < m.shp.pages) (l : List UInt8) (hl : m.reads[p]? = some l) (hll : l.length < 1000000) :
    Calls Tryz.prog 24 #[.pointer (some ⟨d, 0, none⟩), .int .i64 (p : Int)] w (ReadPost d fp m l w) := by
  have HP := Lib.hid (page72 h p hp)
  have HR := Lib.hid (read71 h ha p l hl hll)
  clear h hl hp
  go_enter Tryz.func24, Tryz.ntmps24
  go_wp2_with fail
  refine HP.out.mono ?_
  rintro e w1 ⟨rfl, rfl⟩
  go_wp2_with fail
  refine HR.out.mono ?_
  rintro e w1 hr
  have HQ := Lib.hid hr
  rcases hr.2 with ⟨hs, rfl⟩ | ⟨hs, ao, cap, rfl, hb, hf⟩
  · clear hr
    go_wp2_with fail
    go_ret2
    exact HQ.out
  · clear hr hb hf
    go_wp2_with fail
    go_ret2
    exact HQ.out
set_option maxRecDepth 100000 in
set_option maxHeartbeats 2000000 in
theorem readPair106 {w : World} {d : Nat} {m : DiskM} {fp : List Nat} (h : DiskR w d m fp) (ha : m.acts < 4611686018427387904) (l : List UInt8) (hl : m.reads[m.shp.pages]? = some l) (hll : l.length < 1000000) :
    Calls Tryz.prog 106 #[.pointer (some ⟨d, 0, none⟩)] w (ReadPost d fp m l w) := by
  obtain ⟨k0, _⟩ := h.cells
  have HR := Lib.hid (read71 h ha m.shp.pages l hl hll)
  clear h hl
  generalize m.shp.pages = p at *
  go_enter Tryz.func106, Tryz.ntmps106
  go_wp2_with fail
  refine HR.out.mono ?_
  rintro e w1 hr
  have HQ := Lib.hid hr
  rcases hr.2 with ⟨hs, rfl⟩ | ⟨hs, ao, cap, rfl, hb, hf⟩
  · clear hr
    go_wp2_with fail
    go_ret2
    exact HQ.out
  · clear hr hb hf
    go_wp2_with fail
    go_ret2
    exact HQ.out
theorem DiskR.logAt {w : World} {d : Nat} {m : DiskM} {fp : List Nat} (h : DiskR w d m fp) : ∃ ao cap, w.cell? ⟨d, 6, none⟩ = some (.slice ao m.log.length cap) ∧ w.cell? ⟨d, 7, none⟩ = some (.int .i64 (m.lasted : Nat)) ∧ IsB w (.slice ao m.log.length cap) m.log ∧ (∀ z ∈ blk (.slice ao m.log.length cap), z ∈ fp) := by
  obtain ⟨lv, rv, ov, gv, fl, fr, fo, h1, h2, h3, h4, h5, rfl, _⟩ := h
  obtain ⟨ao, cap, rfl⟩ := h5.val
  exact ⟨ao, cap, by rw [h1.cell]; rfl, by rw [h1.cell]; rfl, h5, fun z hz => by simp [hz]⟩
set_option maxHeartbeats 1000000 in
theorem logLen216 {w : World} {d : Nat} {m : DiskM} {fp : List Nat} (h : DiskR w d m fp) : Calls Tryz.prog 216 #[.pointer (some ⟨d, 0, none⟩)] w fun e w' => e = .returned (.int .i64 (m.log.length : Nat)) ∧ w = w' := by
  obtain ⟨ao, cap, k6, _⟩ := h.logAt
  generalize m.log.length = n at *
  clear h
  go_enter Tryz.func216, Tryz.ntmps216
  go_wp2_with fail
  go_ret
  exact ⟨rfl, rfl⟩
set_option maxHeartbeats 1000000 in
theorem acts28 {w : World} {d : Nat} {m : DiskM} {fp : List Nat} (h : DiskR w d m fp) : Calls Tryz.prog 28 #[.pointer (some ⟨d, 0, none⟩)] w fun e w' => e = .returned (.int .i64 (m.acts : Nat)) ∧ w = w' := by
  obtain ⟨_, _, _, k8, _⟩ := h.cells
  generalize m.acts = n at *
  clear h
  go_enter Tryz.func28, Tryz.ntmps28
  go_wp2_with fail
  go_ret
  exact ⟨rfl, rfl⟩
/-- What a call answers that may find the disk dead. -/
def DoPost (d : Nat) (fp : List Nat) (m m' : DiskM) (code : Int) (w : World) (e : Ending) (w' : World) : Prop :=
  (m.stops = true ∧ e = .returned (.int .i64 1) ∧ DiskStep d fp m.act w w') ∨ (m.stops = false ∧ e = .returned (.int .i64 code) ∧ DiskStep d fp m' w w')
theorem DiskStep.trans {d : Nat} {fp : List Nat} {m m' : DiskM} {w w1 w2 : World} (h : DiskStep d fp m w w1) (k : ∀ fp1, DiskR w1 d m fp1 → DiskStep d fp1 m' w1 w2) : DiskStep d fp m' w w2 := by
  obtain ⟨fp1, h1, h2, h3⟩ := h
  obtain ⟨fp2, k1, k2, k3⟩ := k fp1 h1
  have hs := h2.size
  refine ⟨fp2, k1, h2.trans k2 h3, fun z hz => ?_⟩
  rcases k3 z hz with q | q
  · exact h3 z q
  · exact .inr (by omega)
def DiskM.syncLog (m : DiskM) : DiskM := { m.act with lasted := m.log.length }
set_option maxRecDepth 100000 in
set_option maxHeartbeats 2000000 in
theorem syncLog153 {w : World} {d : Nat} {m : DiskM} {fp : List Nat} (h : DiskR w d m fp) (ha : m.acts < 4611686018427387904) :
    Calls Tryz.prog 153 #[.pointer (some ⟨d, 0, none⟩)] w (DoPost d fp m m.syncLog 0 w) := by
  have HA := Lib.hid (act111 h ha)
  clear h
  unfold ActPost at HA
  cases hs : m.stops
  · rw [hs] at HA
    go_enter Tryz.func153, Tryz.ntmps153
    go_wp2_with fail
    refine HA.out.mono ?_
    rintro e w1 ⟨rfl, hk⟩
    obtain ⟨ao, cap, k6, k7, _, _⟩ := hk.1.logAt
    obtain ⟨_, _, _, _, _, _, hf⟩ := hk.1.cells
    rw [(act_shp m).2.2.2.2] at k6
    have HF : Hid (DoPost d fp m m.syncLog 0 w (.returned (.int .i64 0)) (w1.setCell ⟨d, 7, none⟩ (.int .i64 (m.log.length : Nat)))) := Lib.hid (.inr ⟨hs, rfl, hk.step.trans (fun fp1 h1 => (DiskR.head (m' := m.syncLog) h1 7 (.int .i64 (m.log.length : Nat)) rfl (fun _ _ _ _ => rfl) rfl rfl rfl rfl rfl).step)⟩)
    clear hk HA
    generalize m.log.length = n at *
    go_wp2_with fail
    go_ret
    exact HF.out
  · rw [hs] at HA
    go_enter Tryz.func153, Tryz.ntmps153
    go_wp2_with fail
    refine HA.out.mono ?_
    rintro e w1 ⟨rfl, hk⟩
    have HF : Hid (DoPost d fp m m.syncLog 0 w (.returned (.int .i64 1)) w1) := Lib.hid (.inl ⟨hs, rfl, hk.step⟩)
    clear hk HA
    go_wp2_with fail
    go_ret
    exact HF.out
end Go.Proofs.YtfdgiblkllfpjaaGreatDoor
