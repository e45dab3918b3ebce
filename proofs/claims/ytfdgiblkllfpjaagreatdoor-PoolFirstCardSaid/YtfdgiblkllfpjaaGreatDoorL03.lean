/- page: stamped. -/
import Derived.Test.YtfdgiblkllfpjaaGreatDoorL02
set_option linter.unusedVariables false
set_option linter.unusedSimpArgs false
namespace Go.Proofs.YtfdgiblkllfpjaaGreatDoor
open Go.ChangeShapes Go.WideShapes Go.ChangeAt Go.RowKit

theorem isize5 : (Tryz.prog.info? 5).map (·.size) = some 1 := by kernel_rfl
/-- A part of the bytes. -/
theorem IsB.cut {w : World} {v : Value} {l : List UInt8} (h : IsB w v l) (i j : Nat) (hij : i ≤ j) (hj : j ≤ l.length) :
    ∃ ao cap, IsB w (.slice ao (j - i) cap) ((l.drop i).take (j - i)) ∧ blk (.slice ao (j - i) cap) = blk v ∧ ((l.drop i).take (j - i)).length = j - i ∧
      (∀ (W : World) (x y : Int), x = i → y = j → (Instr.slice 22 v (some (.int .i64 x)) (some (.int .i64 y)) none).run Tryz.prog W = .ok (.slice ao (j - i) cap) W) ∧
      (j = l.length → ∀ (W : World) (x : Int), x = i → (Instr.slice 22 v (some (.int .i64 x)) none none).run Tryz.prog W = .ok (.slice ao (j - i) cap) W) ∧
      (i = 0 → ∀ (W : World) (y : Int), y = j → (Instr.slice 22 v none (some (.int .i64 y)) none).run Tryz.prog W = .ok (.slice ao (j - i) cap) W) := by
  obtain ⟨ao, cap, h1, h2, h3, h4, h5⟩ := Own.cut h Tryz.underlying22 isize5 i j hij hj
  have hl : ((l.drop i).take (j - i)).length = j - i := by rw [List.length_take, List.length_drop]; omega
  refine ⟨ao, cap, ?_, h2, hl, h3, h4, h5⟩
  unfold IsB
  rw [hl]
  have e : bytesV ((l.drop i).take (j - i)) = ((bytesV l).drop (i * 1)).take ((j - i) * 1) := by simp [bytesV, List.map_drop, List.map_take]
  rw [e]; exact h1
theorem isRows2 {w : World} {v1 v2 : Value} {l1 l2 : List UInt8} (h1 : IsB w v1 l1) (h2 : IsB w v2 l2) : IsRows (w.alloc (.cells #[v1, v2] 22)) (.slice (some ⟨w.heap.size, 0, none⟩) 2 2) [l1, l2] := by
  have ho := (Off.refl [] w).alloc (.cells #[v1, v2] 22)
  refine ⟨[v1, v2], Own.new w 22 1 #[v1, v2] 2 (by decide) rfl, fun i l hl => ?_⟩
  match i, hl with
  | 0, hl => simp at hl; subst hl; exact ⟨v1, rfl, h1.off ho (by simp)⟩
  | 1, hl => simp at hl; subst hl; exact ⟨v2, rfl, h2.off ho (by simp)⟩
theorem FreshB.ends {w w0 w' : World} {l : List UInt8} {e : Ending} (h : FreshB w l e w') (ho : Off [] w0 w) : FreshB w0 l e w' := by
  obtain ⟨ao, cap, h1, h2, h3, h4⟩ := h
  exact ⟨ao, cap, h1, h2, ho.trans h3 (by simp), fun x hx => Nat.le_trans ho.size (h4 x hx)⟩

/-- A page's bytes behind a stamp. -/
def pageRest (l : List UInt8) (lsn : Nat) : List UInt8 := (l.drop 16).take (l.length - 8 - 16) ++ le 8 lsn
def pageHead (number lsn : Nat) : List UInt8 := le 8 lsn ++ le 4 number
def stampB (t : Nat → Nat) (l : List UInt8) (number lsn : Nat) : List UInt8 :=
  (pageHead number lsn ++ le 4 (crcSum t [pageHead number lsn, pageRest l lsn])) ++ pageRest l lsn

set_option maxRecDepth 100000 in
set_option maxHeartbeats 4000000 in
theorem stamped70 {t : Nat → Nat} (v : Value) (l : List UInt8) (number lsn : Nat) (hnum : number < 4294967296) (hlsn : lsn ≤ 1152921504606846976) (w : World) (ht : Tbl t w) (h : IsB w v l) (hn : l.length < 1000000) (h40 : 24 ≤ l.length) :
    Calls Tryz.prog 70 #[v, .int .i64 (number : Int), .int .i64 (lsn : Int)] w (FreshB w (stampB t l number lsn)) := by
  obtain ⟨ao, cap, rfl⟩ := h.val
  have HB := Lib.hid h
  have HT := Lib.hid ht
  have hp1 := put115 (.slice none 0 0) [] lsn (Nat.lt_of_le_of_lt hlsn (by decide)) w (IsB.nil w) (by simp)
  rw [List.nil_append] at hp1
  have HP1 := Lib.hid hp1
  clear hp1
  obtain ⟨n, hN⟩ : ∃ n, n = l.length := ⟨_, rfl⟩
  have HN := Lib.hid hN
  rw [← hN] at hn h40 ⊢
  clear hN h ht
  have hl2 : IntKind.u64.wrap (lsn : Int) = (lsn : Int) := by rw [IntKind.wrap_u64]; omega
  have hn2 : IntKind.u32.wrap (number : Int) = (number : Int) := by rw [IntKind.wrap_u32]; omega
  have HL := Lib.hid hlsn
  have HNU := Lib.hid hnum
  obtain ⟨F, hF⟩ : ∃ F, F = stampB t l number lsn := ⟨_, rfl⟩
  rw [← hF]
  have HFD := Lib.hid hF
  clear hlsn hnum hF
  go_enter Tryz.func70, Tryz.ntmps70
  go_wp2_with fail
  refine HP1.out.mono ?_
  rintro e w1 ⟨so, sc, rfl, hs1, ho1, hf1⟩
  rw [le_len] at hs1 ⊢
  have HP2 := Lib.hid (put123 _ (le 8 lsn) number (by have := HNU.out; omega) w1 hs1 (by rw [le_len]; omega))
  have HS1 := Lib.hid hs1
  have HO1 := Lib.hid ho1
  clear hs1 ho1 hf1 HP1
  go_wp2_with fail
  refine HP2.out.mono ?_
  rintro e w2 ⟨ho, hc, rfl, hs2, ho2, hf2⟩
  rw [List.length_append, le_len, le_len] at hs2 ⊢
  simp only [Nat.reduceAdd] at hs2 ⊢
  have HH2 := Lib.hid hs2
  have hs12 := HS1.out.off ho2 (by simp)
  have HO2 := Lib.hid (HO1.out.trans ho2 (by simp))
  obtain ⟨co, cc, hcb, _, hcl, hrun, _, _⟩ := (HB.out.off HO2.out (by simp)).cut 16 (l.length - 8) (by have := HN.out; omega) (by omega)
  rw [← HN.out] at hcb hrun hcl
  have HRUN := Lib.hid hrun
  have hr1 : ∀ W, (Instr.slice 22 (.slice ao n cap) (some (.int .i64 16)) (some (.int .i64 ((n : Int) - 8))) none).run Tryz.prog W = .ok (.slice co (n - 8 - 16) cc) W := fun W => HRUN.out W _ _ rfl (by omega)
  have hj := join118 _ [(l.drop 16).take (n - 8 - 16), le 8 lsn] _ (isRows2 hcb hs12) (by simp [le_len]; have := HN.out; omega) (by simp)
  rw [show [(l.drop 16).take (n - 8 - 16), le 8 lsn].flatten = pageRest l lsn by unfold pageRest; rw [HN.out]; simp] at hj
  have hRl : (pageRest l lsn).length = n - 16 := by unfold pageRest; rw [List.length_append, le_len, List.length_take, List.length_drop]; have := HN.out; omega
  have HJ := Lib.hid hj
  have HRL := Lib.hid hRl
  clear hj hRl
  have HO2a := Lib.hid (HO2.out.trans ((Off.refl [] w2).alloc (.cells #[.slice co (n - 8 - 16) cc, .slice so 8 sc] 22)) (by simp))
  clear hs2 hs12 ho2 hf2 hcb hrun HP2 HS1 HO1 hcl HRUN
  go_wp2_with fail
  refine HJ.out.mono ?_
  rintro e w3 ⟨ro, rc, rfl, hs3, ho3, hf3⟩
  obtain ⟨R, hR⟩ : ∃ R, R = pageRest l lsn := ⟨_, rfl⟩
  obtain ⟨H, hH⟩ : ∃ H, H = pageHead number lsn := ⟨_, rfl⟩
  have hHl : H.length = 12 := by rw [hH]; unfold pageHead; rw [List.length_append, le_len, le_len]
  have hh2 : IsB w2 (.slice ho 12 hc) H := by rw [hH]; exact HH2.out
  have hst : F = (H ++ le 4 (crcSum t [H, R])) ++ R := by rw [HFD.out, hH, hR]; rfl
  have HST := Lib.hid hst
  have hRl := HRL.out
  rw [← hR] at hs3 hRl ⊢
  rw [hRl] at hs3 ⊢
  clear hst hH hR HH2 HRL HJ hf3
  have hh3 := hh2.off (((Off.refl [] w2).alloc (.cells #[.slice co (n - 8 - 16) cc, .slice so 8 sc] 22)).trans ho3 (by simp)) (by simp)
  have HO3 := Lib.hid (HO2a.out.trans ho3 (by simp))
  have ht3 := HT.out.off (HO3.out.trans ((Off.refl [] w3).alloc (.cells #[.slice ho 12 hc, .slice ro (n - 16) rc] 22)) (by simp)) (by simp)
  have HSU := Lib.hid (sum124 _ [H, R] _ ht3 (isRows2 hh3 hs3) (by simp; omega) (by simp))
  have hcl := sum_lt ht3 [H, R]
  have HC4 := Lib.hid hcl
  generalize crcSum t [H, R] = c at *
  have hp4 := put123 (.slice ho 12 hc) H c HC4.out (w3.alloc (.cells #[.slice ho 12 hc, .slice ro (n - 16) rc] 22)) (hh3.off ((Off.refl [] w3).alloc _) (by simp)) (by omega)
  have HP4 := Lib.hid hp4
  have HR3 := Lib.hid (hs3.off ((Off.refl [] w3).alloc (.cells #[.slice ho 12 hc, .slice ro (n - 16) rc] 22)) (by simp))
  have HO3a := Lib.hid (HO3.out.trans ((Off.refl [] w3).alloc (.cells #[.slice ho 12 hc, .slice ro (n - 16) rc] 22)) (by simp))
  have HHL := Lib.hid hHl
  have HRL := Lib.hid hRl
  clear hh2 hh3 hs3 ho3 ht3 hcl hp4 hHl hRl HO3 HO2a HO2
  go_wp2_with fail
  refine HSU.out.mono ?_
  rintro e w4 ⟨rfl, rfl⟩
  go_wp2_with fail
  refine HP4.out.mono ?_
  rintro e w5 ⟨qo, qc, rfl, hs5, ho5, hf5⟩
  have hQl : (H ++ le 4 c).length = 16 := by rw [List.length_append, le_len, HHL.out]
  have hr5 := HR3.out.off ho5 (by simp)
  have hj := join118 _ [H ++ le 4 c, R] _ (isRows2 hs5 hr5) (by simp [le_len, HHL.out, HRL.out]; omega) (by simp)
  rw [show [H ++ le 4 c, R].flatten = F by rw [HST.out]; simp] at hj
  have HJ5 := Lib.hid (hj.mono fun e w' hh => hh.ends ((HO3a.out.trans ho5 (by simp)).trans ((Off.refl [] w5).alloc _) (by simp)))
  rw [hQl] at HJ5 ⊢
  clear hs5 ho5 hf5 hr5 hj hQl HP4 HSU HR3 HO3a
  go_wp2_with fail
  refine HJ5.out.mono ?_
  rintro e w6 ⟨fo, fc, rfl, h6⟩
  have HF : Hid (FreshB w F (.returned (.slice fo F.length fc)) w6) := ⟨fo, fc, rfl, h6⟩
  clear h6 HJ5
  go_wp2_with fail
  go_ret
  exact HF.out
theorem stampB_len (t : Nat → Nat) (l : List UInt8) (number lsn : Nat) (h : 24 ≤ l.length) : (stampB t l number lsn).length = l.length := by
  unfold stampB pageHead pageRest
  simp only [List.length_append, le_len, List.length_take, List.length_drop]; omega
end Go.Proofs.YtfdgiblkllfpjaaGreatDoor

/- page: the small ones. -/
set_option linter.unusedVariables false
set_option linter.unusedSimpArgs false
namespace Go.Proofs.YtfdgiblkllfpjaaGreatDoor
open Go.ChangeShapes Go.WideShapes Go.ChangeAt Go.RowKit

def pageLen (s : Int) : Int := if s < 1 ∨ 8 < s then 0 else 16 + s * 16 + 8
set_option maxHeartbeats 1000000 in
theorem bytes126 (s : Int) (w : World) : Calls Tryz.prog 126 #[.int .i64 s] w fun e w' => e = .returned (.int .i64 (pageLen s)) ∧ w = w' := by
  by_cases h1 : s < 1
  · have e : pageLen s = 0 := by unfold pageLen; rw [if_pos (.inl h1)]
    rw [e]
    go_enter Tryz.func126, Tryz.ntmps126
    go_wp2
    go_ret
    exact ⟨rfl, rfl⟩
  · by_cases h2 : 8 < s
    · have e : pageLen s = 0 := by unfold pageLen; rw [if_pos (.inr h2)]
      rw [e]
      go_enter Tryz.func126, Tryz.ntmps126
      go_wp2
      go_ret
      exact ⟨rfl, rfl⟩
    · have e : pageLen s = 16 + s * 16 + 8 := by unfold pageLen; rw [if_neg (by omega)]
      rw [e]
      have h3 : 1 ≤ s := by omega
      have h4 : s ≤ 8 := by omega
      clear h1 h2
      go_enter Tryz.func126, Tryz.ntmps126
      go_wp2
      go_ret
      exact ⟨rfl, rfl⟩
def slotsN (n : Nat) : Nat := if 40 ≤ n ∧ n ≤ 152 ∧ (n - 24) % 16 = 0 then (n - 24) / 16 else 0
set_option maxHeartbeats 1000000 in
theorem slots68 (ao : Option Addr) (n cap : Nat) (hn : n < 1000000) (w : World) : Calls Tryz.prog 68 #[.slice ao n cap] w fun e w' => e = .returned (.int .i64 (slotsN n : Nat)) ∧ w = w' := by
  obtain ⟨q, hq⟩ : ∃ q : Int, q = ((n : Int) - 16 - 8).tdiv 16 := ⟨_, rfl⟩
  have hqb : (n < 24 ∧ q ≤ 0) ∨ (24 ≤ n ∧ q = ((n - 24) / 16 : Nat)) := by
    by_cases h : n < 24
    · refine .inl ⟨h, ?_⟩
      rw [hq]
      have := Int.neg_tdiv (24 - (n : Int)) 16
      rw [show -(24 - (n : Int)) = (n : Int) - 16 - 8 by omega] at this
      rw [this, Int.tdiv_eq_ediv_of_nonneg (by omega)]
      omega
    · refine .inr ⟨by omega, ?_⟩
      rw [hq, Int.tdiv_eq_ediv_of_nonneg (by omega)]
      omega
  have HB := Lib.hid (bytes126 q w)
  by_cases h1 : q < 1
  · have e : slotsN n = 0 := by unfold slotsN; rw [if_neg]; omega
    rw [e]
    rw [hq] at h1
    clear hqb hq HB e
    go_enter Tryz.func68, Tryz.ntmps68
    go_wp2_with fail
    go_ret
    exact ⟨rfl, rfl⟩
  · obtain ⟨h24, hqe⟩ : 24 ≤ n ∧ q = ((n - 24) / 16 : Nat) := by omega
    have hge : 1 ≤ q := by omega
    rw [Int.tdiv_eq_ediv_of_nonneg (by omega)] at hq
    by_cases h3 : pageLen q = (n : Int)
    · have e : slotsN n = (n - 24) / 16 := by
        unfold slotsN; rw [if_pos]
        unfold pageLen at h3
        by_cases hc : q < 1 ∨ 8 < q
        · rw [if_pos hc] at h3; omega
        · rw [if_neg hc] at h3; omega
      rw [e, ← hqe]
      rw [h3] at HB
      rw [hq] at HB hge ⊢
      clear hqb hqe e hq h1 h3
      go_enter Tryz.func68, Tryz.ntmps68
      go_wp2_with fail
      refine HB.out.mono ?_
      rintro e w1 ⟨rfl, rfl⟩
      go_wp2_with fail
      go_ret
      exact ⟨rfl, rfl⟩
    · have e : slotsN n = 0 := by
        unfold slotsN; rw [if_neg]
        intro hh
        apply h3
        unfold pageLen
        rw [if_neg (by omega)]
        omega
      rw [e]
      obtain ⟨r, hr⟩ : ∃ r, r = pageLen q := ⟨_, rfl⟩
      rw [← hr] at HB h3
      have hrn : (r == (n : Int)) = false := by simpa using h3
      have hrn2 : (r != (n : Int)) = true := by simpa using h3
      rw [hq] at HB hge
      clear hqb hqe e hq h1 h3 hr
      go_enter Tryz.func68, Tryz.ntmps68
      go_wp2_with fail
      refine HB.out.mono ?_
      rintro e w1 ⟨rfl, rfl⟩
      go_wp2_with fail
      go_ret
      exact ⟨rfl, rfl⟩
set_option maxHeartbeats 1000000 in
theorem numbered69 (x : Int) (w : World) : Calls Tryz.prog 69 #[.int .i64 x] w fun e w' => e = .returned (.bool (decide (0 ≤ x ∧ x < 16))) ∧ w = w' := by
  by_cases h1 : 0 ≤ x
  · by_cases h2 : x < 16
    · have e : decide (0 ≤ x ∧ x < 16) = true := by simp [h1, h2]
      rw [e]; clear e
      go_enter Tryz.func69, Tryz.ntmps69
      go_wp2
      go_ret
      exact ⟨rfl, rfl⟩
    · have e : decide (0 ≤ x ∧ x < 16) = false := by simp; omega
      rw [e]; clear e
      go_enter Tryz.func69, Tryz.ntmps69
      go_wp2
      go_ret
      exact ⟨rfl, rfl⟩
  · have e : decide (0 ≤ x ∧ x < 16) = false := by simp; omega
    rw [e]; clear e
    go_enter Tryz.func69, Tryz.ntmps69
    go_wp2
    go_ret
    exact ⟨rfl, rfl⟩
end Go.Proofs.YtfdgiblkllfpjaaGreatDoor

/- page: Lsn, blank. -/
set_option linter.unusedVariables false
set_option linter.unusedSimpArgs false
namespace Go.Proofs.YtfdgiblkllfpjaaGreatDoor
open Go.ChangeShapes Go.WideShapes Go.ChangeAt Go.RowKit

set_option maxRecDepth 100000 in
set_option maxHeartbeats 2000000 in
theorem newReader164 (v : Value) (l : List UInt8) (w : World) (h : IsB w v l) (hn : l.length < 4294967296) : Calls Tryz.prog 164 #[v] w fun e w' =>
    ∃ z ao cap, e = .returned (.pointer (some ⟨z, 0, none⟩)) ∧ IsC w' z #[.slice ao l.length cap] 261 ∧ IsB w' (.slice ao l.length cap) l ∧ Off [] w w' ∧ w.heap.size ≤ z ∧ z ∉ blk (.slice ao l.length cap) := by
  have HC := Lib.hid (clone60 v l w h hn)
  obtain ⟨vo, vc, rfl⟩ := h.val
  clear h
  go_enter Tryz.func164, Tryz.ntmps164
  go_wp2_with fail
  refine HC.out.mono ?_
  rintro e w1 ⟨ao, cap, rfl, h1, h2, h3⟩
  have hlt := h1.lt
  have hs2 := h2.size
  have HP : Hid (∃ z ao' cap', Ending.returned (.pointer (some ⟨w1.heap.size, 0, none⟩)) = .returned (.pointer (some ⟨z, 0, none⟩)) ∧ IsC (w1.alloc (.cells #[.slice ao l.length cap] 261)) z #[.slice ao' l.length cap'] 261 ∧ IsB (w1.alloc (.cells #[.slice ao l.length cap] 261)) (.slice ao' l.length cap') l ∧ Off [] w (w1.alloc (.cells #[.slice ao l.length cap] 261)) ∧ w.heap.size ≤ z ∧ z ∉ blk (.slice ao' l.length cap')) :=
    Lib.hid ⟨w1.heap.size, ao, cap, rfl, IsC.new _ _ _, h1.off ((Off.refl [] w1).alloc _) (by simp), h2.alloc _, hs2, fun hz => by have := hlt _ hz; omega⟩
  clear h1 h2 h3 hlt hs2 HC
  go_wp2_with fail
  go_ret
  exact HP.out

/-- What Int takes. -/
def intOk (l : List UInt8) : Bool := decide (8 ≤ l.length ∧ num8 (l.take 8) ≤ 1152921504606846976)
def intE (l : List UInt8) : Int := if l.length < 8 then 10 else if num8 (l.take 8) ≤ 1152921504606846976 then 0 else 30
set_option maxRecDepth 100000 in
set_option maxHeartbeats 2000000 in
theorem int165 (z : Nat) (ao : Option Addr) (cap : Nat) (l : List UInt8) (w : World) (hc : IsC w z #[.slice ao l.length cap] 261) (h : IsB w (.slice ao l.length cap) l) (hn : l.length < 4294967296) :
    Calls Tryz.prog 165 #[.pointer (some ⟨z, 0, none⟩)] w fun e w' => e = .returned (.tuple #[.int .i64 (if intOk l then num8 (l.take 8) else 0 : Nat), .int .i64 (intE l)]) ∧ Off [z] w w' := by
  have HG := Lib.hid (get128 _ l w h hn)
  have hr := hc.reads
  have hf := hc.free
  by_cases h8 : l.length < 8
  · have e1 : intOk l = false := by unfold intOk; simp; omega
    have e2 : intE l = 10 := by unfold intE; rw [if_pos h8]
    have e3 : getE 8 l = 10 := by unfold getE; rw [if_pos h8]
    rw [e1, e2]
    rw [e3] at HG
    generalize getN 8 l = x at *
    clear e1 e2 e3 h
    simp only [Bool.false_eq_true, if_false]
    generalize l.length = n at *
    go_enter Tryz.func165, Tryz.ntmps165
    go_wp2_with fail
    refine HG.out.mono ?_
    rintro e w1 ⟨rfl, rfl⟩
    go_wp2_with fail
    go_ret2
    exact ⟨rfl, Off.refl _ _⟩
  · have e3 : getE 8 l = 0 := by unfold getE; rw [if_neg h8]
    have e4 : getN 8 l = num8 (l.take 8) := by unfold getN; rw [if_neg h8]
    rw [e3, e4] at HG
    by_cases hm : num8 (l.take 8) ≤ 1152921504606846976
    · have e1 : intOk l = true := by unfold intOk; simp; omega
      have e2 : intE l = 0 := by unfold intE; rw [if_neg h8, if_pos hm]
      rw [e1, e2]
      simp only [if_true]
      obtain ⟨co, cc, _, _, _, _, hrun, _⟩ := h.cut 8 l.length (by omega) (Nat.le_refl _)
      have HRUN := Lib.hid (hrun rfl)
      have hr1 : ∀ W, (Instr.slice 22 (.slice ao l.length cap) (some (.int .i64 8)) none none).run Tryz.prog W = .ok (.slice co (l.length - 8) cc) W := fun W => HRUN.out W _ rfl
      clear e1 e2 e3 e4 h hrun
      generalize num8 (l.take 8) = x at *
      generalize l.length = n at *
      go_enter Tryz.func165, Tryz.ntmps165
      go_wp2_with fail
      refine HG.out.mono ?_
      rintro e w1 ⟨rfl, rfl⟩
      go_wp2_with fail
      go_ret2
      exact ⟨rfl, (Off.refl _ _).setCell (.inl (by simp)) _⟩
    · have e1 : intOk l = false := by unfold intOk; simp; omega
      have e2 : intE l = 30 := by unfold intE; rw [if_neg h8, if_neg hm]
      rw [e1, e2]
      simp only [Bool.false_eq_true, if_false]
      clear e1 e2 e3 e4 h
      generalize num8 (l.take 8) = x at *
      generalize l.length = n at *
      go_enter Tryz.func165, Tryz.ntmps165
      go_wp2_with fail
      refine HG.out.mono ?_
      rintro e w1 ⟨rfl, rfl⟩
      go_wp2_with fail
      go_ret2
      exact ⟨rfl, Off.refl _ _⟩

def pageLsn (l : List UInt8) : Option Nat := if slotsN l.length = 0 then none else if intOk l then some (num8 (l.take 8)) else none
def errOf (o : Option Nat) (c : Int) : Int := if o.isSome then 0 else c
theorem intE_ok (l : List UInt8) : (intE l = 0 ↔ intOk l = true) := by
  unfold intE intOk
  by_cases h : l.length < 8
  · rw [if_pos h]; simp; omega
  · rw [if_neg h]
    by_cases h2 : num8 (l.take 8) ≤ 1152921504606846976
    · rw [if_pos h2]; simp; omega
    · rw [if_neg h2]; simp; omega
set_option maxRecDepth 100000 in
set_option maxHeartbeats 2000000 in
theorem lsn108 (v : Value) (l : List UInt8) (w : World) (h : IsB w v l) (hn : l.length < 1000000) : Calls Tryz.prog 108 #[v] w fun e w' =>
    e = .returned (.tuple #[.int .i64 ((pageLsn l).getD 0 : Nat), .int .i64 (errOf (pageLsn l) 40)]) ∧ Off [] w w' := by
  have HN := Lib.hid (newReader164 v l w h (by omega))
  obtain ⟨vo, vc, rfl⟩ := h.val
  have HI : Hid (∀ z ao cap W, IsC W z #[.slice ao l.length cap] 261 → IsB W (.slice ao l.length cap) l → Calls Tryz.prog 165 #[.pointer (some ⟨z, 0, none⟩)] W fun e w' => e = .returned (.tuple #[.int .i64 (if intOk l then num8 (l.take 8) else 0 : Nat), .int .i64 (intE l)]) ∧ Off [z] W w') :=
    Lib.hid (fun z ao cap W hc hb => int165 z ao cap l W hc hb (by omega))
  have hE := intE_ok l
  by_cases hs : slotsN l.length = 0
  · have e1 : pageLsn l = none := by unfold pageLsn; rw [if_pos hs]
    have HS : Hid (∀ W, Calls Tryz.prog 68 #[.slice vo l.length vc] W fun e w' => e = .returned (.int .i64 0) ∧ W = w') := Lib.hid (fun W => by have q := slots68 vo l.length vc hn W; rw [hs] at q; exact q)
    rw [e1]
    simp only [errOf, Option.isSome_none, Option.getD_none, Bool.false_eq_true, if_false]
    generalize (if intOk l = true then num8 (List.take 8 l) else 0) = x at *
    generalize intE l = y at *
    clear e1 hs hE h
    rw [show (((0 : Nat)) : Int) = 0 from rfl]
    go_enter Tryz.func108, Tryz.ntmps108
    go_wp2_with fail
    refine HN.out.mono ?_
    rintro e w1 ⟨z, ao, cap, rfl, h1, h2, h3, h4, h5⟩
    have HI1 := Lib.hid (HI.out z ao cap w1 h1 h2)
    have HO1 := Lib.hid h3
    have HZ := Lib.hid h4
    clear h1 h2 h3 h4 h5 HN HI
    go_wp2_with fail
    refine HI1.out.mono ?_
    rintro e w2 ⟨rfl, ho2⟩
    have HO2 : Hid (Off [] w w2) := Lib.hid (HO1.out.trans ho2 (fun q hq => .inr (by simp at hq; rw [hq]; exact HZ.out)))
    clear ho2 HI1
    go_wp2_with fail
    refine (HS.out _).mono ?_
    rintro e w3 ⟨rfl, rfl⟩
    go_wp2_with fail
    go_ret2
    exact ⟨rfl, HO2.out⟩
  · have HS : Hid (∀ W, Calls Tryz.prog 68 #[.slice vo l.length vc] W fun e w' => e = .returned (.int .i64 (slotsN l.length : Nat)) ∧ W = w') := Lib.hid (fun W => slots68 vo l.length vc hn W)
    have hs1 : 0 < slotsN l.length := by omega
    cases ho : intOk l
    · have e1 : pageLsn l = none := by unfold pageLsn; rw [if_neg hs, ho]; rfl
      have hy : (intE l != 0) = true := by rw [bne_iff_ne]; intro q; rw [hE.1 q] at ho; simp at ho
      rw [ho] at HI
      rw [e1]
      simp only [errOf, Option.isSome_none, Option.getD_none, Bool.false_eq_true, if_false] at HI ⊢
      generalize intE l = y at *
      generalize slotsN l.length = sn at *
      clear e1 hs hE h ho
      rw [show (((0 : Nat)) : Int) = 0 from rfl] at HI ⊢
      go_enter Tryz.func108, Tryz.ntmps108
      go_wp2_with fail
      refine HN.out.mono ?_
      rintro e w1 ⟨z, ao, cap, rfl, h1, h2, h3, h4, h5⟩
      have HI1 := Lib.hid (HI.out z ao cap w1 h1 h2)
      have HO1 := Lib.hid h3
      have HZ := Lib.hid h4
      clear h1 h2 h3 h4 h5 HN HI
      go_wp2_with fail
      refine HI1.out.mono ?_
      rintro e w2 ⟨rfl, ho2⟩
      have HO2 : Hid (Off [] w w2) := Lib.hid (HO1.out.trans ho2 (fun q hq => .inr (by simp at hq; rw [hq]; exact HZ.out)))
      clear ho2 HI1
      go_wp2_with fail
      refine (HS.out _).mono ?_
      rintro e w3 ⟨rfl, rfl⟩
      go_wp2_with fail
      go_ret2
      exact ⟨rfl, HO2.out⟩
    · have e1 : pageLsn l = some (num8 (l.take 8)) := by unfold pageLsn; rw [if_neg hs, ho]; rfl
      have hy : intE l = 0 := hE.2 ho
      rw [ho, hy] at HI
      rw [e1]
      simp only [errOf, Option.isSome_some, Option.getD_some, if_true] at HI ⊢
      generalize num8 (l.take 8) = x at *
      generalize slotsN l.length = sn at *
      clear e1 hs hE h ho hy
      go_enter Tryz.func108, Tryz.ntmps108
      go_wp2_with fail
      refine HN.out.mono ?_
      rintro e w1 ⟨z, ao, cap, rfl, h1, h2, h3, h4, h5⟩
      have HI1 := Lib.hid (HI.out z ao cap w1 h1 h2)
      have HO1 := Lib.hid h3
      have HZ := Lib.hid h4
      clear h1 h2 h3 h4 h5 HN HI
      go_wp2_with fail
      refine HI1.out.mono ?_
      rintro e w2 ⟨rfl, ho2⟩
      have HO2 : Hid (Off [] w w2) := Lib.hid (HO1.out.trans ho2 (fun q hq => .inr (by simp at hq; rw [hq]; exact HZ.out)))
      clear ho2 HI1
      go_wp2_with fail
      refine (HS.out _).mono ?_
      rintro e w3 ⟨rfl, rfl⟩
      go_wp2_with fail
      go_ret2
      exact ⟨rfl, HO2.out⟩
end Go.Proofs.YtfdgiblkllfpjaaGreatDoor

/- page: blank, sum, Check. -/
set_option linter.unusedVariables false
set_option linter.unusedSimpArgs false
namespace Go.Proofs.YtfdgiblkllfpjaaGreatDoor
open Go.ChangeShapes Go.WideShapes Go.ChangeAt Go.RowKit

def zeros (l : List UInt8) : Bool := l.all (fun b => b.toNat == 0)
theorem zeros_succ (l : List UInt8) (k : Nat) (h : k < l.length) : zeros (l.take (k + 1)) = (zeros (l.take k) && (l[k].toNat == 0)) := by
  unfold zeros; rw [List.take_add_one, List.getElem?_eq_getElem h, List.all_append]; simp
theorem zeros_not (l : List UInt8) (k : Nat) (h : k < l.length) (h0 : l[k].toNat ≠ 0) : zeros l = false := by
  unfold zeros; rw [List.all_eq_false]; exact ⟨l[k], List.getElem_mem h, by simpa using h0⟩
def IdxPost (l : List UInt8) (w : World) (e : Ending) (w' : World) : Prop := ∃ r : Int, e = .returned (.int .i64 r) ∧ w = w' ∧ (if zeros l then r = -1 else 0 ≤ r)
theorem nz195 (c : Int) (w : World) : Calls Tryz.prog 195 #[.int .u8 c] w fun e w' => e = .returned (.bool (c != 0)) ∧ w = w' := by
  go_enter Tryz.func195, Tryz.ntmps195
  go_wp2
  go_ret
  exact ⟨rfl, rfl⟩
set_option maxRecDepth 100000 in
set_option maxHeartbeats 2000000 in
theorem indexFunc243 (v : Value) (l : List UInt8) (w : World) (h : IsB w v l) (hn : l.length < 1000000) : Calls Tryz.prog 243 #[v, .func (.func 195) #[] #[]] w (IdxPost l w) := by
  obtain ⟨vo, vc, rfl⟩ := h.val
  have HB := Lib.hid h
  obtain ⟨n, hN⟩ : ∃ n, n = l.length := ⟨_, rfl⟩
  have HN := Lib.hid hN
  rw [← hN] at hn ⊢
  clear hN h
  go_enter Tryz.func243, Tryz.ntmps243
  go_wp2_with fail
  go_loopw [5, 8] (fun _ i wr => ∃ k : Nat, k ≤ n ∧ i = .int .i64 (k : Nat) ∧ zeros (l.take k) = true ∧ w = wr) (fun _ i _ => n - (intOf i).toNat)
  case atStart => exact ⟨0, by omega, by go_num, rfl, rfl⟩
  case round =>
    obtain ⟨k, hk, rfl, hz, rfl⟩ := hrel
    by_cases hlt : k < n
    · have hkl : k < l.length := by rw [← HN.out]; exact hlt
      obtain ⟨g, off, rfl⟩ := HB.out.base (by omega)
      have hc := HB.out.cell k hkl
      unfold bv at hc
      have HZS := Lib.hid (zeros_succ l k hkl)
      have HZN := Lib.hid (zeros_not l k hkl)
      have HZ := Lib.hid hz
      generalize l[k].toNat = c at *
      have HC := Lib.hid (nz195 (c : Int) w)
      clear hz hkl
      by_cases h0 : c = 0
      · have hc0 : (((c : Nat) : Int) != 0) = false := by rw [h0]; rfl
        have HST : Hid (zeros (l.take (k + 1)) = true) := Lib.hid (by rw [HZS.out, HZ.out, h0]; rfl)
        rw [hc0] at HC
        clear h0 hc0 HZS HZN HZ
        go_wp2_with fail
        refine HC.out.mono ?_
        rintro e w1 ⟨rfl, rfl⟩
        go_wp2_with fail
        go_roundw
        case rel => exact ⟨k + 1, by omega, by go_num, HST.out, trivial⟩
        case measure => simp [intOf]; omega
      · have hc0 : (((c : Nat) : Int) != 0) = true := by rw [bne_iff_ne]; omega
        have HST : Hid (zeros l = false) := Lib.hid (HZN.out h0)
        rw [hc0] at HC
        clear h0 hc0 HZS HZN HZ
        go_wp2_with fail
        refine HC.out.mono ?_
        rintro e w1 ⟨rfl, rfl⟩
        go_wp2_with fail
        go_ret
        exact ⟨_, rfl, rfl, by rw [HST.out]; simp⟩
    · have hkn : n = k := by omega
      subst hkn
      rw [show l.take n = l from List.take_of_length_le (by rw [← HN.out]; exact Nat.le_refl _)] at hz
      have HZ := Lib.hid hz
      clear hz
      go_wp2_with fail
      go_ret
      exact ⟨_, rfl, rfl, by rw [HZ.out]; rfl⟩
set_option maxRecDepth 100000 in
set_option maxHeartbeats 2000000 in
theorem contains194 (ao : Option Addr) (n c : Nat) (w : World) (z : Bool) (P : Int → Prop) (hp : ∀ r, P r → (0 ≤ r ↔ z = false)) (h : Calls Tryz.prog 243 #[.slice ao n c, .func (.func 195) #[] #[]] w fun e w' => ∃ r : Int, e = .returned (.int .i64 r) ∧ w = w' ∧ P r) :
    Calls Tryz.prog 194 #[.slice ao n c, .func (.func 195) #[] #[]] w fun e w' => e = .returned (.bool (!z)) ∧ w = w' := by
  have HI := Lib.hid h
  have HP := Lib.hid hp
  clear h hp
  cases z
  · go_enter Tryz.func194, Tryz.ntmps194
    go_wp2_with fail
    refine HI.out.mono ?_
    rintro e w1 ⟨r, rfl, rfl, hr⟩
    have h0 : 0 ≤ r := by have q := HP.out r hr; simpa using q
    clear hr
    go_wp2_with fail
    go_ret
    exact ⟨ret_bool (by simp [h0]), rfl⟩
  · go_enter Tryz.func194, Tryz.ntmps194
    go_wp2_with fail
    refine HI.out.mono ?_
    rintro e w1 ⟨r, rfl, rfl, hr⟩
    have h0 : r < 0 := by
      have q := HP.out r hr
      by_cases h : 0 ≤ r
      · have := q.1 h; simp at this
      · omega
    clear hr
    go_wp2_with fail
    go_ret
    exact ⟨ret_bool (by simp; omega), rfl⟩
set_option maxRecDepth 100000 in
set_option maxHeartbeats 2000000 in
theorem blank127 (v : Value) (l : List UInt8) (w : World) (h : IsB w v l) (hn : l.length < 1000000) : Calls Tryz.prog 127 #[v] w fun e w' =>
    e = .returned (.bool (zeros l)) ∧ w = w' := by
  have HI := indexFunc243 v l w h hn
  obtain ⟨vo, vc, rfl⟩ := h.val
  clear h
  have HCF := Lib.hid (contains194 vo l.length vc w (zeros l) (fun r => if zeros l then r = -1 else 0 ≤ r) (fun r hr => by cases hz : zeros l <;> rw [hz] at hr <;> simp at hr ⊢ <;> omega) HI)
  clear HI
  generalize zeros l = z at *
  cases z
  · go_enter Tryz.func127, Tryz.ntmps127
    go_wp2_with fail
    refine HCF.out.mono ?_
    rintro e w1 ⟨rfl, rfl⟩
    go_wp2_with fail
    go_ret
    exact ⟨rfl, rfl⟩
  · go_enter Tryz.func127, Tryz.ntmps127
    go_wp2_with fail
    refine HCF.out.mono ?_
    rintro e w1 ⟨rfl, rfl⟩
    go_wp2_with fail
    go_ret
    exact ⟨rfl, rfl⟩
end Go.Proofs.YtfdgiblkllfpjaaGreatDoor

/- page: sum, Check, Stamp. -/
set_option linter.unusedVariables false
set_option linter.unusedSimpArgs false
namespace Go.Proofs.YtfdgiblkllfpjaaGreatDoor
open Go.ChangeShapes Go.WideShapes Go.ChangeAt Go.RowKit

def pageSum (t : Nat → Nat) (l : List UInt8) : Nat := crcSum t [l.take 12, l.drop 16]
set_option maxRecDepth 100000 in
set_option maxHeartbeats 2000000 in
theorem sum130 {t : Nat → Nat} (v : Value) (l : List UInt8) (w : World) (ht : Tbl t w) (h : IsB w v l) (hn : l.length < 1000000) (h16 : 16 ≤ l.length) : Calls Tryz.prog 130 #[v] w fun e w' =>
    e = .returned (.int .u32 (pageSum t l : Nat)) ∧ Off [] w w' := by
  obtain ⟨a1, c1, b1, _, l1, _, _, r1⟩ := h.cut 0 12 (by omega) (by omega)
  obtain ⟨a2, c2, b2, _, l2, _, r2, _⟩ := h.cut 16 l.length h16 (Nat.le_refl _)
  obtain ⟨vo, vc, rfl⟩ := h.val
  rw [List.drop_zero] at b1
  rw [List.take_of_length_le (by rw [List.length_drop]; omega)] at b2
  have HR1 := Lib.hid (r1 rfl)
  have HR2 := Lib.hid (r2 rfl)
  have q1 : ∀ W, (Instr.slice 22 (.slice vo l.length vc) none (some (.int .i64 12)) none).run Tryz.prog W = .ok (.slice a1 12 c1) W := fun W => HR1.out W _ rfl
  have q2 : ∀ W, (Instr.slice 22 (.slice vo l.length vc) (some (.int .i64 16)) none none).run Tryz.prog W = .ok (.slice a2 (l.length - 16) c2) W := fun W => HR2.out W _ rfl
  have HS : Hid (∀ W, Off [] w W → Calls Tryz.prog 124 #[.slice (some ⟨W.heap.size, 0, none⟩) 2 2] (W.alloc (.cells #[.slice a1 12 c1, .slice a2 (l.length - 16) c2] 22)) fun e w' => e = .returned (.int .u32 (pageSum t l : Nat)) ∧ W.alloc (.cells #[.slice a1 12 c1, .slice a2 (l.length - 16) c2] 22) = w') := Lib.hid (fun W ho => by
    have q := sum124 _ [l.take 12, l.drop 16] _ ((ht.off ho (by simp)).off ((Off.refl [] W).alloc (.cells #[.slice a1 12 c1, .slice a2 (l.length - 16) c2] 22)) (by simp)) (isRows2 (b1.off ho (by simp)) (b2.off ho (by simp))) (by simp; omega) (by simp)
    exact q)
  have HO := Lib.hid (Off.refl [] w)
  clear b1 b2 l1 l2 r1 r2 HR1 HR2 h ht
  generalize pageSum t l = x at *
  generalize l.length = n at *
  go_enter Tryz.func130, Tryz.ntmps130
  go_upto_region 1 with fail
  go_region_law (go_simp; go_at_call 124; refine (HS.out _ (HO.out.drew)).mono ?_; rintro e w1 ⟨rfl, rfl⟩)
  all_goals
    go_wp2_with fail
    go_ret
    exact ⟨rfl, by first | exact HO.out.drew.alloc _ | exact (HO.out.alloc _).drew | exact (HO.out.alloc _).drewN _ | exact ((HO.out.drewN _).alloc _)⟩

def pageCheck (t : Nat → Nat) (l : List UInt8) (number slots : Int) : Option Nat :=
  if pageLen slots = 0 ∨ ¬ (0 ≤ number ∧ number < 16) ∨ (l.length : Int) ≠ pageLen slots then none
  else if zeros l then some 0
  else match pageLsn l with
    | none => none
    | some x => if x = num8 (l.drop (l.length - 8)) ∧ (num8 ((l.drop 8).take 4) : Int) = number ∧ num8 ((l.drop 12).take 4) = pageSum t l then some x else none
def CheckPost (w : World) (o : Option Nat) (e : Ending) (w' : World) : Prop := e = .returned (.tuple #[.int .i64 (o.getD 0 : Nat), .int .i64 (errOf o 40)]) ∧ Off [] w w'
theorem pageLsn_le {l : List UInt8} {x : Nat} (h : pageLsn l = some x) : x ≤ 1152921504606846976 := by
  unfold pageLsn at h
  by_cases h1 : slotsN l.length = 0
  · rw [if_pos h1] at h; simp at h
  · rw [if_neg h1] at h
    cases ho : intOk l <;> rw [ho] at h
    · simp at h
    · simp only [if_true, Option.some.injEq] at h
      unfold intOk at ho
      rw [decide_eq_true_eq] at ho
      rw [← h]; exact ho.2
theorem pageLen_ge {s : Int} (h : pageLen s ≠ 0) : 40 ≤ pageLen s ∧ pageLen s ≤ 152 := by
  unfold pageLen at h ⊢
  by_cases hc : s < 1 ∨ 8 < s
  · rw [if_pos hc] at h; simp at h
  · rw [if_neg hc]; omega
set_option maxRecDepth 100000 in
set_option maxHeartbeats 8000000 in
theorem check64 {t : Nat → Nat} (v : Value) (l : List UInt8) (number slots : Int) (w : World) (ht : Tbl t w) (h : IsB w v l) (hn : l.length < 1000000) :
    Calls Tryz.prog 64 #[v, .int .i64 number, .int .i64 slots] w (CheckPost w (pageCheck t l number slots)) := by
  have HB6 : Hid (∀ W, Calls Tryz.prog 126 #[.int .i64 slots] W fun e w' => e = .returned (.int .i64 (pageLen slots)) ∧ W = w') := Lib.hid (fun W => bytes126 slots W)
  have HNB := Lib.hid (numbered69 number w)
  have HBL := Lib.hid (blank127 v l w h hn)
  have HLS := Lib.hid (lsn108 v l w h hn)
  obtain ⟨vo, vc, rfl⟩ := h.val
  by_cases h1 : pageLen slots = 0
  · have e : pageCheck t l number slots = none := by unfold pageCheck; rw [if_pos (.inl h1)]
    rw [h1] at HB6
    rw [e]
    have HF : Hid (CheckPost w none (.returned (.tuple #[.int .i64 0, .int .i64 40])) w) := Lib.hid ⟨rfl, Off.refl _ _⟩
    clear h ht e h1
    generalize l.length = n at *
    go_enter Tryz.func64, Tryz.ntmps64
    go_wp2_with fail
    refine (HB6.out _).mono ?_
    rintro e w1 ⟨rfl, rfl⟩
    go_wp2_with fail
    go_ret2
    exact HF.out
  by_cases h2 : ¬ (0 ≤ number ∧ number < 16)
  · have e : pageCheck t l number slots = none := by unfold pageCheck; rw [if_pos (.inr (.inl h2))]
    rw [decide_eq_false h2] at HNB
    rw [e]
    have HF : Hid (CheckPost w none (.returned (.tuple #[.int .i64 0, .int .i64 40])) w) := Lib.hid ⟨rfl, Off.refl _ _⟩
    have hb : (pageLen slots == 0) = false := by simpa using h1
    clear h ht e h1 h2
    generalize l.length = n at *
    generalize pageLen slots = pl at *
    go_enter Tryz.func64, Tryz.ntmps64
    go_wp2_with fail
    refine (HB6.out _).mono ?_
    rintro e w1 ⟨rfl, rfl⟩
    go_wp2_with fail
    refine HNB.out.mono ?_
    rintro e w1 ⟨rfl, rfl⟩
    go_wp2_with fail
    go_ret2
    exact HF.out
  have h2' : 0 ≤ number ∧ number < 16 := Classical.not_not.1 h2
  rw [decide_eq_true h2'] at HNB
  clear h2
  by_cases h3 : (l.length : Int) ≠ pageLen slots
  · have e : pageCheck t l number slots = none := by unfold pageCheck; rw [if_pos (.inr (.inr h3))]
    rw [e]
    have HF : Hid (CheckPost w none (.returned (.tuple #[.int .i64 0, .int .i64 40])) w) := Lib.hid ⟨rfl, Off.refl _ _⟩
    have hb : (pageLen slots == 0) = false := by simpa using h1
    have hc : ((l.length : Int) != pageLen slots) = true := by simpa using h3
    clear h ht e h1 h3
    generalize l.length = n at *
    generalize pageLen slots = pl at *
    go_enter Tryz.func64, Tryz.ntmps64
    go_wp2_with fail
    refine (HB6.out _).mono ?_
    rintro e w1 ⟨rfl, rfl⟩
    go_wp2_with fail
    refine HNB.out.mono ?_
    rintro e w1 ⟨rfl, rfl⟩
    go_wp2_with fail
    refine (HB6.out _).mono ?_
    rintro e w1 ⟨rfl, rfl⟩
    go_wp2_with fail
    go_ret2
    exact HF.out
  have h3' : pageLen slots = (l.length : Int) := (Classical.not_not.1 h3).symm
  have hpl := pageLen_ge h1
  have hcond : ¬ (pageLen slots = 0 ∨ ¬ (0 ≤ number ∧ number < 16) ∨ (l.length : Int) ≠ pageLen slots) := by omega
  rw [h3'] at HB6
  have h40 : 40 ≤ l.length := by omega
  clear h3 h1 h3' hpl
  cases hz : zeros l with
  | true =>
    have e : pageCheck t l number slots = some 0 := by unfold pageCheck; rw [if_neg hcond, hz]; rfl
    rw [e]
    rw [hz] at HBL
    have HF : Hid (CheckPost w (some 0) (.returned (.tuple #[.int .i64 0, .int .i64 0])) w) := Lib.hid ⟨rfl, Off.refl _ _⟩
    clear h ht e hz hcond
    generalize l.length = n at *
    go_enter Tryz.func64, Tryz.ntmps64
    go_wp2_with fail
    refine (HB6.out _).mono ?_
    rintro e w1 ⟨rfl, rfl⟩
    go_wp2_with fail
    refine HNB.out.mono ?_
    rintro e w1 ⟨rfl, rfl⟩
    go_wp2_with fail
    refine (HB6.out _).mono ?_
    rintro e w1 ⟨rfl, rfl⟩
    go_wp2_with fail
    refine HBL.out.mono ?_
    rintro e w1 ⟨rfl, rfl⟩
    go_wp2_with fail
    go_ret2
    exact HF.out
  | false =>
    rw [hz] at HBL
    have hpc : pageCheck t l number slots = match pageLsn l with
      | none => none
      | some x => if x = num8 (l.drop (l.length - 8)) ∧ (num8 ((l.drop 8).take 4) : Int) = number ∧ num8 ((l.drop 12).take 4) = pageSum t l then some x else none := by
      unfold pageCheck; rw [if_neg hcond, hz]; rfl
    obtain ⟨ao1, ac1, b1, _, l1, _, r1, _⟩ := h.cut (l.length - 8) l.length (by omega) (Nat.le_refl _)
    obtain ⟨ao2, ac2, b2, _, l2, _, r2, _⟩ := h.cut 8 l.length (by omega) (Nat.le_refl _)
    obtain ⟨ao3, ac3, b3, _, l3, _, r3, _⟩ := h.cut 12 l.length (by omega) (Nat.le_refl _)
    rw [List.take_of_length_le (by rw [List.length_drop]; omega)] at b1 b2 b3 l1 l2 l3
    rw [show l.length - (l.length - 8) = 8 by omega] at b1 l1 r1
    have HR1 := Lib.hid (r1 rfl)
    have HR2 := Lib.hid (r2 rfl)
    have HR3 := Lib.hid (r3 rfl)
    have q1 : ∀ W, (Instr.slice 22 (.slice vo l.length vc) (some (.int .i64 ((l.length : Int) - 8))) none none).run Tryz.prog W = .ok (.slice ao1 8 ac1) W := fun W => HR1.out W _ (by omega)
    have q2 : ∀ W, (Instr.slice 22 (.slice vo l.length vc) (some (.int .i64 8)) none none).run Tryz.prog W = .ok (.slice ao2 (l.length - 8) ac2) W := fun W => HR2.out W _ rfl
    have q3 : ∀ W, (Instr.slice 22 (.slice vo l.length vc) (some (.int .i64 12)) none none).run Tryz.prog W = .ok (.slice ao3 (l.length - 12) ac3) W := fun W => HR3.out W _ rfl
    have e1 : getN 8 (l.drop (l.length - 8)) = num8 (l.drop (l.length - 8)) := by unfold getN; rw [if_neg (by omega), List.take_of_length_le (by omega)]
    have e2 : getN 4 (l.drop 8) = num8 ((l.drop 8).take 4) := by unfold getN; rw [if_neg (by omega)]
    have e3 : getN 4 (l.drop 12) = num8 ((l.drop 12).take 4) := by unfold getN; rw [if_neg (by omega)]
    have HG1 : Hid (∀ W, Off [] w W → Calls Tryz.prog 128 #[.slice ao1 8 ac1] W fun e w' => e = .returned (.tuple #[.int .u64 (num8 (l.drop (l.length - 8)) : Nat), .int .i64 (getE 8 (l.drop (l.length - 8)))]) ∧ W = w') := Lib.hid (fun W ho => by rw [← e1]; exact get128 _ _ W (b1.off ho (by simp)) (by omega))
    have HG2 : Hid (∀ W, Off [] w W → Calls Tryz.prog 129 #[.slice ao2 (l.length - 8) ac2] W fun e w' => e = .returned (.tuple #[.int .u32 (num8 ((l.drop 8).take 4) : Nat), .int .i64 (getE 4 (l.drop 8))]) ∧ W = w') := Lib.hid (fun W ho => by rw [← e2]; exact get129 _ _ W (b2.off ho (by simp)) (by omega))
    have HG3 : Hid (∀ W, Off [] w W → Calls Tryz.prog 129 #[.slice ao3 (l.length - 12) ac3] W fun e w' => e = .returned (.tuple #[.int .u32 (num8 ((l.drop 12).take 4) : Nat), .int .i64 (getE 4 (l.drop 12))]) ∧ W = w') := Lib.hid (fun W ho => by rw [← e3]; exact get129 _ _ W (b3.off ho (by simp)) (by omega))
    have HSU : Hid (∀ W, Off [] w W → Calls Tryz.prog 130 #[.slice vo l.length vc] W fun e w' => e = .returned (.int .u32 (pageSum t l : Nat)) ∧ Off [] W w') := Lib.hid (fun W ho => sum130 _ l W (ht.off ho (by simp)) (h.off ho (by simp)) hn (by omega))
    have hb1 := num8_lt (l.drop (l.length - 8))
    have hb2 := num8_lt ((l.drop 8).take 4)
    rw [List.length_take] at hb2
    rw [l1] at hb1
    have hb2' : num8 ((l.drop 8).take 4) < 4294967296 := Nat.lt_of_lt_of_le hb2 (Nat.pow_le_pow_right (by omega) (Nat.min_le_left _ _))
    have hnum : ((num8 ((l.drop 8).take 4) : Nat) : Int) < 9223372036854775808 := by omega
    generalize num8 (l.drop (l.length - 8)) = y1 at *
    generalize num8 ((l.drop 8).take 4) = y2 at *
    generalize num8 ((l.drop 12).take 4) = y3 at *
    generalize pageSum t l = y4 at *
    generalize getE 8 (l.drop (l.length - 8)) = z1 at *
    generalize getE 4 (l.drop 8) = z2 at *
    generalize getE 4 (l.drop 12) = z3 at *
    have HB2 := Lib.hid hb2'
    clear b1 b2 b3 l1 l2 l3 r1 r2 r3 e1 e2 e3 h ht HR1 HR2 HR3 hcond hz hb1 hb2 hb2' hnum
    cases hp : pageLsn l with
    | none =>
      rw [hp] at hpc HLS
      rw [hpc]
      simp only [errOf, Option.isSome_none, Option.getD_none, Bool.false_eq_true, if_false] at HLS
      rw [show (((0 : Nat)) : Int) = 0 from rfl] at HLS
      clear hp hpc
      generalize l.length = n at *
      go_enter Tryz.func64, Tryz.ntmps64
      go_wp2_with fail
      refine (HB6.out _).mono ?_
      rintro e w1 ⟨rfl, rfl⟩
      go_wp2_with fail
      refine HNB.out.mono ?_
      rintro e w1 ⟨rfl, rfl⟩
      go_wp2_with fail
      refine (HB6.out _).mono ?_
      rintro e w1 ⟨rfl, rfl⟩
      go_wp2_with fail
      refine HBL.out.mono ?_
      rintro e w1 ⟨rfl, rfl⟩
      go_wp2_with fail
      refine HLS.out.mono ?_
      rintro e w2 ⟨rfl, ho2⟩
      have HO2 := Lib.hid ho2
      clear ho2 HLS
      go_wp2_with fail
      refine (HG1.out _ HO2.out).mono ?_
      rintro e w3 ⟨rfl, rfl⟩
      go_wp2_with fail
      refine (HG2.out _ HO2.out).mono ?_
      rintro e w3 ⟨rfl, rfl⟩
      go_wp2_with fail
      refine (HG3.out _ HO2.out).mono ?_
      rintro e w3 ⟨rfl, rfl⟩
      go_wp2_with fail
      go_ret2
      exact ⟨rfl, HO2.out⟩
    | some x =>
      rw [hp] at hpc HLS
      simp only [errOf, Option.isSome_some, Option.getD_some, if_true] at HLS
      have hx60 : x ≤ 1152921504606846976 := pageLsn_le hp
      have hxw : IntKind.u64.wrap (x : Int) = (x : Int) := by rw [IntKind.wrap_u64]; omega
      have HXW := Lib.hid hx60
      have hyw : ((y2 : Nat) : Int) % 4294967296 = (y2 : Int) := by have := HB2.out; omega
      simp only at hpc
      clear hp hx60
      by_cases c1 : x = y1
      · by_cases c2 : (y2 : Int) = number
        · by_cases c3 : y3 = y4
          · rw [if_pos ⟨c1, c2, c3⟩] at hpc
            rw [hpc]
            subst c1; subst c2; subst c3
            clear hpc
            generalize l.length = n at *
            go_enter Tryz.func64, Tryz.ntmps64
            go_wp2_with fail
            refine (HB6.out _).mono ?_
            rintro e w1 ⟨rfl, rfl⟩
            go_wp2_with fail
            refine HNB.out.mono ?_
            rintro e w1 ⟨rfl, rfl⟩
            go_wp2_with fail
            refine (HB6.out _).mono ?_
            rintro e w1 ⟨rfl, rfl⟩
            go_wp2_with fail
            refine HBL.out.mono ?_
            rintro e w1 ⟨rfl, rfl⟩
            go_wp2_with fail
            refine HLS.out.mono ?_
            rintro e w2 ⟨rfl, ho2⟩
            have HO2 := Lib.hid ho2
            clear ho2 HLS
            go_wp2_with fail
            refine (HG1.out _ HO2.out).mono ?_
            rintro e w3 ⟨rfl, rfl⟩
            go_wp2_with fail
            refine (HG2.out _ HO2.out).mono ?_
            rintro e w3 ⟨rfl, rfl⟩
            go_wp2_with fail
            refine (HG3.out _ HO2.out).mono ?_
            rintro e w3 ⟨rfl, rfl⟩
            go_wp2_with fail
            refine (HSU.out _ HO2.out).mono ?_
            rintro e w3 ⟨rfl, ho3⟩
            have HO3 := Lib.hid (HO2.out.trans ho3 (by simp))
            clear ho3
            go_wp2_with fail
            go_ret2
            exact ⟨rfl, HO3.out⟩
          · rw [if_neg (fun q => c3 q.2.2)] at hpc
            rw [hpc]
            subst c1; subst c2
            have d3 : (((y3 : Nat) : Int) != (y4 : Int)) = true := by rw [bne_iff_ne]; omega
            clear hpc c3
            generalize l.length = n at *
            go_enter Tryz.func64, Tryz.ntmps64
            go_wp2_with fail
            refine (HB6.out _).mono ?_
            rintro e w1 ⟨rfl, rfl⟩
            go_wp2_with fail
            refine HNB.out.mono ?_
            rintro e w1 ⟨rfl, rfl⟩
            go_wp2_with fail
            refine (HB6.out _).mono ?_
            rintro e w1 ⟨rfl, rfl⟩
            go_wp2_with fail
            refine HBL.out.mono ?_
            rintro e w1 ⟨rfl, rfl⟩
            go_wp2_with fail
            refine HLS.out.mono ?_
            rintro e w2 ⟨rfl, ho2⟩
            have HO2 := Lib.hid ho2
            clear ho2 HLS
            go_wp2_with fail
            refine (HG1.out _ HO2.out).mono ?_
            rintro e w3 ⟨rfl, rfl⟩
            go_wp2_with fail
            refine (HG2.out _ HO2.out).mono ?_
            rintro e w3 ⟨rfl, rfl⟩
            go_wp2_with fail
            refine (HG3.out _ HO2.out).mono ?_
            rintro e w3 ⟨rfl, rfl⟩
            go_wp2_with fail
            refine (HSU.out _ HO2.out).mono ?_
            rintro e w3 ⟨rfl, ho3⟩
            have HO3 := Lib.hid (HO2.out.trans ho3 (by simp))
            clear ho3
            go_wp2_with fail
            go_ret2
            exact ⟨rfl, HO3.out⟩
        · rw [if_neg (fun q => c2 q.2.1)] at hpc
          rw [hpc]
          subst c1
          have d2 : (((y2 : Nat) : Int) != number) = true := by rw [bne_iff_ne]; exact c2
          clear hpc c2
          generalize l.length = n at *
          go_enter Tryz.func64, Tryz.ntmps64
          go_wp2_with fail
          refine (HB6.out _).mono ?_
          rintro e w1 ⟨rfl, rfl⟩
          go_wp2_with fail
          refine HNB.out.mono ?_
          rintro e w1 ⟨rfl, rfl⟩
          go_wp2_with fail
          refine (HB6.out _).mono ?_
          rintro e w1 ⟨rfl, rfl⟩
          go_wp2_with fail
          refine HBL.out.mono ?_
          rintro e w1 ⟨rfl, rfl⟩
          go_wp2_with fail
          refine HLS.out.mono ?_
          rintro e w2 ⟨rfl, ho2⟩
          have HO2 := Lib.hid ho2
          clear ho2 HLS
          go_wp2_with fail
          refine (HG1.out _ HO2.out).mono ?_
          rintro e w3 ⟨rfl, rfl⟩
          go_wp2_with fail
          refine (HG2.out _ HO2.out).mono ?_
          rintro e w3 ⟨rfl, rfl⟩
          go_wp2_with fail
          refine (HG3.out _ HO2.out).mono ?_
          rintro e w3 ⟨rfl, rfl⟩
          go_wp2_with fail
          go_ret2
          exact ⟨rfl, HO2.out⟩
      · rw [if_neg (fun q => c1 q.1)] at hpc
        rw [hpc]
        have d1 : (((x : Nat) : Int) != (y1 : Int)) = true := by rw [bne_iff_ne]; omega
        clear hpc c1
        generalize l.length = n at *
        go_enter Tryz.func64, Tryz.ntmps64
        go_wp2_with fail
        refine (HB6.out _).mono ?_
        rintro e w1 ⟨rfl, rfl⟩
        go_wp2_with fail
        refine HNB.out.mono ?_
        rintro e w1 ⟨rfl, rfl⟩
        go_wp2_with fail
        refine (HB6.out _).mono ?_
        rintro e w1 ⟨rfl, rfl⟩
        go_wp2_with fail
        refine HBL.out.mono ?_
        rintro e w1 ⟨rfl, rfl⟩
        go_wp2_with fail
        refine HLS.out.mono ?_
        rintro e w2 ⟨rfl, ho2⟩
        have HO2 := Lib.hid ho2
        clear ho2 HLS
        go_wp2_with fail
        refine (HG1.out _ HO2.out).mono ?_
        rintro e w3 ⟨rfl, rfl⟩
        go_wp2_with fail
        refine (HG2.out _ HO2.out).mono ?_
        rintro e w3 ⟨rfl, rfl⟩
        go_wp2_with fail
        refine (HG3.out _ HO2.out).mono ?_
        rintro e w3 ⟨rfl, rfl⟩
        go_wp2_with fail
        go_ret2
        exact ⟨rfl, HO2.out⟩
end Go.Proofs.YtfdgiblkllfpjaaGreatDoor

/- page: Stamp; what is stamped is right. -/
set_option linter.unusedVariables false
set_option linter.unusedSimpArgs false
namespace Go.Proofs.YtfdgiblkllfpjaaGreatDoor
open Go.ChangeShapes Go.WideShapes Go.ChangeAt Go.RowKit

theorem num8_le : ∀ n x, x < 256 ^ n → num8 (le n x) = x
  | 0, x, h => by simp at h; subst h; rfl
  | n + 1, x, h => by
    have hd : x / 256 < 256 ^ n := by rw [Nat.pow_succ, Nat.mul_comm] at h; exact Nat.div_lt_of_lt_mul h
    rw [le, num8, num8_le n (x / 256) hd, UInt8.toNat_ofNat']
    have : (2 : Nat) ^ 8 = 256 := rfl
    omega
theorem slotsN_pos {n : Nat} (h : slotsN n ≠ 0) : 40 ≤ n ∧ n ≤ 152 := by
  unfold slotsN at h
  by_cases hc : 40 ≤ n ∧ n ≤ 152 ∧ (n - 24) % 16 = 0
  · exact ⟨hc.1, hc.2.1⟩
  · rw [if_neg hc] at h; simp at h
section
variable (t : Nat → Nat) (l : List UInt8) (number lsn : Nat)
theorem head_len : (pageHead number lsn).length = 12 := by unfold pageHead; rw [List.length_append, le_len, le_len]
theorem rest_len (h : 24 ≤ l.length) : (pageRest l lsn).length = l.length - 16 := by unfold pageRest; rw [List.length_append, le_len, List.length_take, List.length_drop]; omega
theorem stamp_take8 : (stampB t l number lsn).take 8 = le 8 lsn := by
  unfold stampB pageHead
  rw [List.append_assoc, List.append_assoc, List.take_left' (le_len 8 lsn)]
theorem stamp_take12 : (stampB t l number lsn).take 12 = pageHead number lsn := by
  unfold stampB
  rw [List.append_assoc, List.take_left' (head_len number lsn)]
theorem stamp_drop16 : (stampB t l number lsn).drop 16 = pageRest l lsn := by
  unfold stampB
  rw [List.drop_left' (by rw [List.length_append, head_len, le_len])]
theorem stamp_num : ((stampB t l number lsn).drop 8).take 4 = le 4 number := by
  unfold stampB pageHead
  rw [List.append_assoc, List.append_assoc, List.drop_left' (le_len 8 lsn), List.take_left' (le_len 4 number)]
theorem stamp_sum : ((stampB t l number lsn).drop 12).take 4 = le 4 (crcSum t [pageHead number lsn, pageRest l lsn]) := by
  unfold stampB
  rw [List.append_assoc, List.drop_left' (head_len number lsn), List.take_left' (le_len 4 _)]
theorem stamp_end (h : 24 ≤ l.length) : (stampB t l number lsn).drop (l.length - 8) = le 8 lsn := by
  have e : stampB t l number lsn = ((pageHead number lsn ++ le 4 (crcSum t [pageHead number lsn, pageRest l lsn])) ++ (l.drop 16).take (l.length - 8 - 16)) ++ le 8 lsn := by
    unfold stampB pageRest; rw [List.append_assoc]; simp [List.append_assoc]
  rw [e, List.drop_left']
  simp only [List.length_append, head_len, le_len, List.length_take, List.length_drop]; omega
end
theorem zeros_le (l : List UInt8) (h : zeros l = true) : num8 l = 0 := by
  induction l with
  | nil => rfl
  | cons b l ih =>
    simp only [zeros, List.all_cons, Bool.and_eq_true, beq_iff_eq] at h
    rw [num8, h.1, ih h.2]
theorem zeros_take (l : List UInt8) (k : Nat) (h : zeros l = true) : zeros (l.take k) = true := by
  unfold zeros at h ⊢
  rw [List.all_eq_true] at h ⊢
  exact fun x hx => h x (List.mem_of_mem_take hx)
theorem pageLsn_stamp {t : Nat → Nat} {l : List UInt8} {number lsn : Nat} (hs : slotsN l.length ≠ 0) (hl : lsn ≤ 1152921504606846976) : pageLsn (stampB t l number lsn) = some lsn := by
  have h40 := slotsN_pos hs
  have e8 : lsn < 256 ^ 8 := Nat.lt_of_le_of_lt hl (by decide)
  have hln := stampB_len t l number lsn (by omega)
  unfold pageLsn
  rw [hln, if_neg hs, stamp_take8, num8_le 8 lsn e8]
  have ho : intOk (stampB t l number lsn) = true := by
    unfold intOk; rw [hln, stamp_take8, num8_le 8 lsn e8]; simp; omega
  rw [ho]; rfl
theorem check_stamp {t : Nat → Nat} {w : World} (ht : Tbl t w) {l : List UInt8} {number lsn : Nat} {slots : Int} (hs : slotsN l.length ≠ 0) (hl : lsn ≤ 1152921504606846976) (hnum : number < 16) (hlen : (l.length : Int) = pageLen slots) :
    pageCheck t (stampB t l number lsn) number slots = some lsn := by
  have h40 := slotsN_pos hs
  have hln := stampB_len t l number lsn (by omega)
  have e8 : lsn < 256 ^ 8 := Nat.lt_of_le_of_lt hl (by decide)
  have e4 : number < 256 ^ 4 := Nat.lt_of_lt_of_le hnum (by decide)
  unfold pageCheck
  rw [if_neg (by rw [hln]; omega)]
  cases hz : zeros (stampB t l number lsn) with
  | true =>
    have h1 := zeros_take _ 8 hz
    rw [stamp_take8] at h1
    have h2 := zeros_le _ h1
    rw [num8_le 8 lsn e8] at h2
    rw [h2]; rfl
  | false =>
    simp only [Bool.false_eq_true, if_false]
    rw [pageLsn_stamp hs hl]
    simp only
    rw [hln, stamp_end t l number lsn (by omega), num8_le 8 lsn e8, stamp_num, num8_le 4 number e4, stamp_sum]
    unfold pageSum
    rw [stamp_take12, stamp_drop16]
    have hc := sum_lt ht [pageHead number lsn, pageRest l lsn]
    rw [num8_le 4 _ hc]
    simp
def StampPost (w : World) (s : List UInt8) (e : Ending) (w' : World) : Prop :=
  ∃ ao cap, e = .returned (.tuple #[.slice ao s.length cap, .int .i64 0]) ∧ IsB w' (.slice ao s.length cap) s ∧ Off [] w w' ∧ ∀ x ∈ blk (.slice ao s.length cap), w.heap.size ≤ x
set_option maxRecDepth 100000 in
set_option maxHeartbeats 2000000 in
theorem stamp18 {t : Nat → Nat} (v : Value) (l : List UInt8) (number lsn : Nat) (hnum : number < 16) (hlsn : lsn ≤ 1152921504606846976) (w : World) (ht : Tbl t w) (h : IsB w v l) (hs : slotsN l.length ≠ 0) :
    Calls Tryz.prog 18 #[v, .int .i64 (number : Int), .int .i64 (lsn : Int)] w (StampPost w (stampB t l number lsn)) := by
  have h40 := slotsN_pos hs
  have HT := Lib.hid (stamped70 v l number lsn (by omega) hlsn w ht h (by omega) (by omega))
  obtain ⟨vo, vc, rfl⟩ := h.val
  have HS := Lib.hid (slots68 vo l.length vc (by omega) w)
  have hnb := numbered69 (number : Int) w
  rw [decide_eq_true (by omega)] at hnb
  have HNB := Lib.hid hnb
  have hsp : 0 < slotsN l.length := by omega
  have hl0 : (lsn : Int) ≤ 1152921504606846976 := by omega
  clear h ht hs hnb hlsn h40
  generalize slotsN l.length = sn at *
  generalize l.length = n at *
  generalize stampB t l number lsn = F at *
  go_enter Tryz.func18, Tryz.ntmps18
  go_wp2_with fail
  refine HS.out.mono ?_
  rintro e w1 ⟨rfl, rfl⟩
  go_wp2_with fail
  refine HNB.out.mono ?_
  rintro e w1 ⟨rfl, rfl⟩
  go_wp2_with fail
  refine HT.out.mono ?_
  rintro e w1 ⟨ao, cap, rfl, h1⟩
  have HF : Hid (StampPost w F (.returned (.tuple #[.slice ao F.length cap, .int .i64 0])) w1) := ⟨ao, cap, rfl, h1⟩
  clear h1 HT
  go_wp2_with fail
  go_ret2
  exact HF.out
end Go.Proofs.YtfdgiblkllfpjaaGreatDoor
