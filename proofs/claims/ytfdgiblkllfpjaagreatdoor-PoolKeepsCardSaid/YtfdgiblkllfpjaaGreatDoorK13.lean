/- the laws' own: lent of a page, whole, full, grown. -/
import Derived.Test.YtfdgiblkllfpjaaGreatDoorK12
set_option linter.unusedVariables false
set_option linter.unusedSimpArgs false
namespace Go.Proofs.YtfdgiblkllfpjaaGreatDoor
open Go.ChangeShapes Go.WideShapes Go.ChangeAt Go.RowKit

def marks : List UInt8 := (List.range 120).map (fun j => UInt8.ofNat (129 + j))
def lentB (l : List UInt8) : List UInt8 := l ++ marks
theorem marks_len : marks.length = 120 := by unfold marks; simp
theorem lentB_len {l : List UInt8} (h : l.length = 40) : (lentB l).length = 160 := by unfold lentB; rw [List.length_append, marks_len, h]
theorem fill_step (a m : List UInt8) (N k : Nat) (hk : k < m.length) (hN : m.length ≤ N) : (a ++ (m.take k ++ List.replicate (N - k) 0)).set (a.length + k) m[k] = a ++ (m.take (k + 1) ++ List.replicate (N - (k + 1)) 0) := by
  have h1 : (m.take k).length = k := by rw [List.length_take]; omega
  rw [List.set_append_right _ _ (by omega), Nat.add_sub_cancel_left, List.set_append_right _ _ (by omega), h1, Nat.sub_self, show N - k = (N - (k + 1)) + 1 by omega, List.replicate_succ, List.set_cons_zero, List.take_succ_eq_append_getElem hk, List.append_assoc]; rfl
theorem marks_at (k : Nat) (hk : k < 120) : ((marks[k]'(by rw [marks_len]; exact hk)).toNat : Int) = 129 + (k : Int) := by
  unfold marks
  simp only [List.getElem_map, List.getElem_range, UInt8.toNat_ofNat']
  omega
set_option maxRecDepth 100000 in
set_option maxHeartbeats 8000000 in
theorem lent14 {w : World} {v : Value} {l : List UInt8} (h : IsB w v l) (hl : l.length = 40) : Calls Tryz.prog 14 #[v] w (FreshB w (lentB l)) := by
  obtain ⟨vo, vc, rfl⟩ := h.val
  obtain ⟨vb, voff, rfl⟩ := h.base (by omega)
  have hmk : ∀ W, (Instr.makeSlice 22 (.int .i64 160) (.int .i64 160)).run Tryz.prog W = .ok (.slice (some ⟨W.heap.size, 0, none⟩) 160 160) (W.alloc (.cells (Array.replicate 160 (.int .u8 0)) 5)) := fun W => makeB 160 (by omega) W
  have HB := Lib.hid h
  have HL := Lib.hid hl
  obtain ⟨P, hP⟩ : ∃ P, P = FreshB w (lentB l) := ⟨_, rfl⟩
  rw [← hP]
  have HP := Lib.hid hP
  obtain ⟨W0, hW0⟩ : ∃ W0, W0 = w.alloc (.cells (Array.replicate 160 (.int .u8 0)) 5) := ⟨_, rfl⟩
  have HN : Hid (IsB W0 (.slice (some ⟨w.heap.size, 0, none⟩) 160 160) (List.replicate 160 0)) := Lib.hid (by rw [hW0]; exact newB w 160 (by omega))
  have HO : Hid (Off [] w W0) := Lib.hid (by rw [hW0]; exact (Off.refl [] w).alloc _)
  have HG : Hid (vb < w.heap.size) := Lib.hid (h.lt vb (by simp [blk]))
  rw [hl]
  clear h hP hl
  go_enter Tryz.func14, Tryz.ntmps14
  go_wp2_with fail
  rw [← hW0]
  clear hmk hW0
  generalize hg : w.heap.size = g at *
  have HGE := Lib.hid hg
  clear hg
  go_loopw [4] (fun i wr => ∃ k : Nat, k ≤ 40 ∧ i = .int .i64 (k : Int) ∧ IsB wr (.slice (some ⟨g, 0, none⟩) 160 160) ([] ++ (l.take k ++ List.replicate (160 - k) 0)) ∧ Off [g] W0 wr) (fun i _ => 40 - (intOf i).toNat)
  case atStart => exact ⟨0, by omega, rfl, by simpa using HN.out, Off.refl _ _⟩
  case round =>
    obtain ⟨k, hk, rfl, hb, ho⟩ := hrel
    have HI := Lib.hid (And.intro hb ho)
    clear hb ho
    by_cases h40 : k < 40
    · have hlv : k < l.length := by have := HL.out; omega
      have hlen : ([] ++ (l.take k ++ List.replicate (160 - k) 0)).length = 160 := by rw [List.nil_append, List.length_append, List.length_take, List.length_replicate]; omega
      have hsrc := ((HB.out.off HO.out (by simp)).off HI.out.2 (fun z hz hz' => by simp [blk] at hz; have := HG.out; simp at hz'; omega))
      have c1 := hsrc.cell k hlv
      obtain ⟨bo, c2⟩ : ∃ bo : Int, wr.cell? ⟨g, k, none⟩ = some (.int .u8 bo) := by
        have q := HI.out.1.cell k (by rw [hlen]; omega)
        rw [Nat.zero_add] at q
        exact ⟨_, q⟩
      have cf := fun o => HI.out.1.free o
      have HSET : Hid (IsB (wr.setCell ⟨g, k, none⟩ (bv l[k])) (.slice (some ⟨g, 0, none⟩) 160 160) ([] ++ (l.take (k + 1) ++ List.replicate (160 - (k + 1)) 0))) := Lib.hid (by
        have q := HI.out.1.put k l[k]
        have q2 := fill_step [] l 160 k hlv (by have := HL.out; omega)
        rw [List.length_nil, Nat.zero_add] at q2
        rw [q2, Nat.zero_add] at q; exact q)
      have HOS : Hid (Off [g] W0 (wr.setCell ⟨g, k, none⟩ (bv l[k]))) := Lib.hid (HI.out.2.setCell (.inl (by simp)) _)
      unfold bv at c1 HSET HOS
      clear hsrc hlen
      generalize ((l[k].toNat : Nat) : Int) = bk at *
      go_wp2_with fail
      go_roundw
      case rel => exact ⟨k + 1, by omega, by go_num, HSET.out, HOS.out⟩
      case measure => simp [intOf]; omega
    · have hk40 : k = 40 := by omega
      subst hk40
      have HI2 : Hid (IsB wr (.slice (some ⟨g, 0, none⟩) 160 160) (l ++ (marks.take 0 ++ List.replicate (120 - 0) 0)) ∧ Off [g] W0 wr) := Lib.hid ⟨by
        have q := HI.out.1
        rw [List.nil_append, List.take_of_length_le (by have := HL.out; omega)] at q
        exact q, HI.out.2⟩
      clear HI
      obtain ⟨wo, rfl⟩ : ∃ wo : World, wo = wr := ⟨_, rfl⟩
      go_wp2_with fail
      go_loopw [5] (fun i wr => ∃ k : Nat, k ≤ 120 ∧ i = .int .i64 (40 + (k : Int)) ∧ IsB wr (.slice (some ⟨g, 0, none⟩) 160 160) (l ++ (marks.take k ++ List.replicate (120 - k) 0)) ∧ Off [g] W0 wr) (fun i _ => 160 - (intOf i).toNat)
      case atStart => exact ⟨0, by omega, rfl, HI2.out.1, HI2.out.2⟩
      case round =>
        obtain ⟨k, hk, rfl, hb, ho⟩ := hrel
        have HI := Lib.hid (And.intro hb ho)
        clear hb ho
        by_cases h120 : k < 120
        · have hmv : k < marks.length := by rw [marks_len]; omega
          have hlen : (l ++ (marks.take k ++ List.replicate (120 - k) 0)).length = 160 := by rw [List.length_append, List.length_append, List.length_take, List.length_replicate, marks_len, HL.out]; omega
          obtain ⟨bo, c2⟩ : ∃ bo : Int, wr.cell? ⟨g, 40 + k, none⟩ = some (.int .u8 bo) := by
            have q := HI.out.1.cell (40 + k) (by rw [hlen]; omega)
            rw [Nat.zero_add] at q
            exact ⟨_, q⟩
          have cf := fun o => HI.out.1.free o
          have HSET : Hid (IsB (wr.setCell ⟨g, 40 + k, none⟩ (bv marks[k])) (.slice (some ⟨g, 0, none⟩) 160 160) (l ++ (marks.take (k + 1) ++ List.replicate (120 - (k + 1)) 0))) := Lib.hid (by
            have q := HI.out.1.put (40 + k) marks[k]
            have q2 := fill_step l marks 120 k hmv (by rw [marks_len]; omega)
            rw [HL.out] at q2
            rw [q2, Nat.zero_add] at q; exact q)
          have HOS : Hid (Off [g] W0 (wr.setCell ⟨g, 40 + k, none⟩ (bv marks[k]))) := Lib.hid (HI.out.2.setCell (.inl (by simp)) _)
          have hmk := marks_at k h120
          unfold bv at HSET HOS
          rw [hmk] at HSET HOS
          clear hlen hmk
          have ht : ((40 : Int) + (k : Int)).toNat = 40 + k := by omega
          have hw : IntKind.u8.wrap (129 + (40 + (k : Int)) - 40) = 129 + (k : Int) := by rw [show (129 : Int) + (40 + (k : Int)) - 40 = 129 + k by omega]; rw [IntKind.wrap_u8]; omega
          go_wp2_with fail
          go_roundw
          case rel => exact ⟨k + 1, by omega, by go_num, HSET.out, HOS.out⟩
          case measure => simp [intOf]; omega
        · have hk2 : k = 120 := by omega
          subst hk2
          have HF : Hid (P (.returned (.slice (some ⟨g, 0, none⟩) 160 160)) wr) := Lib.hid (by
            rw [HP.out]
            have q := HI.out.1
            rw [Nat.sub_self, List.replicate_zero, List.append_nil, List.take_of_length_le (by rw [marks_len]; omega)] at q
            refine ⟨some ⟨g, 0, none⟩, 160, by rw [lentB_len HL.out], by rw [lentB_len HL.out]; exact q, HO.out.trans HI.out.2 (fun z hz => .inr (by simp at hz; rw [hz, HGE.out]; exact Nat.le_refl _)), fun z hz => by rw [lentB_len HL.out] at hz; simp [blk] at hz; rw [hz, HGE.out]; exact Nat.le_refl _⟩)
          clear HI
          go_wp2_with fail
          first | exact HF.out | (go_ret; exact HF.out)
end Go.Proofs.YtfdgiblkllfpjaaGreatDoor

/- the laws' own: strings of bytes, whole, full, grown. -/
set_option linter.unusedVariables false
set_option linter.unusedSimpArgs false
namespace Go.Proofs.YtfdgiblkllfpjaaGreatDoor
open Go.ChangeShapes Go.WideShapes Go.ChangeAt Go.RowKit

def strB (l : List UInt8) : ByteArray := ⟨l.toArray⟩
theorem IsB.str {w : World} {v : Value} {l : List UInt8} (h : IsB w v l) : (convert 22 9 v).run Tryz.prog w = .ok (.string (strB l)) w := by
  rcases h.2 with ⟨rfl, h0⟩ | ⟨g, off, cap, cur, rfl, _⟩
  · have : l = [] := List.length_eq_zero_iff.1 h0
    subst this
    exact run_convert_bytes_nil w 22 5 Tryz.underlying22 Tryz.underlying5 0 0 9 Tryz.underlying9
  · have q := run_convert_bytes_arg (P := Tryz.prog) w 22 5 Tryz.underlying22 Tryz.underlying5 g off l.length cap (l.map fun b => (b.toNat : Int)) (by simp) (fun i hi => by
      rw [h.cell i hi]
      unfold bv
      simp [List.getD, List.getElem?_eq_getElem hi]) 9 Tryz.underlying9
    rw [q]
    have : strOfNums (l.map fun b => (b.toNat : Int)) = strB l := by
      unfold strOfNums strB
      simp [List.map_map, Function.comp_def]
    rw [this]
set_option maxRecDepth 100000 in
set_option maxHeartbeats 4000000 in
theorem whole19 {w : World} {v1 v2 : Value} {f : List UInt8} (h1 : IsB w v1 (lentB f)) (h2 : IsB w v2 f) (hf : f.length = 40) : Calls Tryz.prog 19 #[v1, v2] w fun e w' => e = .returned (.bool true) ∧ Off [] w w' := by
  obtain ⟨ao, ac, rfl⟩ := h1.val
  obtain ⟨bo, bc, rfl⟩ := h2.val
  have HL : Hid (∀ W, Off [] w W → Calls Tryz.prog 14 #[.slice bo f.length bc] W (FreshB W (lentB f))) := Lib.hid (fun W ho => lent14 (h2.off ho (by simp)) hf)
  have HC : Hid (∀ W, Off [] w W → (convert 22 9 (.slice ao (lentB f).length ac)).run Tryz.prog W = .ok (.string (strB (lentB f))) W) := Lib.hid (fun W ho => (h1.off ho (by simp)).str)
  clear h1 h2 hf
  generalize f.length = fl at *
  go_enter Tryz.func19, Tryz.ntmps19
  go_wp2_with fail
  have hc0 := HC.out w (Off.refl _ _)
  have hc1 := HC.out w.drew (Off.refl [] w).drew
  have hc2 := fun n => HC.out (w.drewN n) ((Off.refl [] w).drewN n)
  go_region_law (go_simp; go_at_call 14; refine (HL.out _ (by first | exact Off.refl _ _ | exact (Off.refl [] w).drew | exact (Off.refl [] w).drewN _)).mono ?_; rintro e wa ⟨co, cc, rfl, p1, p2, p3⟩; have HOA : Hid (Off [] w wa) := Lib.hid (by first | exact (Off.refl [] w).drew.trans p2 (by simp) | exact ((Off.refl [] w).drewN _).trans p2 (by simp) | exact p2); have hcv := p1.str; have hcv1 := (p1.off ((Off.refl [] wa).drew) (by simp)).str; have hcv2 := fun n => (p1.off ((Off.refl [] wa).drewN n) (by simp)).str; have hd0 := HC.out wa HOA.out; have hd1 := HC.out wa.drew HOA.out.drew; have hd2 := fun n => HC.out (wa.drewN n) (HOA.out.drewN n); clear p1 p2 p3)
  all_goals
    go_wp2_with fail
    go_ret
    exact ⟨by first | rfl | exact ret_bool (by simp), by first | exact HOA.out | exact HOA.out.drew | exact HOA.out.drewN _⟩
set_option maxRecDepth 100000 in
set_option maxHeartbeats 4000000 in
/-- All bytes bear the mark. -/
theorem full22 {w : World} {v : Value} {l : List UInt8} (h : IsB w v l) (hn : l.length < 1000000) (m : UInt8) (hm : ∀ b ∈ l, b = m) : Calls Tryz.prog 22 #[v, .int .u8 (m.toNat : Nat)] w fun e w' => e = .returned (.bool true) ∧ w = w' := by
  obtain ⟨vo, vc, rfl⟩ := h.val
  have HB := Lib.hid h
  have HM := Lib.hid hm
  clear h hm
  generalize hl : l.length = n at *
  have HL := Lib.hid hl
  clear hl
  generalize hmm : ((m.toNat : Nat) : Int) = mi at *
  have HMI := Lib.hid hmm
  clear hmm
  go_enter Tryz.func22, Tryz.ntmps22
  go_wp2_with fail
  go_loop [5] (fun i => ∃ k : Nat, k ≤ n ∧ i = .int .i64 (k : Int)) (fun i => n - (intOf i).toNat)
  case atStart => exact ⟨0, Nat.zero_le _, rfl⟩
  case round =>
    obtain ⟨k, hk, rfl⟩ := hrel
    by_cases hlt : k < n
    · obtain ⟨vb, voff, rfl⟩ := HB.out.base (by have := HL.out; omega)
      have c1 : w.cell? ⟨vb, voff + k, none⟩ = some (.int .u8 mi) := by
        have q := HB.out.cell k (by have := HL.out; omega)
        rw [q]
        have e := HM.out (l[k]'(by have := HL.out; omega)) (List.getElem_mem _)
        unfold bv; rw [e, HMI.out]
      go_wp2_with fail
      go_round
      case rel => exact ⟨k + 1, by omega, by go_num⟩
      case measure => simp [intOf]; omega
    · have hkn : k = n := by omega
      subst hkn
      go_wp2_with fail
      go_ret
      exact ⟨rfl, rfl⟩
/-- What grown leaves: the longer bytes; the old slice holds what it held. -/
def GrownPost (ao : Option Addr) (n cap : Nat) (l : List UInt8) (m : UInt8) (w : World) (e : Ending) (w' : World) : Prop :=
  ∃ co cc, e = .returned (.slice co (n + 80) cc) ∧ IsB w' (.slice co (n + 80) cc) (l ++ List.replicate 80 m) ∧ IsB w' (.slice ao n cap) l ∧ Off (blk (.slice ao n cap)) w w' ∧ (∀ z ∈ blk (.slice co (n + 80) cc), z ∈ blk (.slice ao n cap) ∨ w.heap.size ≤ z)
def GrowIn (w : World) (ao : Option Addr) (n cap : Nat) (l : List UInt8) (m : UInt8) (k : Nat) (v : Value) (wr : World) : Prop :=
  ∃ co cc, v = .slice co (n + k) cc ∧ IsB wr (.slice co (n + k) cc) (l ++ List.replicate k m) ∧ IsB wr (.slice ao n cap) l ∧ Off (blk (.slice ao n cap)) w wr ∧ (∀ z ∈ blk (.slice co (n + k) cc), z ∈ blk (.slice ao n cap) ∨ w.heap.size ≤ z) ∧ ((co = ao ∧ cc = cap) ∨ ∀ z ∈ blk (.slice co (n + k) cc), w.heap.size ≤ z)
theorem GrowIn.step {w wr w1 : World} {ao co co' : Option Addr} {n cap cc cc' k : Nat} {l : List UInt8} {m : UInt8} (hln : l.length = n) (hb : IsB wr (.slice co (n + k) cc) (l ++ List.replicate k m)) (ha : IsB wr (.slice ao n cap) l) (ho : Off (blk (.slice ao n cap)) w wr) (hn : ∀ z ∈ blk (.slice co (n + k) cc), z ∈ blk (.slice ao n cap) ∨ w.heap.size ≤ z) (hs : (co = ao ∧ cc = cap) ∨ ∀ z ∈ blk (.slice co (n + k) cc), w.heap.size ≤ z)
    (hal : ∀ z ∈ blk (.slice ao n cap), z < w.heap.size) (q1 : Own w1 5 1 (.slice co' (n + k + 1) cc') (n + k + 1) (bytesV (l ++ List.replicate k m) ++ [bv m])) (o0 : Off [] wr (wr.alloc (.cells #[bv m] 5))) (q2 : Gone (wr.alloc (.cells #[bv m] 5)) w1 co (n + k) cc co' (n + k + 1) cc') : GrowIn w ao n cap l m (k + 1) (.slice co' (n + (k + 1)) cc') w1 := by
  have hsz := ho.size
  have e1 : l ++ List.replicate (k + 1) m = (l ++ List.replicate k m) ++ [m] := by rw [List.replicate_succ', List.append_assoc]
  have ib : IsB w1 (.slice co' (n + (k + 1)) cc') (l ++ List.replicate (k + 1) m) := by
    unfold IsB
    rw [e1, bytesV_append]
    have hlen : ((l ++ List.replicate k m) ++ [m]).length = n + k + 1 := by rw [List.length_append, List.length_append, List.length_replicate, hln]; rfl
    rw [hlen]; exact q1
  rcases q2 with ⟨rfl, rfl, g3⟩ | ⟨g1, g2⟩
  · have owr : Off (blk (.slice co' (n + k) cc')) wr w1 := (o0.mono (by simp)).trans g3 (fun z hz => .inl hz)
    have hblk : ∀ (a b : Nat), blk (.slice co' a cc') = blk (.slice co' b cc') := fun a b => by cases co' <;> rfl
    rcases hs with ⟨h1, h2⟩ | h1
    · subst h1; subst h2
      have ia : IsB w1 (.slice co' n cc') l := by
        have q := ib
        unfold IsB at q ⊢
        rw [bytesV_append] at q
        have hlen : (l ++ List.replicate (k + 1) m).length = n + (k + 1) := by simp [hln]
        rw [hlen] at q
        rw [hln]
        exact Own.shorten q (by rw [bytesV_len, hln]; omega)
      exact ⟨co', cc', rfl, ib, ia, ho.trans owr (fun z hz => .inl (by rw [hblk n (n + k)]; exact hz)), fun z hz => .inl (by rw [hblk n (n + (k + 1))]; exact hz), .inl ⟨rfl, rfl⟩⟩
    · have ia : IsB w1 (.slice ao n cap) l := ha.off owr (fun z hz hz' => by have := hal z hz; have := h1 z hz'; omega)
      exact ⟨co', cc', rfl, ib, ia, ho.trans owr (fun z hz => .inr (h1 z hz)), fun z hz => .inr (h1 z (by rw [hblk (n + k) (n + (k + 1))]; exact hz)), .inr (fun z hz => h1 z (by rw [hblk (n + k) (n + (k + 1))]; exact hz))⟩
  · have owr : Off [] wr w1 := o0.trans g1 (by simp)
    have hnew : ∀ z ∈ blk (.slice co' (n + (k + 1)) cc'), w.heap.size ≤ z := fun z hz => by
      rw [show n + (k + 1) = n + k + 1 by omega, g2] at hz
      simp at hz; omega
    exact ⟨co', cc', rfl, ib, ha.off owr (by simp), ho.trans owr (by simp), fun z hz => .inr (hnew z hz), .inr hnew⟩
set_option maxRecDepth 100000 in
set_option maxHeartbeats 4000000 in
theorem grown21 {w : World} {ao : Option Addr} {n cap : Nat} {l : List UInt8} (h : IsB w (.slice ao n cap) l) (hn : n < 1000000) (m : UInt8) : Calls Tryz.prog 21 #[.slice ao n cap, .int .u8 (m.toNat : Nat)] w (GrownPost ao n cap l m w) := by
  have hln : l.length = n := by obtain ⟨a, c, e⟩ := h.val; injection e with _ e _; exact e.symm
  have HIN : Hid (GrowIn w ao n cap l m 0 (.slice ao n cap) w) := Lib.hid ⟨ao, cap, rfl, by simpa using h, h, Off.refl _ _, fun z hz => .inl hz, .inl ⟨rfl, rfl⟩⟩
  have HAL := Lib.hid h.lt
  have HLN := Lib.hid hln
  have HEND : Hid (∀ v wr, GrowIn w ao n cap l m 80 v wr → GrownPost ao n cap l m w (.returned v) wr) := Lib.hid (fun v wr ⟨co, cc, h1, h2, h3, h4, h5, _⟩ => ⟨co, cc, by rw [h1], h2, h3, h4, h5⟩)
  obtain ⟨P, hP⟩ : ∃ P, P = GrownPost ao n cap l m w := ⟨_, rfl⟩
  rw [← hP] at HEND ⊢
  clear hP h hln
  have HMV : Hid (bv m = .int .u8 (m.toNat : Nat)) := Lib.hid rfl
  generalize hmm : ((m.toNat : Nat) : Int) = mi at *
  clear hmm
  go_enter Tryz.func21, Tryz.ntmps21
  go_wp2_with fail
  go_loopw [5, 0] (fun i v wr => ∃ k : Nat, k ≤ 80 ∧ i = .int .i64 (k : Int) ∧ GrowIn w ao n cap l m k v wr) (fun i _ _ => 80 - (intOf i).toNat)
  case atStart => exact ⟨0, by omega, rfl, HIN.out⟩
  case round =>
    obtain ⟨k, hk, rfl, hin⟩ := hrel
    by_cases hlt : k < 80
    · obtain ⟨co, cc, rfl, h2, h3, h4, h5, h6⟩ := hin
      have HST := Lib.hid (fun w1 co' cc' q1 q2 => GrowIn.step (w1 := w1) (co' := co') (cc' := cc') HLN.out h2 h3 h4 h5 h6 HAL.out q1 ((Off.refl [] wr).alloc _) q2)
      have hown : Own wr 5 1 (.slice co (n + k) cc) (n + k) (bytesV (l ++ List.replicate k m)) := by
        have q := h2
        unfold IsB at q
        rw [show (l ++ List.replicate k m).length = n + k by simp [HLN.out]] at q; exact q
      rw [HMV.out] at HST
      have HOA := Lib.hid (hown.alloc (.cells #[.int .u8 mi] 5))
      have HSR := Lib.hid (src_new (P := Tryz.prog) wr (t := 22) (e := 5) (e' := 5) (sz := 1) #[.int .u8 mi] 1 Tryz.underlying22 (by decide) rfl (by simp [Value.oneCell']))
      have HBD := Lib.hid (show (n + k + 1) * 1 ≤ 140737488355328 by omega)
      clear h2 h3 h4 h5 h6 hown HIN
      go_wp2_with (at_builtin; go_loud (refine wp_app2 rfl _ _ 22 22 rfl rfl HOA.out Tryz.underlying22 iinfo5 rfl (by decide) rfl HSR.out HBD.out ?_))
      intro co' cc' w1 q1 q2
      have HN := Lib.hid (HST.out w1 co' cc' q1 q2)
      clear q1 q2 HST HOA HSR
      go_wp2_with fail
      go_roundw
      case rel => exact ⟨k + 1, by omega, by go_num, HN.out⟩
      case measure => simp [intOf]; omega
    · have hk80 : k = 80 := by omega
      subst hk80
      have hF := HEND.out _ _ hin
      obtain ⟨co, cc, rfl, _⟩ := hin
      have HF := Lib.hid hF
      clear hF HEND HIN
      go_wp2_with fail
      first | exact HF.out | (go_ret; exact HF.out)
end Go.Proofs.YtfdgiblkllfpjaaGreatDoor

/- PoolKeeps: what its walk keeps. -/
set_option linter.unusedVariables false
set_option linter.unusedSimpArgs false
namespace Go.Proofs.YtfdgiblkllfpjaaGreatDoor
open Go.ChangeShapes Go.WideShapes Go.ChangeAt Go.RowKit

/-- Bytes that lie beside the whole, in blocks that are newer than w. -/
def Kept (w W : World) (F : Fp3) (v : Value) (l : List UInt8) : Prop := IsB W v l ∧ ∀ z ∈ blk v, w.heap.size ≤ z ∧ z ∉ F.d ++ F.l ++ F.p
section
variable {w W W1 : World} {F F1 : Fp3} {v : Value} {l : List UInt8}
theorem Kept.quiet (h : Kept w W F v l) (ho : Off [] W W1) : Kept w W1 F v l := ⟨h.1.off ho (by simp), h.2⟩
theorem Kept.step (h : Kept w W F v l) (hA : Acc3 F W F1 W1) : Kept w W1 F1 v l := by
  refine ⟨h.1.off hA.1 (fun z hz => (h.2 z hz).2), fun z hz => ⟨(h.2 z hz).1, fun hz' => ?_⟩⟩
  have hlt := h.1.lt z hz
  have hn := (h.2 z hz).2
  simp only [List.mem_append, not_or] at hn hz'
  rcases hz' with (q | q) | q
  · rcases hA.2.1 z q with e | e
    · exact hn.1.1 e
    · omega
  · rcases hA.2.2.1 z q with e | e
    · exact hn.1.2 e
    · omega
  · rcases hA.2.2.2 z q with e | e
    · exact hn.2 e
    · omega
theorem Kept.write {S : List Nat} (h : Kept w W F v l) (ho : Off S W W1) (hS : ∀ z ∈ blk v, z ∉ S) : Kept w W1 F v l := ⟨h.1.off ho hS, h.2⟩
/-- What a call has made anew lies beside. -/
theorem Kept.new {dm : DiskM} {lm : LogM} {pm : PoolM} {d g p : Nat} (hs : Since w d g p dm lm pm F W) (hb : IsB W1 v l) (hn : ∀ z ∈ blk v, W.heap.size ≤ z) : Kept w W1 F v l :=
  ⟨hb, fun z hz => ⟨Nat.le_trans hs.2.2.size (hn z hz), fun hz' => by have := hs.1.lt z hz'; have := hn z hz; omega⟩⟩
theorem Since.quiet {dm : DiskM} {lm : LogM} {pm : PoolM} {d g p : Nat} (hs : Since w d g p dm lm pm F W) (ho : Off [] W W1) : Since w d g p dm lm pm F W1 := hs.step (hs.1.off ho (by simp)) (Acc3.quiet ho)
end
theorem look_since {w W : World} {d g p : Nat} {dm : DiskM} {lm : LogM} {pm : PoolM} {F : Fp3} (hs : Since w d g p dm lm pm F W) {n : Nat} {f : Fr} (hf : pm.find n = some f) (hsm : ∀ f ∈ pm.held, f.b.length < 1000000) :
    Calls Tryz.prog 20 #[.pointer (some ⟨p, 0, none⟩), .int .i64 (n : Int)] W (LookPost (some f.b) W) := by
  obtain ⟨mb, es, clk, qs, hp, _⟩ := hs.1.2.1
  have q := look20 hp n hsm
  rw [hf] at q; exact q
/-- Four answers, each in memory of its own. -/
structure Four (w W : World) (F : Fp3) (B : List Nat) (vs : List Value) (gs : List (List UInt8)) : Prop where
  len : vs.length = 4
  items : Items W vs gs
  nodup : (vs.flatMap blk).Nodup
  apart : ∀ z ∈ vs.flatMap blk, w.heap.size ≤ z ∧ z ∉ F.d ++ F.l ++ F.p ∧ z ∉ B
theorem Four.off {w W W1 : World} {F : Fp3} {B : List Nat} {vs : List Value} {gs : List (List UInt8)} {S : List Nat} (h : Four w W F B vs gs) (ho : Off S W W1) (hS : ∀ z ∈ vs.flatMap blk, z ∉ S) : Four w W1 F B vs gs := ⟨h.len, h.items.off ho hS, h.nodup, h.apart⟩
theorem Four.at {w W : World} {F : Fp3} {B : List Nat} {vs : List Value} {gs : List (List UInt8)} (h : Four w W F B vs gs) (hg : ∀ l ∈ gs, l.length = 40) {k : Nat} {l : List UInt8} (hk : gs[k]? = some l) : ∃ xb xoff xc, vs[k]? = some (.slice (some ⟨xb, xoff, none⟩) 40 xc) ∧ IsB W (.slice (some ⟨xb, xoff, none⟩) 40 xc) l := by
  obtain ⟨x, hx, hb⟩ := h.items.2 k l hk
  have hl := hg l (List.mem_of_getElem? hk)
  obtain ⟨ao, c, rfl⟩ := hb.val
  obtain ⟨g, off, rfl⟩ := hb.base (by omega)
  rw [hl] at hx hb
  exact ⟨g, off, c, hx, hb⟩
/-- One byte of one of them written over. -/
theorem Four.put {w W : World} {F : Fp3} {B : List Nat} {vs : List Value} {gs : List (List UInt8)} (h : Four w W F B vs gs) {k xb xoff xc : Nat} {l : List UInt8} (hv : vs[k]? = some (.slice (some ⟨xb, xoff, none⟩) 40 xc)) (hk : gs[k]? = some l) (n : Nat) (y : UInt8) :
    Four w (W.setCell ⟨xb, xoff + n, none⟩ (bv y)) F B vs (gs.set k (l.set n y)) ∧ xb ∈ vs.flatMap blk := by
  have hin : xb ∈ vs.flatMap blk := List.mem_flatMap.2 ⟨_, List.mem_of_getElem? hv, by simp [blk]⟩
  have hlt := (List.getElem?_eq_some_iff.1 hk).1
  have ho : Off [xb] W (W.setCell ⟨xb, xoff + n, none⟩ (bv y)) := (Off.refl [xb] W).setCell (.inl (by simp)) _
  refine ⟨⟨h.len, ⟨by rw [List.length_set]; exact h.items.1, fun i l' hi => ?_⟩, h.nodup, h.apart⟩, hin⟩
  by_cases e : i = k
  · subst e
    rw [List.getElem?_set_self hlt] at hi
    injection hi with hi
    obtain ⟨x, hx, hb⟩ := h.items.2 i l hk
    rw [hv] at hx
    injection hx with hx
    subst hx
    exact ⟨_, hv, by rw [← hi]; exact hb.put n y⟩
  · rw [List.getElem?_set_ne (Ne.symm e)] at hi
    obtain ⟨x, hx, hb⟩ := h.items.2 i l' hi
    refine ⟨x, hx, hb.off ho (fun z hz hz' => ?_)⟩
    simp at hz'; subst hz'
    exact flat_apart h.nodup hv hx e z hz (by simp [blk])
def markB (n k : Nat) : List UInt8 := List.replicate n (UInt8.ofNat (k + 1))
def mk4 (S : List UInt8) (k : Nat) : List (List UInt8) := [if 0 < k then markB 40 0 else S, if 1 < k then markB 40 1 else S, if 2 < k then markB 40 2 else S, if 3 < k then markB 40 3 else S]
theorem mk4_same (S : List UInt8) {k : Nat} (hk : k < 4) : (mk4 S k).set k (markB 0 k ++ S.drop 0) = mk4 S k := by
  match k, hk with
  | 0, _ => rfl
  | 1, _ => rfl
  | 2, _ => rfl
  | 3, _ => rfl
theorem mk4_len {S : List UInt8} (hS : S.length = 40) (k : Nat) : ∀ l ∈ mk4 S k, l.length = 40 := by
  intro l hl
  unfold mk4 markB at hl
  simp only [List.mem_cons, List.not_mem_nil, or_false] at hl
  rcases hl with rfl | rfl | rfl | rfl <;> (split <;> simp [hS])
theorem mk4_at (S : List UInt8) {k : Nat} (hk : k < 4) : (mk4 S k)[k]? = some S := by
  match k, hk with
  | 0, _ => rfl
  | 1, _ => rfl
  | 2, _ => rfl
  | 3, _ => rfl
theorem mk4_set (S : List UInt8) {k : Nat} (hk : k < 4) : (mk4 S k).set k (markB 40 k) = mk4 S (k + 1) := by
  match k, hk with
  | 0, _ => rfl
  | 1, _ => rfl
  | 2, _ => rfl
  | 3, _ => rfl
theorem mark_step {S : List UInt8} (hS : S.length = 40) (k : Nat) {n : Nat} (hn : n < 40) : (markB n k ++ S.drop n).set n (UInt8.ofNat (k + 1)) = markB (n + 1) k ++ S.drop (n + 1) := by
  have h1 : (markB n k).length = n := by unfold markB; simp
  rw [List.set_append_right _ _ (by omega), h1, Nat.sub_self, ← List.getElem_cons_drop (show n < S.length by omega), List.set_cons_zero]
  unfold markB
  rw [List.replicate_succ', List.append_assoc]; rfl
theorem mark_val {k : Nat} (hk : k < 4) : bv (UInt8.ofNat (k + 1)) = .int .u8 ((k : Int) + 1) := by
  rw [bv_ofNat]; congr 1; omega
theorem four_of {w W : World} {F : Fp3} {B : List Nat} {a b c d : Value} {l : List UInt8} (ha : Kept w W F a l) (hb : Kept w W F b l) (hc : Kept w W F c l) (hd : Kept w W F d l) (h1 : ∀ z ∈ blk a, z ∉ B) (h2 : ∀ z ∈ blk b, z ∉ B ++ blk a) (h3 : ∀ z ∈ blk c, z ∉ B ++ blk a ++ blk b) (h4 : ∀ z ∈ blk d, z ∉ B ++ blk a ++ blk b ++ blk c) :
    Four w W F B [a, b, c, d] [l, l, l, l] := by
  simp only [List.mem_append, not_or] at h2 h3 h4
  refine ⟨rfl, ⟨rfl, fun i l' hi => ?_⟩, ?_, fun z hz => ?_⟩
  · match i with
    | 0 => simp at hi; subst hi; exact ⟨a, rfl, ha.1⟩
    | 1 => simp at hi; subst hi; exact ⟨b, rfl, hb.1⟩
    | 2 => simp at hi; subst hi; exact ⟨c, rfl, hc.1⟩
    | 3 => simp at hi; subst hi; exact ⟨d, rfl, hd.1⟩
    | (n + 4) => simp at hi
  · simp only [List.flatMap_cons, List.flatMap_nil, List.append_nil]
    refine List.nodup_append.2 ⟨blk_nodup' _, List.nodup_append.2 ⟨blk_nodup' _, List.nodup_append.2 ⟨blk_nodup' _, blk_nodup' _, fun x hx y hy e => (h4 y hy).2 (e ▸ hx)⟩, fun x hx y hy e => ?_⟩, fun x hx y hy e => ?_⟩
    · subst e
      rcases List.mem_append.1 hy with q | q
      · exact (h3 x q).2 hx
      · exact (h4 x q).1.2 hx
    · subst e
      simp only [List.mem_append] at hy
      rcases hy with q | q | q
      · exact (h2 x q).2 hx
      · exact (h3 x q).1.2 hx
      · exact (h4 x q).1.1.2 hx
  · simp only [List.flatMap_cons, List.flatMap_nil, List.append_nil, List.mem_append] at hz
    rcases hz with q | q | q | q
    · exact ⟨(ha.2 z q).1, (ha.2 z q).2, h1 z q⟩
    · exact ⟨(hb.2 z q).1, (hb.2 z q).2, (h2 z q).1⟩
    · exact ⟨(hc.2 z q).1, (hc.2 z q).2, (h3 z q).1.1⟩
    · exact ⟨(hd.2 z q).1, (hd.2 z q).2, (h4 z q).1.1.1⟩
def sh2 : Shp := ⟨2, 1, 1024⟩
theorem new8_sh2 (w : World) : Calls Tryz.prog 8 #[.agg #[.int .i64 2, .int .i64 1, .int .i64 1024]] w (NewPost sh2 w) := new8 sh2 (by unfold Shp.ok sh2; decide) w
def dmK : DiskM := (newDisk sh2).act.act
def lmK (t : Nat → Nat) : LogM := (newLog 0).begin t 9
def pgK (t : Nat → Nat) (f : List UInt8) : List UInt8 := stampB t f 1 1
def pmK (t : Nat → Nat) (f : List UInt8) (pins : Nat) : PoolM := { most := 2, held := [{ num := 1, b := pgK t f, pins := pins, rc := 1 }], dead := false }
theorem pgK_len {t : Nat → Nat} {f : List UInt8} (hf : f.length = 40) : (pgK t f).length = 40 := by unfold pgK; rw [stampB_len _ _ _ _ (by omega), hf]
theorem Four.grow {w W W1 : World} {F : Fp3} {B : List Nat} {vs : List Value} {gs : List (List UInt8)} (h : Four w W F B vs gs) {k : Nat} {v : Value} {l : List UInt8} (hv : vs[k]? = some v) (hk : gs[k]? = some l) (hb : IsB W1 v l) (ho : Off (blk v) W W1) : Four w W1 F B vs gs := by
  refine ⟨h.len, ⟨h.items.1, fun i l' hi => ?_⟩, h.nodup, h.apart⟩
  obtain ⟨x, hx, hbx⟩ := h.items.2 i l' hi
  by_cases e : i = k
  · subst e
    rw [hk] at hi
    injection hi with hi
    subst hi
    exact ⟨v, hv, hb⟩
  · exact ⟨x, hx, hbx.off ho (fun z hz hz' => flat_apart h.nodup hv hx e z hz hz')⟩
theorem mk4_end (S : List UInt8) {k : Nat} (hk : k < 4) : (mk4 S 4)[k]? = some (markB 40 k) := by
  match k, hk with
  | 0, _ => rfl
  | 1, _ => rfl
  | 2, _ => rfl
  | 3, _ => rfl
theorem markB_add (a b k : Nat) : markB a k ++ List.replicate b (UInt8.ofNat (k + 1)) = markB (a + b) k := by
  unfold markB; rw [List.replicate_append_replicate]
theorem markB_all (n k : Nat) : ∀ b ∈ markB n k, b = UInt8.ofNat (k + 1) := fun b hb => (List.mem_replicate.1 hb).2
theorem markB_len (n k : Nat) : (markB n k).length = n := by unfold markB; rw [List.length_replicate]
/-- The longer answers so far. -/
def MoreAt (w5 : World) (vs : List Value) (mv : Value) (ms : List Value) (wr : World) : Prop :=
  Own wr 22 1 mv ms.length ms ∧ (∀ z ∈ blk mv, w5.heap.size ≤ z) ∧ ∀ j x, ms[j]? = some x → IsB wr x (markB 120 j) ∧ (∀ z ∈ blk x, z ∉ blk mv) ∧ ∀ z ∈ blk x, (∃ v, vs[j]? = some v ∧ z ∈ blk v) ∨ w5.heap.size ≤ z
theorem MoreAt.nil (w5 : World) (vs : List Value) : MoreAt w5 vs (.slice none 0 0) [] w5 := ⟨Own.nil _ _ _, by simp [blk], fun j x h => by simp at h⟩
theorem MoreAt.step {w5 wr w1 w3 : World} {vs ms : List Value} {mv mv' v x : Value} (h : MoreAt w5 vs mv ms wr) (hnd : (vs.flatMap blk).Nodup) (hlt : ∀ z ∈ vs.flatMap blk, z < w5.heap.size) (h5 : w5.heap.size ≤ wr.heap.size) (hv : vs[ms.length]? = some v) (ho : Off (blk v) wr w1) (hx : IsB w1 x (markB 120 ms.length)) (hxn : ∀ z ∈ blk x, z ∈ blk v ∨ wr.heap.size ≤ z) (o3 : Off (blk mv) (w1.alloc (.cells #[x] 22)) w3) (hown : Own w3 22 1 mv' (ms.length + 1) (ms ++ [x])) (hbl : blk mv' = blk mv ∨ blk mv' = [w1.heap.size + 1]) :
    MoreAt w5 vs mv' (ms ++ [x]) w3 ∧ Off (blk mv) w1 w3 := by
  have o13 : Off (blk mv) w1 w3 := ((Off.refl (blk mv) w1).alloc _).trans o3 (fun z hz => .inl hz)
  have hmlt := h.1.lt
  have hs1 := ho.size
  have hvin : ∀ z ∈ blk v, z < w5.heap.size := fun z hz => hlt z (List.mem_flatMap.2 ⟨v, List.mem_of_getElem? hv, hz⟩)
  have hsz : (w1.alloc (.cells #[x] 22)).heap.size = w1.heap.size + 1 := World.size_alloc _ _
  have hnew : ∀ z ∈ blk mv', z ∈ blk mv ∨ z = w1.heap.size + 1 := fun z hz => by
    rcases hbl with e | e
    · rw [e] at hz; exact .inl hz
    · rw [e] at hz; simp at hz; exact .inr hz
  refine ⟨⟨by rw [List.length_append]; exact hown, fun z hz => ?_, fun j y hj => ?_⟩, o13⟩
  · rcases hnew z hz with q | q
    · exact h.2.1 z q
    · omega
  · by_cases e : j < ms.length
    · rw [List.getElem?_append_left e] at hj
      obtain ⟨a1, a2, a3⟩ := h.2.2 j y hj
      have hlt' := a1.lt
      refine ⟨(a1.off ho (fun z hz hz' => ?_)).off o13 a2, fun z hz hz' => ?_, a3⟩
      · rcases a3 z hz with ⟨v', q1, q2⟩ | q
        · exact flat_apart hnd hv q1 (by omega) z q2 hz'
        · have := hvin z hz'; omega
      · rcases hnew z hz' with q | q
        · exact a2 z hz q
        · have := hlt' z hz; omega
    · have e2 : j = ms.length := by
        have := (List.getElem?_eq_some_iff.1 hj).1
        rw [List.length_append] at this; simp at this; omega
      subst e2
      rw [List.getElem?_append_right (by omega), Nat.sub_self] at hj
      simp at hj; subst hj
      have hxm : ∀ z ∈ blk x, z ∉ blk mv := fun z hz hz' => by
        have := hmlt z hz'
        have h2 := h.2.1 z hz'
        rcases hxn z hz with q | q
        · have := hvin z q; omega
        · omega
      refine ⟨hx.off o13 hxm, fun z hz hz' => ?_, fun z hz => ?_⟩
      · rcases hnew z hz' with q | q
        · exact hxm z hz q
        · have := hx.lt z hz; omega
      · rcases hxn z hz with q | q
        · exact .inl ⟨v, hv, q⟩
        · exact .inr (by omega)
/-- The four answers and the longer ones. -/
def Grow4 (w w5 : World) (F : Fp3) (B : List Nat) (vs : List Value) (S : List UInt8) (k : Nat) (mv : Value) (wr : World) : Prop :=
  ∃ ms, ms.length = k ∧ Four w wr F B vs (mk4 S 4) ∧ MoreAt w5 vs mv ms wr ∧ Off (vs.flatMap blk) w5 wr
theorem Grow4.step {w w5 wr w1 : World} {F : Fp3} {B : List Nat} {vs ms : List Value} {S : List UInt8} {mv : Value} {k xb xoff xcc : Nat} {co : Option Addr} {cc : Nat} (hms : ms.length = k) (hF : Four w wr F B vs (mk4 S 4)) (hM : MoreAt w5 vs mv ms wr) (hO : Off (vs.flatMap blk) w5 wr) (hlt : ∀ z ∈ vs.flatMap blk, z < w5.heap.size) (hk : k < 4) (hv : vs[k]? = some (.slice (some ⟨xb, xoff, none⟩) 40 xcc))
    (h1 : IsB w1 (.slice co 120 cc) (markB 40 k ++ List.replicate 80 (UInt8.ofNat (k + 1)))) (h2 : IsB w1 (.slice (some ⟨xb, xoff, none⟩) 40 xcc) (markB 40 k)) (h3 : Off (blk (.slice (some ⟨xb, xoff, none⟩) 40 xcc)) wr w1) (h4 : ∀ z ∈ blk (.slice co 120 cc), z ∈ blk (.slice (some ⟨xb, xoff, none⟩) 40 xcc) ∨ wr.heap.size ≤ z) :
    Own w1 22 1 mv k ms ∧ ∀ ao cap w3, Own w3 22 1 (.slice ao (k + 1) cap) (k + 1) (ms ++ [.slice co 120 cc]) → Off (blk mv) (w1.alloc (.cells #[.slice co 120 cc] 22)) w3 → (blk (.slice ao (k + 1) cap) = blk mv ∨ blk (.slice ao (k + 1) cap) = [w1.heap.size + 1]) →
      Grow4 w w5 F B vs S (k + 1) (.slice ao (k + 1) cap) w3 := by
  subst hms
  have hvin : ∀ z ∈ blk (.slice (some ⟨xb, xoff, none⟩) 40 xcc), z ∈ vs.flatMap blk := fun z hz => List.mem_flatMap.2 ⟨_, List.mem_of_getElem? hv, hz⟩
  rw [markB_add] at h1
  refine ⟨hM.1.off h3 (fun z hz hz' => by have := hM.2.1 z hz; have := hlt z (hvin z hz'); omega), fun ao cap w3 q1 q2 q3 => ?_⟩
  obtain ⟨r1, r2⟩ := hM.step hF.nodup hlt hO.size hv h3 h1 h4 q2 q1 q3
  refine ⟨_, by rw [List.length_append]; rfl, ?_, r1, ?_⟩
  · exact (hF.grow hv (mk4_end S hk) h2 h3).off r2 (fun z hz hz' => by have := hM.2.1 z hz'; have := hlt z hz; omega)
  · exact (hO.trans h3 (fun z hz => .inl (hvin z hz))).trans r2 (fun z hz => .inr (hM.2.1 z hz))
theorem MoreAt.all {w5 wr : World} {vs ms : List Value} {mv : Value} (h : MoreAt w5 vs mv ms wr) (hms : ms.length = 4) : ∃ pb poff cap, mv = .slice (some ⟨pb, poff, none⟩) 4 cap ∧ ∀ j, j < 4 → ∃ x xn xc, wr.cell? ⟨pb, poff + j, none⟩ = some (.slice x xn xc) ∧ IsB wr (.slice x xn xc) (markB 120 j) := by
  have h1 := h.1
  rw [hms] at h1
  rcases h1.2 with ⟨_, h0⟩ | ⟨pb, poff, c, cur, e, _⟩
  · omega
  · subst e
    refine ⟨pb, poff, c, rfl, fun j hj => ?_⟩
    obtain ⟨x, hx⟩ : ∃ x, ms[j]? = some x := ⟨_, List.getElem?_eq_getElem (by omega)⟩
    have q := h1.cellAt j (by omega)
    have hb := (h.2.2 j x hx).1
    obtain ⟨ao, ac, rfl⟩ := hb.val
    exact ⟨ao, _, ac, by rw [q, hx], hb⟩
/-- Full of one mark. -/
theorem full_mark {w : World} {v : Value} {n k : Nat} (h : IsB w v (markB n k)) (hn : n < 1000000) (hk : k < 4) : Calls Tryz.prog 22 #[v, .int .u8 ((k : Int) + 1)] w fun e w' => e = .returned (.bool true) ∧ w = w' := by
  have q := full22 h (by rw [markB_len]; exact hn) (UInt8.ofNat (k + 1)) (markB_all n k)
  have e : Value.int .u8 (((UInt8.ofNat (k + 1)).toNat : Nat) : Int) = .int .u8 ((k : Int) + 1) := mark_val hk
  rw [e] at q; exact q
theorem grown_mark {w : World} {ao : Option Addr} {cap k : Nat} (h : IsB w (.slice ao 40 cap) (markB 40 k)) (hk : k < 4) : Calls Tryz.prog 21 #[.slice ao 40 cap, .int .u8 ((k : Int) + 1)] w fun e w' => ∃ co cc, e = .returned (.slice co 120 cc) ∧ IsB w' (.slice co 120 cc) (markB 40 k ++ List.replicate 80 (UInt8.ofNat (k + 1))) ∧ IsB w' (.slice ao 40 cap) (markB 40 k) ∧ Off (blk (.slice ao 40 cap)) w w' ∧ (∀ z ∈ blk (.slice co 120 cc), z ∈ blk (.slice ao 40 cap) ∨ w.heap.size ≤ z) := by
  have q := grown21 h (by omega) (UInt8.ofNat (k + 1))
  have e : Value.int .u8 (((UInt8.ofNat (k + 1)).toNat : Nat) : Int) = .int .u8 ((k : Int) + 1) := mark_val hk
  rw [e] at q; exact q
theorem dmK_live : dmK.live ∧ dmK.acts = 2 := by
  have h0 : (newDisk sh2).live := ⟨rfl, rfl⟩
  exact ⟨h0.act.1.act.1, rfl⟩
theorem dmK_fit : dmK.fit := DiskM.act_fit (DiskM.act_fit (newDisk_fit sh2))
theorem lmK_is (t : Nat → Nat) : (lmK t).base = 0 ∧ (lmK t).disk = 0 ∧ (lmK t).bytes = 34 ∧ (lmK t).tail.length = 34 ∧ (lmK t).dead = false := by
  have hl : (frameB t (newLog 0).fin (beginB 9)).length = 34 := by rw [frameB_len, beginB_len]
  refine ⟨rfl, rfl, ?_, ?_, rfl⟩
  · show 0 + (frameB t (newLog 0).fin (beginB 9)).length = 34; rw [hl]
  · show ([] ++ frameB t (newLog 0).fin (beginB 9)).length = 34; rw [List.nil_append, hl]
theorem deskK (t : Nat → Nat) : DeskOk dmK (lmK t) 100 := by
  obtain ⟨h1, h2, h3, h4, h5⟩ := lmK_is t
  exact ⟨dmK_fit, fun x hx => by simp [dmK, DiskM.act, DiskM.stops, newDisk] at hx, by rw [dmK_live.2]; omega, by simp [dmK, DiskM.act, DiskM.stops, newDisk], by rw [h2]; rfl, by rw [h3]; decide, h5⟩
theorem pgK_lsn (t : Nat → Nat) {f : List UInt8} (hf : f.length = 40) : pageLsn (pgK t f) = some 1 := pageLsn_stamp (by rw [hf, slots40]; omega) (by omega)
theorem pgK_check {t : Nat → Nat} {w : World} (ht : Tbl t w) {f : List UInt8} (hf : f.length = 40) : pageCheck t (pgK t f) 1 1 = some 1 :=
  check_stamp ht (by rw [hf, slots40]; omega) (by omega) (by omega) (by rw [hf]; rfl)
theorem poolK {t : Nat → Nat} {w : World} (ht : Tbl t w) {f : List UInt8} (hf : f.length = 40) (k : Nat) : PoolOk t dmK.shp (pmK t f k) := by
  intro x hx
  simp [pmK] at hx; subst hx
  refine ⟨by show 1 < 2; omega, by rw [pgK_len hf]; rfl, 1, ?_, pgK_lsn t hf, by omega, fun _ => by omega⟩
  simp only [pgK_len hf, slots40]
  exact pgK_check ht hf
/-- What PoolKeeps comes to. -/
theorem keepsEnd (t : Nat → Nat) {f : List UInt8} (hf : f.length = 40) : ∃ dmf lmf pmf, cleanM dmK (lmK t) (pmK t f 3) 1 = (dmf, lmf, pmf, 0) ∧ dmf.stops = false ∧ dmf.acts = 8 ∧ dmf.reads[1]? = some (pgK t f) ∧ dmf.shp = sh2 := by
  obtain ⟨h1, h2, h3, h4, h5⟩ := lmK_is t
  have hz : (lmK t).bytes = (lmK t).disk + (lmK t).tail.length := by omega
  have hc := cleanM_live (t := t) dmK_live.1 (lm := lmK t) (pm := pmK t f 3) (n := 1) (f := ⟨1, pgK t f, 3, 1⟩) rfl (by show 0 < 1; omega)
  have hx : (pageLsn (pgK t f)).getD 0 = 1 := by rw [pgK_lsn t hf]; rfl
  simp only [hx] at hc
  have hne : ¬ (1 ≤ (lmK t).base + (lmK t).disk ∨ (lmK t).tail = []) := by
    rintro (q | q)
    · omega
    · rw [q] at h4; simp at h4
  have hf' := dmK_live.1.flush (lm := lmK t) 1
  rw [if_neg hne, if_neg hne] at hf'
  have hok := flushM_ok (deskK t) hz hf'.1
  have hg := flushM_grounds (deskK t) hz 1
  have hs := flushM_shp (deskK t) hz 1
  have hp := hf'.2.1.pair 1 (pgK t f) (pairB 1 1 (pgK t f))
  have hpo := (pairS_ok hok.1 hok.2.1 (n := 1) (by rw [hs]; decide) (b := pgK t f) (pb := pairB 1 1 (pgK t f)) (by rw [hs, pgK_len hf]; rfl) (by rw [pairB_len, hs, pgK_len hf]; rfl)).2.2.2.2
  have hlo : (flushM dmK (lmK t) 1).1.loose = [] := hg.2.2
  have hpg := pairS_grounds hok.1 hlo (n := 1) (by rw [hs]; decide) (b := pgK t f) (pb := pairB 1 1 (pgK t f)) (by rw [hs, pgK_len hf]; rfl) (by rw [pairB_len, hs, pgK_len hf]; rfl) 1 (by rw [hs]; decide)
  refine ⟨_, _, _, hc, hp.2.1.stops, ?_, ?_, hpo.1.trans hs⟩
  · rw [hp.2.2, hf'.2.2.1, dmK_live.2]
  · rw [hpg.2, if_pos rfl]
end Go.Proofs.YtfdgiblkllfpjaaGreatDoor
