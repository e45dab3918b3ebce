/- Table: Put, Set. -/
import Derived.Test.YtlhmcbcoaplcaaaTabT
set_option linter.unusedVariables false
set_option linter.unusedSimpArgs false
namespace Go.Proofs.Ytlhmcbcoaplcaaa
open Go.ChangeShapes Go.WideShapes Go.ChangeAt Go.RowKit

def PutEnd (tb : Nat) (fp : List Nat) (most : Nat) (L : List Rw) (r : Rw) (w : World) (e : Ending) (w' : World) : Prop :=
  e = .returned (.int .i64 (putCode most L r)) ∧ TabStep tb fp most (putL most L r) w w'

theorem row5_set {w : World} {g : Nat} {v0 v1 v2 v3 v4 : Value} (q : IsC w g #[v0, v1, v2, v3, v4] 70) (b i s l n : Value) :
    IsC (((((w.setCell ⟨g, 0, none⟩ b).setCell ⟨g, 1, none⟩ i).setCell ⟨g, 2, none⟩ s).setCell ⟨g, 3, none⟩ l).setCell ⟨g, 4, none⟩ n) g #[b, i, s, l, n] 70 :=
  ((((q.set 0 b).set 1 i).set 2 s).set 3 l).set 4 n
/-- The old row has been asked for; the new one's box stands. -/
def GotRow (w wx : World) (r old : Rw) (born : Bool) (p e : Value) : Prop :=
  ∃ g, p = .pointer (some ⟨g, 0, none⟩) ∧ e = .bool born ∧ Off [] w wx ∧ IsC wx w.heap.size (rcells r).toArray 70 ∧ IsC wx g (rcells old).toArray 70
/-- The rows have been changed; the ids wait. -/
def PutB (tb : Nat) (fp : List Nat) (most : Nat) (L' : List Rw) (i b : Int) (w w2 : World) (cc : Int) (p : Value) (wx : World) : Prop :=
  p = .int .i64 cc ∧ ∃ W, Off [] w W ∧ Off [] w2 W ∧ Mid 62 #[.pointer (some ⟨tb, 3, none⟩), .int .i64 i, .int .i64 b] tb fp most L' W wx
/-- Both orders. -/
theorem got_a {w w1 : World} (r old : Rw) (born : Bool) (ho : Off [] ((w.alloc (.cells (rcells r).toArray 70)).alloc (.cells (rcells Rw.zero).toArray 70)).drew w1) :
    R5 w1 (w.heap.size + 1) 0 0 0 0 0 ∧ GotRow w (((((w1.setCell ⟨w.heap.size + 1, 0, none⟩ (.int .i64 old.birth)).setCell ⟨w.heap.size + 1, 1, none⟩ (.int .i64 old.id)).setCell ⟨w.heap.size + 1, 2, none⟩ (.int .i64 old.state)).setCell ⟨w.heap.size + 1, 3, none⟩ (.int .i64 old.last)).setCell ⟨w.heap.size + 1, 4, none⟩ (.int .i64 old.next)) r old born (.pointer (some ⟨w.heap.size + 1, 0, none⟩)) (.bool born) := by
  have h1 : IsC ((w.alloc (.cells (rcells r).toArray 70)).alloc (.cells (rcells Rw.zero).toArray 70)).drew (w.heap.size + 1) (rcells Rw.zero).toArray 70 := IsC.drew_iff.2 (IsC.newAt _ (by simp))
  have h2 : IsC ((w.alloc (.cells (rcells r).toArray 70)).alloc (.cells (rcells Rw.zero).toArray 70)).drew w.heap.size (rcells r).toArray 70 := IsC.drew_iff.2 ((IsC.new w _ _).alloc _)
  have q1 := h1.off ho (by simp)
  have q2 := h2.off ho (by simp)
  refine ⟨IsC.r5 q1, _, rfl, rfl, off_row5 ((((Off.refl [] w).alloc _).alloc _).drew.trans ho (by simp)) (by omega) _ _ _ _ _, ?_, row5_set q1 _ _ _ _ _⟩
  exact ((((q2.setCell 0 _ (by omega)).setCell 1 _ (by omega)).setCell 2 _ (by omega)).setCell 3 _ (by omega)).setCell 4 _ (by omega)
theorem got_b {w w1 : World} (r old : Rw) (born : Bool) (ho : Off [] (w.alloc (.cells (rcells r).toArray 70)).drew w1) :
    GotRow w (w1.alloc (.cells (rcells old).toArray 70)) r old born (.pointer (some ⟨w1.heap.size, 0, none⟩)) (.bool born) := by
  have q : IsC w1 w.heap.size (rcells r).toArray 70 := (IsC.drew_iff.2 (IsC.new w _ _)).off ho (by simp)
  exact ⟨_, rfl, rfl, (((Off.refl [] w).alloc _).drew.trans ho (by simp)).alloc _, q.alloc _, IsC.new _ _ _⟩

theorem TabP.get59s {w : World} {tb : Nat} {fp : List Nat} {most : Nat} {L : List Rw} (h : TabP w tb fp most L) (x : Int) :
    ∃ b : Int, ∀ W, Off [] w W → Calls Try.prog 59 #[.pointer (some ⟨tb, 3, none⟩), .int .i64 x] W fun e w' => e = .returned (.tuple #[.int .i64 b, .bool (idL L x).isSome]) ∧ W = w' := by
  obtain ⟨k1, v1, k2, v2, I, h1, h2, rfl⟩ := h
  have hl := h2.len; have hm := h2.small; have hi := h2.ilen
  refine ⟨(look (I.map Prod.fst) (I.map Prod.snd) x).getD 0, fun W ho => ?_⟩
  have h1 := h1.off ho (by simp)
  obtain ⟨hc, hc2⟩ := h1.o2.cells
  have q := Ytlhmcbcoaplcaaa.get59 tb 3 (I.map Prod.fst) (I.map Prod.snd) k2 v2 x W hc hc2 (by rw [List.length_map]; exact h1.o2.keys) (by rw [List.length_map]; exact h1.o2.vals) (by rw [List.length_map, List.length_map]) (by rw [List.length_map]; omega)
    (List.pairwise_map.2 (h2.isrt.imp (fun h => by omega)))
  rw [(h2.byId x).2] at q
  exact q
theorem quiet_sameT {P : Program} {f : FuncId} {args : Array Value} {w : World} {n : Nat} {v : Value}
    (h : Calls P f args (w.drewN n) fun e w' => e = .returned v ∧ w.drewN n = w') : Calls P f args (w.drewN n) fun e w'' => e = .returned v ∧ ∃ m, w'' = w.drewN m :=
  h.mono fun _ _ ⟨he, hm⟩ => ⟨he, n, hm.symm⟩

set_option maxRecDepth 100000 in
set_option maxHeartbeats 4000000 in
theorem put40 {w : World} {tb : Nat} {fp : List Nat} {most : Nat} {L : List Rw} (h : TabP w tb fp most L) (r : Rw) :
    Calls Try.prog 40 #[.pointer (some ⟨tb, 0, none⟩), ragg r] w (PutEnd tb fp most L r w) := by
  have HG : Hid (∀ W, Off [] w W → Calls Try.prog 58 #[.pointer (some ⟨tb, 1, none⟩), .int .i64 r.birth] W fun e w' => e = .returned (.tuple #[ragg ((getL L r.birth).getD Rw.zero), .bool (getL L r.birth).isSome]) ∧ Off [] W w') := fun W ho => (h.off ho (by simp)).get58 _
  obtain ⟨cc, hcc⟩ := h.get59s r.id
  have HI := Lib.hid hcc
  clear hcc
  have HCt : Hid (∀ W, Off [] w W → Calls Try.prog 36 #[.pointer (some ⟨tb, 0, none⟩)] W fun e w' => e = .returned (.int .i64 L.length) ∧ W = w') := fun W ho => count36 (h.off ho (by simp))
  have HM : Hid (∀ W, Off [] w W → W.cell? ⟨tb, 0, none⟩ = some (.int .i64 most)) := fun W ho => by
    obtain ⟨k1, v1, k2, v2, I, h1, _⟩ := h.off ho (by simp)
    rw [h1.o1.blkC.cell]; rfl
  have HPUT : Hid (putCode most L r = 0 → ∀ W, Off [] w W → Calls Try.prog 61 #[.pointer (some ⟨tb, 1, none⟩), .int .i64 r.birth, ragg r] W fun e w2 => e = .returned (.tuple #[]) ∧ Mid 62 #[.pointer (some ⟨tb, 3, none⟩), .int .i64 r.id, .int .i64 r.birth] tb fp most (insB Rw.birth L r) W w2) := fun hc W ho => (h.off ho (by simp)).put61 r hc
  have HC : Hid (putCode most L r = if rightR r = false then 30 else if ((getL L r.birth).isSome || (idL L r.id).isSome) = true then 160 else if most ≤ L.length then 161 else 0) := by show putCode most L r = _; rw [getL_isSome, idL_isSome]; rfl
  have HNO : Hid (putCode most L r ≠ 0 → ∀ w', Off [] w w' → PutEnd tb fp most L r w (.returned (.int .i64 (putCode most L r))) w') := fun hc w' ho => ⟨rfl, by unfold putL; rw [if_neg hc]; exact h.same ho⟩
  have HYES : Hid (putCode most L r = 0 → ∀ w', TabStep tb fp most (insB Rw.birth L r) w w' → PutEnd tb fp most L r w (.returned (.int .i64 0)) w') := fun hc w' hs => ⟨by rw [hc], by unfold putL; rw [if_pos hc]; exact hs⟩
  have HFP := Lib.hid h.lt
  clear h
  obtain ⟨b, i, s, l, n⟩ := r
  have HR := Lib.hid (right60 b i s l n)
  have HN := Lib.hid (row_new w b i s l n)
  have HN2 := Lib.hid (row_new2 w b i s l n)
  generalize putCode most L ⟨b, i, s, l, n⟩ = code at *
  generalize rightR ⟨b, i, s, l, n⟩ = rb at *
  obtain ⟨old, hold⟩ : ∃ r, r = (getL L b).getD Rw.zero := ⟨_, rfl⟩
  simp only at HG HI HC HPUT
  rw [← hold] at HG
  clear hold
  generalize (getL L b).isSome = born at *
  generalize (idL L i).isSome = named at *
  obtain ⟨b', i', s', l', n'⟩ := old
  unfold ragg at HG HPUT ⊢
  simp only at HG HPUT ⊢
  go_enter Try.func40, Try.ntmps40
  go_upto_region 1 with fail
  go_cut [5, 6] (fun p e wx => GotRow w wx ⟨b, i, s, l, n⟩ ⟨b', i', s', l', n'⟩ born p e)
  case first =>
    have HA := Lib.hid (fun (w1 : World) ho => got_a (w := w) (w1 := w1) ⟨b, i, s, l, n⟩ ⟨b', i', s', l', n'⟩ born ho)
    have HB := Lib.hid (fun (w1 : World) ho => got_b (w := w) (w1 := w1) ⟨b, i, s, l, n⟩ ⟨b', i', s', l', n'⟩ born ho)
    go_region_law (first | (go_simp; go_at_call 58; refine (HG.out _ (((Off.refl [] w).alloc _).drew)).mono ?_; rintro e w1 ⟨rfl, ho⟩; have H := Lib.hid (HB.out w1 ho); clear ho) | (go_simp; go_at_call 58; refine (HG.out _ ((((Off.refl [] w).alloc _).alloc _).drew)).mono ?_; rintro e w1 ⟨rfl, ho⟩; obtain ⟨⟨k0, k1, k2, k3, k4, k5⟩, hh⟩ := HA.out w1 ho; have H := Lib.hid hh; clear ho hh))
    all_goals
      go_wp2_with fail
      go_meet
      exact H.out
  case rest =>
    obtain ⟨g, rfl, rfl, ho, hr, _⟩ := hcut
    obtain ⟨k0, k1, k2, k3, k4, k5⟩ := IsC.r5 hr
    have HO := Lib.hid ho
    have HR0 := Lib.hid hr
    clear hr ho HG
    go_upto_region 2 with fail
    go_quiet ((go_at_call 59; exact quiet_sameT (HI.out _ (HO.out.drewN _))))
    go_wp2_with fail
    refine (HR.out _).mono ?_
    rintro e w2 ⟨rfl, ho2⟩
    have HO2 := Lib.hid ((HO.out.drewN _).trans ho2 (by simp))
    have HR2 := Lib.hid (IsC.off (S := []) HR0.out ((Off.drewN (Off.refl [] _) _).trans ho2 (by simp)) (by simp))
    clear ho2 k0 k1 k2 k3 k4 k5 HR0 HI HO HR HN HN2
    cases rb with
    | false =>
      obtain rfl : code = 30 := by rw [HC.out]; rfl
      clear HC HYES HPUT HCt HM
      go_wp2_with fail
      go_ret
      exact HNO.out (by decide) _ HO2.out
    | true =>
      cases born with
      | true =>
        obtain rfl : code = 160 := by rw [HC.out]; rfl
        clear HC HYES HPUT HCt HM
        go_wp2_with fail
        go_ret
        exact HNO.out (by decide) _ HO2.out
      | false =>
        cases named with
        | true =>
          obtain rfl : code = 160 := by rw [HC.out]; rfl
          clear HC HYES HPUT HCt HM
          go_wp2_with fail
          go_ret
          exact HNO.out (by decide) _ HO2.out
        | false =>
          have hm := HM.out _ HO2.out
          obtain ⟨N, hN⟩ : ∃ N, N = L.length := ⟨_, rfl⟩
          rw [← hN] at HC HCt
          clear HM hN
          by_cases hge : most ≤ N
          · obtain rfl : code = 161 := by rw [HC.out, if_neg (by simp), if_neg (by simp), if_pos hge]
            clear HC HYES HPUT
            have hge' : ((N : Int) ≥ (most : Int)) := by omega
            go_wp2_with fail
            go_quiet ((go_at_call 36; exact quiet_sameT (HCt.out _ (HO2.out.drewN _))))
            go_wp2_with fail
            go_ret
            exact HNO.out (by decide) _ (HO2.out.drewN _)
          · obtain rfl : code = 0 := by rw [HC.out, if_neg (by simp), if_neg (by simp), if_neg hge]
            have hge' : ¬((N : Int) ≥ (most : Int)) := by omega
            have HPUT2 := Lib.hid (HPUT.out rfl)
            have HE : Hid (∀ W w4, Off [] w W → TabStep tb fp most (insB Rw.birth L ⟨b, i, s, l, n⟩) W w4 → PutEnd tb fp most L ⟨b, i, s, l, n⟩ w (.returned (.int .i64 0)) w4) := fun W w4 ho hs => HYES.out rfl _ (TabStep.ends ho hs (Off.refl _ _))
            have HX : Hid (∀ W w3, Off [] w2 W → Off fp W w3 → R5 w3 w.heap.size b i s l n) := fun W w3 ho h3 => IsC.r5 ((IsC.off (S := []) HR2.out ho (by simp)).off h3 (fun hx => by have := HFP.out _ hx; omega))
            obtain ⟨k0, k1, k2, k3, k4, k5⟩ := IsC.r5 HR2.out
            clear HC HYES HNO hge HFP HPUT
            go_wp2_with fail
            go_quiet ((go_at_call 36; exact quiet_sameT (HCt.out _ (HO2.out.drewN _))))
            go_upto_region 9 with fail
            have hd : decide (most ≤ N) = false := by simp; omega
            rw [hd]
            clear hd
            go_cut [7] (fun p wx => PutB tb fp most (insB Rw.birth L ⟨b, i, s, l, n⟩) i b w w2 cc p wx)
            case first =>
              go_region_law (first | (go_simp; go_at_call 61; refine (HPUT2.out _ ((HO2.out.drewN _).drew)).mono ?_; rintro e w3 ⟨rfl, h3, hmid⟩; have H : Hid (PutB tb fp most (insB Rw.birth L ⟨b, i, s, l, n⟩) i b w w2 cc (.int .i64 cc) w3) := ⟨rfl, _, (HO2.out.drewN _).drew, ((Off.refl [] w2).drewN _).drew, h3, hmid⟩; clear h3 hmid))
              all_goals
                go_wp2_with fail
                go_meet
                exact H.out
            case rest =>
              obtain ⟨rfl, W', q1, q2, q3, q4⟩ := hcut
              obtain ⟨c0, c1, c2, c3, c4, c5⟩ := HX.out _ _ q2 q3
              have HM := Lib.hid (q4 _ ((Off.refl [] _).drew))
              have HEE := Lib.hid (HE.out _ · q1)
              clear q1 q2 q3 q4 k0 k1 k2 k3 k4 k5 HPUT2 HX HE
              go_upto_region 10 with fail
              go_region_law (first | (go_simp; go_at_call 62; refine HM.out.mono ?_; rintro e w4 ⟨rfl, h4⟩; have H := Lib.hid (HEE.out _ h4); clear h4))
              all_goals
                go_wp2_with fail
                go_ret
                exact H.out
end Go.Proofs.Ytlhmcbcoaplcaaa
