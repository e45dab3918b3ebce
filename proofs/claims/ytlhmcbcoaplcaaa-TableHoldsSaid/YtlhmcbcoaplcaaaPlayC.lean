/- played: the walk. -/
import Derived.Test.YtlhmcbcoaplcaaaPlayB
set_option linter.unusedVariables false
set_option linter.unusedSimpArgs false
namespace Go.Proofs.Ytlhmcbcoaplcaaa
open Go.ChangeShapes Go.WideShapes Go.ChangeAt Go.RowKit

def PlayEnd (w : World) (m : Int) (e : Ending) (w' : World) : Prop :=
  ∃ tb ao cap M, e = .returned (.tuple #[.pointer (some ⟨tb, 0, none⟩), .slice ao M.length cap]) ∧ PlayRel w tb (1 + m % 8).toNat (.slice ao M.length cap) M w'

theorem own_unfrozen {w : World} {e : TypeId} {sz g off n m cap : Nat} {xs : List Value} (h : Own w e sz (.slice (some ⟨g, off, none⟩) n cap) m xs) : ∀ o, w.frozen? ⟨g, o, none⟩ = false := by
  rcases h.2 with ⟨h', _⟩ | ⟨g', off', cap', cur, h', hc, _⟩
  · simp at h'
  · simp only [Value.slice.injEq, Option.some.injEq, Addr.mk.injEq, and_true] at h'
    obtain ⟨⟨rfl, rfl⟩, _⟩ := h'
    exact fun o => hc.unfrozen o
theorem DropIn.skip {w3 wr : World} {M : List Rw} {there : Bool} {n : Int} {k cap : Nat} {ao : Option Addr} {x : Rw} (hx : M[k]? = some x) (hk : keepB there n x = false)
    (h : Own wr 70 5 (.slice ao ((M.take k).filter (keepB there n)).length cap) ((M.take k).filter (keepB there n)).length (rows ((M.take k).filter (keepB there n)))) (ho : Off [] w3 wr)
    (hf : ∀ z ∈ blk (.slice ao ((M.take k).filter (keepB there n)).length cap), w3.heap.size ≤ z) (W : World) (hW : Off [] wr W) : DropIn w3 M there n (.slice ao ((M.take k).filter (keepB there n)).length cap) (.int .i64 ((k : Int) + 1)) W := by
  have hlt := (List.getElem?_eq_some_iff.1 hx).1
  have e : (M.take (k + 1)).filter (keepB there n) = (M.take k).filter (keepB there n) := by
    rw [List.take_add_one, hx, List.filter_append]; simp [hk]
  exact ⟨k + 1, ao, cap, by omega, by push_cast; rfl, by rw [e], by rw [e]; exact h.off hW (by simp), ho.trans hW (by simp), hf⟩
theorem DropIn.take {w3 wr : World} {M : List Rw} {there : Bool} {n : Int} {k cap cap4 z : Nat} {ao ao4 : Option Addr} {x : Rw} (hx : M[k]? = some x) (hk : keepB there n x = true) (ho : Off [] w3 wr)
    (hf : ∀ z ∈ blk (.slice ao ((M.take k).filter (keepB there n)).length cap), w3.heap.size ≤ z) (W w4 : World) (hW : Off [] wr W)
    (q1 : Own w4 70 5 (.slice ao4 (((M.take k).filter (keepB there n)).length + 1) cap4) (((M.take k).filter (keepB there n)).length + 1) (rows ((M.take k).filter (keepB there n)) ++ rcells x))
    (q2 : Off (blk (.slice ao ((M.take k).filter (keepB there n)).length cap)) W w4) (q3 : blk (.slice ao4 (((M.take k).filter (keepB there n)).length + 1) cap4) = blk (.slice ao ((M.take k).filter (keepB there n)).length cap) ∨ blk (.slice ao4 (((M.take k).filter (keepB there n)).length + 1) cap4) = [z] ∧ wr.heap.size ≤ z) :
    DropIn w3 M there n (.slice ao4 (((M.take k).filter (keepB there n)).length + 1) cap4) (.int .i64 ((k : Int) + 1)) w4 := by
  have hlt := (List.getElem?_eq_some_iff.1 hx).1
  have e : (M.take (k + 1)).filter (keepB there n) = (M.take k).filter (keepB there n) ++ [x] := by
    rw [List.take_add_one, hx, List.filter_append]; simp [hk]
  have hs := ho.size
  refine ⟨k + 1, ao4, cap4, by omega, by push_cast; rfl, by rw [e, List.length_append]; rfl, ?_, (ho.trans hW (by simp)).trans q2 (fun z hz => .inr (hf z hz)), fun y hy => ?_⟩
  · rw [e, List.length_append, rows_append]; simpa [rows] using q1
  · rcases q3 with q | ⟨q, hz⟩ <;> rw [q] at hy
    · exact hf y hy
    · simp at hy; omega
set_option maxRecDepth 100000 in
set_option maxHeartbeats 16000000 in
theorem played34 (w : World) (m : Int) (hm : InI64 m) (v : Value) (l : List St) (h : StepRows w v l) :
    Calls Try.prog 34 #[.int .i64 m, v] w (PlayEnd w m) := by
  obtain ⟨ao, cap, rfl, hlen, hel⟩ := h
  have HEL : Hid (∀ W, Off [] w W → ∀ (i : Nat) (t : St), l[i]? = some t → ∃ b off, ao = some ⟨b, off, none⟩ ∧ ∀ j, j < 8 → W.cell? ⟨b, off + i * 8 + j, none⟩ = (stCells t)[j]?) := fun W ho i t ht => by
    obtain ⟨b, off, e, hb, hc⟩ := hel i t ht
    refine ⟨b, off, e, fun j hj => ?_⟩
    rw [World.cell?_of_block (a := ⟨b, off + i * 8 + j, none⟩) (ho.old b hb (by simp)), Nat.add_assoc]; exact hc j hj
  clear hel
  generalize hN : l.length = len at *
  have HN := Lib.hid hN
  clear hN
  have HI := Lib.hid (into37 m w hm)
  obtain ⟨z1, z2⟩ := into_lt m
  obtain ⟨mo, hmo⟩ : ∃ mo : Nat, 1 + m % 8 = (mo : Int) := ⟨(1 + m % 8).toNat, by omega⟩
  have HNEW : Hid (Calls Try.prog 30 #[.int .i64 (1 + m % 8)] w fun e w' => e = .returned (.tuple #[.pointer (some ⟨w.heap.size, 0, none⟩), .int .i64 0]) ∧ TabP w' w.heap.size [w.heap.size] mo [] ∧ Off [] w w') := by
    show Calls _ _ _ _ _
    rw [hmo]; exact new30_ok mo w (by omega) (by omega)
  have HE : Hid (∀ tb lv M w', PlayRel w tb mo lv M w' → PlayEnd w m (.returned (.tuple #[.pointer (some ⟨tb, 0, none⟩), lv])) w') := fun tb lv M w' hp => by
    obtain ⟨a, c, rfl, _⟩ := own_rows hp.own
    exact ⟨tb, a, c, M, rfl, by rw [hmo]; exact hp⟩
  generalize m % 8 = z at *
  clear hm hmo
  go_enter Try.func34, Try.ntmps34
  go_wp2_with fail
  refine HI.out.mono ?_
  rintro e w' ⟨rfl, rfl⟩
  go_wp2_with fail
  refine HNEW.out.mono ?_
  rintro e w1 ⟨rfl, t1, o1⟩
  have HR0 : Hid (PlayRel w w.heap.size mo (.slice none 0 0) [] w1) := ⟨[w.heap.size], [], t1, Own.nil _ _ _, List.Perm.refl _, o1, by simp [blk], by simp [blk]⟩
  clear t1 o1 HI HNEW
  go_wp2_with fail
  generalize htb : w.heap.size = tb at HR0 ⊢
  clear htb
  go_loopw [8, 9, 10, 11, 12, 13, 14, 15, 16, 17] (fun lv i _ _ _ _ _ _ _ _ wr => PlayIn w tb mo len lv i wr) (fun _ i _ _ _ _ _ _ _ _ _ => len - (intOf i).toNat)
  case atStart => exact ⟨0, [], Nat.zero_le _, rfl, HR0.out⟩
  case round =>
    obtain ⟨W1, hW1⟩ : ∃ W, W = wr := ⟨_, rfl⟩
    subst hW1
    obtain ⟨k, M, hk, rfl, hp⟩ := hrel
    have HP := Lib.hid hp
    obtain ⟨lao, lcap, rfl, _⟩ := own_rows hp.own
    have HS8 := Lib.hid hp.short
    clear hp HR0
    by_cases hlt : k < len
    · obtain ⟨t, hkt⟩ : ∃ t, l[k]? = some t := ⟨l[k]'(by have := HN.out; omega), List.getElem?_eq_getElem _⟩
      obtain ⟨b, off, rfl, hcs⟩ := HEL.out W1 HP.out.offs k t hkt
      obtain ⟨se, kind, ⟨rb, ri, rs, rl, rn⟩, tn⟩ := t
      have c0 : W1.cell? ⟨b, off + k * 8, none⟩ = some (.bool se) := hcs 0 (by omega)
      have c1 : W1.cell? ⟨b, off + k * 8 + 1, none⟩ = some (.int .i64 kind) := hcs 1 (by omega)
      have c2 : W1.cell? ⟨b, off + k * 8 + 2, none⟩ = some (.int .i64 rb) := hcs 2 (by omega)
      have c3 : W1.cell? ⟨b, off + k * 8 + 3, none⟩ = some (.int .i64 ri) := hcs 3 (by omega)
      have c4 : W1.cell? ⟨b, off + k * 8 + 4, none⟩ = some (.int .i64 rs) := hcs 4 (by omega)
      have c5 : W1.cell? ⟨b, off + k * 8 + 5, none⟩ = some (.int .i64 rl) := hcs 5 (by omega)
      have c6 : W1.cell? ⟨b, off + k * 8 + 6, none⟩ = some (.int .i64 rn) := hcs 6 (by omega)
      have c7 : W1.cell? ⟨b, off + k * 8 + 7, none⟩ = some (.int .i64 tn) := hcs 7 (by omega)
      clear hkt hcs HEL
      by_cases k0 : kind = 0
      · subst k0
        have hcp := (HP.out.put ⟨rb, ri, rs, rl, rn⟩ (W1.alloc (.cells #[.bool se, .int .i64 0, .int .i64 rb, .int .i64 ri, .int .i64 rs, .int .i64 rl, .int .i64 rn, .int .i64 tn] 72)) ((Off.refl _ _).alloc _))
        unfold ragg at hcp
        simp only at hcp
        have HC := Lib.hid hcp
        clear hcp
        go_wp2_with fail
        refine HC.out.mono ?_
        rintro e w3 ⟨hst, code, rfl, h1, h2⟩
        have he : IsC w3 W1.heap.size #[.bool se, .int .i64 0, .int .i64 rb, .int .i64 ri, .int .i64 rs, .int .i64 rl, .int .i64 rn, .int .i64 tn] 72 := hst _ _ _ (Nat.le_refl _) (IsC.new _ _ _)
        have H1 := Lib.hid h1
        have H2 := Lib.hid h2
        clear hst h1 h2 c0 c1 c2 c3 c4 c5 c6 c7 HC
        by_cases hc : code = 0
        · subst hc
          obtain ⟨L', hmp, hpm, hm8⟩ := H2.out rfl
          have e2 : w3.cell? ⟨W1.heap.size, 2, none⟩ = some (.int .i64 rb) := by rw [he.cell]; rfl
          have e3 : w3.cell? ⟨W1.heap.size, 3, none⟩ = some (.int .i64 ri) := by rw [he.cell]; rfl
          have e4 : w3.cell? ⟨W1.heap.size, 4, none⟩ = some (.int .i64 rs) := by rw [he.cell]; rfl
          have e5 : w3.cell? ⟨W1.heap.size, 5, none⟩ = some (.int .i64 rl) := by rw [he.cell]; rfl
          have e6 : w3.cell? ⟨W1.heap.size, 6, none⟩ = some (.int .i64 rn) := by rw [he.cell]; rfl
          have HOA := Lib.hid (hmp.own.alloc (.cells #[.int .i64 rb, .int .i64 ri, .int .i64 rs, .int .i64 rl, .int .i64 rn] 70))
          have HSRC := Lib.hid (src_new (P := Try.prog) w3 (t := 23) (e := 70) (e' := 70) (sz := 5) #[.int .i64 rb, .int .i64 ri, .int .i64 rs, .int .i64 rl, .int .i64 rn] 1 Try.underlying23 (by decide) rfl (by simp [Value.oneCell']))
          have HBD := Lib.hid (show (M.length + 1) * 40 ≤ 140737488355328 by omega)
          have HPA := Lib.hid (put_append rb ri rs rl rn hmp hpm)
          clear hmp hpm hm8 he H1 H2 HS8 HP
          generalize M.length = N at *
          go_wp2_with (at_builtin; refine wp_app rfl _ _ 23 23 rfl rfl HOA.out Try.underlying23 iinfo70 rfl (by decide) rfl HSRC.out HBD.out ?_)
          intro ao4 cap4 w4 q1 q2 q3
          have HR4 := Lib.hid (HPA.out ao4 cap4 w4 q1 q2 q3)
          clear q1 q2 q3 HPA HOA HSRC
          go_wp2_with fail
          go_roundw
          case rel => exact ⟨k + 1, _, by omega, by go_num, HR4.out⟩
          case measure => simp [intOf]; omega
        · have hd : (code == 0) = false := by simpa using hc
          have HR4 := Lib.hid (H1.out hc)
          clear hc H1 H2 he HP
          go_wp2_with fail
          go_roundw
          case rel => exact ⟨k + 1, _, by omega, by go_num, HR4.out⟩
          case measure => simp [intOf]; omega
      · have d0 : (kind == 0) = false := by simpa using k0
        by_cases k1 : kind = 1
        · subst k1
          have hcp := (HP.out.set ⟨rb, ri, rs, rl, rn⟩ (W1.alloc (.cells #[.bool se, .int .i64 1, .int .i64 rb, .int .i64 ri, .int .i64 rs, .int .i64 rl, .int .i64 rn, .int .i64 tn] 72)) ((Off.refl _ _).alloc _))
          unfold ragg at hcp
          simp only at hcp
          have HC := Lib.hid hcp
          clear hcp
          go_wp2_with fail
          refine HC.out.mono ?_
          rintro e w3 ⟨hst, code, rfl, L', hmp, h1, h2⟩
          have he : IsC w3 W1.heap.size (stObj ⟨se, 1, ⟨rb, ri, rs, rl, rn⟩, tn⟩) 72 := hst _ _ _ (Nat.le_refl _) (IsC.new _ _ _)
          have HST := Lib.hid (SetIn.start (code := code) hmp he)
          have HEND := Lib.hid (fun (wr : World) (hm : MidPlay w tb mo (.slice lao M.length lcap) (updN M ⟨rb, ri, rs, rl, rn⟩ code M.length) L' wr) => SetIn.done (t := ⟨se, 1, ⟨rb, ri, rs, rl, rn⟩, tn⟩) hm h1 h2)
          have HSZ := Lib.hid HP.out.own.lt
          clear hst h1 h2 c0 c1 c2 c3 c4 c5 c6 c7 HC hmp he d0 k0 HP
          obtain ⟨N, hNM⟩ : ∃ N, N = M.length := ⟨_, rfl⟩
          have HNM := Lib.hid hNM
          rw [← hNM] at HS8 ⊢
          clear hNM
          have hN8 : N ≤ 8 := HS8.out
          go_wp2_with fail
          go_loopw [13] (fun j wr => SetIn w tb mo (.slice lao N lcap) M L' ⟨se, 1, ⟨rb, ri, rs, rl, rn⟩, tn⟩ code W1.heap.size j wr) (fun j _ => N - (intOf j).toNat)
          case atStart => rw [HNM.out]; exact HST.out
          case round =>
            obtain ⟨kj, hkj, rfl, hmp, hc⟩ := hrel
            have HMP := Lib.hid hmp
            have HCC := Lib.hid hc
            have e2 : wr.cell? ⟨W1.heap.size, 2, none⟩ = some (.int .i64 rb) := by rw [hc.cell]; rfl
            have e3 : wr.cell? ⟨W1.heap.size, 3, none⟩ = some (.int .i64 ri) := by rw [hc.cell]; rfl
            have e4 : wr.cell? ⟨W1.heap.size, 4, none⟩ = some (.int .i64 rs) := by rw [hc.cell]; rfl
            have e5 : wr.cell? ⟨W1.heap.size, 5, none⟩ = some (.int .i64 rl) := by rw [hc.cell]; rfl
            have e6 : wr.cell? ⟨W1.heap.size, 6, none⟩ = some (.int .i64 rn) := by rw [hc.cell]; rfl
            clear hc HST
            have hkN : kj ≤ N := by rw [HNM.out]; exact hkj
            by_cases hltj : kj < N
            · have hlm : kj < M.length := by rw [← HNM.out]; exact hltj
              obtain ⟨x, hx⟩ : ∃ x, M[kj]? = some x := ⟨M[kj]'hlm, List.getElem?_eq_getElem _⟩
              have HX := Lib.hid hx
              have hlao : ∃ g goff, lao = some ⟨g, goff, none⟩ ∧ W1.heap.size ≠ g ∧ wr.cell? ⟨g, goff + kj * 5, none⟩ = some (.int .i64 x.birth) ∧ wr.cell? ⟨g, goff + kj * 5 + 1, none⟩ = some (.int .i64 x.id) ∧ wr.cell? ⟨g, goff + kj * 5 + 2, none⟩ = some (.int .i64 x.state) ∧ wr.cell? ⟨g, goff + kj * 5 + 3, none⟩ = some (.int .i64 x.last) ∧ wr.cell? ⟨g, goff + kj * 5 + 4, none⟩ = some (.int .i64 x.next) := by
                obtain ⟨ao', cap', hv, hcl⟩ := own_rows HMP.out.own
                obtain ⟨g, goff, hg, q0⟩ := hcl kj x (by rw [updN_get]; exact hx)
                have hv' : lao = ao' := by injection hv
                refine ⟨g, goff, hv'.trans hg, fun hh => ?_, q0⟩
                have := HSZ.out g (by rw [hv'.trans hg]; simp [blk])
                omega
              obtain ⟨g, goff, rfl, hgne, g0, g1, g2, g3, g4⟩ := hlao
              by_cases hcode : code = 0
              · subst hcode
                by_cases hxb : x.birth = rb
                · have hxt : (x.birth == rb) = true := by simp [hxb]
                  have hdd : decide (x.birth = rb) = true := by simp [hxb]
                  have HSTO := Lib.hid (fun W ho => SetIn.store (t := ⟨se, 1, ⟨rb, ri, rs, rl, rn⟩, tn⟩) hlm HX.out hxb (by rw [HNM.out] at HMP; exact HMP.out) HCC.out hgne W ho)
                  rw [← HNM.out] at HSTO
                  have hgf := own_unfrozen HMP.out.own
                  clear hx hlm hxb HMP HCC HEND HSZ hkj
                  go_wp2_with fail
                  go_quiet (fail)
                  go_wp2_with fail
                  go_roundw
                  case rel => exact HSTO.out _ ((Off.refl _ _).drewN _)
                  case measure => simp [intOf]; omega
                · have hxt : (x.birth == rb) = false := by simp [hxb]
                  have hdd : decide (x.birth = rb) = false := by simp [hxb]
                  have HNX : Hid (SetIn w tb mo (.slice (some ⟨g, goff, none⟩) N lcap) M L' ⟨se, 1, ⟨rb, ri, rs, rl, rn⟩, tn⟩ 0 W1.heap.size (.int .i64 ((kj : Int) + 1)) wr) := Lib.hid ⟨kj + 1, hlm, by push_cast; rfl, by rw [updN_same M _ kj x hx hxb]; exact HMP.out, HCC.out⟩
                  clear hx hlm hxb HMP HCC HEND HSZ hkj
                  go_wp2_with fail
                  go_quiet (fail)
                  go_wp2_with fail
                  go_roundw
                  case rel => exact HNX.out.off ((Off.refl _ _).drewN _)
                  case measure => simp [intOf]; omega
              · have hd : (code == 0) = false := by simpa using hcode
                have hdd : decide (code = 0) = false := by simp [hcode]
                have HNX : Hid (SetIn w tb mo (.slice (some ⟨g, goff, none⟩) N lcap) M L' ⟨se, 1, ⟨rb, ri, rs, rl, rn⟩, tn⟩ code W1.heap.size (.int .i64 ((kj : Int) + 1)) wr) := Lib.hid ⟨kj + 1, hlm, by push_cast; rfl, by have q := HMP.out; unfold updN at q ⊢; rw [if_neg hcode] at q ⊢; exact q, HCC.out⟩
                clear hx hlm hcode HMP HCC HEND HSZ hkj
                go_wp2_with fail
                go_quiet (fail)
                go_wp2_with fail
                go_roundw
                case rel => exact HNX.out.off ((Off.refl _ _).drewN _)
                case measure => simp [intOf]; omega
            · have hkk : kj = N := by omega
              have hP : ∃ M', PlayRel w tb mo (.slice lao N lcap) M' wr := by
                rw [HNM.out]
                refine HEND.out _ ?_
                have hme := HMP.out
                rw [hkk, HNM.out] at hme
                exact hme
              obtain ⟨M', hM'⟩ := hP
              have HM' := Lib.hid hM'
              clear hM'
              subst hkk
              go_wp2_with fail
              go_roundw
              case rel => exact ⟨k + 1, M', by omega, by go_num, HM'.out⟩
              case measure => simp [intOf]; omega
        · have d1 : (kind == 1) = false := by simpa using k1
          by_cases k4 : kind = 4
          · subst k4
            have hcp := (HP.out.drop tn (W1.alloc (.cells #[.bool se, .int .i64 4, .int .i64 rb, .int .i64 ri, .int .i64 rs, .int .i64 rl, .int .i64 rn, .int .i64 tn] 72)) ((Off.refl _ _).alloc _))
            have HC := Lib.hid hcp
            clear hcp
            go_wp2_with fail
            refine HC.out.mono ?_
            rintro e w3 ⟨hst, ⟨xb, xi, xs, xl, xn⟩, there, rfl, L', hmp0, hpm⟩
            have he : IsC w3 W1.heap.size (stObj ⟨se, 4, ⟨rb, ri, rs, rl, rn⟩, tn⟩) 72 := hst _ _ _ (Nat.le_refl _) (IsC.new _ _ _)
            have HMP := Lib.hid (hmp0.off ((Off.refl [] _).alloc (.cells #[.int .i64 xb, .int .i64 xi, .int .i64 xs, .int .i64 xl, .int .i64 xn] 70)))
            have HCC := Lib.hid (IsC.off (S := []) he ((Off.refl [] _).alloc (.cells #[.int .i64 xb, .int .i64 xi, .int .i64 xs, .int .i64 xl, .int .i64 xn] 70)) (by simp))
            have HPM := Lib.hid hpm
            unfold ragg
            simp only
            clear hst c0 c1 c2 c3 c4 c5 c6 c7 HC hmp0 he d0 d1 k0 k1 HP hpm
            obtain ⟨N, hNM⟩ : ∃ N, N = M.length := ⟨_, rfl⟩
            have HNM := Lib.hid hNM
            rw [← hNM] at HS8 ⊢
            clear hNM
            have hN8 : N ≤ 8 := HS8.out
            go_wp2_with fail
            generalize World.alloc w3 _ = W3 at *
            go_loopw [16, 17] (fun rest j wr => DropIn W3 M there tn rest j wr) (fun _ j _ => N - (intOf j).toNat)
            case atStart => exact ⟨0, none, 0, Nat.zero_le _, rfl, rfl, Own.nil _ _ _, Off.refl _ _, by simp [blk]⟩
            case round =>
              obtain ⟨kj, ao2, cap2, hkj, rfl, hrest, hown, hof, hfr⟩ := hrel
              subst hrest
              have hkN : kj ≤ N := by rw [HNM.out]; exact hkj
              by_cases hltj : kj < N
              · have hlm : kj < M.length := by rw [← HNM.out]; exact hltj
                obtain ⟨⟨pb, pi, ps, pl, pn⟩, hx⟩ : ∃ x, M[kj]? = some x := ⟨M[kj]'hlm, List.getElem?_eq_getElem _⟩
                have hlao : ∃ g goff, lao = some ⟨g, goff, none⟩ ∧ wr.cell? ⟨g, goff + kj * 5, none⟩ = some (.int .i64 pb) ∧ wr.cell? ⟨g, goff + kj * 5 + 1, none⟩ = some (.int .i64 pi) ∧ wr.cell? ⟨g, goff + kj * 5 + 2, none⟩ = some (.int .i64 ps) ∧ wr.cell? ⟨g, goff + kj * 5 + 3, none⟩ = some (.int .i64 pl) ∧ wr.cell? ⟨g, goff + kj * 5 + 4, none⟩ = some (.int .i64 pn) := by
                  obtain ⟨ao', cap', hv, hcl⟩ := own_rows (HMP.out.off hof).own
                  obtain ⟨g, goff, hg, q0⟩ := hcl kj _ hx
                  have hv' : lao = ao' := by injection hv
                  exact ⟨g, goff, hv'.trans hg, q0⟩
                obtain ⟨g, goff, rfl, g0, g1, g2, g3, g4⟩ := hlao
                have e7 : wr.cell? ⟨W1.heap.size, 7, none⟩ = some (.int .i64 tn) := by rw [(IsC.off (S := []) HCC.out hof (by simp)).cell]; rfl
                have HSKIP := Lib.hid (fun hk => DropIn.skip hx hk hown hof hfr)
                have HTAKE := Lib.hid (fun hk z ao4 cap4 => DropIn.take (z := z) (ao4 := ao4) (cap4 := cap4) hx hk hof hfr)
                have HOWN := Lib.hid hown
                have hR8 : ((M.take kj).filter (keepB there tn)).length ≤ 8 := by
                  have := List.length_filter_le (keepB there tn) (M.take kj); rw [List.length_take] at this; omega
                clear hx hlm hkj hown hof hfr HCC HPM
                cases there
                · have HT := Lib.hid (HTAKE.out (by simp [keepB]))
                  clear HSKIP HTAKE HMP
                  obtain ⟨R, hRR⟩ : ∃ R, R = rows ((M.take kj).filter (keepB false tn)) := ⟨_, rfl⟩
                  rw [← hRR] at HOWN HT
                  generalize ((M.take kj).filter (keepB false tn)).length = Q at *
                  clear hRR
                  go_wp2_with fail
                  go_quiet (fail)
                  generalize hW5 : World.drewN _ _ = W5
                  have ho5 : Off [] wr W5 := by rw [← hW5]; exact (Off.refl _ _).drewN _
                  have u0 : W5.cell? ⟨g, goff + kj * 5, none⟩ = some (.int .i64 pb) := by rw [← hW5]; exact g0
                  have u1 : W5.cell? ⟨g, goff + kj * 5 + 1, none⟩ = some (.int .i64 pi) := by rw [← hW5]; exact g1
                  have u2 : W5.cell? ⟨g, goff + kj * 5 + 2, none⟩ = some (.int .i64 ps) := by rw [← hW5]; exact g2
                  have u3 : W5.cell? ⟨g, goff + kj * 5 + 3, none⟩ = some (.int .i64 pl) := by rw [← hW5]; exact g3
                  have u4 : W5.cell? ⟨g, goff + kj * 5 + 4, none⟩ = some (.int .i64 pn) := by rw [← hW5]; exact g4
                  clear hW5
                  have HOA := Lib.hid ((HOWN.out.off ho5 (by simp)).alloc (.cells #[.int .i64 pb, .int .i64 pi, .int .i64 ps, .int .i64 pl, .int .i64 pn] 70))
                  have HSRC := Lib.hid (src_new (P := Try.prog) W5 (t := 23) (e := 70) (e' := 70) (sz := 5) #[.int .i64 pb, .int .i64 pi, .int .i64 ps, .int .i64 pl, .int .i64 pn] 1 Try.underlying23 (by decide) rfl (by simp [Value.oneCell']))
                  have HBD := Lib.hid (show (Q + 1) * 40 ≤ 140737488355328 by omega)
                  have HO5 := Lib.hid ho5
                  clear ho5 HOWN
                  go_wp2_with (at_builtin; refine wp_app rfl _ _ 23 23 rfl rfl HOA.out Try.underlying23 iinfo70 rfl (by decide) rfl HSRC.out HBD.out ?_)
                  intro ao4 cap4 w4 q1 q2 q3
                  have HR4 := Lib.hid (HT.out (W5.heap.size + 1) ao4 cap4 (W5.alloc (.cells #[.int .i64 pb, .int .i64 pi, .int .i64 ps, .int .i64 pl, .int .i64 pn] 70)) w4 ((HO5.out.alloc _)) q1 q2 (q3.imp_right fun q => ⟨q, by have := HO5.out.size; omega⟩))
                  clear q1 q2 q3 HT HOA HSRC
                  go_wp2_with fail
                  go_roundw
                  case rel => exact HR4.out
                  case measure => simp [intOf]; omega
                · by_cases hpb : pb = tn
                  · have hpt : (pb != tn) = false := by simp [hpb]
                    have hpd : decide (pb ≠ tn) = false := by simp [hpb]
                    have HS := Lib.hid (HSKIP.out (by simp [keepB, hpb]))
                    clear hpb HSKIP HTAKE HMP HOWN
                    generalize ((M.take kj).filter (keepB true tn)).length = R at *
                    go_wp2_with fail
                    go_quiet (fail)
                    go_wp2_with fail
                    go_roundw
                    case rel => exact HS.out _ ((Off.refl _ _).drewN _)
                    case measure => simp [intOf]; omega
                  · have hpt : (pb != tn) = true := by simp [hpb]
                    have hpd : decide (pb ≠ tn) = true := by simp [hpb]
                    have HT := Lib.hid (HTAKE.out (by simp [keepB, hpb]))
                    clear HSKIP HTAKE HMP hpb
                    obtain ⟨R, hRR⟩ : ∃ R, R = rows ((M.take kj).filter (keepB true tn)) := ⟨_, rfl⟩
                    rw [← hRR] at HOWN HT
                    generalize ((M.take kj).filter (keepB true tn)).length = Q at *
                    clear hRR
                    go_wp2_with fail
                    go_quiet (fail)
                    generalize hW5 : World.drewN _ _ = W5
                    have ho5 : Off [] wr W5 := by rw [← hW5]; exact (Off.refl _ _).drewN _
                    have u0 : W5.cell? ⟨g, goff + kj * 5, none⟩ = some (.int .i64 pb) := by rw [← hW5]; exact g0
                    have u1 : W5.cell? ⟨g, goff + kj * 5 + 1, none⟩ = some (.int .i64 pi) := by rw [← hW5]; exact g1
                    have u2 : W5.cell? ⟨g, goff + kj * 5 + 2, none⟩ = some (.int .i64 ps) := by rw [← hW5]; exact g2
                    have u3 : W5.cell? ⟨g, goff + kj * 5 + 3, none⟩ = some (.int .i64 pl) := by rw [← hW5]; exact g3
                    have u4 : W5.cell? ⟨g, goff + kj * 5 + 4, none⟩ = some (.int .i64 pn) := by rw [← hW5]; exact g4
                    clear hW5
                    have HOA := Lib.hid ((HOWN.out.off ho5 (by simp)).alloc (.cells #[.int .i64 pb, .int .i64 pi, .int .i64 ps, .int .i64 pl, .int .i64 pn] 70))
                    have HSRC := Lib.hid (src_new (P := Try.prog) W5 (t := 23) (e := 70) (e' := 70) (sz := 5) #[.int .i64 pb, .int .i64 pi, .int .i64 ps, .int .i64 pl, .int .i64 pn] 1 Try.underlying23 (by decide) rfl (by simp [Value.oneCell']))
                    have HBD := Lib.hid (show (Q + 1) * 40 ≤ 140737488355328 by omega)
                    have HO5 := Lib.hid ho5
                    clear ho5 HOWN
                    go_wp2_with (at_builtin; refine wp_app rfl _ _ 23 23 rfl rfl HOA.out Try.underlying23 iinfo70 rfl (by decide) rfl HSRC.out HBD.out ?_)
                    intro ao4 cap4 w4 q1 q2 q3
                    have HR4 := Lib.hid (HT.out (W5.heap.size + 1) ao4 cap4 (W5.alloc (.cells #[.int .i64 pb, .int .i64 pi, .int .i64 ps, .int .i64 pl, .int .i64 pn] 70)) w4 ((HO5.out.alloc _)) q1 q2 (q3.imp_right fun q => ⟨q, by have := HO5.out.size; omega⟩))
                    clear q1 q2 q3 HT HOA HSRC
                    go_wp2_with fail
                    go_roundw
                    case rel => exact HR4.out
                    case measure => simp [intOf]; omega
              · have hkk : kj = N := by omega
                subst hkk
                have HDN : Hid (PlayRel w tb mo (.slice ao2 ((M.take kj).filter (keepB there tn)).length cap2) (M.filter (keepB there tn)) wr) := by
                  refine Lib.hid (DropIn.done HMP.out HPM.out (ao := ao2) (cap := cap2) ?_ hof hfr)
                  rw [← HNM.out]; exact hown
                clear hown hof hfr HMP HPM HCC
                generalize ((M.take kj).filter (keepB there tn)).length = R at *
                go_wp2_with fail
                go_roundw
                case rel => exact ⟨k + 1, _, by omega, by go_num, HDN.out⟩
                case measure => simp [intOf]; omega
          · have d4 : (kind == 4) = false := by simpa using k4
            clear k0 k1 k4
            go_wp2_with fail
            go_roundw
            case rel => exact ⟨k + 1, _, by omega, by go_num, HP.out.off ((Off.refl _ _).alloc _)⟩
            case measure => simp [intOf]; omega
    · have e : k = len := by omega
      subst e
      clear HEL
      go_wp2_with fail
      go_ret2
      exact HE.out _ _ _ _ HP.out
end Go.Proofs.Ytlhmcbcoaplcaaa
