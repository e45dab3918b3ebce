/- TableOrder: the walk. -/
import Derived.Test.YtlhmcbcoaplcaaaOrdA
set_option linter.unusedVariables false
set_option linter.unusedSimpArgs false
namespace Go.Proofs.Ytlhmcbcoaplcaaa
open Go.ChangeShapes Go.WideShapes Go.ChangeAt Go.RowKit

/-- The other table, into which the rows from the j-th on were put. -/
def OrdIn (w1 : World) (ub : Nat) (M : List Rw) (j : Nat) (wr : World) : Prop :=
  ∃ fu Lu, TabP wr ub fu 8 Lu ∧ Lu.Perm (M.drop j) ∧ Off [] w1 wr ∧ ∀ z ∈ fu, w1.heap.size ≤ z
theorem OrdIn.put {w1 wr : World} {ub : Nat} {M L : List Rw} {most : Nat} {I : List (Int × Int)} {j : Nat} {x : Rw} (h : OrdIn w1 ub M (j + 1) wr) (hi : TInv most L I) (hp : L.Perm M) (hl : M.length ≤ 8) (hx : M[j]? = some x) :
    Calls Try.prog 40 #[.pointer (some ⟨ub, 0, none⟩), ragg x] wr fun e w' => e = .returned (.int .i64 0) ∧ OrdIn w1 ub M j w' := by
  obtain ⟨fu, Lu, h1, h2, h3, h4⟩ := h
  obtain ⟨c0, hpm⟩ := put_next hi hp hl hx h2
  refine (put40 h1 x).mono ?_
  rintro e w' ⟨rfl, fp', q1, q2, q3⟩
  have e1 := h3.size
  refine ⟨by rw [c0], fp', _, q1, hpm, h3.trans q2 (fun z hz => .inr (h4 z hz)), fun z hz => ?_⟩
  rcases q3 z hz with q | q
  · exact h4 z q
  · omega

set_option maxRecDepth 100000 in
set_option maxHeartbeats 16000000 in
theorem tableOrder_walk (w : World) (a : Int) (ha : InI64 a) (v : Value) (l : List St) (h : StepRows w v l) (birth : Int) (hb : InI64 birth) :
    Calls Try.prog 12 #[.int .i64 a, v, .int .i64 birth] w fun e w' => e = .returned (.bool true) ∧ Below w.heap.size w w' := by
  have HPL := Lib.hid (played34 w a ha v l h)
  have hvv : ∃ ao cap, v = .slice ao l.length cap := by obtain ⟨ao, cap, rfl, _⟩ := h; exact ⟨ao, cap, rfl⟩
  obtain ⟨sao, scap, rfl⟩ := hvv
  clear h
  generalize l.length = sn at *
  go_enter Try.func12, Try.ntmps12
  go_wp2_with fail
  refine HPL.out.mono ?_
  rintro e w1 ⟨tb, ao, cap, M, rfl, fp, L, ht, hown, hperm, ho, hfp, hlv⟩
  have HNEW : Hid (Calls Try.prog 30 #[.int .i64 8] w1 fun e w' => e = .returned (.tuple #[.pointer (some ⟨w1.heap.size, 0, none⟩), .int .i64 0]) ∧ TabP w' w1.heap.size [w1.heap.size] 8 [] ∧ Off [] w1 w') := new30_ok 8 w1 (by omega) (by omega)
  generalize (1 + a % 8).toNat = mo at *
  obtain ⟨I, hinv⟩ := ht.inv
  have h8 : M.length ≤ 8 := by have := hperm.length_eq; have := ht.births.2.2.1; omega
  have HT := Lib.hid ht
  have HOWN := Lib.hid hown
  have HINV := Lib.hid hinv
  have HPM := Lib.hid hperm
  have HO := Lib.hid ho
  have HFP := Lib.hid hfp
  have HLV := Lib.hid hlv
  clear ht hown hinv hperm ho hfp hlv HPL
  obtain ⟨N, hNM⟩ : ∃ N, N = M.length := ⟨_, rfl⟩
  have HNM := Lib.hid hNM
  rw [← hNM] at h8 ⊢
  clear hNM
  go_wp2_with fail
  refine HNEW.out.mono ?_
  rintro e w2 ⟨rfl, t2, o2⟩
  have HOR : Hid (OrdIn w1 w1.heap.size M N w2) := ⟨_, [], t2, by rw [HNM.out, List.drop_length], o2, by simp⟩
  have HK := Lib.hid (known32 w2)
  generalize w1.heap.size = ub at *
  clear t2 o2 HNEW
  go_wp2_with fail
  refine HK.out.mono ?_
  rintro e w3 ⟨rfl, o3⟩
  have HOR3 : Hid (OrdIn w1 ub M N w3) := by
    obtain ⟨fu, Lu, q1, q2, q3, q4⟩ := HOR.out
    exact ⟨fu, Lu, q1.off o3 (by simp), q2, q3.trans o3 (by simp), q4⟩
  clear o3 HOR HK
  go_wp2_with fail
  go_loopw [11, 12] (fun i _ wr => ∃ k : Nat, k ≤ N ∧ i = .int .i64 ((k : Int) - 1) ∧ OrdIn w1 ub M k wr) (fun i _ _ => (intOf i + 1).toNat)
  case atStart => exact ⟨N, Nat.le_refl _, by go_num, HOR3.out⟩
  case round =>
    obtain ⟨k, hk, rfl, hor⟩ := hrel
    have HR := Lib.hid hor
    clear hor HOR3
    rcases k with _ | j
    · rw [show ((0 : Nat) : Int) - 1 = -1 by omega]
      obtain ⟨fu, Lu, q1, q2, q3, q4⟩ := HR.out
      obtain ⟨Iu, hiu⟩ := q1.inv
      have hLu : Lu = L := srt_perm_eq (by rw [List.drop_zero] at q2; exact q2.trans HPM.out.symm) hiu.srt HINV.out.srt
      subst hLu
      have htw := HT.out.off q3 (by simp)
      have HU := Lib.hid q1
      have HTT := Lib.hid htw
      have HRT := Lib.hid (rows35 htw)
      have HO3 := Lib.hid q3
      have HLT := Lib.hid q1.lt
      have HF4 := Lib.hid q4
      have hLN : Lu.length = N := by rw [HNM.out]; exact HPM.out.length_eq
      clear q1 q2 q3 q4 hiu htw HR
      rw [hLN] at HRT
      go_wp2_with fail
      refine HRT.out.mono ?_
      rintro e w4 ⟨ro, rcap, rfl, hr, hro, hrf⟩
      have hu4 := HU.out.off hro (by simp)
      have HRU := Lib.hid (rows35 hu4)
      rw [hLN] at HRU
      have HR1 := Lib.hid hr
      have HO4 := Lib.hid hro
      have HF1 := Lib.hid hrf
      have HU4 := Lib.hid hu4
      clear hr hro hrf hu4 HRT HU
      go_wp2_with fail
      refine HRU.out.mono ?_
      rintro e w5 ⟨ro2, rcap2, rfl, hr2, hro2, hrf2⟩
      have hr1 := HR1.out.off hro2 (by simp)
      have HSA : Hid (Calls Try.prog 41 #[.slice ro2 N rcap2, .slice ro N rcap] w5 fun e w' => e = .returned (.bool true) ∧ Off [] w5 w') := by
        refine same41 _ _ Lu w5 ?_ ?_ (by omega)
        · rw [hLN]; exact hr2
        · rw [hLN]; exact hr1
      have HR5 := Lib.hid hr1
      have HU5 := Lib.hid (HU4.out.off hro2 (by simp))
      have HO5 := Lib.hid (HO4.out.trans hro2 (by simp))
      clear hr1 hr2 hro2 hrf2 HRU HR1 HU4 HO4
      go_wp2_with fail
      refine HSA.out.mono ?_
      rintro e w6 ⟨rfl, ho6⟩
      have hu6 := HU5.out.off ho6 (by simp)
      have HD := Lib.hid (drop42 hu6 birth)
      have HU6 := Lib.hid hu6
      have HR6 := Lib.hid (HR5.out.off ho6 (by simp))
      have HO6 := Lib.hid (HO5.out.trans ho6 (by simp))
      clear hu6 ho6 HSA HU5 HR5 HO5
      cases hg : getL Lu birth with
      | none =>
        rw [hg] at HD
        have hdn := drop_none hg
        rw [hdn] at HD
        have HDN := Lib.hid hg
        clear hg hdn
        simp only [Option.getD_none, Option.isSome_none] at HD
        unfold ragg Rw.zero at HD
        simp only at HD
        go_wp2_with fail
        refine HD.out.mono ?_
        rintro e w7 ⟨rfl, fu7, hu7, ho7, hf7⟩
        have ho7a := (Off.refl [] w7).alloc (.cells #[.int .i64 0, .int .i64 0, .int .i64 0, .int .i64 0, .int .i64 0] 70)
        have hu7a := hu7.off ho7a (by simp)
        have HG := Lib.hid (get38 hu7a birth)
        rw [HDN.out] at HG
        simp only [Option.getD_none, Option.isSome_none] at HG
        unfold ragg Rw.zero at HG
        simp only at HG
        have HB7 := Lib.hid (IsC.new w7 #[.int .i64 0, .int .i64 0, .int .i64 0, .int .i64 0, .int .i64 0] 70)
        have hsz6 := HO6.out.size
        have HF7 : Hid (∀ z ∈ fu, z < wr.heap.size) := Lib.hid (by
          intro z hz
          exact HLT.out z hz)
        have hr7 := (HR6.out.off ho7 (fun z hz hz' => by have := HF1.out z hz; have := HF7.out z hz'; omega)).off ho7a (by simp)
        have HO7 : Hid (Off [] w1 (w7.alloc (.cells #[.int .i64 0, .int .i64 0, .int .i64 0, .int .i64 0, .int .i64 0] 70))) :=
          ((((HO3.out.trans HO6.out (by simp)).trans ho7 (fun z hz => .inr (HF4.out z hz))).trans ho7a (by simp)))
        have HR7 := Lib.hid hr7
        have HU7 := Lib.hid hu7a
        clear ho7 hu7 hr7 hu7a ho7a hf7 HD HU6 HR6 HDN
        go_wp2_with fail
        refine HG.out.mono ?_
        rintro e w8 ⟨rfl, ho8⟩
        have ho8a := (Off.refl [] w8).alloc (.cells #[.int .i64 0, .int .i64 0, .int .i64 0, .int .i64 0, .int .i64 0] 70)
        have ho9 := ho8.trans ho8a (by simp)
        have hb9 := IsC.off (S := []) HB7.out ho9 (by simp)
        have hu9 := HU7.out.off ho9 (by simp)
        have HR9 := Lib.hid (HR7.out.off ho9 (by simp))
        have HO9 := Lib.hid (HO7.out.trans ho9 (by simp))
        have HRU9 := Lib.hid (rows35 hu9)
        rw [hLN] at HRU9
        have c0 := hb9.cell 0
        have c1 := hb9.cell 1
        have c2 := hb9.cell 2
        have c3 := hb9.cell 3
        have c4 := hb9.cell 4
        simp only [List.getElem?_toArray, List.getElem?_cons_zero, List.getElem?_cons_succ] at c0 c1 c2 c3 c4
        clear ho8 ho8a ho9 hb9 hu9 HR7 HU7 HO7 HG HB7
        go_wp2_with fail
        refine HRU9.out.mono ?_
        rintro e w10 ⟨ro3, rcap3, rfl, hr3, hro3, hrf3⟩
        have HS3 : Hid (Calls Try.prog 41 #[.slice ro3 N rcap3, .slice ro N rcap] w10 fun e w' => e = .returned (.bool true) ∧ Off [] w10 w') := by
          refine same41 _ _ Lu w10 ?_ ?_ (by omega)
          · rw [hLN]; exact hr3
          · rw [hLN]; exact HR9.out.off hro3 (by simp)
        have HO10 := Lib.hid (HO9.out.trans hro3 (by simp))
        clear hr3 hro3 hrf3 c0 c1 c2 c3 c4 HRU9 HR9 HO9
        go_wp2_with fail
        refine HS3.out.mono ?_
        rintro e w11 ⟨rfl, ho11⟩
        have HEND := Lib.hid (((HO.out.trans HO10.out (by simp)).trans ho11 (by simp)).below)
        clear ho11 HS3 HO10
        go_wp2_with fail
        go_ret
        exact ⟨rfl, HEND.out⟩
      | some r =>
        obtain ⟨hpr, n1, n2, n3, n4, n5⟩ := drop_some HINV.out hg
        have n4' := n4 (by omega)
        rw [hg] at HD
        simp only [Option.getD_some, Option.isSome_some] at HD
        obtain ⟨rb, ri, rs, rl, rn⟩ := r
        unfold ragg at HD
        simp only at HD n2
        have HN1 := Lib.hid n1
        have HN2 := Lib.hid n2
        have HN3 := Lib.hid n3
        have HN4 := Lib.hid n4'
        have HN5 := Lib.hid n5
        clear hpr n1 n2 n3 n4 n5 n4' hg
        generalize dropL Lu birth = D at *
        go_wp2_with fail
        refine HD.out.mono ?_
        rintro e w7 ⟨rfl, fu7, hu7, ho7, hf7⟩
        have ho7a := (Off.refl [] w7).alloc (.cells #[.int .i64 rb, .int .i64 ri, .int .i64 rs, .int .i64 rl, .int .i64 rn] 70)
        have hu7a := hu7.off ho7a (by simp)
        have HG := Lib.hid (get38 hu7a birth)
        rw [HN1.out] at HG
        simp only [Option.getD_none, Option.isSome_none] at HG
        unfold ragg Rw.zero at HG
        simp only at HG
        have HB7 := Lib.hid (IsC.new w7 #[.int .i64 rb, .int .i64 ri, .int .i64 rs, .int .i64 rl, .int .i64 rn] 70)
        have hsz6 := HO6.out.size
        have hr7 := (HR6.out.off ho7 (fun z hz hz' => by have := HF1.out z hz; have := HLT.out z hz'; omega)).off ho7a (by simp)
        have HO7 : Hid (Off [] w1 (w7.alloc (.cells #[.int .i64 rb, .int .i64 ri, .int .i64 rs, .int .i64 rl, .int .i64 rn] 70))) :=
          ((((HO3.out.trans HO6.out (by simp)).trans ho7 (fun z hz => .inr (HF4.out z hz))).trans ho7a (by simp)))
        have HR7 := Lib.hid hr7
        have HU7 := Lib.hid hu7a
        have HFU : Hid (∀ z ∈ fu7, w1.heap.size ≤ z ∧ z ∉ blk (.slice ro N rcap)) := Lib.hid (by
          intro z hz
          have e1 := HO3.out.size
          have e2 := HO6.out.size
          have hrl := HR6.out.lt
          rcases hf7 z hz with q | q
          · exact ⟨HF4.out z q, fun hz' => by have := HF1.out z hz'; have := HLT.out z q; omega⟩
          · exact ⟨by omega, fun hz' => by have := hrl z hz'; omega⟩)
        clear ho7 hu7 hr7 hu7a ho7a hf7 HD HU6 HR6 HN1
        go_wp2_with fail
        refine HG.out.mono ?_
        rintro e w8 ⟨rfl, ho8⟩
        have ho8a := (Off.refl [] w8).alloc (.cells #[.int .i64 0, .int .i64 0, .int .i64 0, .int .i64 0, .int .i64 0] 70)
        have ho9 := ho8.trans ho8a (by simp)
        have hb9 := IsC.off (S := []) HB7.out ho9 (by simp)
        have hu9 := HU7.out.off ho9 (by simp)
        have HB9 := Lib.hid hb9
        have HU9 := Lib.hid hu9
        have HR9 := Lib.hid (HR7.out.off ho9 (by simp))
        have HO9 := Lib.hid (HO7.out.trans ho9 (by simp))
        have HI9 := Lib.hid (byId39 hu9 ri)
        rw [HN2.out] at HI9
        simp only [Option.getD_none, Option.isSome_none] at HI9
        unfold ragg Rw.zero at HI9
        simp only at HI9
        have c1 := hb9.cell 1
        simp only [List.getElem?_toArray, List.getElem?_cons_zero, List.getElem?_cons_succ] at c1
        clear ho8 ho8a ho9 hb9 hu9 HR7 HU7 HO7 HG HB7
        go_wp2_with fail
        refine HI9.out.mono ?_
        rintro e w10 ⟨rfl, ho10⟩
        have ho10a := (Off.refl [] w10).alloc (.cells #[.int .i64 0, .int .i64 0, .int .i64 0, .int .i64 0, .int .i64 0] 70)
        have ho11 := ho10.trans ho10a (by simp)
        have hb11 := IsC.off (S := []) HB9.out ho11 (by simp)
        have hu11 := HU9.out.off ho11 (by simp)
        have HR11 := Lib.hid (HR9.out.off ho11 (by simp))
        have HO11 := Lib.hid (HO9.out.trans ho11 (by simp))
        have HCNT := Lib.hid (count36 hu11)
        have HP11 := Lib.hid (put40 hu11 ⟨rb, ri, rs, rl, rn⟩)
        unfold PutEnd at HP11
        rw [HN4.out] at HP11
        unfold ragg at HP11
        simp only at HP11
        have d0 := hb11.cell 0
        have d1 := hb11.cell 1
        have d2 := hb11.cell 2
        have d3 := hb11.cell 3
        have d4 := hb11.cell 4
        simp only [List.getElem?_toArray, List.getElem?_cons_zero, List.getElem?_cons_succ] at d0 d1 d2 d3 d4
        obtain ⟨DL, hDL⟩ : ∃ DL : Nat, DL = D.length := ⟨_, rfl⟩
        have hdn : (DL : Int) = (N : Int) - 1 := by have := HN3.out; omega
        rw [← hDL] at HCNT
        clear hDL ho10 ho10a ho11 hb11 hu11 HR9 HO9 HI9 HB9 c1 HU9
        go_wp2_with fail
        refine HCNT.out.mono ?_
        rintro e w12 ⟨rfl, rfl⟩
        clear HCNT
        go_wp2_with fail
        refine HP11.out.mono ?_
        rintro e w13 ⟨rfl, fu13, hu13, ho13, hf13⟩
        have hss := hu13.births.1
        have h5 := HN5.out hss (by omega)
        rw [h5] at hu13
        have hr13 := HR11.out.off ho13 (fun z hz hz' => (HFU.out z hz').2 hz)
        have HR13 := Lib.hid hr13
        have HRU13 := Lib.hid (rows35 hu13)
        rw [hLN] at HRU13
        have HO13 := Lib.hid (HO11.out.trans ho13 (fun z hz => .inr (HFU.out z hz).1))
        clear hss h5 hu13 ho13 hf13 hr13 HP11 HR11 HO11 HN5 HN4 HN3 HN2
        go_wp2_with fail
        refine HRU13.out.mono ?_
        rintro e w14 ⟨ro3, rcap3, rfl, hr3, hro3, hrf3⟩
        have HS3 : Hid (Calls Try.prog 41 #[.slice ro3 N rcap3, .slice ro N rcap] w14 fun e w' => e = .returned (.bool true) ∧ Off [] w14 w') := by
          refine same41 _ _ Lu w14 ?_ ?_ (by omega)
          · rw [hLN]; exact hr3
          · rw [hLN]; exact HR13.out.off hro3 (by simp)
        have HO14 := Lib.hid (HO13.out.trans hro3 (by simp))
        clear hr3 hro3 hrf3 HRU13 HR13 HO13
        go_wp2_with fail
        refine HS3.out.mono ?_
        rintro e w15 ⟨rfl, ho15⟩
        have HEND := Lib.hid (((HO.out.trans HO14.out (by simp)).trans ho15 (by simp)).below)
        clear ho15 HS3 HO14
        go_wp2_with fail
        go_ret
        exact ⟨rfl, HEND.out⟩
    · rw [show ((j + 1 : Nat) : Int) - 1 = (j : Int) by omega]
      obtain ⟨x, hx⟩ : ∃ x, M[j]? = some x := ⟨M[j]'(by have := HNM.out; omega), List.getElem?_eq_getElem _⟩
      have HPUT := Lib.hid (HR.out.put HINV.out HPM.out (by rw [← HNM.out]; exact h8) hx)
      obtain ⟨_, _, _, _, hof, _⟩ := HR.out
      obtain ⟨ao', cap', hv, hcl⟩ := own_rows (HOWN.out.off hof (by simp))
      obtain ⟨g, goff, hg, g0, g1, g2, g3, g4⟩ := hcl j x hx
      have hv' : ao = some ⟨g, goff, none⟩ := by injection hv with e _; exact e.trans hg
      subst hv'
      obtain ⟨xb, xi, xs, xl, xn⟩ := x
      unfold ragg at HPUT
      simp only at HPUT g0 g1 g2 g3 g4
      clear hx hv hcl hof hg HR
      go_wp2_with fail
      refine HPUT.out.mono ?_
      rintro e w4 ⟨rfl, hor⟩
      have HR := Lib.hid hor
      clear hor HPUT
      go_wp2_with fail
      go_roundw
      case rel => exact ⟨j, by omega, by go_num, HR.out⟩
      case measure => simp [intOf]
end Go.Proofs.Ytlhmcbcoaplcaaa
