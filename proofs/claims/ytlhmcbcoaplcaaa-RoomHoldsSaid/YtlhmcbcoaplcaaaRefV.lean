/- Undone of the document's Room. -/
import Derived.Test.YtlhmcbcoaplcaaaRefU
set_option linter.unusedVariables false
set_option linter.unusedSimpArgs false
namespace Go.Proofs.Ytlhmcbcoaplcaaa
open Go.ChangeShapes Go.WideShapes Go.ChangeAt Go.RowKit

theorem erase_first {u : List Int} {k : Nat} {n : Int} (hk : u[k]? = some n) (hb : ∀ j, j < k → u[j]? ≠ some n) : u.erase n = u.take k ++ u.drop (k + 1) := by
  induction u generalizing k with
  | nil => simp at hk
  | cons a u ih =>
    cases k with
    | zero => simp at hk; subst hk; simp
    | succ k =>
      have h0 : a ≠ n := fun e => hb 0 (by omega) (by simp [e])
      rw [List.erase_cons_tail (by simpa using h0), ih (by simpa using hk) (fun j hj => by have := hb (j + 1) (by omega); simpa using this)]
      simp
theorem size3 : (Try.prog.info? 3).map (·.size) = some 1 := by kernel_rfl
theorem size96 : (Try.prog.info? 96).map (·.size) = some 2 := by kernel_rfl
theorem ints_one (l : List Int) : ∀ u ∈ ints l, u.oneCell' = true := by
  intro u hu; obtain ⟨x, _, rfl⟩ := List.mem_map.1 hu; rfl
theorem mem_of_get {u : List Int} {n : Int} (h : ∀ j, j < u.length → u[j]? ≠ some n) : n ∉ u := by
  intro hm
  obtain ⟨j, hj⟩ := List.getElem?_of_mem hm
  exact h j (List.getElem?_eq_some_iff.1 hj).1 hj

set_option maxRecDepth 100000 in
set_option maxHeartbeats 2000000 in
theorem undoneR_any (qb : Nat) (fp : List Nat) (area b x : Int) (L : Txns) (n : Nat) (w : World) (h : RefP w qb fp area L) (hw : Wf L n) :
    Calls Try.prog 46 #[.pointer (some ⟨qb, 0, none⟩), .int .i64 b, .int .i64 x] w (RefStep qb fp area (rUndone L b x) w) := by
  have HA := Lib.hid (at_any qb fp area b L w h hw.len)
  have HS := Lib.hid (fun n => RefStep.same (n := n) h)
  obtain ⟨Lv, ts, rfl, hat⟩ := h
  have a2 := hat.head
  have c := a2.reads
  rcases pos_spec L b with ⟨h1, h2, _⟩ | ⟨i, u, h1, h2, h3, h4⟩
  · have e1 : posI L b = -1 := by simp [posI, h1]
    have e2 : rUndone L b x = (160, L) := by simp [rUndone, h2]
    rw [e1] at HA
    rw [e2]
    clear h1 h2 hat hw e1 e2
    go_enter Try.func46, Try.ntmps46
    go_wp2_with fail
    refine HA.out.mono ?_
    rintro e w1 ⟨rfl, rfl⟩
    go_wp2_with fail
    go_ret
    exact HS.out 160
  · have e1 : posI L b = i := by simp [posI, h1]
    rw [e1] at HA
    obtain ⟨g, off, cap, t, rfl, ht, hil, hlen, hb, hu, hc1, hc2, hown⟩ := hat.view h2
    have hmc := mem_cnt (List.mem_of_getElem? h2)
    have hcn := hw.cnt
    have hsm := hw.small
    have hln := hw.len
    have hiN : ts.length < 4398046511104 := by omega
    have hul : u.length < 4398046511104 := by simp only at hmc; omega
    obtain ⟨uao, ucap, huv, hcell⟩ := ints_get hown
    have hune := hcell.1
    have hucell := hcell.2
    rw [huv] at hc2
    have hgq : g ≠ qb ∧ g ∉ blk t.uv ∧ qb ∉ blk t.uv := by
      have hn := hat.nodup
      simp only [blk, List.nodup_cons, List.mem_append, List.mem_singleton, not_or, List.cons_append, List.nil_append, List.mem_cons] at hn
      have hm : ∀ y ∈ blk t.uv, y ∈ rtFoot ts := fun y hy => mem_rtFoot.2 ⟨t, List.mem_of_getElem? ht, hy⟩
      exact ⟨fun e => hn.1.1 e.symm, fun hy => hn.2.1 (hm _ hy), fun hy => hn.1.2 (hm _ hy)⟩
    have hgl : g < w.heap.size := World.block_lt_of_cell? w ⟨g, off + i * 2 + 1, none⟩ hc2
    have hgr := hat.rows
    have e2 : rUndone L b x = if x ∈ u then (0, mput L b (u.erase x)) else (30, L) := by simp only [rUndone, h3]
    -- the ends of the walk, proved ahead
    have HP : Hid (∀ k, u[k]? = some x → (∀ j, j < k → u[j]? ≠ some x) → ∀ w1 w2 uv', Off [] w w1 → Own w2 3 1 uv' (k + (u.length - (k + 1))) (ints (u.take k) ++ ints (u.drop (k + 1))) → Off [] w w2 → (∀ y ∈ blk uv', w.heap.size ≤ y) →
        RefStep qb (qb :: (blk (.slice (some ⟨g, off, none⟩) ts.length cap) ++ rtFoot ts)) area (rUndone L b x) w (.returned (.int .i64 0)) (w2.setCell ⟨g, off + i * 2 + 1, none⟩ uv')) := by
      intro k hk hbef w1 w2 uv' h01 ho h02 hnew
      have hm : x ∈ u := List.mem_of_getElem? hk
      have hkl := (List.getElem?_eq_some_iff.1 hk).1
      rw [e2, if_pos hm]
      have he := erase_first hk hbef
      refine changeR_post (u' := u.erase x) hat h2 h4 ht ?_ (h02.mono (by simp)) (fun y hy => .inr (hnew y hy))
      rw [he, List.length_append, List.length_take, List.length_drop, Nat.min_eq_left (by omega)]
      simpa [ints] using ho
    have HN : Hid (x ∉ u → RefStep qb (qb :: (blk (.slice (some ⟨g, off, none⟩) ts.length cap) ++ rtFoot ts)) area (rUndone L b x) w (.returned (.int .i64 30)) w) := by
      intro hx; rw [e2, if_neg hx]; exact HS.out 30
    -- what stands in the header, in every world that the call comes to
    have KH : Hid (∀ w2, Off [] w w2 → IsC w2 qb #[.int .i64 area, .slice (some ⟨g, off, none⟩) ts.length cap] 44 ∧ (∃ v, w2.cell? ⟨g, off + i * 2 + 1, none⟩ = some v) ∧ w2.frozen? ⟨g, off + i * 2 + 1, none⟩ = false) := by
      intro w2 ho
      have e2 : w2.heap[g]? = w.heap[g]? := ho.old g hgl (by simp)
      exact ⟨a2.off ho (by simp), ⟨_, (World.cell?_of_block (a := ⟨g, _, none⟩) e2).trans hc2⟩, (World.frozen?_of_block (a := ⟨g, _, none⟩) e2).trans (hgr.unfrozen _)⟩
    have HOWN := Lib.hid hown
    have HUN := Lib.hid hune
    have HUC := Lib.hid hucell
    have HG := Lib.hid hgq
    rw [huv] at HOWN
    clear h1 h2 h3 h4 hat hw e1 e2 hb hu hc1 hmc hcn hsm hln huv hune hucell hcell hown HS ht hlen hgr hgq
    generalize hNN : ts.length = N at *
    clear hNN
    generalize hMM : u.length = M at *
    have HM := Lib.hid hMM
    clear hMM
    go_enter Try.func46, Try.ntmps46
    go_wp2_with fail
    refine HA.out.mono ?_
    rintro e w1 ⟨rfl, rfl⟩
    clear HA
    go_wp2_with fail
    go_loop [9] (fun k => ∃ j : Nat, j ≤ M ∧ k = .int .i64 j ∧ ∀ j', j' < j → u[j']? ≠ some x) (fun k => M - (intOf k).toNat)
    case atStart => exact ⟨0, Nat.zero_le _, rfl, by omega⟩
    case round =>
      obtain ⟨k, hk, rfl, hbef⟩ := hrel
      have HB := Lib.hid hbef
      clear hbef
      by_cases hlt : k < M
      · obtain ⟨g', off', rfl⟩ := HUN.out (by omega)
        obtain ⟨y, hy⟩ : ∃ y, u[k]? = some y := ⟨u[k]'(by have := HM.out; omega), List.getElem?_eq_getElem _⟩
        have hcy := HUC.out g' off' rfl k y hy
        have HY := Lib.hid hy
        clear hy
        by_cases hd : y = x
        · have hd' : (y == x) = true := by simpa using hd
          obtain ⟨ao1, cap1, ho1, hb1, f1, z1, f1'⟩ := HOWN.out.cut (t := 51) Try.underlying51 size3 0 k (by omega) (by omega)
          obtain ⟨ao2, cap2, ho2, hb2, z2, f2, z3⟩ := HOWN.out.cut (t := 51) Try.underlying51 size3 (k + 1) M (by omega) (by omega)
          have g1 := f1' rfl
          have g2 := f2 rfl
          rw [Nat.sub_zero, Nat.mul_one, Nat.zero_mul, List.drop_zero] at ho1
          rw [Nat.sub_zero] at g1 hb1
          have hsrc1 := Lib.hid (ho1.src (t := 51) Try.underlying51 (fun u hu => ints_one _ u (List.mem_of_mem_take hu)))
          have HO2 := Lib.hid ho2
          have HB1 := Lib.hid (show (0 + k) * 8 ≤ 140737488355328 by omega)
          have HB2 := Lib.hid (show (k + (M - (k + 1))) * 8 ≤ 140737488355328 by omega)
          have HD := Lib.hid hd
          have HBL := Lib.hid hb2
          clear ho1 ho2 f1 f1' f2 hb1 hb2 hd z1 z2 z3
          go_wp2_with (at_builtin; refine wp_app rfl _ _ 51 51 rfl rfl (Own.nil w 3 1) Try.underlying51 info3 rfl (by decide) rfl hsrc1.out HB1.out ?_)
          intro ao3 cap3 w1 ho3 hoff3 hb3
          have hoff3' : Off [] w w1 := hoff3
          obtain ⟨q1, ⟨qv, q2⟩, q3⟩ := KH.out w1 hoff3'
          have rq := q1.reads
          have hfresh : ∀ y ∈ blk (.slice ao3 k cap3), w.heap.size ≤ y := by
            intro z hz
            rcases hb3 with e | e <;> rw [e] at hz
            · simp [blk] at hz
            · simp at hz; omega
          have hdis : ∀ z ∈ blk (.slice (some ⟨g', off', none⟩) M ucap), z ∉ blk (.slice ao3 k cap3) := by
            intro z hz hz'
            have := hfresh z hz'
            have := HOWN.out.lt z hz
            omega
          have hsrc2 := Lib.hid (((HO2.out.off hoff3' (by simp)).drew).src (t := 51) Try.underlying51 (fun u hu => ints_one _ u (List.mem_of_mem_drop (List.mem_of_mem_take hu))))
          have HO3 := Lib.hid ho3.drew
          have KW : Hid (w1.drew.cell? ⟨qb, 1, none⟩ = some (.slice (some ⟨g, off, none⟩) N cap)) := by show w1.cell? _ = _; rw [q1.cell]; rfl
          have K2 : Hid (∀ w2, Off (blk (.slice ao3 k cap3)) w1.drew w2 → Off [] w w2) := fun w2 ho => Off.trans hoff3'.drew ho (fun z hz => .inr (hfresh z hz))
          have KS : Hid (∀ (W : World) (v : Value), (W.setCell ⟨g, off + i * 2 + 1, none⟩ v).cell? ⟨qb, 1, none⟩ = W.cell? ⟨qb, 1, none⟩) := fun W v => World.cell?_setCell_other W _ _ v (fun e => HG.out.1 (by simpa using congrArg Addr.block e))
          have HF := Lib.hid hfresh
          have HS1 := Lib.hid hoff3'.size
          clear ho3 hoff3 hb3 hoff3' hfresh hdis
          have hwr : IntKind.i64.wrap ((k : Int) + 1) = (k : Int) + 1 := IntWalk.i64_in _ (by omega)
          go_wp2_with fail
          go_region_held3 (fun w' => w'.cell? ⟨qb, 1, none⟩ = some (.slice (some ⟨g, off, none⟩) N cap))
            (first | exact KW.out | (rw [(KH.out _ (K2.out _ hoff4)).1.cell]; rfl) | exact (KS.out _ _).trans ((((KH.out _ (K2.out _ hoff4)).1.cell) 1).trans rfl) | fail)
            (first | (refine step_app (v := .slice ao3 k cap3) rfl _ _ 51 51 rfl rfl HO3.out Try.underlying51 info3 rfl (by decide) rfl hsrc2.out HB2.out ?_; intro ao4 cap4 w2 ho4 hoff4 hb4; obtain ⟨p1, ⟨pv, p2⟩, p3⟩ := KH.out _ (K2.out _ hoff4)))
          have HSZ := Lib.hid (HS1.out)
          have H : Hid (RefStep qb (qb :: (blk (.slice (some ⟨g, off, none⟩) N cap) ++ rtFoot ts)) area (rUndone L b x) w (.returned (.int .i64 0)) (w2.setCell ⟨g, off + i * 2 + 1, none⟩ (.slice ao4 (k + (M - (k + 1))) cap4))) := by
            refine HP.out k (by rw [HY.out, HD.out]) HB.out w w2 _ (Off.refl _ _) ?_ (K2.out _ hoff4) ?_
            · have e1 : List.take k (ints u) = ints (u.take k) := by simp [ints]
              have e2 : List.take ((M - (k + 1)) * 1) (List.drop ((k + 1) * 1) (ints u)) = ints (u.drop (k + 1)) := by
                rw [Nat.mul_one, Nat.mul_one, List.take_of_length_le (by simp [ints, HM.out])]; simp [ints]
              rw [← e1, ← e2]
              exact ho4
            · intro z hz
              rcases hb4 with e | e <;> rw [e] at hz
              · exact HF.out z hz
              · have := HSZ.out
                have hz' : z = w1.heap.size := by simpa using hz
                omega
          clear ho4 hoff4 hb4 p1 p2 p3 KH K2 KS HP HF
          go_wp2_with fail
          go_ret
          exact H.out
        · have hd' : (y == x) = false := by simpa using hd
          have HD := Lib.hid hd
          clear hd
          go_wp2_with fail
          go_round
          case rel =>
            refine ⟨k + 1, by omega, by go_num, ?_⟩
            intro j hj
            by_cases e : j = k
            · subst e; rw [HY.out]; intro e; exact HD.out (Option.some.inj e)
            · exact HB.out j (by omega)
          case measure => simp [intOf]; omega
      · have HX : Hid (x ∉ u) := mem_of_get (fun j hj => HB.out j (by have := HM.out; omega))
        go_wp2_with fail
        go_ret
        exact HN.out HX.out
end Go.Proofs.Ytlhmcbcoaplcaaa
