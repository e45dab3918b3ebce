/- Of, Kept and Fits of the document's Room. -/
import Derived.Test.YtlhmcbcoaplcaaaRefP
set_option linter.unusedVariables false
set_option linter.unusedSimpArgs false
namespace Go.Proofs.Ytlhmcbcoaplcaaa
open Go.ChangeShapes Go.WideShapes Go.ChangeAt Go.RowKit

/-- How many things a state holds. -/
def cnt : Txns → Nat
  | [] => 0
  | p :: L => 1 + p.2.length + cnt L
/-- The state is a right one, of at most n things. -/
structure Wf (L : Txns) (n : Nat) : Prop where
  births : (L.map (·.1)).Nodup
  good : ∀ p ∈ L, good p.2
  cnt : cnt L ≤ n
  small : n < 4398046511104

theorem ksum_cnt (u : List Int) (h : good u) : ksum u ≤ 99 + 65581 * (u.length : Int) := by
  induction u with
  | nil => simp [ksum]
  | cons a u ih =>
    have := h a (by simp)
    have := ih (fun n hn => h n (by simp [hn]))
    simp only [ksum, List.length_cons]; omega
theorem tot_cnt (L : Txns) (h : ∀ p ∈ L, good p.2) : tot L ≤ 65581 * (cnt L : Int) := by
  induction L with
  | nil => simp [tot, cnt]
  | cons p L ih =>
    have := ksum_cnt p.2 (h p (by simp))
    have := ih (fun q hq => h q (by simp [hq]))
    simp only [tot, cnt]; omega
theorem Wf.big {L : Txns} {n : Nat} (h : Wf L n) : tot L ≤ big := by
  have h1 := tot_cnt L h.good
  have h2 := h.cnt
  have h3 := h.small
  unfold Ytlhmcbcoaplcaaa.big; omega
theorem len_cnt (L : Txns) : L.length ≤ cnt L := by
  induction L with
  | nil => simp
  | cons p L ih => simp only [cnt, List.length_cons]; omega
theorem mem_cnt {L : Txns} {p : Int × List Int} (h : p ∈ L) : p.2.length + 1 ≤ cnt L := by
  induction L with
  | nil => simp at h
  | cons q L ih =>
    simp only [cnt]
    rcases List.mem_cons.1 h with rfl | h
    · omega
    · have := ih h; omega
theorem Wf.len {L : Txns} {n : Nat} (h : Wf L n) : L.length < 4398046511104 := by
  have := len_cnt L; have := h.cnt; have := h.small; omega

theorem ksum_take (u : List Int) (k : Nat) (n : Int) (h : u[k]? = some n) : ksum (u.take (k + 1)) = ksum (u.take k) + (46 + n) := by
  rw [List.take_add_one, h]; exact ksum_snoc _ _
theorem good_take {u : List Int} (h : good u) (k : Nat) : good (u.take k) := fun n hn => h n (List.mem_of_mem_take hn)
theorem ksum_take_le (u : List Int) (h : good u) (k : Nat) : ksum (u.take k) ≤ ksum u := by
  induction u generalizing k with
  | nil => simp
  | cons a u ih =>
    have h1 := h a (by simp)
    have h2 : good u := fun n hn => h n (by simp [hn])
    cases k with
    | zero => have := ksum_pos u h2; simp only [List.take_zero, ksum]; omega
    | succ k => have := ih h2 k; simp only [List.take_succ_cons, ksum]; omega

/-- What the walk reads of one transaction. -/
theorem RefAt.view {w : World} {qb : Nat} {area : Int} {L : Txns} {Lv : Value} {ts : List Rt} (h : RefAt w qb area L Lv ts) {i : Nat} {b : Int} {u : List Int} (hi : L[i]? = some (b, u)) :
    ∃ g off cap t, Lv = .slice (some ⟨g, off, none⟩) ts.length cap ∧ ts[i]? = some t ∧ i < ts.length ∧ ts.length = L.length ∧ t.birth = b ∧ t.ups = u ∧ w.cell? ⟨g, off + i * 2, none⟩ = some (.int .i64 b) ∧ w.cell? ⟨g, off + i * 2 + 1, none⟩ = some t.uv ∧
      Own w 3 1 t.uv u.length (ints u) := by
  obtain ⟨a1, a2, a3, a4, a5⟩ := h
  rw [← a5, List.getElem?_map] at hi
  cases ht : ts[i]? with
  | none => rw [ht] at hi; simp at hi
  | some t =>
    rw [ht] at hi
    simp only [Option.map_some, Option.some.injEq, rtTx, Prod.mk.injEq] at hi
    have hil : i < ts.length := (List.getElem?_eq_some_iff.1 ht).1
    rcases a3.2 with ⟨_, h0⟩ | ⟨g, off, cap, cur, rfl, _⟩
    · omega
    · refine ⟨g, off, cap, t, rfl, rfl, hil, by rw [← a5]; simp, hi.1, hi.2, ?_, ?_, ?_⟩
      · rw [a3.cellAt (i * 2) (by omega), (rtCells_get ts i t ht).1, hi.1]
      · rw [Nat.add_assoc, a3.cellAt (i * 2 + 1) (by omega), (rtCells_get ts i t ht).2]
      · have := a4 t (List.mem_of_getElem? ht)
        rw [hi.2] at this
        exact this

theorem ints_get {w : World} {v : Value} {u : List Int} (h : Own w 3 1 v u.length (ints u)) : ∃ ao cap, v = .slice ao u.length cap ∧ (0 < u.length → ∃ g off, ao = some ⟨g, off, none⟩) ∧ ∀ g off, ao = some ⟨g, off, none⟩ → ∀ (j : Nat) (n : Int), u[j]? = some n → w.cell? ⟨g, off + j, none⟩ = some (.int .i64 n) := by
  rcases h.2 with ⟨rfl, h0⟩ | ⟨g, off, cap, cur, rfl, _⟩
  · exact ⟨none, 0, by rw [h0], by omega, by simp⟩
  · refine ⟨_, cap, rfl, fun _ => ⟨g, off, rfl⟩, fun g' off' e j n hj => ?_⟩
    simp only [Option.some.injEq, Addr.mk.injEq, and_true] at e
    obtain ⟨rfl, rfl⟩ := e
    have hl := (List.getElem?_eq_some_iff.1 hj).1
    rw [h.cellAt j (by omega)]
    simp [ints, hj]

set_option maxRecDepth 100000 in
set_option maxHeartbeats 1000000 in
theorem ofR_any (qb : Nat) (fp : List Nat) (area b : Int) (L : Txns) (n : Nat) (w : World) (h : RefP w qb fp area L) (hw : Wf L n) :
    Calls Try.prog 25 #[.pointer (some ⟨qb, 0, none⟩), .int .i64 b] w fun e w' => e = .returned (.int .i64 (rOf L b)) ∧ w = w' := by
  have HA := Lib.hid (at_any qb fp area b L w h hw.len)
  obtain ⟨Lv, ts, rfl, hat⟩ := h
  have a2 := hat.head
  have c := a2.reads
  rcases pos_spec L b with ⟨h1, h2, _⟩ | ⟨i, u, h1, h2, h3, _⟩
  · have e1 : posI L b = -1 := by simp [posI, h1]
    have e2 : rOf L b = 0 := by simp [rOf, h2]
    rw [e1] at HA
    rw [e2]
    clear h1 h2 hat e1 e2 hw
    go_enter Try.func25, Try.ntmps25
    go_wp2_with fail
    refine HA.out.mono ?_
    rintro e w1 ⟨rfl, rfl⟩
    go_wp2_with fail
    go_ret
    exact ⟨rfl, rfl⟩
  · have e1 : posI L b = i := by simp [posI, h1]
    have e2 : rOf L b = ksum u := by simp [rOf, h3]
    rw [e1] at HA
    rw [e2]
    obtain ⟨g, off, cap, t, rfl, ht, hil, hlen, hb, hu, hc1, hc2, hown⟩ := hat.view h2
    have hgood : good u := hw.good (b, u) (List.mem_of_getElem? h2)
    have hmc := mem_cnt (List.mem_of_getElem? h2)
    have hcn := hw.cnt
    have hsm := hw.small
    have hln := hw.len
    obtain ⟨ao, ucap, huv, hne, hcell⟩ := ints_get hown
    rw [huv] at hc2
    have hul : u.length < 4398046511104 := by simp only at hmc; omega
    have HG := Lib.hid hgood
    have HN := Lib.hid hne
    have HC := Lib.hid hcell
    have hiN : ts.length < 4398046511104 := by omega
    clear h1 h2 h3 hat hw e1 e2 ht hlen hb hu hc1 hown hgood hmc hcn hsm hln huv hne hcell
    generalize hNN : ts.length = N at *
    clear hNN
    generalize hMM : u.length = M at *
    have HM := Lib.hid hMM
    clear hMM
    go_enter Try.func25, Try.ntmps25
    go_wp2_with fail
    refine HA.out.mono ?_
    rintro e w1 ⟨rfl, rfl⟩
    clear HA
    go_wp2_with fail
    go_loop [6, 7] (fun s k => ∃ j : Nat, j ≤ M ∧ k = .int .i64 j ∧ s = .int .i64 (ksum (u.take j))) (fun _ k => M - (intOf k).toNat)
    case atStart => exact ⟨0, Nat.zero_le _, rfl, rfl⟩
    case round =>
      obtain ⟨j, hj, rfl, rfl⟩ := hrel
      by_cases hlt : j < M
      · obtain ⟨g', off', rfl⟩ := HN.out (by have := HM.out; omega)
        obtain ⟨x, hx⟩ : ∃ x, u[j]? = some x := ⟨u[j]'(by have := HM.out; omega), List.getElem?_eq_getElem _⟩
        have hcx := HC.out g' off' rfl j x hx
        have HX := Lib.hid hx
        clear hx
        go_wp2_with fail
        refine (frame_ref _ _ _ _).mono ?_
        rintro e w1 ⟨rfl, rfl⟩
        have hgx := HG.out x (List.mem_of_getElem? HX.out)
        rw [frameV3 x hgx.1 hgx.2]
        clear hgx
        go_wp2_with fail
        go_round
        case rel =>
          refine ⟨j + 1, by omega, by go_num, ?_⟩
          have hgx := HG.out x (List.mem_of_getElem? HX.out)
          have h1 := ksum_take u j x HX.out
          have h2 := ksum_pos _ (good_take HG.out j)
          have h3 := ksum_cnt _ (good_take HG.out j)
          rw [h1, wadd (by omega) (by unfold imax; simp at h3; omega)]
        case measure => simp [intOf]; omega
      · have : j = M := by omega
        subst this
        have he : u.take j = u := List.take_of_length_le (by have := HM.out; omega)
        rw [he]
        clear he
        go_wp2_with fail
        go_ret
        exact ⟨rfl, rfl⟩
end Go.Proofs.Ytlhmcbcoaplcaaa
