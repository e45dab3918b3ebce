/- The document's Table: Rows. -/
import Derived.Test.YtlhmcbcoaplcaaaDocE
set_option linter.unusedVariables false
set_option linter.unusedSimpArgs false
namespace Go.Proofs.Ytlhmcbcoaplcaaa
open Go.ChangeShapes Go.WideShapes Go.ChangeAt Go.RowKit

/-- The least birth above the last one. -/
def BestSpec (last : Int) (S : List Rw) (best : Rw) : Prop :=
  (best = Rw.zero ∧ ∀ r ∈ S, r.birth ≤ last) ∨ (best ∈ S ∧ last < best.birth ∧ ∀ r ∈ S, last < r.birth → best.birth ≤ r.birth)
theorem BestSpec.skip {last : Int} {S : List Rw} {best r : Rw} (h : BestSpec last S best) (h0 : 0 ≤ last) (hr : r.birth ≤ last ∨ (best.birth ≠ 0 ∧ best.birth ≤ r.birth)) : BestSpec last (S ++ [r]) best := by
  rcases h with ⟨rfl, h1⟩ | ⟨h1, h2, h3⟩
  · rcases hr with hr | ⟨hr, _⟩
    · refine .inl ⟨rfl, fun x hx => ?_⟩
      rcases List.mem_append.1 hx with q | q
      · exact h1 x q
      · simp at q; subst q; exact hr
    · exact absurd rfl hr
  · refine .inr ⟨by simp [h1], h2, fun x hx hl => ?_⟩
    rcases List.mem_append.1 hx with q | q
    · exact h3 x q hl
    · simp at q; subst q
      rcases hr with hr | ⟨_, hr⟩
      · omega
      · exact hr
theorem BestSpec.take {last : Int} {S : List Rw} {best r : Rw} (h : BestSpec last S best) (h0 : 0 ≤ last) (hr : last < r.birth) (hb : best.birth = 0 ∨ r.birth < best.birth) : BestSpec last (S ++ [r]) r := by
  refine .inr ⟨by simp, hr, fun x hx hl => ?_⟩
  rcases List.mem_append.1 hx with q | q
  · rcases h with ⟨rfl, h1⟩ | ⟨h1, h2, h3⟩
    · have := h1 x q; omega
    · have := h3 x q hl
      rcases hb with hb | hb <;> omega
  · simp at q; subst q; omega
def lastB (L : List Rw) : Nat → Int
  | 0 => 0
  | k + 1 => (L.getD k Rw.zero).birth
theorem lastB_nonneg (L : List Rw) (hb : ∀ r ∈ L, 1 ≤ r.birth) (k : Nat) : 0 ≤ lastB L k := by
  cases k with
  | zero => exact Int.le_refl _
  | succ k =>
    show 0 ≤ (L.getD k Rw.zero).birth
    by_cases h : k < L.length
    · have := hb _ (List.getElem_mem h)
      simp only [List.getD_eq_getElem?_getD, List.getElem?_eq_getElem h, Option.getD_some]; omega
    · simp only [List.getD_eq_getElem?_getD, List.getElem?_eq_none (Nat.le_of_not_lt h), Option.getD_none]; decide
theorem best_final (L M : List Rw) (hs : L.Pairwise (fun a b => a.birth < b.birth)) (hp : L.Perm M) (k : Nat) (hk : k < L.length) (hb : ∀ r ∈ L, 1 ≤ r.birth) {best : Rw} (h : BestSpec (lastB L k) M best) : L[k]? = some best := by
  have hget : ∀ i j (hi : i < L.length) (hj : j < L.length), i < j → L[i].birth < L[j].birth := fun i j hi hj hij => List.pairwise_iff_getElem.1 hs i j hi hj hij
  have habove : lastB L k < L[k].birth := by
    cases k with
    | zero => have := hb _ (List.getElem_mem hk); show (0 : Int) < _; omega
    | succ k =>
      show (L.getD k Rw.zero).birth < _
      have hk' : k < L.length := by omega
      simp only [List.getD_eq_getElem?_getD, List.getElem?_eq_getElem hk', Option.getD_some]
      exact hget k (k + 1) hk' hk (by omega)
  have hmem : L[k] ∈ M := hp.mem_iff.1 (List.getElem_mem hk)
  rcases h with ⟨_, h1⟩ | ⟨h1, h2, h3⟩
  · have := h1 _ hmem; omega
  · have h4 := h3 _ hmem habove
    obtain ⟨j, hj, e⟩ := List.getElem_of_mem (hp.mem_iff.2 h1)
    rcases Nat.lt_trichotomy j k with q | q | q
    · have : L[j].birth ≤ lastB L k := by
        cases k with
        | zero => omega
        | succ k =>
          show _ ≤ (L.getD k Rw.zero).birth
          have hk' : k < L.length := by omega
          simp only [List.getD_eq_getElem?_getD, List.getElem?_eq_getElem hk', Option.getD_some]
          rcases Nat.lt_or_ge j k with q2 | q2
          · exact Int.le_of_lt (hget j k hj hk' q2)
          · have : j = k := by omega
            subst this; exact Int.le_refl _
      rw [e] at this; omega
    · subst q; rw [List.getElem?_eq_getElem hj, e]
    · have := hget k j hk hj q
      rw [e] at this; omega

def sliceN : Value → Nat
  | .slice _ n _ => n
  | _ => 0
/-- Ahead of each round k rows have been told. -/
def RowsRel (w : World) (L : List Rw) (out last : Value) (wr : World) : Prop :=
  ∃ k ao cap, k ≤ L.length ∧ out = .slice ao k cap ∧ last = .int .i64 (lastB L k) ∧ Own wr 70 5 (.slice ao k cap) k (rows (L.take k)) ∧ (∀ x ∈ blk (.slice ao k cap), w.heap.size ≤ x) ∧ Off [] w wr
/-- Ahead of each inner round. -/
def BestRel (w1 : World) (bb : Nat) (M : List Rw) (last : Int) (i : Value) (wr : World) : Prop :=
  ∃ (j : Nat) (b i1 s l n : Int), j ≤ M.length ∧ i = .int .i64 j ∧ Off [] w1 wr ∧ IsC wr bb #[.int .i64 b, .int .i64 i1, .int .i64 s, .int .i64 l, .int .i64 n] 70 ∧ BestSpec last (M.take j) ⟨b, i1, s, l, n⟩

set_option maxRecDepth 100000 in
set_option maxHeartbeats 8000000 in
theorem rowsD56 {w : World} {tb : Nat} {fp : List Nat} {most : Nat} {L M : List Rw} (h : DocP w tb fp most M) (hl : M.length ≤ 8) (hp : L.Perm M) (hs : L.Pairwise (fun a b => a.birth < b.birth)) (hb : ∀ r ∈ L, 1 ≤ r.birth) :
    Calls Try.prog 56 #[.pointer (some ⟨tb, 0, none⟩)] w (Fresh w L.length (rows L)) := by
  obtain ⟨v, hw, rfl⟩ := h
  have HW : Hid (∀ W, Off [] w W → DocW W tb most v M) := fun W ho => hw.off ho (by simp)
  obtain ⟨ao, cap, rfl, _⟩ := own_rows hw.own
  have HLEN := Lib.hid hp.length_eq
  have HBF := Lib.hid (best_final L M hs hp)
  have HNN := Lib.hid (lastB_nonneg L hb)
  have HB := Lib.hid hb
  have HC : Hid (∀ W, Off [] w W → W.cell? ⟨tb, 1, none⟩ = some (.slice ao M.length cap)) := fun W ho => ((HW.out W ho).cells).2
  have HR : Hid (∀ W, Off [] w W → ∀ (i : Nat) (r : Rw), M[i]? = some r → ∃ g off, ao = some ⟨g, off, none⟩ ∧ W.cell? ⟨g, off + i * 5, none⟩ = some (.int .i64 r.birth) ∧ W.cell? ⟨g, off + i * 5 + 1, none⟩ = some (.int .i64 r.id) ∧
    W.cell? ⟨g, off + i * 5 + 2, none⟩ = some (.int .i64 r.state) ∧ W.cell? ⟨g, off + i * 5 + 3, none⟩ = some (.int .i64 r.last) ∧ W.cell? ⟨g, off + i * 5 + 4, none⟩ = some (.int .i64 r.next)) := fun W ho => by
    obtain ⟨ao', cap', e, hr⟩ := own_rows ((HW.out W ho).own)
    simp only [Value.slice.injEq, true_and] at e
    obtain ⟨rfl, rfl⟩ := e
    exact hr
  have HH := Lib.hid (And.intro hs hp)
  have hc0 := HC.out w (Off.refl _ _)
  clear hw hp hs hb HW
  generalize hNN : M.length = N at *
  have HN := Lib.hid hNN
  clear hNN
  go_enter Try.func56, Try.ntmps56
  go_wp2_with fail
  go_loopw [3, 4, 5, 6] (fun o la _ _ wr => RowsRel w L o la wr) (fun o _ _ _ _ => N - sliceN o)
  case atStart => exact ⟨0, none, 0, Nat.zero_le _, rfl, rfl, Own.nil _ _ _, by simp [blk], Off.refl _ _⟩
  case round =>
    obtain ⟨W1, hW1⟩ : ∃ W, W = wr := ⟨_, rfl⟩
    subst hW1
    obtain ⟨k, oao, ocap, hk, rfl, rfl, hown, hfr, ho⟩ := hrel
    have HOWN := Lib.hid hown
    have HFR := Lib.hid hfr
    have HO := Lib.hid ho
    have hc := HC.out W1 ho
    have hkN : k ≤ N := by have := HLEN.out; have := HN.out; omega
    clear hown hfr ho
    by_cases hlt : k < N
    · generalize hla : lastB L k = last at *
      have HLA := Lib.hid hla
      have HL0 : Hid (0 ≤ last) := by rw [← hla]; exact HNN.out k
      clear hla
      have hca := fun ob => HC.out _ (HO.out.alloc ob)
      go_wp2_with fail
      go_loopw [6] (fun i wr => BestRel W1 W1.heap.size M last i wr) (fun i _ => N - (intOf i).toNat)
      case atStart => exact ⟨0, 0, 0, 0, 0, 0, Nat.zero_le _, rfl, (Off.refl _ _).alloc _, IsC.new _ _ _, .inl ⟨rfl, by simp⟩⟩
      case round =>
        obtain ⟨j, b, i1, s, l, n, hj, rfl, ho, hbb, hbs⟩ := hrel
        obtain ⟨k0, k1, k2, k3, k4, kf⟩ := IsC.r5 hbb
        have HO2 := Lib.hid ho
        have HBB := Lib.hid hbb
        have HBS := Lib.hid hbs
        have hj' : j ≤ N := by have := HN.out; omega
        have hc2 := HC.out wr (HO.out.trans ho (by simp))
        clear ho hbb hbs hj
        by_cases hjl : j < N
        · obtain ⟨r, hr⟩ : ∃ r, M[j]? = some r := ⟨M[j]'(by have := HN.out; omega), List.getElem?_eq_getElem _⟩
          obtain ⟨g, off, rfl, g0, g1, g2, g3, g4⟩ := HR.out wr (HO.out.trans HO2.out (by simp)) j r hr
          have htk : M.take (j + 1) = M.take j ++ [r] := by rw [List.take_add_one, hr]; rfl
          have HTK := Lib.hid htk
          have HJ := Lib.hid (show j + 1 ≤ M.length by have := HN.out; omega)
          clear hr htk
          obtain ⟨rb, ri, r3, r4, r5⟩ := r
          simp only at g0 g1 g2 g3 g4
          have HT : Hid (BestSpec last (M.take j ++ [⟨rb, ri, r3, r4, r5⟩]) ⟨rb, ri, r3, r4, r5⟩ → ∀ W, Off [] wr W → BestRel W1 W1.heap.size M last (.int .i64 ((j : Int) + 1))
              (((((W.setCell ⟨W1.heap.size, 0, none⟩ (.int .i64 rb)).setCell ⟨W1.heap.size, 1, none⟩ (.int .i64 ri)).setCell ⟨W1.heap.size, 2, none⟩ (.int .i64 r3)).setCell ⟨W1.heap.size, 3, none⟩ (.int .i64 r4)).setCell ⟨W1.heap.size, 4, none⟩ (.int .i64 r5))) :=
            fun hs W hW => ⟨j + 1, rb, ri, r3, r4, r5, HJ.out, by push_cast; rfl, off_row5 (HO2.out.trans hW (by simp)) (Nat.le_refl _) _ _ _ _ _, row5_set (IsC.off (S := []) HBB.out hW (by simp)) _ _ _ _ _, by rw [HTK.out]; exact hs⟩
          by_cases h1 : last < rb
          · by_cases h2 : b = 0
            · have h2' : (b == 0) = true := by simpa using h2
              have HS := Lib.hid (HBS.out.take HL0.out (r := ⟨rb, ri, r3, r4, r5⟩) h1 (.inl h2))
              have hd : decide (last < rb) = true := by simpa using h1
              have HT2 := Lib.hid (HT.out HS.out)
              clear HT HS
              go_wp2_with fail
              go_quiet (fail)
              go_wp2_with fail
              go_roundw
              case rel => exact HT2.out _ ((Off.refl _ _).drewN _)
              case measure => simp [intOf]; omega
            · have h2' : (b == 0) = false := by simpa using h2
              by_cases h3 : rb < b
              · have HS := Lib.hid (HBS.out.take HL0.out (r := ⟨rb, ri, r3, r4, r5⟩) h1 (.inr h3))
                have hd3 : decide (rb < b) = true := by simpa using h3
                have hd : decide (last < rb) = true := by simpa using h1
                have HT2 := Lib.hid (HT.out HS.out)
                clear HT HS
                go_wp2_with fail
                go_quiet (fail)
                go_wp2_with fail
                go_roundw
                case rel => exact HT2.out _ ((Off.refl _ _).drewN _)
                case measure => simp [intOf]; omega
              · have HS := Lib.hid (HBS.out.skip HL0.out (r := ⟨rb, ri, r3, r4, r5⟩) (.inr ⟨h2, by simpa using h3⟩))
                have hd : decide (last < rb) = true := by simpa using h1
                have hd3 : decide (rb < b) = false := by simpa using h3
                go_wp2_with fail
                go_quiet (fail)
                go_wp2_with fail
                go_roundw
                case rel => exact ⟨j + 1, b, i1, s, l, n, HJ.out, by go_num, HO2.out.drewN _, IsC.off (S := []) HBB.out ((Off.refl _ _).drewN _) (by simp), by rw [HTK.out]; exact HS.out⟩
                case measure => simp [intOf]; omega
          · have HS := Lib.hid (HBS.out.skip HL0.out (r := ⟨rb, ri, r3, r4, r5⟩) (.inl (by simpa using h1)))
            have hd : decide (last < rb) = false := by simpa using h1
            go_wp2_with fail
            go_quiet (fail)
            go_wp2_with fail
            go_roundw
            case rel => exact ⟨j + 1, b, i1, s, l, n, HJ.out, by go_num, HO2.out.drewN _, IsC.off (S := []) HBB.out ((Off.refl _ _).drewN _) (by simp), by rw [HTK.out]; exact HS.out⟩
            case measure => simp [intOf]; omega
        · have e : j = N := by omega
          subst e
          have hbest : L[k]? = some ⟨b, i1, s, l, n⟩ := by
            refine HBF.out k (by have := HLEN.out; omega) HB.out ?_
            have q := HBS.out
            rw [List.take_of_length_le (by have := HN.out; omega)] at q
            rw [HLA.out]; exact q
          have HBEST := Lib.hid hbest
          have hsz1 := HOWN.out.lt
          have HBO : Hid (W1.heap.size ∉ blk (.slice oao k ocap)) := fun hx => by have := hsz1 _ hx; omega
          have HOA : Hid (Own (wr.alloc (.cells #[.int .i64 b, .int .i64 i1, .int .i64 s, .int .i64 l, .int .i64 n] 70)) 70 5 (.slice oao k ocap) k (rows (L.take k))) := (HOWN.out.off HO2.out (by simp)).alloc _
          have HSRC := Lib.hid (src_new (P := Try.prog) wr (t := 23) (e := 70) (e' := 70) (sz := 5) #[.int .i64 b, .int .i64 i1, .int .i64 s, .int .i64 l, .int .i64 n] 1 Try.underlying23 (by decide) rfl (by simp [Value.oneCell']))
          have HBD := Lib.hid (show (k + 1) * 40 ≤ 140737488355328 by omega)
          have HREL : Hid (∀ ao5 cap5 w5, Own w5 70 5 (.slice ao5 (k + 1) cap5) (k + 1) (rows (L.take k) ++ rcells ⟨b, i1, s, l, n⟩) → Off (blk (.slice oao k ocap)) (wr.alloc (.cells #[.int .i64 b, .int .i64 i1, .int .i64 s, .int .i64 l, .int .i64 n] 70)) w5 →
              (blk (.slice ao5 (k + 1) cap5) = blk (.slice oao k ocap) ∨ ∀ x ∈ blk (.slice ao5 (k + 1) cap5), wr.heap.size ≤ x) → w5.cell? ⟨W1.heap.size, 0, none⟩ = some (.int .i64 b) ∧ RowsRel w L (.slice ao5 (k + 1) cap5) (.int .i64 b) w5) := by
            intro ao5 cap5 w5 q1 q2 q3
            have hx : IsC w5 W1.heap.size #[.int .i64 b, .int .i64 i1, .int .i64 s, .int .i64 l, .int .i64 n] 70 := (HBB.out.alloc _).off q2 HBO.out
            have hsz2 := HO.out.size
            have hsz3 := HO2.out.size
            have htk : L.take (k + 1) = L.take k ++ [⟨b, i1, s, l, n⟩] := by rw [List.take_add_one, HBEST.out]; rfl
            have hkl := (List.getElem?_eq_some_iff.1 HBEST.out).1
            refine ⟨hx.r5.1, k + 1, ao5, cap5, by omega, rfl, ?_, ?_, fun x hx => ?_, ?_⟩
            · show _ = Value.int .i64 (L.getD k Rw.zero).birth
              rw [List.getD_eq_getElem?_getD, HBEST.out]; rfl
            · rw [htk, rows_append]; simpa [rows] using q1
            · rcases q3 with q | q
              · rw [q] at hx; exact HFR.out x hx
              · have := q x hx; omega
            · exact ((HO.out.trans HO2.out (by simp)).alloc _).trans q2 (fun x hx => .inr (HFR.out x hx))
          clear hsz1 HBO HBF HB HNN HR hbest HBS
          go_wp2_with (at_builtin; refine wp_app rfl _ _ 23 23 rfl rfl HOA.out Try.underlying23 iinfo70 rfl (by decide) rfl HSRC.out HBD.out ?_)
          intro ao5 cap5 w5 q1 q2 q3
          obtain ⟨z0, hrel⟩ := HREL.out ao5 cap5 w5 q1 q2 (by rcases q3 with q | q; exact .inl q; exact .inr (fun x hx => by rw [q] at hx; simp at hx; omega))
          have HRL := Lib.hid hrel
          clear q1 q2 q3 hrel HREL HOA HSRC
          go_wp2_with fail
          go_roundw
          case rel => exact HRL.out
          case measure => show _ - (k + 1) < _ - k; omega
    · have e : k = N := by omega
      subst e
      have H : Hid (Fresh w L.length (rows L) (.returned (.slice oao k ocap)) W1) := by
        have e1 : k = L.length := by have := HLEN.out; have := HN.out; omega
        have q := HOWN.out
        rw [List.take_of_length_le (by omega)] at q
        rw [← e1]
        exact ⟨oao, ocap, rfl, q, HO.out, HFR.out⟩
      clear HOWN HFR HR
      go_wp2_with fail
      go_ret
      exact H.out
end Go.Proofs.Ytlhmcbcoaplcaaa
