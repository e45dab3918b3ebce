/- Table: Get, ById, Count. -/
import Derived.Test.YtlhmcbcoaplcaaaTabO
set_option linter.unusedVariables false
set_option linter.unusedSimpArgs false
namespace Go.Proofs.Ytlhmcbcoaplcaaa
open Go.ChangeShapes Go.WideShapes Go.ChangeAt Go.RowKit

def zero70 : Obj := .cells #[.int .i64 0, .int .i64 0, .int .i64 0, .int .i64 0, .int .i64 0] 70
theorem mapid {α : Type} (l : List α) : l.map (fun a => a) = l := List.map_id' l

theorem TabP.get58 {w : World} {tb : Nat} {fp : List Nat} {most : Nat} {L : List Rw} (h : TabP w tb fp most L) (x : Int) :
    Calls Try.prog 58 #[.pointer (some ⟨tb, 1, none⟩), .int .i64 x] w fun e w' => e = .returned (.tuple #[ragg ((getL L x).getD Rw.zero), .bool (getL L x).isSome]) ∧ Off [] w w' := by
  obtain ⟨k1, v1, k2, v2, I, h1, h2, rfl⟩ := h
  obtain ⟨hc, hc2⟩ := h1.o1.cells
  have hl := h2.len; have hm := h2.small
  have q := Ytlhmcbcoaplcaaa.get58 tb 1 (L.map Rw.birth) L k1 v1 x w hc hc2 (by rw [List.length_map]; exact h1.o1.keys) h1.o1.vals (List.length_map _) (by rw [List.length_map]; omega)
    (List.pairwise_map.2 (h2.srt.imp (fun h => by omega)))
  have e : look (L.map Rw.birth) L x = getL L x := by
    have := look_find Rw.birth (fun a => a) L x h2.srt
    rw [mapid] at this; rw [this]; simp [getL]
  rwa [e] at q
theorem TabP.get59 {w : World} {tb : Nat} {fp : List Nat} {most : Nat} {L : List Rw} (h : TabP w tb fp most L) (x : Int) :
    ∃ b : Int, ((idL L x).isSome = true → getL L b = idL L x) ∧ Calls Try.prog 59 #[.pointer (some ⟨tb, 3, none⟩), .int .i64 x] w fun e w' => e = .returned (.tuple #[.int .i64 b, .bool (idL L x).isSome]) ∧ w = w' := by
  obtain ⟨k1, v1, k2, v2, I, h1, h2, rfl⟩ := h
  obtain ⟨hc, hc2⟩ := h1.o2.cells
  have hl := h2.len; have hm := h2.small; have hi := h2.ilen
  have q := Ytlhmcbcoaplcaaa.get59 tb 3 (I.map Prod.fst) (I.map Prod.snd) k2 v2 x w hc hc2 (by rw [List.length_map]; exact h1.o2.keys) (by rw [List.length_map]; exact h1.o2.vals) (by rw [List.length_map, List.length_map]) (by rw [List.length_map]; omega)
    (List.pairwise_map.2 (h2.isrt.imp (fun h => by omega)))
  obtain ⟨b1, b2⟩ := h2.byId x
  rw [b2] at q
  refine ⟨_, fun hs => ?_, q⟩
  cases e : look (I.map Prod.fst) (I.map Prod.snd) x with
  | none => rw [e] at b2; rw [hs] at b2; cases b2
  | some b => rw [e] at b1; exact b1

/-- A row in a block of its own. -/
def R5 (w : World) (g : Nat) (b i s l n : Int) : Prop :=
  w.cell? ⟨g, 0, none⟩ = some (.int .i64 b) ∧ w.cell? ⟨g, 1, none⟩ = some (.int .i64 i) ∧ w.cell? ⟨g, 2, none⟩ = some (.int .i64 s) ∧ w.cell? ⟨g, 3, none⟩ = some (.int .i64 l) ∧ w.cell? ⟨g, 4, none⟩ = some (.int .i64 n) ∧ ∀ o, w.frozen? ⟨g, o, none⟩ = false
theorem IsC.r5 {w : World} {g : Nat} {b i s l n : Int} (q : IsC w g #[.int .i64 b, .int .i64 i, .int .i64 s, .int .i64 l, .int .i64 n] 70) : R5 w g b i s l n :=
  ⟨by rw [q.cell]; rfl, by rw [q.cell]; rfl, by rw [q.cell]; rfl, by rw [q.cell]; rfl, by rw [q.cell]; rfl, q.unfrozen⟩
theorem row_new (w : World) (b i s l n : Int) (w1 : World) (ho : Off [] (w.alloc (.cells #[.int .i64 b, .int .i64 i, .int .i64 s, .int .i64 l, .int .i64 n] 70)) w1) : R5 w1 w.heap.size b i s l n := ((IsC.new w _ 70).off ho (by simp)).r5
theorem off_row5 {S : List Nat} {a w : World} {g : Nat} (h : Off S a w) (hg : a.heap.size ≤ g) (b i s l n : Value) :
    Off S a (((((w.setCell ⟨g, 0, none⟩ b).setCell ⟨g, 1, none⟩ i).setCell ⟨g, 2, none⟩ s).setCell ⟨g, 3, none⟩ l).setCell ⟨g, 4, none⟩ n) :=
  ((((h.setCell (.inr hg) _).setCell (.inr hg) _).setCell (.inr hg) _).setCell (.inr hg) _).setCell (.inr hg) _

set_option maxRecDepth 100000 in
set_option maxHeartbeats 2000000 in
theorem get38 {w : World} {tb : Nat} {fp : List Nat} {most : Nat} {L : List Rw} (h : TabP w tb fp most L) (x : Int) :
    Calls Try.prog 38 #[.pointer (some ⟨tb, 0, none⟩), .int .i64 x] w fun e w' => e = .returned (.tuple #[ragg ((getL L x).getD Rw.zero), .bool (getL L x).isSome]) ∧ Off [] w w' := by
  have HG := Lib.hid ((h.off ((Off.refl [] w).alloc zero70) (by simp)).get58 x)
  obtain ⟨r, hr⟩ : ∃ r, r = (getL L x).getD Rw.zero := ⟨_, rfl⟩
  generalize (getL L x).isSome = bo at *
  rw [← hr] at HG ⊢
  clear hr h
  obtain ⟨b, i, s, l, n⟩ := r
  unfold zero70 ragg at HG
  simp only at HG
  have HN := Lib.hid (row_new w 0 0 0 0 0)
  go_enter Try.func38, Try.ntmps38
  go_wp2_with (go_at_call 58; refine HG.out.mono ?_; rintro e w1 ⟨rfl, ho⟩; obtain ⟨k0, k1, k2, k3, k4, hf⟩ := HN.out _ ho; have HO := Lib.hid (Off.trans ((Off.refl [] w).alloc _) ho (by simp)); clear ho)
  refine bodyPost_ret (v := .tuple #[ragg ⟨b, i, s, l, n⟩, .bool bo]) (by rw [results_cell_tmp rfl]; go_simp; try rfl) rfl ?_
  exact ⟨rfl, off_row5 HO.out (Nat.le_refl _) _ _ _ _ _⟩

set_option maxRecDepth 100000 in
set_option maxHeartbeats 2000000 in
theorem byId39 {w : World} {tb : Nat} {fp : List Nat} {most : Nat} {L : List Rw} (h : TabP w tb fp most L) (x : Int) :
    Calls Try.prog 39 #[.pointer (some ⟨tb, 0, none⟩), .int .i64 x] w fun e w' => e = .returned (.tuple #[ragg ((idL L x).getD Rw.zero), .bool (idL L x).isSome]) ∧ Off [] w w' := by
  obtain ⟨c, hc, hg⟩ := (h.off ((Off.refl [] w).alloc zero70) (by simp)).get59 x
  have HF := Lib.hid hg
  have HG := Lib.hid (get38 (h.off ((Off.refl [] w).alloc zero70) (by simp)) c)
  have HN := Lib.hid (row_new w 0 0 0 0 0)
  unfold zero70 at HF HG
  clear hg h
  cases e : idL L x with
  | none =>
    rw [e] at HF
    simp only [Option.isSome_none, Option.getD_none] at HF ⊢
    clear hc e HG
    go_enter Try.func39, Try.ntmps39
    go_wp2_with (go_at_call 59; refine HF.out.mono ?_; rintro e w1 ⟨rfl, rfl⟩)
    refine bodyPost_ret (v := .tuple #[ragg Rw.zero, .bool false]) (by rw [results_cell_tmp rfl]; go_simp; try rfl) rfl ?_
    exact ⟨rfl, (Off.refl _ _).alloc _⟩
  | some r =>
    rw [e] at HF hc
    rw [hc rfl] at HG
    simp only [Option.isSome_some, Option.getD_some] at HF HG ⊢
    clear hc e
    obtain ⟨b, i, s, l, n⟩ := r
    unfold ragg at HG
    simp only at HG
    go_enter Try.func39, Try.ntmps39
    go_wp2_with (first
      | (go_at_call 59; refine HF.out.mono ?_; rintro e w1 ⟨rfl, rfl⟩)
      | (go_at_call 38; refine HG.out.mono ?_; rintro e w1 ⟨rfl, ho⟩; obtain ⟨k0, k1, k2, k3, k4, hf⟩ := HN.out _ ho; have HO := Lib.hid (Off.trans ((Off.refl [] w).alloc _) ho (by simp)); clear ho))
    refine bodyPost_ret (v := .tuple #[ragg ⟨b, i, s, l, n⟩, .bool true]) (by rw [results_cell_tmp rfl]; go_simp; try rfl) rfl ?_
    exact ⟨rfl, off_row5 HO.out (Nat.le_refl _) _ _ _ _ _⟩

set_option maxHeartbeats 1000000 in
theorem count36 {w : World} {tb : Nat} {fp : List Nat} {most : Nat} {L : List Rw} (h : TabP w tb fp most L) :
    Calls Try.prog 36 #[.pointer (some ⟨tb, 0, none⟩)] w fun e w' => e = .returned (.int .i64 L.length) ∧ w = w' := by
  obtain ⟨k1, v1, k2, v2, I, h1, h2, rfl⟩ := h
  obtain ⟨hc, hc2⟩ := h1.o1.cells
  obtain ⟨ao, cap, rfl, _⟩ := h1.o1.keys.val
  generalize L.length = N at *
  clear h1 h2
  go_enter Try.func36, Try.ntmps36
  go_wp2
  go_ret
  exact ⟨rfl, rfl⟩
end Go.Proofs.Ytlhmcbcoaplcaaa
