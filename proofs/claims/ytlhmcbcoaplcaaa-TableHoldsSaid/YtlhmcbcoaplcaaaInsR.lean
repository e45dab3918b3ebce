/- slices.Insert (one element) and slices.Delete (one element) at elements of 5 cells. -/
import Derived.Test.YtlhmcbcoaplcaaaDelL
import Derived.Test.YtlhmcbcoaplcaaaRows
import Derived.Deep.RegionHeld3
import Derived.Deep.QuietTactic
import Derived.BigQuiet
set_option linter.unusedVariables false
set_option linter.unusedSimpArgs false
namespace Go.Proofs.Ytlhmcbcoaplcaaa
open Go.ChangeShapes Go.WideShapes Go.ChangeAt Go.RowKit

theorem iinfo70 : (Try.prog.info? 70).map (fun i => (i.zero, i.size, i.bytes)) = some (some (.agg #[.int .i64 0, .int .i64 0, .int .i64 0, .int .i64 0, .int .i64 0]), 5, 40) := by kernel_rfl
theorem isize70 : (Try.prog.info? 70).map (·.size) = some 5 := by kernel_rfl
theorem iover76 {w : World} {vb g : Nat} {news cur : Array Value} (hx : IsC w vb news 70) (hc : IsC w g cur 70) (hne : vb ≠ g) (hk : cur.size ≠ 0) (off la ca lb cb : Nat) :
    (callFunc 76 #[.slice (some ⟨vb, 0, none⟩) la ca, .slice (some ⟨g, off, none⟩) lb cb]).run Try.prog w = .ok (.value (.bool false)) w := by
  rw [run_callFunc_extern Try.func76 (by kernel_rfl) (by kernel_rfl) (by kernel_rfl) (e := Extern.SlicesOverlaps.overlaps #[23, 23] #[4]) (by kernel_rfl),
    Lib.run_overlaps_apart w 23 4 70 Try.underlying23 5 (fun W => by have q := sz_elem (P := Try.prog) (t := 23) Try.underlying23 isize70 W; rwa [show Try.prog.elem 23 = 70 by simp [Program.elem, Try.underlying23]] at q) ⟨vb, 0, none⟩ ⟨g, off, none⟩ la ca lb cb hne 70 70 news.size cur.size hx.shape hc.shape hk (hx.unfrozen _) (hx.unfrozen _)]
  rfl

def Ins70 (w : World) (v : Value) (n i : Nat) (xs news : List Value) (e : Ending) (w' : World) : Prop :=
  ∃ ao cap, e = .returned (.slice ao (n + 1) cap) ∧ Own w' 70 5 (.slice ao (n + 1) cap) (n + 1) (xs.take (i * 5) ++ (news ++ xs.drop (i * 5))) ∧ Off (blk v) w w' ∧ ∀ x ∈ blk (.slice ao (n + 1) cap), x ∈ blk v ∨ w.heap.size ≤ x

set_option maxRecDepth 100000 in
set_option maxHeartbeats 4000000 in
theorem insert70 (v : Value) (n i vb : Nat) (xs news : List Value) (w : World) (h : Own w 70 5 v n xs) (hi : i ≤ n) (hn : n < 1000000) (hnl : news.length = 5) (h1x : ∀ u ∈ xs, u.oneCell' = true) (h1n : ∀ u ∈ news, u.oneCell' = true) (hx : IsC w vb news.toArray 70) (hvb : vb ∉ blk v) :
    Calls Try.prog 70 #[v, .int .i64 i, .slice (some ⟨vb, 0, none⟩) 1 1] w (Ins70 w v n i xs news) := by
  obtain ⟨ra, rc, ro, rb, rx, rl, rh⟩ := h.cut (t := 23) Try.underlying23 isize70 i n hi (Nat.le_refl _)
  have R1 := rl rfl
  clear rx rh ro rb rl
  have hsrc : Src Try.prog 5 23 (.slice (some ⟨vb, 0, none⟩) 1 1) 1 news w := Src.ofSlice w Try.underlying23 ⟨vb, 0, none⟩ 1 1 news (by simpa using hnl) (fun j u hj => by rw [Addr.add_lit, hx.cell, Nat.zero_add]; simpa using hj) h1n
  have HB : Hid ((n + 1) * 40 ≤ 140737488355328) := by show (n + 1) * 40 ≤ 140737488355328; omega
  by_cases hin : i = n
  · subst hin
    have HP : Hid (∀ ao cap w', Own w' 70 5 (.slice ao (i + 1) cap) (i + 1) (xs ++ news) → Off (blk v) w w' → (blk (.slice ao (i + 1) cap) = blk v ∨ blk (.slice ao (i + 1) cap) = [w.heap.size]) → Ins70 w v i i xs news (.returned (.slice ao (i + 1) cap)) w') := by
      intro ao cap w' ho hoff hb
      refine ⟨ao, cap, rfl, ?_, hoff, fun y hy => ?_⟩
      · rw [List.take_of_length_le (by rw [h.1]; exact Nat.le_refl _), List.drop_of_length_le (by rw [h.1]; exact Nat.le_refl _), List.append_nil]; exact ho
      · rcases hb with q | q <;> rw [q] at hy
        · exact .inl hy
        · simp at hy; exact .inr (by omega)
    have HO := Lib.hid h
    have HS := Lib.hid hsrc
    obtain ⟨ao0, cap0, rfl, _⟩ := h.val
    clear h hsrc hx hvb hi h1x h1n hnl
    go_enter Try.func70, Try.ntmps70
    go_wp2_with (at_builtin; refine wp_app rfl _ _ 23 23 rfl rfl HO.out Try.underlying23 iinfo70 rfl (by decide) rfl HS.out HB.out ?_)
    intro ao cap w' ho hoff hb
    have H := Lib.hid (HP.out ao cap w' ho hoff hb)
    clear ho hoff hb HP
    go_wp2_with fail
    go_ret
    exact H.out
  · have hlt : i < n := by omega
    clear hin hi
    rcases h.2 with ⟨_, h0⟩ | ⟨g, off, cap, cur, rfl, hc, hnc, hcm, hcs, htake⟩
    · omega
    have hvg : vb ≠ g := by simpa [blk] using hvb
    have hxs := h.1
    have hcapm : cap ≤ 9223372036854775807 := by simpa [maxLen] using hcm
    have hncm : n * 5 ≤ cap * 5 := Nat.mul_le_mul_right _ hnc
    have him : (i + 1) * 5 ≤ n * 5 := Nat.mul_le_mul_right _ hlt
    have hdl : (xs.drop (i * 5)).length = (n - i) * 5 := by rw [List.length_drop, hxs, Nat.sub_mul]
    have hdn : (n - i) * 5 = n * 5 - i * 5 := Nat.sub_mul _ _ _
    have him2 : (i + 1) * 5 = i * 5 + 5 := by rw [Nat.add_mul, Nat.one_mul]
    have hcx : ∀ j u, (xs.drop (i * 5))[j]? = some u → w.cell? ⟨g, off + i * 5 + j, none⟩ = some u := by
      intro j u hj
      have hjl := (List.getElem?_eq_some_iff.1 hj).1
      rw [List.getElem?_drop] at hj
      rw [Nat.add_assoc, h.cellAt (i * 5 + j) (by omega)]
      exact hj
    by_cases hroom : n + 1 ≤ cap
    · have hroomm : (n + 1) * 5 ≤ cap * 5 := Nat.mul_le_mul_right _ hroom
      have hn1 : (n + 1) * 5 = n * 5 + 5 := by rw [Nat.add_mul, Nat.one_mul]
      have R2 := slice_hi (P := Try.prog) (t := 23) Try.underlying23 isize70 g off n cap (n + 1) hroom (by omega)
      have R3 := slice_lo (P := Try.prog) (t := 23) Try.underlying23 isize70 g off (n + 1) cap (i + 1) (by omega) hroom (by omega)
      have R4 := slice_lo (P := Try.prog) (t := 23) Try.underlying23 isize70 g off (n + 1) cap i (by omega) hroom (by omega)
      have OVR := fun la ca lb cb => iover76 (hx) hc hvg (by omega) (off + (i + 1) * 5) la ca lb cb
      have hmin : Nat.min (n + 1 - i) (n + 1 - (i + 1)) = n - i := by simp only [Nat.min_def]; split <;> omega
      have hc' : IsC w.drew g cur 70 := hc
      obtain ⟨CP1, hc1⟩ := run_copy_blk (P := Try.prog) hc' 23 23 5 (off + (i + 1) * 5) (n + 1 - (i + 1)) (cap - (i + 1)) ⟨g, off + i * 5, none⟩ (n + 1 - i) (cap - i) (xs.drop (i * 5)) Try.underlying23 isize70 (by rw [hmin]; exact hdl) (fun j u hj => by rw [Addr.add_lit]; exact hcx j u hj) (by omega) (fun u hu => h1x u (List.mem_of_mem_drop hu))
      have o1 := off_setCells (S := [g]) (g := g) (a := w) (xs.drop (i * 5)) (off + (i + 1) * 5) w.drew (Off.drew (Off.refl _ _)) (.inl (by simp))
      have hx1 := hx.off o1 (by simpa using hvg)
      have hmin2 : Nat.min 1 (n + 1 - i) = 1 := by simp only [Nat.min_def]; split <;> omega
      have hsz1 : (splice cur.toList (off + (i + 1) * 5) (xs.drop (i * 5))).length = cur.size := by rw [length_splice _ _ _ (by rw [hdl, Array.length_toList]; omega), Array.length_toList]
      obtain ⟨CP2, hc2⟩ := run_copy_blk (P := Try.prog) hc1 23 23 5 (off + i * 5) (n + 1 - i) (cap - i) ⟨vb, 0, none⟩ 1 1 news Try.underlying23 isize70 (by rw [hmin2]; omega) (fun j u hj => by rw [Addr.add_lit, hx1.cell, Nat.zero_add]; simpa using hj) (by rw [List.size_toArray, hsz1]; omega) h1n
      have o2 := off_setCells (g := g) news (off + i * 5) _ o1 (.inl (by simp))
      have H : Hid (Ins70 w (.slice (some ⟨g, off, none⟩) n cap) n i xs news (.returned (.slice (some ⟨g, off, none⟩) (n + 1) cap)) ((w.drew.setCells g (off + (i + 1) * 5) (xs.drop (i * 5))).setCells g (off + i * 5) news)) := by
        refine ⟨_, _, rfl, ⟨?_, .inr ⟨g, off, cap, _, rfl, hc2, hroom, hcm, ?_, ?_⟩⟩, o2, fun y hy => .inl hy⟩
        · have hti : (xs.take (i * 5)).length = i * 5 := by rw [List.length_take, hxs]; omega
          rw [List.length_append, List.length_append, hti, hnl, hdl]; omega
        · rw [List.size_toArray, length_splice _ _ _ (by rw [List.toList_toArray, hsz1]; omega), List.toList_toArray, hsz1]; exact hcs
        · have q := splice_insert cur.toList off (i * 5) (n * 5) news (by omega) (by rw [hnl]; simp; omega)
          rw [htake, hnl] at q
          rw [List.toList_toArray, List.toList_toArray, him2, hn1, ← Nat.add_assoc]
          exact q
      have hwr : IntKind.i64.wrap ((i : Int) + 1) = (i : Int) + 1 := IntWalk.i64_in _ (by omega)
      have HC1 := Lib.hid CP1
      have HC2 := Lib.hid CP2
      rw [hmin] at HC1
      rw [hmin2] at HC2
      have e3 : n + 1 - (i + 1) = n - i := by omega
      rw [e3] at R3 HC1
      obtain ⟨p3, hp3⟩ : ∃ p, p = off + (i + 1) * 5 := ⟨_, rfl⟩
      obtain ⟨p4, hp4⟩ : ∃ p, p = off + i * 5 := ⟨_, rfl⟩
      obtain ⟨m4, hm4⟩ : ∃ m, m = n + 1 - i := ⟨_, rfl⟩
      obtain ⟨c3, hc3⟩ : ∃ c, c = cap - (i + 1) := ⟨_, rfl⟩
      obtain ⟨c4, hc4⟩ : ∃ c, c = cap - i := ⟨_, rfl⟩
      rw [← hp3, ← hc3] at R3
      rw [← hp4, ← hm4, ← hc4] at R4
      rw [← hp3] at OVR H
      rw [← hp4] at H
      rw [← hp3, ← hp4, ← hc3, ← hm4, ← hc4] at HC1
      rw [← hp3, ← hp4, ← hm4, ← hc4] at HC2
      obtain ⟨D, hD⟩ : ∃ D, D = xs.drop (i * 5) := ⟨_, rfl⟩
      rw [← hD] at HC1 HC2 H
      obtain ⟨W1, hW1⟩ : ∃ W1, W1 = w.drew.setCells g p3 D := ⟨_, rfl⟩
      rw [← hW1] at HC1 HC2 H
      clear hp3 hp4 hm4 hc3 hc4 e3 hD hW1
      clear hcx hc hc' hc1 hc2 o1 o2 hx1 hx hsrc h CP1 CP2 hmin hmin2 hsz1 hcs htake hdl hdn him him2 hncm hroomm hn1 hcm hxs hvb h1x h1n hnl HB
      go_enter Try.func70, Try.ntmps70
      go_wp2_with fail
      go_region_held3 (fun _ => True) (exact trivial) (first | (refine step_copy rfl _ _ 23 23 rfl _ _ rfl rfl HC1.out ?_))
      have CPV := HC2.out
      go_wp2_with fail
      go_ret
      exact H.out
    · have hcn : cap = n := by omega
      subst hcn
      clear R1
      obtain ⟨ROW, G, AZ, hz1, hz2, hz3, hz4⟩ := app_zeros (P := Try.prog) (t := 23) (tn := 3) Try.underlying23 Try.underlying3 iinfo70 rfl (by decide) h i (cap + 1 - i) (by omega) (by omega) (by omega) (by have := HB.out; rw [show i + (cap + 1 - i) = cap + 1 by omega]; exact this) (by simp only [maxLen]; omega)
      rw [show i + (cap + 1 - i) = cap + 1 by omega] at AZ hz3
      have hG63 : G ≤ 9223372036854775807 := by simpa [maxLen] using hz4
      have hn1 : (cap + 1) * 5 = cap * 5 + 5 := by rw [Nat.add_mul, Nat.one_mul]
      have hGm : (cap + 1) * 5 ≤ G * 5 := Nat.mul_le_mul_right _ hz3
      have hgl := hc.lt
      have hvl := hx.lt
      have R2 := slice_hi (P := Try.prog) (t := 23) Try.underlying23 isize70 g off cap cap i (by omega) (by omega)
      have R3 := slice_lo (P := Try.prog) (t := 23) Try.underlying23 isize70 w.heap.size 0 (cap + 1) G i (by omega) hz3 (by omega)
      have R4 := slice_lo (P := Try.prog) (t := 23) Try.underlying23 isize70 w.heap.size 0 (cap + 1) G (i + 1) (by omega) hz3 (by omega)
      have R5 := slice_lo (P := Try.prog) (t := 23) Try.underlying23 isize70 g off cap cap i (by omega) (by omega) (by omega)
      rw [Nat.zero_add] at R3 R4
      have hN : IsC (w.drew.alloc (.cells ROW 70)) w.heap.size ROW 70 := IsC.new w.drew ROW 70
      have o0 : Off [] w (w.drew.alloc (.cells ROW 70)) := ((Off.refl [] w).drew).alloc _
      have hx0 := hx.off o0 (by simp)
      have hmin1 : Nat.min 1 (cap + 1 - i) = 1 := by simp only [Nat.min_def]; split <;> omega
      obtain ⟨CP1, hc1⟩ := run_copy_blk (P := Try.prog) hN 23 23 5 (i * 5) (cap + 1 - i) (G - i) ⟨vb, 0, none⟩ 1 1 news Try.underlying23 isize70 (by rw [hmin1]; omega) (fun j u hj => by rw [Addr.add_lit, hx0.cell, Nat.zero_add]; simpa using hj) (by rw [hz2]; omega) h1n
      have o1 := off_setCells (g := w.heap.size) news (i * 5) _ o0 (.inr (Nat.le_refl _))
      have hc0 := (hc.off o1 (by simp))
      have hcx2 : ∀ j u, (xs.drop (i * 5))[j]? = some u → (((w.drew.alloc (.cells ROW 70)).setCells w.heap.size (i * 5) news).drew).cell? ⟨g, off + i * 5 + j, none⟩ = some u := by
        intro j u hj
        have q := hcx j u hj
        rw [hc.cell] at q
        show ((w.drew.alloc (.cells ROW 70)).setCells w.heap.size (i * 5) news).cell? _ = _
        rw [hc0.cell]; exact q
      have hsz1 : (splice ROW.toList (i * 5) news).length = ROW.size := by rw [length_splice _ _ _ (by have q := Array.length_toList (xs := ROW); omega)]; exact Array.length_toList
      have hmin2 : Nat.min (cap - i) (cap + 1 - (i + 1)) = cap - i := by simp only [Nat.min_def]; split <;> omega
      have hc1' : IsC (((w.drew.alloc (.cells ROW 70)).setCells w.heap.size (i * 5) news).drew) w.heap.size (splice ROW.toList (i * 5) news).toArray 70 := hc1
      obtain ⟨CP2, hc2⟩ := run_copy_blk (P := Try.prog) hc1' 23 23 5 ((i + 1) * 5) (cap + 1 - (i + 1)) (G - (i + 1)) ⟨g, off + i * 5, none⟩ (cap - i) (cap - i) (xs.drop (i * 5)) Try.underlying23 isize70 (by rw [hmin2]; exact hdl) (fun j u hj => by rw [Addr.add_lit]; exact hcx2 j u hj) (by rw [List.size_toArray, hsz1, hz2, hdl]; omega) (fun u hu => h1x u (List.mem_of_mem_drop hu))
      have o2 := off_setCells (g := w.heap.size) (xs.drop (i * 5)) ((i + 1) * 5) _ o1.drew (.inr (Nat.le_refl _))
      have H : Hid (Ins70 w (.slice (some ⟨g, off, none⟩) cap cap) cap i xs news (.returned (.slice (some ⟨w.heap.size, 0, none⟩) (cap + 1) G)) ((((w.drew.alloc (.cells ROW 70)).setCells w.heap.size (i * 5) news).drew).setCells w.heap.size ((i + 1) * 5) (xs.drop (i * 5)))) := by
        refine ⟨_, _, rfl, ⟨?_, .inr ⟨w.heap.size, 0, G, _, rfl, hc2, hz3, hz4, ?_, ?_⟩⟩, o2.mono (by simp), fun y hy => .inr (by simp [blk] at hy; omega)⟩
        · have hti : (xs.take (i * 5)).length = i * 5 := by rw [List.length_take, hxs]; omega
          rw [List.length_append, List.length_append, hti, hnl, hdl]; omega
        · rw [List.size_toArray, length_splice _ _ _ (by rw [List.toList_toArray, hsz1, hz2, hdl]; omega), List.toList_toArray, hsz1, hz2]; omega
        · have q := splice_new ROW.toList xs news (i * 5) (cap * 5) hz1 hxs (by omega) (by have q := Array.length_toList (xs := ROW); omega)
          rw [hnl] at q
          rw [List.toList_toArray, List.toList_toArray, him2, hn1]
          exact q
      have hwr : IntKind.i64.wrap ((i : Int) + 1) = (i : Int) + 1 := IntWalk.i64_in _ (by omega)
      have HC1 := Lib.hid CP1
      have HC2 := Lib.hid CP2
      have HAZ := Lib.hid AZ
      rw [hmin1] at HC1
      rw [hmin2] at HC2
      have hk1 : ((cap : Int) + 1 - (i : Int)) = ((cap + 1 - i : Nat) : Int) := by omega
      rw [← hk1] at HAZ
      have e3 : cap + 1 - (i + 1) = cap - i := by omega
      rw [e3] at R4 HC2
      obtain ⟨p3, hp3⟩ : ∃ p, p = (i + 1) * 5 := ⟨_, rfl⟩
      obtain ⟨p4, hp4⟩ : ∃ p, p = i * 5 := ⟨_, rfl⟩
      obtain ⟨p5, hp5⟩ : ∃ p, p = off + i * 5 := ⟨_, rfl⟩
      obtain ⟨m4, hm4⟩ : ∃ m, m = cap + 1 - i := ⟨_, rfl⟩
      obtain ⟨c3, hc3⟩ : ∃ c, c = G - i := ⟨_, rfl⟩
      obtain ⟨c4, hc4⟩ : ∃ c, c = G - (i + 1) := ⟨_, rfl⟩
      obtain ⟨D, hD⟩ : ∃ D, D = xs.drop (i * 5) := ⟨_, rfl⟩
      rw [← hD] at HC2 H
      rw [← hp5] at R5 HC2
      rw [← hp4] at R3 HC1 HC2 H
      rw [← hp3] at R4 HC2 H
      rw [← hm4] at R3 HC1
      rw [← hc3] at R3 HC1
      rw [← hc4] at R4 HC2
      have hlc : (cap : Int) < (cap : Int) + 1 := by omega
      obtain ⟨W1, hW1⟩ : ∃ W1, W1 = w.drew.alloc (.cells ROW 70) := ⟨_, rfl⟩
      rw [← hW1] at HAZ HC1 HC2 H
      obtain ⟨W2, hW2⟩ : ∃ W2, W2 = W1.setCells w.heap.size p4 news := ⟨_, rfl⟩
      rw [← hW2] at HC1 HC2 H
      clear hp3 hp4 hp5 hm4 hc3 hc4 e3 hD hk1 hW1 hW2
      clear hcx hcx2 hc hc0 hc1 hc1' hc2 o0 o1 o2 hx hx0 hN hsrc h CP1 CP2 AZ hmin1 hmin2 hsz1 hcs htake hdl hdn him him2 hncm hn1 hGm hcm hxs hvb h1x h1n hnl HB hz1 hz2 hz4 hgl hvl hvg
      go_enter Try.func70, Try.ntmps70
      have CPV := HC1.out
      go_wp2_with (at_builtin; refine Lib.wpList_append_run _ rfl _ _ _ _ rfl _ _ rfl rfl _ _ (HAZ.out _) ?_)
      go_region_held3 (fun _ => True) (exact trivial) (first | (refine step_copy rfl _ _ 23 23 rfl _ _ rfl rfl HC2.out ?_))
      go_wp2_with fail
      go_ret
      exact H.out

def Del70 (w : World) (v : Value) (n i : Nat) (xs : List Value) (e : Ending) (w' : World) : Prop :=
  ∃ ao cap, e = .returned (.slice ao (n - 1) cap) ∧ Own w' 70 5 (.slice ao (n - 1) cap) (n - 1) (xs.take (i * 5) ++ xs.drop ((i + 1) * 5)) ∧ Off (blk v) w w' ∧ blk (.slice ao (n - 1) cap) = blk v

theorem izero70 : ∀ w, (zeroValue 70).run Try.prog w = .ok (.agg #[.int .i64 0, .int .i64 0, .int .i64 0, .int .i64 0, .int .i64 0]) w := fun w => by
  obtain ⟨i0, hi0, hz0, _⟩ := info_parts iinfo70
  simp [zeroValue, typeInfo, hi0, hz0]

set_option maxRecDepth 100000 in
set_option maxHeartbeats 4000000 in
theorem delete70 (v : Value) (n i : Nat) (j : Int) (hj : j = (i : Int) + 1) (xs : List Value) (w : World) (h : Own w 70 5 v n xs) (hi : i < n) (hn : n < 1000000) (h1x : ∀ u ∈ xs, u.oneCell' = true) :
    Calls Try.prog 72 #[v, .int .i64 i, .int .i64 j] w (Del70 w v n i xs) := by
  subst hj
  obtain ⟨ra, rc, ro, rb, rx, rl, rh⟩ := h.cut (t := 23) Try.underlying23 isize70 (i + 1) n (by omega) (Nat.le_refl _)
  have R1 := rl rfl
  obtain ⟨i0, hi0, hz0, hzs, hzb⟩ := info_parts iinfo70
  rcases h.2 with ⟨_, h0⟩ | ⟨g, off, cap, cur, rfl, hc, hnc, hcm, hcs, htake⟩
  · omega
  have hxs := h.1
  have hcapm : cap ≤ 9223372036854775807 := by simpa [maxLen] using hcm
  have hncm : n * 5 ≤ cap * 5 := Nat.mul_le_mul_right _ hnc
  have him2 : (i + 1) * 5 = i * 5 + 5 := by rw [Nat.add_mul, Nat.one_mul]
  have him : (i + 1) * 5 ≤ n * 5 := Nat.mul_le_mul_right _ hi
  have hn1 : (n - 1) * 5 = n * 5 - 5 := by rw [Nat.sub_mul, Nat.one_mul]
  have hro : (xs.drop ((i + 1) * 5)).take ((n - (i + 1)) * 5) = xs.drop ((i + 1) * 5) := List.take_of_length_le (by rw [List.length_drop, hxs, Nat.sub_mul]; exact Nat.le_refl _)
  rw [hro] at ro
  have hdl : (xs.drop ((i + 1) * 5)).length = n * 5 - (i * 5 + 5) := by rw [List.length_drop, hxs, him2]
  have hsrc := ro.drew.src (t := 23) (e' := 70) Try.underlying23 (fun u hu => h1x u (List.mem_of_mem_drop hu))
  have hc' : IsC w.drew g cur 70 := hc
  have hs2 : Src Try.prog i0.size 23 (.slice ra (n - (i + 1)) rc) (n - (i + 1)) (xs.drop ((i + 1) * 5)) w.drew := by rw [hzs]; exact hsrc
  have AP := fun ty => run_append_room_src (P := Try.prog) (w := w.drew) 23 23 ty 70 i0 Try.underlying23 hi0 g off i cap _ (n - (i + 1)) _ hs2 (by omega)
    (fun k hk => by rw [hzs, hc'.cell, Array.getElem?_eq_getElem (by omega)]; rfl) (fun k _ => hc'.unfrozen _)
  rw [hzs, show i + (n - (i + 1)) = n - 1 by omega] at AP
  have hc1 := isC_setCells (xs.drop ((i + 1) * 5)) (off + i * 5) w.drew cur hc' (by omega)
  have o1 := off_setCells (S := [g]) (g := g) (a := w) (xs.drop ((i + 1) * 5)) (off + i * 5) w.drew (Off.drew (Off.refl _ _)) (.inl (by simp))
  have hsz1 : (splice cur.toList (off + i * 5) (xs.drop ((i + 1) * 5))).length = cur.size := by rw [length_splice _ _ _ (by have q := Array.length_toList (xs := cur); omega)]; exact Array.length_toList
  have hzl : (.agg #[.int .i64 0, .int .i64 0, .int .i64 0, .int .i64 0, .int .i64 0] : Value).cells.toList.length = 5 := by decide
  have CL := run_clear_one (P := Try.prog) (w.drew.setCells g (off + i * 5) (xs.drop ((i + 1) * 5))) 23 70 (.agg #[.int .i64 0, .int .i64 0, .int .i64 0, .int .i64 0, .int .i64 0]) Try.underlying23 izero70 (by simp [Value.cells, Value.oneCell']) g (off + (n - 1) * 5) (cap - (n - 1))
    (fun k hk => by rw [hc1.cell, Array.getElem?_eq_getElem (by rw [List.size_toArray, hsz1]; omega)]; rfl) (fun k _ => hc1.unfrozen _)
  have hc2 := isC_setCells (.agg #[.int .i64 0, .int .i64 0, .int .i64 0, .int .i64 0, .int .i64 0] : Value).cells.toList (off + (n - 1) * 5) _ _ hc1 (by rw [List.size_toArray, hsz1]; omega)
  have o2 := off_setCells (g := g) (.agg #[.int .i64 0, .int .i64 0, .int .i64 0, .int .i64 0, .int .i64 0] : Value).cells.toList (off + (n - 1) * 5) _ o1 (.inl (by simp))
  have H : Hid (Del70 w (.slice (some ⟨g, off, none⟩) n cap) n i xs (.returned (.slice (some ⟨g, off, none⟩) (n - 1) cap)) ((w.drew.setCells g (off + i * 5) (xs.drop ((i + 1) * 5))).setCells g (off + (n - 1) * 5) (.agg #[.int .i64 0, .int .i64 0, .int .i64 0, .int .i64 0, .int .i64 0] : Value).cells.toList)) := by
    refine ⟨_, _, rfl, ⟨?_, .inr ⟨g, off, cap, _, rfl, hc2, by omega, hcm, ?_, ?_⟩⟩, o2, rfl⟩
    · rw [List.length_append, List.length_take, hdl, hxs]; omega
    · rw [List.size_toArray, length_splice _ _ _ (by rw [List.toList_toArray, hsz1]; omega), List.toList_toArray, hsz1]; exact hcs
    · have q := splice_del cur.toList (.agg #[.int .i64 0, .int .i64 0, .int .i64 0, .int .i64 0, .int .i64 0] : Value).cells.toList off (i * 5) (n * 5) 5 (by omega) (by have q := Array.length_toList (xs := cur); omega)
      rw [htake] at q
      rw [List.toList_toArray, List.toList_toArray, hn1, him2]
      exact q
  have R2 := slice_hi (P := Try.prog) (t := 23) Try.underlying23 isize70 g off n cap i (by omega) (by omega)
  have R4 := slice_one (P := Try.prog) (t := 23) Try.underlying23 isize70 g off cap (n - 1) (by omega)
  obtain ⟨r5, R5⟩ := slice_lhm (P := Try.prog) (t := 23) Try.underlying23 isize70 g off n cap i (i + 1) (by omega) (by omega) hnc
  have hwr : IntKind.i64.wrap ((i : Int) + 1) = (i : Int) + 1 := IntWalk.i64_in _ (by omega)
  obtain ⟨m, hm⟩ : ∃ m, m = n - 1 := ⟨_, rfl⟩
  have e2 : n - 1 + 1 = n := by omega
  rw [e2] at R4
  obtain ⟨p3, hp3⟩ : ∃ p, p = off + i * 5 := ⟨_, rfl⟩
  obtain ⟨D, hD⟩ : ∃ D, D = xs.drop ((i + 1) * 5) := ⟨_, rfl⟩
  obtain ⟨W1, hW1⟩ : ∃ W1, W1 = w.drew.setCells g p3 D := ⟨_, rfl⟩
  obtain ⟨Z, hZ⟩ : ∃ Z, Z = (.agg #[.int .i64 0, .int .i64 0, .int .i64 0, .int .i64 0, .int .i64 0] : Value).cells.toList := ⟨_, rfl⟩
  rw [← hD, ← hp3, ← hW1, ← hZ] at H CL
  rw [← hD, ← hp3, ← hW1] at AP
  obtain ⟨p4, hp4⟩ : ∃ p, p = off + (n - 1) * 5 := ⟨_, rfl⟩
  rw [← hp4] at H CL R4
  obtain ⟨c4, hc4⟩ : ∃ c, c = cap - (n - 1) := ⟨_, rfl⟩
  rw [← hc4] at CL R4
  rw [← hm] at AP R4 H
  obtain ⟨m2, hm2⟩ : ∃ m, m = n - (i + 1) := ⟨_, rfl⟩
  rw [← hm2] at AP R1
  have HAP := Lib.hid AP
  clear rx rh ro rb rl hdl hro hsrc hs2 hc hc' hc1 hc2 o1 o2 hsz1 hzl him him2 hncm hn1 hxs htake hcs hcm h h1x hi0 hz0 hzs hzb AP hD hp3 hp4 hc4 hm2 hW1 hZ e2 hm
  go_enter Try.func72, Try.ntmps72
  go_wp2_with fail
  go_region_held3 (fun _ => True) (exact trivial) (first | (refine step_append_run rfl _ _ 23 23 rfl _ _ rfl rfl HAP.out ?_))
  go_wp2_with fail
  go_ret
  exact H.out
end Go.Proofs.Ytlhmcbcoaplcaaa
