/- slices.BinarySearch over an owned list of integers; slices.Clone of rows. -/
import Derived.Test.YtlhmcbcoaplcaaaInsR
import Derived.Test.YtlhmcbcoaplcaaaInsI
import Derived.Deep.LoopGhost
import Derived.Lib.SlicesSearch
set_option linter.unusedVariables false
set_option linter.unusedSimpArgs false
namespace Go.Proofs.Ytlhmcbcoaplcaaa
open Go.ChangeShapes Go.WideShapes Go.ChangeAt Go.RowKit

def zin (u : List Int) : List Value := u.map (Value.int .i64)
theorem zin_len (u : List Int) : (zin u).length = u.length := by simp [zin]
theorem zin_one (u : List Int) : ∀ v ∈ zin u, v.oneCell' = true := by
  intro v hv; obtain ⟨n, _, rfl⟩ := List.mem_map.1 hv; rfl
theorem own_zin {w : World} {v : Value} {u : List Int} (h : Own w 3 1 v u.length (zin u)) : ∃ ao cap, v = .slice ao u.length cap ∧ ∀ (j : Nat) (n : Int), u[j]? = some n → ∃ g off, ao = some ⟨g, off, none⟩ ∧ w.cell? ⟨g, off + j, none⟩ = some (.int .i64 n) := by
  rcases h.2 with ⟨rfl, h0⟩ | ⟨g, off, cap, cur, rfl, _⟩
  · refine ⟨none, 0, by rw [h0], fun j n hj => ?_⟩
    have := (List.getElem?_eq_some_iff.1 hj).1; omega
  · refine ⟨_, cap, rfl, fun j n hj => ⟨g, off, rfl, ?_⟩⟩
    have hl := (List.getElem?_eq_some_iff.1 hj).1
    rw [h.cellAt j (by omega)]
    simp [zin, hj]

set_option maxHeartbeats 1000000 in
theorem nan82 (x : Int) (w : World) : Calls Try.prog 82 #[.int .i64 x] w fun e w' => e = .returned (.bool false) ∧ w = w' := by
  go_enter Try.func82, Try.ntmps82
  go_wp2
  go_ret
  exact ⟨by simp, rfl⟩
set_option maxHeartbeats 1000000 in
theorem nan79 (x : Int) (w : World) : Calls Try.prog 79 #[.int .i64 x] w fun e w' => e = .returned (.bool false) ∧ w = w' := by
  go_enter Try.func79, Try.ntmps79
  go_wp2
  go_ret
  exact ⟨by simp, rfl⟩
set_option maxHeartbeats 1000000 in
theorem less78 (x y : Int) (w : World) : Calls Try.prog 78 #[.int .i64 x, .int .i64 y] w fun e w' => e = .returned (.bool (decide (x < y))) ∧ w = w' := by
  go_enter Try.func78, Try.ntmps78
  go_wp2_with (go_at_call 82; refine (nan82 _ _).mono ?_; rintro e w' ⟨rfl, rfl⟩)
  go_ret
  exact ⟨rfl, rfl⟩

set_option maxHeartbeats 4000000 in
set_option maxRecDepth 100000 in
theorem search73 (zs : List Int) (x : Int) (v : Value) (w : World) (h : Own w 3 1 v zs.length (zin zs)) (hbig : zs.length < 4611686018427387904) (hs : zs.Pairwise (· ≤ ·)) :
    Calls Try.prog 73 #[v, .int .i64 x] w fun e w' => e = .returned (.tuple #[.int .i64 (zs.countP (· < x) : Nat), .bool (zs.contains x)]) ∧ w = w' := by
  obtain ⟨ao, cap, rfl, hc⟩ := own_zin h
  have S : Hid (∀ a b, a ≤ b → b < zs.length → zs.getD a 0 ≤ zs.getD b 0) := Lib.sorted_at zs zs.length (Nat.le_refl _) (by rwa [List.take_length])
  have HC := Lib.hid hc
  have HE := Lib.hid (fun i h1 h2 h3 => Lib.search_end zs zs.length i x (Nat.le_refl _) h1 h2 h3 S.out)
  rw [List.take_length] at HE
  clear h hs hc
  generalize hn : zs.length = n at *
  have HN := Lib.hid hn
  clear hn
  go_enter Try.func73, Try.ntmps73
  go_wp2
  go_loopg [7, 8] n (fun g s7 s8 wr => ∃ lo hi : Nat, s7 = .int .i64 lo ∧ s8 = .int .i64 hi ∧ lo ≤ hi ∧ hi ≤ n ∧ hi - lo ≤ g ∧ w = wr ∧ (∀ t, t < lo → zs.getD t 0 < x) ∧ (∀ t, hi ≤ t → t < n → x ≤ zs.getD t 0))
  case atStart => exact ⟨0, n, rfl, rfl, Nat.zero_le _, Nat.le_refl _, by omega, rfl, fun t ht => absurd ht (Nat.not_lt_zero _), fun t h1 h2 => by omega⟩
  case round =>
    obtain ⟨lo, hi, rfl, rfl, hlh, hin, hg, rfl, h1, h2⟩ := hrel
    have I : Hid ((∀ t, t < lo → zs.getD t 0 < x) ∧ (∀ t, hi ≤ t → t < n → x ≤ zs.getD t 0)) := ⟨h1, h2⟩
    clear h1 h2
    have hget : Hid (∀ t, t < n → zs[t]? = some (zs.getD t 0)) := fun t ht => by
      have h' : t < zs.length := by rw [HN.out]; exact ht
      simp [List.getD, List.getElem?_eq_getElem h']
    by_cases hlt : lo < hi
    · obtain ⟨g', off', rfl, cm⟩ := HC.out ((lo + hi) / 2) _ (hget.out _ (by omega))
      generalize hy : zs.getD ((lo + hi) / 2) 0 = y at cm
      have Y := Lib.hid hy
      clear hy
      by_cases hyx : y < x
      · go_wp2_with (first | (go_at_call 78; refine (less78 _ _ _).mono ?_; rintro e w' ⟨rfl, rfl⟩) | (go_at_call 79; refine (nan79 _ _).mono ?_; rintro e w' ⟨rfl, rfl⟩))
        go_roundg (hi - ((lo + hi) / 2 + 1))
        case measure => omega
        case rel =>
          refine ⟨(lo + hi) / 2 + 1, hi, by rw [show ((lo : Int) + (hi : Int)) / 2 + 1 = (((lo + hi) / 2 + 1 : Nat) : Int) by omega], rfl, by omega, hin, Nat.le_refl _, rfl, fun t ht => ?_, I.out.2⟩
          have := S.out t ((lo + hi) / 2) (by omega) (by omega)
          rw [Y.out] at this
          omega
      · go_wp2_with (first | (go_at_call 78; refine (less78 _ _ _).mono ?_; rintro e w' ⟨rfl, rfl⟩) | (go_at_call 79; refine (nan79 _ _).mono ?_; rintro e w' ⟨rfl, rfl⟩))
        go_roundg ((lo + hi) / 2 - lo)
        case measure => omega
        case rel =>
          refine ⟨lo, (lo + hi) / 2, rfl, by rw [show ((lo : Int) + (hi : Int)) / 2 = (((lo + hi) / 2 : Nat) : Int) by omega], by omega, by omega, Nat.le_refl _, rfl, I.out.1, fun t ht htn => ?_⟩
          have := S.out ((lo + hi) / 2) t ht htn
          rw [Y.out] at this
          omega
    · have : hi = lo := by omega
      subst this
      have E := Lib.hid (HE.out hi hin I.out.1 I.out.2)
      by_cases hnn : hi < n
      · obtain ⟨g', off', rfl, cl⟩ := HC.out hi _ (hget.out _ (by omega))
        generalize hy : zs.getD hi 0 = y at cl
        have Y := Lib.hid hy
        clear hy
        by_cases hyx : y = x
        · go_wp2_with (first | (go_at_call 78; refine (less78 _ _ _).mono ?_; rintro e w' ⟨rfl, rfl⟩) | (go_at_call 79; refine (nan79 _ _).mono ?_; rintro e w' ⟨rfl, rfl⟩))
          go_ret2
          refine ⟨?_, rfl⟩
          rw [E.out.1, E.out.2, Y.out, decide_eq_true (show hi < n ∧ y = x from ⟨hnn, hyx⟩)]
          first | rfl | simp [*]
        · go_wp2_with (first | (go_at_call 78; refine (less78 _ _ _).mono ?_; rintro e w' ⟨rfl, rfl⟩) | (go_at_call 79; refine (nan79 _ _).mono ?_; rintro e w' ⟨rfl, rfl⟩))
          go_ret2
          refine ⟨?_, rfl⟩
          rw [E.out.1, E.out.2, Y.out, decide_eq_false (show ¬ (hi < n ∧ y = x) from fun h => hyx h.2)]
          first | rfl | simp [*]
      · go_wp2_with (first | (go_at_call 78; refine (less78 _ _ _).mono ?_; rintro e w' ⟨rfl, rfl⟩) | (go_at_call 79; refine (nan79 _ _).mono ?_; rintro e w' ⟨rfl, rfl⟩))
        go_ret2
        refine ⟨?_, rfl⟩
        rw [E.out.1, E.out.2, decide_eq_false (show ¬ (hi < n ∧ zs.getD hi 0 = x) from fun h => hnn h.1)]
        first | rfl | simp [*]
end Go.Proofs.Ytlhmcbcoaplcaaa
