/- Rows compared. -/
import Derived.Test.YtlhmcbcoaplcaaaDocF
set_option linter.unusedVariables false
set_option linter.unusedSimpArgs false
namespace Go.Proofs.Ytlhmcbcoaplcaaa
open Go.ChangeShapes Go.WideShapes Go.ChangeAt Go.RowKit

set_option maxRecDepth 100000 in
set_option maxHeartbeats 2000000 in
theorem same41 (v1 v2 : Value) (l : List Rw) (w : World) (h1 : Own w 70 5 v1 l.length (rows l)) (h2 : Own w 70 5 v2 l.length (rows l)) (hn : l.length < 1000000) :
    Calls Try.prog 41 #[v1, v2] w fun e w' => e = .returned (.bool true) ∧ Off [] w w' := by
  have R : Hid (∀ W, Off [] w W → Own W 70 5 v1 l.length (rows l) ∧ Own W 70 5 v2 l.length (rows l)) := fun W ho => ⟨h1.off ho (by simp), h2.off ho (by simp)⟩
  obtain ⟨ao1, cap1, rfl, _⟩ := own_rows h1
  obtain ⟨ao2, cap2, rfl, _⟩ := own_rows h2
  have HR : Hid (∀ W, Off [] w W → ∀ (i : Nat) (r : Rw), l[i]? = some r → ∃ g off g' off', ao1 = some ⟨g, off, none⟩ ∧ ao2 = some ⟨g', off', none⟩ ∧ (W.cell? ⟨g, off + i * 5, none⟩ = some (.int .i64 r.birth) ∧ W.cell? ⟨g, off + i * 5 + 1, none⟩ = some (.int .i64 r.id) ∧
    W.cell? ⟨g, off + i * 5 + 2, none⟩ = some (.int .i64 r.state) ∧ W.cell? ⟨g, off + i * 5 + 3, none⟩ = some (.int .i64 r.last) ∧ W.cell? ⟨g, off + i * 5 + 4, none⟩ = some (.int .i64 r.next)) ∧
    (W.cell? ⟨g', off' + i * 5, none⟩ = some (.int .i64 r.birth) ∧ W.cell? ⟨g', off' + i * 5 + 1, none⟩ = some (.int .i64 r.id) ∧
    W.cell? ⟨g', off' + i * 5 + 2, none⟩ = some (.int .i64 r.state) ∧ W.cell? ⟨g', off' + i * 5 + 3, none⟩ = some (.int .i64 r.last) ∧ W.cell? ⟨g', off' + i * 5 + 4, none⟩ = some (.int .i64 r.next))) := fun W ho i r hr => by
    obtain ⟨q1, q2⟩ := R.out W ho
    obtain ⟨ao1', cap1', e1, r1⟩ := own_rows q1
    obtain ⟨ao2', cap2', e2, r2⟩ := own_rows q2
    simp only [Value.slice.injEq, true_and] at e1 e2
    obtain ⟨rfl, rfl⟩ := e1
    obtain ⟨rfl, rfl⟩ := e2
    obtain ⟨g, off, e1, s1⟩ := r1 i r hr
    obtain ⟨g', off', e2, s2⟩ := r2 i r hr
    exact ⟨g, off, g', off', e1, e2, s1, s2⟩
  clear h1 h2 R
  generalize hNN : l.length = N at *
  have HN := Lib.hid hNN
  clear hNN
  go_enter Try.func41, Try.ntmps41
  go_wp2_with fail
  go_loopw [5] (fun i wr => ∃ k : Nat, k ≤ N ∧ i = .int .i64 k ∧ Off [] w wr) (fun i _ => N - (intOf i).toNat)
  case atStart => exact ⟨0, Nat.zero_le _, rfl, Off.refl _ _⟩
  case round =>
    obtain ⟨k, hk, rfl, ho⟩ := hrel
    have HO := Lib.hid ho
    clear ho
    by_cases hlt : k < N
    · obtain ⟨r, hr⟩ : ∃ r, l[k]? = some r := ⟨l[k]'(by have := HN.out; omega), List.getElem?_eq_getElem _⟩
      obtain ⟨g, off, g', off', rfl, rfl, ⟨k0, k1, k2, k3, k4⟩, g0, g1, g2, g3, g4⟩ := HR.out wr HO.out k r hr
      obtain ⟨b, i, s, la, n⟩ := r
      simp only at k0 k1 k2 k3 k4 g0 g1 g2 g3 g4
      clear hr HR
      go_wp2_with fail
      go_quiet (fail)
      go_wp2_with fail
      go_roundw
      case rel => exact ⟨k + 1, by omega, by go_num, HO.out.drewN _⟩
      case measure => simp [intOf]; omega
    · have e : k = N := by omega
      subst e
      clear HR
      go_wp2_with fail
      go_ret
      exact ⟨rfl, HO.out⟩
end Go.Proofs.Ytlhmcbcoaplcaaa
