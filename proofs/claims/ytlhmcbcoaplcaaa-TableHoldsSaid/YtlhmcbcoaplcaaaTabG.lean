/- table.ordered: find and get. -/
import Derived.Test.YtlhmcbcoaplcaaaTabF
import Derived.Laws.ResultCell
set_option linter.unusedVariables false
set_option linter.unusedSimpArgs false
namespace Go.Proofs.Ytlhmcbcoaplcaaa
open Go.ChangeShapes Go.WideShapes Go.ChangeAt Go.RowKit

structure Rw where
  birth : Int
  id : Int
  state : Int
  last : Int
  next : Int
deriving DecidableEq, Inhabited
def Rw.zero : Rw := ⟨0, 0, 0, 0, 0⟩
def rcells (r : Rw) : List Value := [.int .i64 r.birth, .int .i64 r.id, .int .i64 r.state, .int .i64 r.last, .int .i64 r.next]
def ragg (r : Rw) : Value := .agg #[.int .i64 r.birth, .int .i64 r.id, .int .i64 r.state, .int .i64 r.last, .int .i64 r.next]
def rows (l : List Rw) : List Value := l.flatMap rcells
theorem rows_len (l : List Rw) : (rows l).length = l.length * 5 := by
  induction l with
  | nil => rfl
  | cons a l ih => simp only [rows, List.flatMap_cons, List.length_append] at ih ⊢; rw [ih]; simp [rcells]; omega
theorem rows_get (l : List Rw) : ∀ (i : Nat) (r : Rw), l[i]? = some r → ∀ j, j < 5 → (rows l)[i * 5 + j]? = (rcells r)[j]? := by
  induction l with
  | nil => intro i r h; simp at h
  | cons a l ih =>
    intro i r h j hj
    have e : rows (a :: l) = rcells a ++ rows l := by simp [rows]
    rw [e]
    cases i with
    | zero => simp at h; subst h; rw [List.getElem?_append_left (by simp [rcells]; omega)]; simp
    | succ i =>
      rw [List.getElem?_append_right (by simp [rcells]; omega)]
      have := ih i r (by simpa using h) j hj
      rw [← this]
      congr 1
      simp [rcells]; omega
theorem rows_one (l : List Rw) : ∀ v ∈ rows l, v.oneCell' = true := by
  intro v hv
  obtain ⟨r, _, h⟩ := List.mem_flatMap.1 hv
  simp only [rcells, List.mem_cons, List.not_mem_nil, or_false] at h
  rcases h with rfl | rfl | rfl | rfl | rfl <;> rfl
theorem own_rows {w : World} {v : Value} {l : List Rw} (h : Own w 70 5 v l.length (rows l)) : ∃ ao cap, v = .slice ao l.length cap ∧ ∀ (i : Nat) (r : Rw), l[i]? = some r → ∃ g off, ao = some ⟨g, off, none⟩ ∧ w.cell? ⟨g, off + i * 5, none⟩ = some (.int .i64 r.birth) ∧ w.cell? ⟨g, off + i * 5 + 1, none⟩ = some (.int .i64 r.id) ∧
    w.cell? ⟨g, off + i * 5 + 2, none⟩ = some (.int .i64 r.state) ∧ w.cell? ⟨g, off + i * 5 + 3, none⟩ = some (.int .i64 r.last) ∧ w.cell? ⟨g, off + i * 5 + 4, none⟩ = some (.int .i64 r.next) := by
  rcases h.2 with ⟨rfl, h0⟩ | ⟨g, off, cap, cur, rfl, _⟩
  · refine ⟨none, 0, by rw [h0], fun j n hj => ?_⟩
    have := (List.getElem?_eq_some_iff.1 hj).1; omega
  · refine ⟨_, cap, rfl, fun i r hr => ⟨g, off, rfl, ?_⟩⟩
    have hl := (List.getElem?_eq_some_iff.1 hr).1
    have hj := rows_get l i r hr
    have q : ∀ j, j < 5 → w.cell? ⟨g, off + i * 5 + j, none⟩ = (rcells r)[j]? := fun j hj' => by
      rw [Nat.add_assoc, h.cellAt (i * 5 + j) (by omega), hj j hj']
    exact ⟨q 0 (by omega), q 1 (by omega), q 2 (by omega), q 3 (by omega), q 4 (by omega)⟩

set_option maxHeartbeats 1000000 in
theorem find67 (tb o : Nat) (ks : List Int) (kv : Value) (x : Int) (w : World) (hc : w.cell? ⟨tb, o, none⟩ = some kv) (h : Own w 3 1 kv ks.length (zin ks)) (hbig : ks.length < 4611686018427387904) (hs : ks.Pairwise (· ≤ ·)) :
    Calls Try.prog 67 #[.pointer (some ⟨tb, o, none⟩), .int .i64 x] w fun e w' => e = .returned (.tuple #[.int .i64 (ks.countP (· < x) : Nat), .bool (ks.contains x)]) ∧ w = w' := by
  have H := Lib.hid (search73 ks x kv w h hbig hs)
  generalize ks.countP (· < x) = c at *
  generalize ks.contains x = b at *
  clear h hs hbig
  go_enter Try.func67, Try.ntmps67
  go_wp2_with (go_at_call 73; refine H.out.mono ?_; rintro e w' ⟨rfl, rfl⟩)
  go_ret2
  exact ⟨rfl, rfl⟩
set_option maxHeartbeats 1000000 in
theorem find68 (tb o : Nat) (ks : List Int) (kv : Value) (x : Int) (w : World) (hc : w.cell? ⟨tb, o, none⟩ = some kv) (h : Own w 3 1 kv ks.length (zin ks)) (hbig : ks.length < 4611686018427387904) (hs : ks.Pairwise (· ≤ ·)) :
    Calls Try.prog 68 #[.pointer (some ⟨tb, o, none⟩), .int .i64 x] w fun e w' => e = .returned (.tuple #[.int .i64 (ks.countP (· < x) : Nat), .bool (ks.contains x)]) ∧ w = w' := by
  have H := Lib.hid (search73 ks x kv w h hbig hs)
  generalize ks.countP (· < x) = c at *
  generalize ks.contains x = b at *
  clear h hs hbig
  go_enter Try.func68, Try.ntmps68
  go_wp2_with (go_at_call 73; refine H.out.mono ?_; rintro e w' ⟨rfl, rfl⟩)
  go_ret2
  exact ⟨rfl, rfl⟩

/-- What get finds. -/
def look {α : Type} (ks : List Int) (l : List α) (x : Int) : Option α := if ks.contains x then l[ks.countP (· < x)]? else none

theorem count_lt {ks : List Int} {x : Int} (h : ks.contains x = true) : ks.countP (· < x) < ks.length := by
  have hx : x ∈ ks := by simpa using h
  rcases Nat.lt_or_ge (ks.countP (· < x)) ks.length with q | q
  · exact q
  · have := List.countP_eq_length.1 (Nat.le_antisymm (List.countP_le_length) q) x hx
    simp at this

set_option maxRecDepth 100000 in
set_option maxHeartbeats 2000000 in
theorem get58 (tb o : Nat) (ks : List Int) (l : List Rw) (kv vv : Value) (x : Int) (w : World) (hc : w.cell? ⟨tb, o, none⟩ = some kv) (hc2 : w.cell? ⟨tb, o + 1, none⟩ = some vv) (h : Own w 3 1 kv ks.length (zin ks)) (hv : Own w 70 5 vv l.length (rows l)) (hl : ks.length = l.length)
    (hbig : ks.length < 1000000) (hs : ks.Pairwise (· ≤ ·)) :
    Calls Try.prog 58 #[.pointer (some ⟨tb, o, none⟩), .int .i64 x] w fun e w' => e = .returned (.tuple #[ragg ((look ks l x).getD Rw.zero), .bool (look ks l x).isSome]) ∧ Off [] w w' := by
  have HF := Lib.hid (fun W (ho : Off [] w W) => find67 tb o ks kv x W ((World.cell?_of_block (a := ⟨tb, o, none⟩) (ho.old tb (World.block_lt_of_cell? w ⟨tb, o, none⟩ hc) (by simp))).trans hc) (h.off ho (by simp)) (by omega) hs)
  obtain ⟨ao, cap, rfl, hr⟩ := own_rows hv
  have htb := World.block_lt_of_cell? w ⟨tb, o, none⟩ hc
  cases hk : ks.contains x with
  | false =>
    have e : look ks l x = none := by unfold look; rw [hk]; rfl
    rw [e]
    rw [hk] at HF
    generalize ks.countP (· < x) = c at *
    clear hr hv h hs hbig hl hk e
    go_enter Try.func58, Try.ntmps58
    go_wp2_with (go_at_call 67; refine (HF.out _ ((Off.refl _ _).alloc _)).mono ?_; rintro e w' ⟨rfl, rfl⟩)
    refine bodyPost_ret (v := .tuple #[ragg Rw.zero, .bool false]) (by rw [results_cell_tmp rfl]; go_simp; try rfl) rfl ?_
    exact ⟨rfl, ((Off.refl _ _).alloc _).alloc _⟩
  | true =>
    have hcl := count_lt hk
    obtain ⟨r, hr1⟩ : ∃ r, l[ks.countP (· < x)]? = some r := ⟨l[ks.countP (· < x)]'(by omega), List.getElem?_eq_getElem _⟩
    have e : look ks l x = some r := by unfold look; rw [hk, if_pos rfl]; exact hr1
    rw [e]
    rw [hk] at HF
    obtain ⟨g, off, hao, k0, k1, k2, k3, k4⟩ := hr _ r hr1
    obtain rfl := hao
    have hcl2 : ks.countP (· < x) < l.length := by omega
    generalize ks.countP (· < x) = c at *
    generalize l.length = N at *
    have hN : N < 1000000 := by omega
    have hgl := World.block_lt_of_cell? w ⟨g, off + c * 5, none⟩ k0
    have q0 := fun ob => (World.cell?_alloc_lt w ob ⟨g, off + c * 5, none⟩ hgl).trans k0
    have q1 := fun ob => (World.cell?_alloc_lt w ob ⟨g, off + c * 5 + 1, none⟩ hgl).trans k1
    have q2 := fun ob => (World.cell?_alloc_lt w ob ⟨g, off + c * 5 + 2, none⟩ hgl).trans k2
    have q3 := fun ob => (World.cell?_alloc_lt w ob ⟨g, off + c * 5 + 3, none⟩ hgl).trans k3
    have q4 := fun ob => (World.cell?_alloc_lt w ob ⟨g, off + c * 5 + 4, none⟩ hgl).trans k4
    clear k0 k1 k2 k3 k4
    clear hr hv h hs hbig hl hk e hr1 hcl
    go_enter Try.func58, Try.ntmps58
    go_wp2_with (go_at_call 67; refine (HF.out _ ((Off.refl _ _).alloc _)).mono ?_; rintro e w' ⟨rfl, rfl⟩)
    refine bodyPost_ret (v := .tuple #[ragg r, .bool true]) (by rw [results_cell_tmp rfl]; go_simp; try rfl) rfl ?_
    exact ⟨rfl, ((Off.refl _ _).alloc _)⟩
end Go.Proofs.Ytlhmcbcoaplcaaa
