/- table.ordered over ids: drop. -/
import Derived.Test.YtlhmcbcoaplcaaaTabI
set_option linter.unusedVariables false
set_option linter.unusedSimpArgs false
namespace Go.Proofs.Ytlhmcbcoaplcaaa
open Go.ChangeShapes Go.WideShapes Go.ChangeAt Go.RowKit

theorem Ord.cells {w : World} {tb o : Nat} {cur : Array Value} {T e sz : Nat} {kv vv : Value} {n : Nat} {ks vs : List Value} (h : Ord w tb o cur T e sz kv vv n ks vs) :
    w.cell? ⟨tb, o, none⟩ = some kv ∧ w.cell? ⟨tb, o + 1, none⟩ = some vv := ⟨by rw [h.blkC.cell]; exact h.atK, by rw [h.blkC.cell]; exact h.atV⟩
/-- Behind a change of the keys' slice alone. -/
theorem Ord.mid {w w1 : World} {tb o : Nat} {cur : Array Value} {T e sz : Nat} {kv vv kv' : Value} {n : Nat} {ks vs : List Value} (h : Ord w tb o cur T e sz kv vv n ks vs) (o1 : Off (blk kv) w w1) :
    w1.cell? ⟨tb, o, none⟩ = some kv ∧ w1.frozen? ⟨tb, o, none⟩ = false ∧ Own (w1.setCell ⟨tb, o, none⟩ kv') e sz vv n vs ∧ (w1.setCell ⟨tb, o, none⟩ kv').cell? ⟨tb, o + 1, none⟩ = some vv ∧
    ∀ w2, Off (blk vv) (w1.setCell ⟨tb, o, none⟩ kv') w2 → w2.cell? ⟨tb, o + 1, none⟩ = some vv ∧ w2.frozen? ⟨tb, o + 1, none⟩ = false := by
  have c1 := h.blkC.off o1 h.tk
  have c2 := c1.set o kv'
  have hg : (cur.setIfInBounds o kv')[o + 1]? = some vv := by rw [Array.getElem?_setIfInBounds, if_neg (by omega)]; exact h.atV
  refine ⟨by rw [c1.cell]; exact h.atK, c1.unfrozen _, (h.vals.off o1 (fun x hx hx' => h.kvd x hx' hx)).setCell _ _ h.tv, by rw [c2.cell]; exact hg, fun w2 o2 => ?_⟩
  have c3 := c2.off o2 h.tv
  exact ⟨by rw [c3.cell]; exact hg, c3.unfrozen _⟩

theorem zin_cut (u : List Int) (i : Nat) : (zin u).take (i * 1) ++ (zin u).drop ((i + 1) * 1) = zin (u.take i ++ u.drop (i + 1)) := by simp [zin]

def DropPost (w : World) (tb o : Nat) (cur : Array Value) (T e sz : Nat) (kv vv : Value) (ks : List Int) (vs : List Value) (x : Int) (en : Ending) (w' : World) : Prop :=
  en = .returned (.tuple #[]) ∧ ((ks.contains x = false ∧ w = w') ∨ (ks.contains x = true ∧ OrdStep w tb o cur T e sz kv vv (ks.length - 1) (zin (ks.take (ks.countP (· < x)) ++ ks.drop (ks.countP (· < x) + 1))) (vs.take (ks.countP (· < x) * sz) ++ vs.drop ((ks.countP (· < x) + 1) * sz)) w'))

set_option maxRecDepth 100000 in
set_option maxHeartbeats 4000000 in
theorem drop64 (tb o : Nat) (cur : Array Value) (T : Nat) (kv vv : Value) (ks : List Int) (vs : List Value) (x : Int) (w : World) (h : Ord w tb o cur T 3 1 kv vv ks.length (zin ks) vs) (h1 : ∀ u ∈ vs, u.oneCell' = true) (hbig : ks.length < 1000000) (hs : ks.Pairwise (· ≤ ·)) :
    Calls Try.prog 64 #[.pointer (some ⟨tb, o, none⟩), .int .i64 x] w (DropPost w tb o cur T 3 1 kv vv ks vs x) := by
  obtain ⟨hc, hc2⟩ := h.cells
  have HF := Lib.hid (find68 tb o ks kv x w hc h.keys (by omega) hs)
  cases hk : ks.contains x with
  | false =>
    rw [hk] at HF
    have H : Hid (DropPost w tb o cur T 3 1 kv vv ks vs x (.returned (.tuple #[])) w) := ⟨rfl, .inl ⟨hk, rfl⟩⟩
    generalize ks.countP (· < x) = c at *
    clear h hs hbig hk h1
    go_enter Try.func64, Try.ntmps64
    go_wp2_with (go_at_call 68; refine HF.out.mono ?_; rintro e w' ⟨rfl, rfl⟩)
    go_end0
    exact H.out
  | true =>
    have hcl := count_lt hk
    rw [hk] at HF
    have HP : Hid (∀ w1 w2 kv' vv', Own w1 3 1 kv' (ks.length - 1) (zin (ks.take (ks.countP (· < x)) ++ ks.drop (ks.countP (· < x) + 1))) → Off (blk kv) w w1 → blk kv' = blk kv → Own w2 3 1 vv' (ks.length - 1) (vs.take (ks.countP (· < x) * 1) ++ vs.drop ((ks.countP (· < x) + 1) * 1)) → Off (blk vv) (w1.setCell ⟨tb, o, none⟩ kv') w2 → blk vv' = blk vv →
        DropPost w tb o cur T 3 1 kv vv ks vs x (.returned (.tuple #[])) (w2.setCell ⟨tb, o + 1, none⟩ vv')) := by
      intro w1 w2 kv' vv' k1 o1 b1 k2 o2 b2
      exact ⟨rfl, .inr ⟨hk, ord_steps h k1 o1 (fun y hy => .inl (b1 ▸ hy)) k2 o2 (fun y hy => .inl (b2 ▸ hy))⟩⟩
    generalize ks.countP (· < x) = c at *
    have HD1 := Lib.hid (delete3 kv ks.length c ((c : Int) + 1) rfl (zin ks) w h.keys hcl hbig (zin_one ks))
    have HMID := Lib.hid (fun w1 kv' (o1 : Off (blk kv) w w1) => h.mid (kv' := kv') o1)
    have HD2 := Lib.hid (fun w1 kv' (o1 : Off (blk kv) w w1) => delete3 vv ks.length c ((c : Int) + 1) rfl vs (w1.setCell ⟨tb, o, none⟩ kv') (h.mid (kv' := kv') o1).2.2.1 hcl hbig h1)
    have hwr : IntKind.i64.wrap ((c : Int) + 1) = (c : Int) + 1 := IntWalk.i64_in _ (by omega)
    have hcN : c < 1000000 := by omega
    have HZ1 := Lib.hid (zin_cut ks c)
    clear h hs hbig hk hcl h1
    go_enter Try.func64, Try.ntmps64
    go_wp2_with (go_at_call 68; refine HF.out.mono ?_; rintro e w' ⟨rfl, rfl⟩)
    refine HD1.out.mono ?_
    rintro e w1 ⟨ao1, cap1, rfl, k1, o1, b1⟩
    obtain ⟨m1, m2, m3, m4, m5⟩ := HMID.out w1 (.slice ao1 (ks.length - 1) cap1) o1
    rw [HZ1.out] at k1
    have HD3 := Lib.hid (HD2.out w1 (.slice ao1 (ks.length - 1) cap1) o1)
    have K1 := Lib.hid (And.intro k1 (And.intro o1 (And.intro b1 m5)))
    clear k1 o1 b1 m3 m5
    go_wp2_with fail
    refine HD3.out.mono ?_
    rintro e w2 ⟨ao2, cap2, rfl, k2, o2, b2⟩
    obtain ⟨n1, n2⟩ := K1.out.2.2.2 w2 o2
    have H := Lib.hid (HP.out _ _ _ _ K1.out.1 K1.out.2.1 K1.out.2.2.1 k2 o2 b2)
    clear k2 o2 b2
    go_wp2_with fail
    go_end0
    exact H.out

set_option maxRecDepth 100000 in
set_option maxHeartbeats 4000000 in
theorem drop63 (tb o : Nat) (cur : Array Value) (T : Nat) (kv vv : Value) (ks : List Int) (vs : List Value) (x : Int) (w : World) (h : Ord w tb o cur T 70 5 kv vv ks.length (zin ks) vs) (h1 : ∀ u ∈ vs, u.oneCell' = true) (hbig : ks.length < 1000000) (hs : ks.Pairwise (· ≤ ·)) :
    Calls Try.prog 63 #[.pointer (some ⟨tb, o, none⟩), .int .i64 x] w (DropPost w tb o cur T 70 5 kv vv ks vs x) := by
  obtain ⟨hc, hc2⟩ := h.cells
  have HF := Lib.hid (find67 tb o ks kv x w hc h.keys (by omega) hs)
  cases hk : ks.contains x with
  | false =>
    rw [hk] at HF
    have H : Hid (DropPost w tb o cur T 70 5 kv vv ks vs x (.returned (.tuple #[])) w) := ⟨rfl, .inl ⟨hk, rfl⟩⟩
    generalize ks.countP (· < x) = c at *
    clear h hs hbig hk h1
    go_enter Try.func63, Try.ntmps63
    go_wp2_with (go_at_call 67; refine HF.out.mono ?_; rintro e w' ⟨rfl, rfl⟩)
    go_end0
    exact H.out
  | true =>
    have hcl := count_lt hk
    rw [hk] at HF
    have HP : Hid (∀ w1 w2 kv' vv', Own w1 3 1 kv' (ks.length - 1) (zin (ks.take (ks.countP (· < x)) ++ ks.drop (ks.countP (· < x) + 1))) → Off (blk kv) w w1 → blk kv' = blk kv → Own w2 70 5 vv' (ks.length - 1) (vs.take (ks.countP (· < x) * 5) ++ vs.drop ((ks.countP (· < x) + 1) * 5)) → Off (blk vv) (w1.setCell ⟨tb, o, none⟩ kv') w2 → blk vv' = blk vv →
        DropPost w tb o cur T 70 5 kv vv ks vs x (.returned (.tuple #[])) (w2.setCell ⟨tb, o + 1, none⟩ vv')) := by
      intro w1 w2 kv' vv' k1 o1 b1 k2 o2 b2
      exact ⟨rfl, .inr ⟨hk, ord_steps h k1 o1 (fun y hy => .inl (b1 ▸ hy)) k2 o2 (fun y hy => .inl (b2 ▸ hy))⟩⟩
    generalize ks.countP (· < x) = c at *
    have HD1 := Lib.hid (delete3 kv ks.length c ((c : Int) + 1) rfl (zin ks) w h.keys hcl hbig (zin_one ks))
    have HMID := Lib.hid (fun w1 kv' (o1 : Off (blk kv) w w1) => h.mid (kv' := kv') o1)
    have HD2 := Lib.hid (fun w1 kv' (o1 : Off (blk kv) w w1) => delete70 vv ks.length c ((c : Int) + 1) rfl vs (w1.setCell ⟨tb, o, none⟩ kv') (h.mid (kv' := kv') o1).2.2.1 hcl hbig h1)
    have hwr : IntKind.i64.wrap ((c : Int) + 1) = (c : Int) + 1 := IntWalk.i64_in _ (by omega)
    have hcN : c < 1000000 := by omega
    have HZ1 := Lib.hid (zin_cut ks c)
    clear h hs hbig hk hcl h1
    go_enter Try.func63, Try.ntmps63
    go_wp2_with (go_at_call 67; refine HF.out.mono ?_; rintro e w' ⟨rfl, rfl⟩)
    refine HD1.out.mono ?_
    rintro e w1 ⟨ao1, cap1, rfl, k1, o1, b1⟩
    obtain ⟨m1, m2, m3, m4, m5⟩ := HMID.out w1 (.slice ao1 (ks.length - 1) cap1) o1
    rw [HZ1.out] at k1
    have HD3 := Lib.hid (HD2.out w1 (.slice ao1 (ks.length - 1) cap1) o1)
    have K1 := Lib.hid (And.intro k1 (And.intro o1 (And.intro b1 m5)))
    clear k1 o1 b1 m3 m5
    go_wp2_with fail
    refine HD3.out.mono ?_
    rintro e w2 ⟨ao2, cap2, rfl, k2, o2, b2⟩
    obtain ⟨n1, n2⟩ := K1.out.2.2.2 w2 o2
    have H := Lib.hid (HP.out _ _ _ _ K1.out.1 K1.out.2.1 K1.out.2.2.1 k2 o2 b2)
    clear k2 o2 b2
    go_wp2_with fail
    go_end0
    exact H.out
end Go.Proofs.Ytlhmcbcoaplcaaa
