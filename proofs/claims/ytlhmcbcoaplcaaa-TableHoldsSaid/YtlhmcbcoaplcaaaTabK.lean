/- table.ordered over ids: put of a new key. -/
import Derived.Test.YtlhmcbcoaplcaaaTabJ
set_option linter.unusedVariables false
set_option linter.unusedSimpArgs false
namespace Go.Proofs.Ytlhmcbcoaplcaaa
open Go.ChangeShapes Go.WideShapes Go.ChangeAt Go.RowKit

def PutPost (w : World) (tb o : Nat) (cur : Array Value) (T e sz : Nat) (kv vv : Value) (ks : List Int) (vs : List Value) (x : Int) (news : List Value) (en : Ending) (w' : World) : Prop :=
  en = .returned (.tuple #[]) ∧ ((ks.contains x = true ∧ Ord w' tb o cur T e sz kv vv ks.length (zin ks) (vs.take (ks.countP (· < x) * sz) ++ (news ++ vs.drop ((ks.countP (· < x) + 1) * sz))) ∧ Off (blk vv) w w') ∨
    (ks.contains x = false ∧ OrdStep w tb o cur T e sz kv vv (ks.length + 1) (zin (ks.take (ks.countP (· < x)) ++ (x :: ks.drop (ks.countP (· < x))))) (vs.take (ks.countP (· < x) * sz) ++ (news ++ vs.drop (ks.countP (· < x) * sz))) w'))
theorem zin_ins (u : List Int) (i : Nat) (x : Int) : (zin u).take (i * 1) ++ ([.int .i64 x] ++ (zin u).drop (i * 1)) = zin (u.take i ++ (x :: u.drop i)) := by simp [zin]
theorem count_le_len (ks : List Int) (x : Int) : ks.countP (· < x) ≤ ks.length := List.countP_le_length

set_option maxRecDepth 100000 in
set_option maxHeartbeats 4000000 in
theorem put62_new (tb o : Nat) (cur : Array Value) (T : Nat) (kv vv : Value) (ks : List Int) (vs : List Value) (x y : Int) (w : World) (h : Ord w tb o cur T 3 1 kv vv ks.length (zin ks) vs) (h1 : ∀ u ∈ vs, u.oneCell' = true) (hbig : ks.length < 1000000) (hs : ks.Pairwise (· ≤ ·)) (hk : ks.contains x = false) :
    Calls Try.prog 62 #[.pointer (some ⟨tb, o, none⟩), .int .i64 x, .int .i64 y] w (PutPost w tb o cur T 3 1 kv vv ks vs x [.int .i64 y]) := by
  have hcl := count_le_len ks x
  obtain ⟨hc, hc2⟩ := h.cells
  have HF := Lib.hid (find68 tb o ks kv x w hc h.keys (by omega) hs)
  rw [hk] at HF
  have HP : Hid (∀ w1 w2 kv' vv', Own w1 3 1 kv' (ks.length + 1) (zin (ks.take (ks.countP (· < x)) ++ (x :: ks.drop (ks.countP (· < x))))) → Off (blk kv) (w.alloc (.cells #[.int .i64 x] 3)) w1 → (∀ z ∈ blk kv', z ∈ blk kv ∨ (w.alloc (.cells #[.int .i64 x] 3)).heap.size ≤ z) →
      Own w2 3 1 vv' (ks.length + 1) (vs.take (ks.countP (· < x) * 1) ++ ([.int .i64 y] ++ vs.drop (ks.countP (· < x) * 1))) → Off (blk vv) ((w1.setCell ⟨tb, o, none⟩ kv').alloc (.cells #[.int .i64 y] 3)) w2 → (∀ z ∈ blk vv', z ∈ blk vv ∨ ((w1.setCell ⟨tb, o, none⟩ kv').alloc (.cells #[.int .i64 y] 3)).heap.size ≤ z) →
      PutPost w tb o cur T 3 1 kv vv ks vs x [.int .i64 y] (.returned (.tuple #[])) (w2.setCell ⟨tb, o + 1, none⟩ vv')) := by
    intro w1 w2 kv' vv' k1 o1 b1 k2 o2 b2
    refine ⟨rfl, .inr ⟨hk, ord_steps h k1 (Off.trans ((Off.refl _ w).alloc _) o1 (fun z hz => .inl hz)) (fun z hz => ?_) k2 (Off.trans ((Off.refl _ _).alloc _) o2 (fun z hz => .inl hz)) (fun z hz => ?_)⟩⟩
    · rcases b1 z hz with q | q
      · exact .inl q
      · simp at q; exact .inr (by omega)
    · rcases b2 z hz with q | q
      · exact .inl q
      · simp at q; exact .inr (by omega)
  generalize ks.countP (· < x) = c at *
  have HD1 := Lib.hid (insert3 kv ks.length c w.heap.size (zin ks) [.int .i64 x] (w.alloc (.cells #[.int .i64 x] 3)) (h.keys.alloc _) hcl hbig rfl (zin_one ks) (by simp [Value.oneCell']) (IsC.new _ _ _) (fun hx => by have := h.keys.lt _ hx; omega))
  have HMID := Lib.hid (fun w1 kv' (o1 : Off (blk kv) (w.alloc (.cells #[.int .i64 x] 3)) w1) => h.mid (kv' := kv') (Off.trans ((Off.refl _ w).alloc _) o1 (fun z hz => .inl hz)))
  have HD2 := Lib.hid (fun w1 kv' (o1 : Off (blk kv) (w.alloc (.cells #[.int .i64 x] 3)) w1) => insert3 vv ks.length c w1.heap.size vs [.int .i64 y] ((w1.setCell ⟨tb, o, none⟩ kv').alloc (.cells #[.int .i64 y] 3))
    ((h.mid (kv' := kv') (Off.trans ((Off.refl _ w).alloc _) o1 (fun z hz => .inl hz))).2.2.1.alloc _) hcl hbig rfl h1 (by simp [Value.oneCell']) (IsC.newAt _ (by simp)) (fun hx => by have := h.vals.lt _ hx; have := o1.size; simp at this; omega))
  have HA := Lib.hid (fun w2 w1 kv' (o1 : Off (blk kv) (w.alloc (.cells #[.int .i64 x] 3)) w1) (o2 : Off (blk vv) ((w1.setCell ⟨tb, o, none⟩ kv').alloc (.cells #[.int .i64 y] 3)) w2) => (h.mid (kv' := kv') (Off.trans ((Off.refl _ w).alloc _) o1 (fun z hz => .inl hz))).2.2.2.2 w2 (Off.trans ((Off.refl _ _).alloc _) o2 (fun z hz => .inl hz)))
  have hcN : c < 1000000 := by omega
  have HZ1 := Lib.hid (zin_ins ks c x)
  have htb := h.blkC.lt
  clear h hs hbig hk hcl h1
  go_enter Try.func62, Try.ntmps62
  go_wp2_with (go_at_call 68; refine HF.out.mono ?_; rintro e w' ⟨rfl, rfl⟩)
  refine HD1.out.mono ?_
  rintro e w1 ⟨ao1, cap1, rfl, k1, o1, b1⟩
  obtain ⟨m1, m2, m3, m4, m5⟩ := HMID.out w1 (.slice ao1 (ks.length + 1) cap1) o1
  rw [HZ1.out] at k1
  have HD3 := Lib.hid (HD2.out w1 (.slice ao1 (ks.length + 1) cap1) o1)
  have HA2 := Lib.hid (fun w2 o2 => HA.out w2 w1 (.slice ao1 (ks.length + 1) cap1) o1 o2)
  have K1 := Lib.hid (And.intro k1 (And.intro o1 b1))
  have hs1 := o1.size
  clear k1 o1 b1 m3 m5
  go_wp2_with fail
  refine HD3.out.mono ?_
  rintro e w2 ⟨ao2, cap2, rfl, k2, o2, b2⟩
  obtain ⟨n1, n2⟩ := HA2.out w2 o2
  have H := Lib.hid (HP.out _ _ _ _ K1.out.1 K1.out.2.1 K1.out.2.2 k2 o2 b2)
  clear k2 o2 b2
  go_wp2_with fail
  go_end0
  exact H.out
end Go.Proofs.Ytlhmcbcoaplcaaa
