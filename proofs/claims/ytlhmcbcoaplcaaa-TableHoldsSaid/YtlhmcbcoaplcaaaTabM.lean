/- table.ordered over rows: put of a new key. -/
import Derived.Test.YtlhmcbcoaplcaaaTabL
set_option linter.unusedVariables false
set_option linter.unusedSimpArgs false
namespace Go.Proofs.Ytlhmcbcoaplcaaa
open Go.ChangeShapes Go.WideShapes Go.ChangeAt Go.RowKit

set_option maxRecDepth 100000 in
set_option maxHeartbeats 4000000 in
theorem put61_new (tb o : Nat) (cur : Array Value) (T : Nat) (kv vv : Value) (ks : List Int) (vs : List Value) (x : Int) (r : Rw) (w : World) (h : Ord w tb o cur T 70 5 kv vv ks.length (zin ks) vs) (h1 : ∀ u ∈ vs, u.oneCell' = true) (hbig : ks.length < 1000000) (hs : ks.Pairwise (· ≤ ·)) (hk : ks.contains x = false) :
    Calls Try.prog 61 #[.pointer (some ⟨tb, o, none⟩), .int .i64 x, ragg r] w (PutPost w tb o cur T 70 5 kv vv ks vs x (rcells r)) := by
  obtain ⟨b, i, s, l, n⟩ := r
  have hcl := count_le_len ks x
  obtain ⟨BX, hBX⟩ : ∃ BX, BX = (Obj.cells #[.int .i64 b, .int .i64 i, .int .i64 s, .int .i64 l, .int .i64 n] 70) := ⟨_, rfl⟩
  have ho := (Off.refl [] w).alloc BX
  have h' := h.off ho (by simp) (by simp) (by simp)
  obtain ⟨hc, hc2⟩ := h'.cells
  have HF := Lib.hid (find67 tb o ks kv x (w.alloc BX) hc h'.keys (by omega) hs)
  rw [hk] at HF
  have HP : Hid (∀ w1 w2 kv' vv', Own w1 3 1 kv' (ks.length + 1) (zin (ks.take (ks.countP (· < x)) ++ (x :: ks.drop (ks.countP (· < x))))) → Off (blk kv) ((w.alloc BX).alloc (.cells #[.int .i64 x] 3)) w1 → (∀ z ∈ blk kv', z ∈ blk kv ∨ ((w.alloc BX).alloc (.cells #[.int .i64 x] 3)).heap.size ≤ z) →
      Own w2 70 5 vv' (ks.length + 1) (vs.take (ks.countP (· < x) * 5) ++ (rcells ⟨b, i, s, l, n⟩ ++ vs.drop (ks.countP (· < x) * 5))) → Off (blk vv) ((w1.setCell ⟨tb, o, none⟩ kv').alloc BX).drew w2 → (∀ z ∈ blk vv', z ∈ blk vv ∨ ((w1.setCell ⟨tb, o, none⟩ kv').alloc BX).drew.heap.size ≤ z) →
      PutPost w tb o cur T 70 5 kv vv ks vs x (rcells ⟨b, i, s, l, n⟩) (.returned (.tuple #[])) (w2.setCell ⟨tb, o + 1, none⟩ vv')) := by
    intro w1 w2 kv' vv' k1 o1 b1 k2 o2 b2
    refine ⟨rfl, .inr ⟨hk, ord_steps h k1 (Off.trans (((Off.refl _ w).alloc _).alloc _) o1 (fun z hz => .inl hz)) (fun z hz => ?_) k2 (Off.trans (((Off.refl _ _).alloc _).drew) o2 (fun z hz => .inl hz)) (fun z hz => ?_)⟩⟩
    · rcases b1 z hz with q | q
      · exact .inl q
      · simp at q; exact .inr (by omega)
    · rcases b2 z hz with q | q
      · exact .inl q
      · refine .inr ?_
        have e : ((w1.setCell ⟨tb, o, none⟩ kv').alloc BX).drew.heap.size = ((w1.setCell ⟨tb, o, none⟩ kv').alloc BX).heap.size := rfl
        rw [e] at q
        simp at q; omega
  generalize ks.countP (· < x) = c at *
  have HD1 := Lib.hid (insert3 kv ks.length c (w.heap.size + 1) (zin ks) [.int .i64 x] ((w.alloc BX).alloc (.cells #[.int .i64 x] 3)) (h'.keys.alloc _) hcl hbig rfl (zin_one ks) (by simp [Value.oneCell']) (IsC.newAt _ (by simp)) (fun hx => by have := h.keys.lt _ hx; omega))
  have hof : ∀ w1, Off (blk kv) ((w.alloc BX).alloc (.cells #[.int .i64 x] 3)) w1 → Off (blk kv) (w.alloc BX) w1 := fun w1 o1 => Off.trans ((Off.refl _ _).alloc _) o1 (fun z hz => .inl hz)
  have hbx : IsC (w.alloc BX) w.heap.size #[.int .i64 b, .int .i64 i, .int .i64 s, .int .i64 l, .int .i64 n] 70 := by rw [hBX]; exact IsC.new _ _ _
  have hnk : w.heap.size ∉ blk kv := fun hx => by have := h.keys.lt _ hx; omega
  have hnv : w.heap.size ∉ blk vv := fun hx => by have := h.vals.lt _ hx; omega
  have htb := h.blkC.lt
  have HMID := Lib.hid (fun w1 kv' (o1 : Off (blk kv) ((w.alloc BX).alloc (.cells #[.int .i64 x] 3)) w1) =>
    And.intro (h'.mid (kv' := kv') (hof w1 o1)) ((hbx.off (hof w1 o1) hnk).setCell (k := tb) o kv' (by omega)))
  have hsz : ∀ (w1 : World) kv', (w1.setCell ⟨tb, o, none⟩ kv').heap.size = w1.heap.size := fun _ _ => by simp
  have HD2 := Lib.hid (fun w1 kv' (o1 : Off (blk kv) ((w.alloc BX).alloc (.cells #[.int .i64 x] 3)) w1) => insert70 vv ks.length c (w1.setCell ⟨tb, o, none⟩ kv').heap.size vs (rcells ⟨b, i, s, l, n⟩) ((w1.setCell ⟨tb, o, none⟩ kv').alloc BX).drew
    ((h'.mid (kv' := kv') (hof w1 o1)).2.2.1.alloc _).drew hcl hbig rfl h1 (by simp [rcells, Value.oneCell']) (by rw [hBX]; exact IsC.drew_iff.2 (IsC.new _ _ _)) (fun hx => by have q1 := h.vals.lt _ hx; have q2 := o1.size; rw [hsz] at q1; simp only [World.size_alloc] at q2; omega))
  have HA := Lib.hid (fun w2 w1 kv' (o1 : Off (blk kv) ((w.alloc BX).alloc (.cells #[.int .i64 x] 3)) w1) (o2 : Off (blk vv) ((w1.setCell ⟨tb, o, none⟩ kv').alloc BX).drew w2) => (h'.mid (kv' := kv') (hof w1 o1)).2.2.2.2 w2 (Off.trans (((Off.refl _ _).alloc _).drew) o2 (fun z hz => .inl hz)))
  have hcN : c < 1000000 := by omega
  have HZ1 := Lib.hid (zin_ins ks c x)
  generalize hks : ks.length = N at *
  clear h h' hs hbig hk hcl h1 hof hbx hnk hnv hc2 ho hks hsz
  show Calls Try.prog 61 #[.pointer (some ⟨tb, o, none⟩), .int .i64 x, .agg #[.int .i64 b, .int .i64 i, .int .i64 s, .int .i64 l, .int .i64 n]] w _
  subst hBX
  go_enter Try.func61, Try.ntmps61
  go_wp2_with (go_at_call 67; refine HF.out.mono ?_; rintro e w' ⟨rfl, rfl⟩)
  refine HD1.out.mono ?_
  rintro e w1 ⟨ao1, cap1, rfl, k1, o1, b1⟩
  obtain ⟨⟨m1, m2, m3, m4, m5⟩, m6⟩ := HMID.out w1 (.slice ao1 (N + 1) cap1) o1
  rw [HZ1.out] at k1
  have HD3 := Lib.hid (HD2.out w1 (.slice ao1 (N + 1) cap1) o1)
  have HA2 := Lib.hid (fun w2 o2 => HA.out w2 w1 (.slice ao1 (N + 1) cap1) o1 o2)
  have HP2 := Lib.hid (fun w2 vv' => HP.out w1 w2 (.slice ao1 (N + 1) cap1) vv' k1 o1 b1)
  have hs1 := o1.size
  clear k1 o1 b1 m3 m5 HP HA HD2 HMID HD1 HF hc
  go_upto_region 5 with fail
  clear m1 m2
  have hlt1 : tb < (w1.setCell ⟨tb, o, none⟩ (.slice ao1 (N + 1) cap1)).heap.size := by simp only [World.size_alloc] at hs1; simp; omega
  clear hs1
  generalize w1.setCell ⟨tb, o, none⟩ (.slice ao1 (N + 1) cap1) = W1 at *
  have r6 := m6.reads
  have q4 := fun ob => (World.cell?_alloc_lt W1 ob ⟨tb, o + 1, none⟩ hlt1).trans m4
  go_region_law (first | (go_simp; go_at_call 70; refine HD3.out.mono ?_; rintro e w2 ⟨ao2, cap2, rfl, k2, o2, b2⟩; obtain ⟨n1, n2⟩ := HA2.out w2 o2; have H := Lib.hid (HP2.out _ _ k2 o2 b2); clear k2 o2 b2))
  all_goals (go_end0; exact H.out)
end Go.Proofs.Ytlhmcbcoaplcaaa
