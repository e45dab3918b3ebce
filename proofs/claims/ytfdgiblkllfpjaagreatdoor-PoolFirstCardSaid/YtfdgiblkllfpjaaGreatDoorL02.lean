/- Bytes: slices of them that a call owns; Clone. -/
import Derived.Test.YtfdgiblkllfpjaaGreatDoorL01
import Derived.Lib.SliceRun
import Derived.Lib.EndianBits
set_option linter.unusedVariables false
set_option linter.unusedSimpArgs false
namespace Go.Proofs.YtfdgiblkllfpjaaGreatDoor
open Go.ChangeShapes Go.WideShapes Go.ChangeAt Go.RowKit

def bv (b : UInt8) : Value := .int .u8 (b.toNat : Int)
def bytesV (l : List UInt8) : List Value := l.map bv
theorem bytesV_len (l : List UInt8) : (bytesV l).length = l.length := by simp [bytesV]
theorem bytesV_one (l : List UInt8) : ∀ u ∈ bytesV l, u.oneCell' = true := by
  intro u hu; obtain ⟨b, _, rfl⟩ := List.mem_map.1 hu; rfl
theorem bytesV_append (l m : List UInt8) : bytesV (l ++ m) = bytesV l ++ bytesV m := by simp [bytesV]
theorem bytesV_get (l : List UInt8) (i : Nat) : (bytesV l)[i]? = (l[i]?).map bv := by simp [bytesV]
theorem iinfo5 : (Tryz.prog.info? 5).map (fun i => (i.zero, i.size, i.bytes)) = some (some (.int .u8 0), 1, 1) := by kernel_rfl
/-- A slice of these bytes. -/
def IsB (w : World) (v : Value) (l : List UInt8) : Prop := Own w 5 1 v l.length (bytesV l)
/-- A slice of these bytes that nobody else knows. -/
def FreshB (w : World) (l : List UInt8) (e : Ending) (w' : World) : Prop :=
  ∃ ao cap, e = .returned (.slice ao l.length cap) ∧ IsB w' (.slice ao l.length cap) l ∧ Off [] w w' ∧ ∀ x ∈ blk (.slice ao l.length cap), w.heap.size ≤ x
theorem IsB.off {w w' : World} {v : Value} {l : List UInt8} {S : List Nat} (h : IsB w v l) (ho : Off S w w') (hn : ∀ b ∈ blk v, b ∉ S) : IsB w' v l := Own.off h ho hn
theorem IsB.lt {w : World} {v : Value} {l : List UInt8} (h : IsB w v l) : ∀ b ∈ blk v, b < w.heap.size := Own.lt h
theorem IsB.val {w : World} {v : Value} {l : List UInt8} (h : IsB w v l) : ∃ ao cap, v = .slice ao l.length cap := by obtain ⟨a, c, e, _⟩ := Own.val h; exact ⟨a, c, e⟩
theorem IsB.nil (w : World) : IsB w (.slice none 0 0) [] := Own.nil w 5 1
theorem IsB.cell {w : World} {g off n cap : Nat} {l : List UInt8} (h : IsB w (.slice (some ⟨g, off, none⟩) n cap) l) (i : Nat) (hi : i < l.length) : w.cell? ⟨g, off + i, none⟩ = some (bv l[i]) := by
  have hn : n = l.length := by obtain ⟨a, c, e⟩ := h.val; injection e
  subst hn
  have q := Own.cellAt h i (by omega)
  rw [q, bytesV_get, List.getElem?_eq_getElem hi]; rfl
theorem IsB.base {w : World} {ao : Option Addr} {n cap : Nat} {l : List UInt8} (h : IsB w (.slice ao n cap) l) (hn : 0 < l.length) : ∃ g off, ao = some ⟨g, off, none⟩ := by
  rcases h.2 with ⟨e, h0⟩ | ⟨g, off, c, cur, e, _⟩
  · omega
  · injection e with e1 _ _; exact ⟨g, off, e1⟩

set_option maxRecDepth 100000 in
set_option maxHeartbeats 2000000 in
theorem clone60 (v : Value) (l : List UInt8) (w : World) (h : IsB w v l) (hn : l.length < 4294967296) : Calls Tryz.prog 60 #[v] w (FreshB w l) := by
  have h1 := bytesV_one l
  have hlen := bytesV_len l
  unfold IsB at h
  obtain ⟨hl, ⟨rfl, h0⟩ | ⟨g, off, cap, cur, rfl, hr⟩⟩ := h
  · have hx : l = [] := List.eq_nil_of_length_eq_zero h0
    subst hx
    have H : Hid (FreshB w [] (.returned (.slice none 0 0)) w) := ⟨none, 0, rfl, Own.nil w 5 1, Off.refl _ _, by simp [blk]⟩
    clear h1 hn hl h0
    have R : ∀ W, (binOp .eql 22 (.slice none 0 0) (.slice none 0 0)).run Tryz.prog W = .ok (.bool true) W := fun W => Lib.run_eql_slice_nil (P := Tryz.prog) W 22 5 none 0 0 0 0 Tryz.underlying22
    go_enter Tryz.func60, Tryz.ntmps60
    go_wp2
    go_ret
    exact H.out
  · have h : Own w 5 1 (.slice (some ⟨g, off, none⟩) l.length cap) l.length (bytesV l) := ⟨hl, .inr ⟨g, off, cap, cur, rfl, hr⟩⟩
    have HS := Lib.hid ((h.alloc (.cells #[] 5)).src (t := 22) Tryz.underlying22 h1)
    have HO := Lib.hid (Own.new w 5 1 #[] 0 (by decide) rfl)
    have HB : Hid ((0 + l.length) * 1 ≤ 140737488355328) := by show (0 + l.length) * 1 ≤ 140737488355328; omega
    have HP : Hid (∀ ao cap' w', Own w' 5 1 (.slice ao l.length cap') l.length (bytesV l) → Off (blk (.slice (some ⟨w.heap.size, 0, none⟩) 0 0)) (w.alloc (.cells #[] 5)) w' → (blk (.slice ao l.length cap') = blk (.slice (some ⟨w.heap.size, 0, none⟩) 0 0) ∨ blk (.slice ao l.length cap') = [w.heap.size + 1]) →
        FreshB w l (.returned (.slice ao l.length cap')) w') := by
      intro ao cap' w' k1 k2 k3
      refine ⟨ao, cap', rfl, k1, ((Off.refl [] w).alloc _).trans k2 (fun x hx => .inr (by simp [blk] at hx; omega)), fun x hx => ?_⟩
      rcases k3 with q | q <;> rw [q] at hx <;> simp [blk] at hx <;> omega
    generalize l.length = n at *
    clear h h1 hr hl hn hlen
    have R : ∀ W, (binOp .eql 22 (.slice (some ⟨g, off, none⟩) n cap) (.slice none 0 0)).run Tryz.prog W = .ok (.bool false) W := fun W => Lib.run_eql_slice_nil (P := Tryz.prog) W 22 5 (some ⟨g, off, none⟩) n cap 0 0 Tryz.underlying22
    go_enter Tryz.func60, Tryz.ntmps60
    go_wp2_with (at_builtin; refine wp_app rfl _ _ 22 22 rfl rfl HO.out Tryz.underlying22 iinfo5 rfl (by decide) rfl HS.out HB.out ?_)
    intro ao cap' w' k1 k2 k3
    have H := Lib.hid (HP.out ao cap' w' k1 k2 k3)
    clear k1 k2 k3 HP HO HS HB
    go_wp2_with fail
    go_ret
    exact H.out

set_option maxRecDepth 100000 in
set_option maxHeartbeats 2000000 in
theorem clone80 (v : Value) (l : List UInt8) (w : World) (h : IsB w v l) (hn : l.length < 4294967296) : Calls Tryz.prog 80 #[v] w (FreshB w l) := by
  have h1 := bytesV_one l
  have hlen := bytesV_len l
  unfold IsB at h
  obtain ⟨hl, ⟨rfl, h0⟩ | ⟨g, off, cap, cur, rfl, hr⟩⟩ := h
  · have hx : l = [] := List.eq_nil_of_length_eq_zero h0
    subst hx
    have H : Hid (FreshB w [] (.returned (.slice none 0 0)) w) := ⟨none, 0, rfl, Own.nil w 5 1, Off.refl _ _, by simp [blk]⟩
    clear h1 hn hl h0
    have R : ∀ W, (binOp .eql 22 (.slice none 0 0) (.slice none 0 0)).run Tryz.prog W = .ok (.bool true) W := fun W => Lib.run_eql_slice_nil (P := Tryz.prog) W 22 5 none 0 0 0 0 Tryz.underlying22
    go_enter Tryz.func80, Tryz.ntmps80
    go_wp2
    go_ret
    exact H.out
  · have h : Own w 5 1 (.slice (some ⟨g, off, none⟩) l.length cap) l.length (bytesV l) := ⟨hl, .inr ⟨g, off, cap, cur, rfl, hr⟩⟩
    have HS := Lib.hid ((h.alloc (.cells #[] 5)).src (t := 22) Tryz.underlying22 h1)
    have HO := Lib.hid (Own.new w 5 1 #[] 0 (by decide) rfl)
    have HB : Hid ((0 + l.length) * 1 ≤ 140737488355328) := by show (0 + l.length) * 1 ≤ 140737488355328; omega
    have HP : Hid (∀ ao cap' w', Own w' 5 1 (.slice ao l.length cap') l.length (bytesV l) → Off (blk (.slice (some ⟨w.heap.size, 0, none⟩) 0 0)) (w.alloc (.cells #[] 5)) w' → (blk (.slice ao l.length cap') = blk (.slice (some ⟨w.heap.size, 0, none⟩) 0 0) ∨ blk (.slice ao l.length cap') = [w.heap.size + 1]) →
        FreshB w l (.returned (.slice ao l.length cap')) w') := by
      intro ao cap' w' k1 k2 k3
      refine ⟨ao, cap', rfl, k1, ((Off.refl [] w).alloc _).trans k2 (fun x hx => .inr (by simp [blk] at hx; omega)), fun x hx => ?_⟩
      rcases k3 with q | q <;> rw [q] at hx <;> simp [blk] at hx <;> omega
    generalize l.length = n at *
    clear h h1 hr hl hn hlen
    have R : ∀ W, (binOp .eql 22 (.slice (some ⟨g, off, none⟩) n cap) (.slice none 0 0)).run Tryz.prog W = .ok (.bool false) W := fun W => Lib.run_eql_slice_nil (P := Tryz.prog) W 22 5 (some ⟨g, off, none⟩) n cap 0 0 Tryz.underlying22
    go_enter Tryz.func80, Tryz.ntmps80
    go_wp2_with (at_builtin; refine wp_app rfl _ _ 22 22 rfl rfl HO.out Tryz.underlying22 iinfo5 rfl (by decide) rfl HS.out HB.out ?_)
    intro ao cap' w' k1 k2 k3
    have H := Lib.hid (HP.out ao cap' w' k1 k2 k3)
    clear k1 k2 k3 HP HO HS HB
    go_wp2_with fail
    go_ret
    exact H.out

set_option maxRecDepth 100000 in
set_option maxHeartbeats 2000000 in
theorem clone219 (v : Value) (l : List UInt8) (w : World) (h : IsB w v l) (hn : l.length < 4294967296) : Calls Tryz.prog 219 #[v] w (FreshB w l) := by
  have h1 := bytesV_one l
  have hlen := bytesV_len l
  unfold IsB at h
  obtain ⟨hl, ⟨rfl, h0⟩ | ⟨g, off, cap, cur, rfl, hr⟩⟩ := h
  · have hx : l = [] := List.eq_nil_of_length_eq_zero h0
    subst hx
    have H : Hid (FreshB w [] (.returned (.slice none 0 0)) w) := ⟨none, 0, rfl, Own.nil w 5 1, Off.refl _ _, by simp [blk]⟩
    clear h1 hn hl h0
    have R : ∀ W, (binOp .eql 218 (.slice none 0 0) (.slice none 0 0)).run Tryz.prog W = .ok (.bool true) W := fun W => Lib.run_eql_slice_nil (P := Tryz.prog) W 218 5 none 0 0 0 0 Tryz.underlying218
    go_enter Tryz.func219, Tryz.ntmps219
    go_wp2
    go_ret
    exact H.out
  · have h : Own w 5 1 (.slice (some ⟨g, off, none⟩) l.length cap) l.length (bytesV l) := ⟨hl, .inr ⟨g, off, cap, cur, rfl, hr⟩⟩
    have HS := Lib.hid ((h.alloc (.cells #[] 5)).src (t := 218) Tryz.underlying218 h1)
    have HO := Lib.hid (Own.new w 5 1 #[] 0 (by decide) rfl)
    have HB : Hid ((0 + l.length) * 1 ≤ 140737488355328) := by show (0 + l.length) * 1 ≤ 140737488355328; omega
    have HP : Hid (∀ ao cap' w', Own w' 5 1 (.slice ao l.length cap') l.length (bytesV l) → Off (blk (.slice (some ⟨w.heap.size, 0, none⟩) 0 0)) (w.alloc (.cells #[] 5)) w' → (blk (.slice ao l.length cap') = blk (.slice (some ⟨w.heap.size, 0, none⟩) 0 0) ∨ blk (.slice ao l.length cap') = [w.heap.size + 1]) →
        FreshB w l (.returned (.slice ao l.length cap')) w') := by
      intro ao cap' w' k1 k2 k3
      refine ⟨ao, cap', rfl, k1, ((Off.refl [] w).alloc _).trans k2 (fun x hx => .inr (by simp [blk] at hx; omega)), fun x hx => ?_⟩
      rcases k3 with q | q <;> rw [q] at hx <;> simp [blk] at hx <;> omega
    generalize l.length = n at *
    clear h h1 hr hl hn hlen
    have R : ∀ W, (binOp .eql 218 (.slice (some ⟨g, off, none⟩) n cap) (.slice none 0 0)).run Tryz.prog W = .ok (.bool false) W := fun W => Lib.run_eql_slice_nil (P := Tryz.prog) W 218 5 (some ⟨g, off, none⟩) n cap 0 0 Tryz.underlying218
    go_enter Tryz.func219, Tryz.ntmps219
    go_wp2_with (at_builtin; refine wp_app rfl _ _ 218 218 rfl rfl HO.out Tryz.underlying218 iinfo5 rfl (by decide) rfl HS.out HB.out ?_)
    intro ao cap' w' k1 k2 k3
    have H := Lib.hid (HP.out ao cap' w' k1 k2 k3)
    clear k1 k2 k3 HP HO HS HB
    go_wp2_with fail
    go_ret
    exact H.out
end Go.Proofs.YtfdgiblkllfpjaaGreatDoor

/- octet: Put. -/
set_option linter.unusedVariables false
set_option linter.unusedSimpArgs false
namespace Go.Proofs.YtfdgiblkllfpjaaGreatDoor
open Go.ChangeShapes Go.WideShapes Go.ChangeAt Go.RowKit

/-- A number's bytes, the lowest first. -/
def le : Nat → Nat → List UInt8
  | 0, _ => []
  | n + 1, x => UInt8.ofNat x :: le n (x / 256)
theorem le_len : ∀ n x, (le n x).length = n
  | 0, _ => rfl
  | n + 1, x => by simp [le, le_len n]
theorem le_succ : ∀ n x, le (n + 1) x = le n x ++ [UInt8.ofNat (x / 256 ^ n)]
  | 0, x => by simp [le]
  | n + 1, x => by
    rw [le, le_succ n (x / 256), le]
    simp [Nat.div_div_eq_div_mul, Nat.pow_succ, Nat.mul_comm]
def PutIn (w : World) (l : List UInt8) (x k : Nat) (o : Value) (wr : World) : Prop :=
  ∃ ao cap, o = .slice ao (l.length + k) cap ∧ IsB wr (.slice ao (l.length + k) cap) (l ++ le k x) ∧ Off [] w wr ∧ ∀ z ∈ blk (.slice ao (l.length + k) cap), w.heap.size ≤ z
theorem bv_ofNat (y : Nat) : bv (UInt8.ofNat y) = .int .u8 ((y : Int) % 256) := by
  unfold bv
  refine congrArg (Value.int .u8) ?_
  rw [UInt8.toNat_ofNat', show (2 : Nat) ^ 8 = 256 from rfl]
  omega
theorem PutIn.step {w wr : World} {l : List UInt8} {x k y : Nat} {ao : Option Addr} {cap : Nat} (hy : y = x / 256 ^ k) (ho : Off [] w wr) (hf : ∀ z ∈ blk (.slice ao (l.length + k) cap), w.heap.size ≤ z) :
    ∀ ao4 cap4 w4, Own w4 5 1 (.slice ao4 (l.length + k + 1) cap4) (l.length + k + 1) (bytesV (l ++ le k x) ++ [.int .u8 ((y : Int) % 256)]) → Off (blk (.slice ao (l.length + k) cap)) (wr.alloc (.cells #[.int .u8 ((y : Int) % 256)] 5)) w4 →
      (blk (.slice ao4 (l.length + k + 1) cap4) = blk (.slice ao (l.length + k) cap) ∨ blk (.slice ao4 (l.length + k + 1) cap4) = [wr.heap.size + 1]) → PutIn w l x (k + 1) (.slice ao4 (l.length + k + 1) cap4) w4 := by
  intro ao4 cap4 w4 q1 q2 q3
  have e : bytesV (l ++ le k x) ++ [.int .u8 ((y : Int) % 256)] = bytesV (l ++ le (k + 1) x) := by
    rw [le_succ, ← List.append_assoc, bytesV_append (l ++ le k x), ← hy, ← bv_ofNat]; rfl
  rw [e] at q1
  have hs := ho.size
  refine ⟨ao4, cap4, rfl, ?_, ((ho.alloc _).trans q2 (fun z hz => .inr (hf z hz))), fun z hz => ?_⟩
  · unfold IsB; rw [List.length_append, le_len, ← Nat.add_assoc]; exact q1
  · rcases q3 with q | q
    · rw [← Nat.add_assoc, q] at hz; exact hf z hz
    · rw [← Nat.add_assoc, q] at hz; simp at hz; omega

set_option maxRecDepth 100000 in
set_option maxHeartbeats 4000000 in
theorem put115 (v : Value) (l : List UInt8) (x : Nat) (hx : x < 256 ^ 8) (w : World) (h : IsB w v l) (hn : l.length < 4294967000) : Calls Tryz.prog 115 #[v, .int .u64 (x : Int)] w (FreshB w (l ++ le 8 x)) := by
  have HC := Lib.hid (clone60 v l w h (by omega))
  have hvv : ∃ ao cap, v = .slice ao l.length cap := by obtain ⟨a, c, e⟩ := h.val; exact ⟨a, c, e⟩
  obtain ⟨vao, vcap, rfl⟩ := hvv
  have HWX : Hid (IntKind.u64.wrap (x : Int) = x) := Lib.hid (by simp only [Nat.reducePow] at hx; show (x : Int) % 18446744073709551616 = x; omega)
  clear h hx
  go_enter Tryz.func115, Tryz.ntmps115
  go_wp2_with fail
  refine HC.out.mono ?_
  rintro e w1 ⟨ao, cap, rfl, hb, ho, hf⟩
  have HR0 : Hid (PutIn w l x 0 (.slice ao l.length cap) w1) := ⟨ao, cap, by simp [le], by simpa [le] using hb, ho, hf⟩
  have HW := Lib.hid (width178 w1)
  clear hb ho hf HC
  go_wp2_with fail
  refine HW.out.mono ?_
  rintro e w1' ⟨rfl, rfl⟩
  clear HW
  obtain ⟨N, hN⟩ : ∃ N, N = l.length := ⟨_, rfl⟩
  have HN := Lib.hid hN.symm
  rw [← hN] at hn ⊢
  clear hN
  go_wp2_with fail
  go_loopw [5, 6, 11] (fun o r i wr => ∃ k : Nat, k ≤ 8 ∧ i = .int .i64 (k : Nat) ∧ r = .int .u64 ((x / 256 ^ k : Nat) : Int) ∧ PutIn w l x k o wr) (fun _ _ i _ => 8 - (intOf i).toNat)
  case atStart => exact ⟨0, by omega, by go_num, by first | (simp; done) | (simp; exact HWX.out), by rw [← HN.out]; exact HR0.out⟩
  case round =>
    obtain ⟨k, hk, rfl, rfl, hin⟩ := hrel
    obtain ⟨y, hy⟩ : ∃ y, y = x / 256 ^ k := ⟨_, rfl⟩
    have HY := Lib.hid hy
    rw [← hy]
    by_cases hlt : k < 8
    · obtain ⟨ao, cap, rfl, hb, ho, hf⟩ := hin
      have hb1 := hb.off ((Off.refl [] wr).alloc (.cells #[.int .u8 ((y : Int) % 256)] 5)) (by simp)
      unfold IsB at hb1
      rw [List.length_append, le_len, HN.out] at hb1
      have HOA := Lib.hid hb1
      have HSRC := Lib.hid (src_new (P := Tryz.prog) wr (t := 22) (e := 5) (e' := 5) (sz := 1) #[.int .u8 ((y : Int) % 256)] 1 Tryz.underlying22 (by decide) rfl (by simp [Value.oneCell']))
      have HBD := Lib.hid (show (N + k + 1) * 1 ≤ 140737488355328 by omega)
      have HST := Lib.hid (PutIn.step (hf := hf) (ho := ho) HY.out)
      rw [HN.out] at HST ⊢
      clear hb1 hb ho hf hy
      go_wp2_with (at_builtin; go_loud (refine wp_app rfl _ _ 22 22 rfl rfl HOA.out Tryz.underlying22 iinfo5 rfl (by decide) rfl HSRC.out HBD.out ?_))
      intro ao4 cap4 w4 q1 q2 q3
      have HR4 := Lib.hid (HST.out ao4 cap4 w4 q1 q2 q3)
      clear q1 q2 q3 HST HOA HSRC
      go_wp2_with fail
      go_roundw
      case rel => exact ⟨k + 1, by omega, by go_num, by rw [Nat.pow_succ, ← Nat.div_div_eq_div_mul, ← HY.out]; first | rfl | go_num, HR4.out⟩
      case measure => simp [intOf]; omega
    · have hkk : k = 8 := by omega
      subst hkk
      obtain ⟨ao, cap, rfl, hb, ho, hf⟩ := hin
      have HF : Hid (FreshB w (l ++ le 8 x) (.returned (.slice ao (l.length + 8) cap)) wr) := Lib.hid ⟨ao, cap, by rw [List.length_append, le_len], by rw [List.length_append, le_len]; exact hb, ho, by rw [List.length_append, le_len]; exact hf⟩
      clear hb ho hf
      go_wp2_with fail
      go_ret
      exact HF.out

set_option maxRecDepth 100000 in
set_option maxHeartbeats 4000000 in
theorem put116 (v : Value) (l : List UInt8) (x : Nat) (hx : x < 256 ^ 1) (w : World) (h : IsB w v l) (hn : l.length < 4294967000) : Calls Tryz.prog 116 #[v, .int .u8 (x : Int)] w (FreshB w (l ++ le 1 x)) := by
  have HC := Lib.hid (clone60 v l w h (by omega))
  have hvv : ∃ ao cap, v = .slice ao l.length cap := by obtain ⟨a, c, e⟩ := h.val; exact ⟨a, c, e⟩
  obtain ⟨vao, vcap, rfl⟩ := hvv
  have HWX : Hid (IntKind.u64.wrap (x : Int) = x) := Lib.hid (by simp only [Nat.reducePow] at hx; show (x : Int) % 18446744073709551616 = x; omega)
  clear h hx
  go_enter Tryz.func116, Tryz.ntmps116
  go_wp2_with fail
  refine HC.out.mono ?_
  rintro e w1 ⟨ao, cap, rfl, hb, ho, hf⟩
  have HR0 : Hid (PutIn w l x 0 (.slice ao l.length cap) w1) := ⟨ao, cap, by simp [le], by simpa [le] using hb, ho, hf⟩
  have HW := Lib.hid (width179 w1)
  clear hb ho hf HC
  go_wp2_with fail
  refine HW.out.mono ?_
  rintro e w1' ⟨rfl, rfl⟩
  clear HW
  obtain ⟨N, hN⟩ : ∃ N, N = l.length := ⟨_, rfl⟩
  have HN := Lib.hid hN.symm
  rw [← hN] at hn ⊢
  clear hN
  go_wp2_with fail
  go_loopw [5, 6, 12] (fun o r i wr => ∃ k : Nat, k ≤ 1 ∧ i = .int .i64 (k : Nat) ∧ r = .int .u64 ((x / 256 ^ k : Nat) : Int) ∧ PutIn w l x k o wr) (fun _ _ i _ => 1 - (intOf i).toNat)
  case atStart => exact ⟨0, by omega, by go_num, by first | (simp; done) | (simp; exact HWX.out), by rw [← HN.out]; exact HR0.out⟩
  case round =>
    obtain ⟨k, hk, rfl, rfl, hin⟩ := hrel
    obtain ⟨y, hy⟩ : ∃ y, y = x / 256 ^ k := ⟨_, rfl⟩
    have HY := Lib.hid hy
    rw [← hy]
    by_cases hlt : k < 1
    · obtain ⟨ao, cap, rfl, hb, ho, hf⟩ := hin
      have hb1 := hb.off ((Off.refl [] wr).alloc (.cells #[.int .u8 ((y : Int) % 256)] 5)) (by simp)
      unfold IsB at hb1
      rw [List.length_append, le_len, HN.out] at hb1
      have HOA := Lib.hid hb1
      have HSRC := Lib.hid (src_new (P := Tryz.prog) wr (t := 22) (e := 5) (e' := 5) (sz := 1) #[.int .u8 ((y : Int) % 256)] 1 Tryz.underlying22 (by decide) rfl (by simp [Value.oneCell']))
      have HBD := Lib.hid (show (N + k + 1) * 1 ≤ 140737488355328 by omega)
      have HST := Lib.hid (PutIn.step (hf := hf) (ho := ho) HY.out)
      rw [HN.out] at HST ⊢
      clear hb1 hb ho hf hy
      go_wp2_with (at_builtin; go_loud (refine wp_app rfl _ _ 22 22 rfl rfl HOA.out Tryz.underlying22 iinfo5 rfl (by decide) rfl HSRC.out HBD.out ?_))
      intro ao4 cap4 w4 q1 q2 q3
      have HR4 := Lib.hid (HST.out ao4 cap4 w4 q1 q2 q3)
      clear q1 q2 q3 HST HOA HSRC
      go_wp2_with fail
      go_roundw
      case rel => exact ⟨k + 1, by omega, by go_num, by rw [Nat.pow_succ, ← Nat.div_div_eq_div_mul, ← HY.out]; first | rfl | go_num, HR4.out⟩
      case measure => simp [intOf]; omega
    · have hkk : k = 1 := by omega
      subst hkk
      obtain ⟨ao, cap, rfl, hb, ho, hf⟩ := hin
      have HF : Hid (FreshB w (l ++ le 1 x) (.returned (.slice ao (l.length + 1) cap)) wr) := Lib.hid ⟨ao, cap, by rw [List.length_append, le_len], by rw [List.length_append, le_len]; exact hb, ho, by rw [List.length_append, le_len]; exact hf⟩
      clear hb ho hf
      go_wp2_with fail
      go_ret
      exact HF.out

set_option maxRecDepth 100000 in
set_option maxHeartbeats 4000000 in
theorem put117 (v : Value) (l : List UInt8) (x : Nat) (hx : x < 256 ^ 2) (w : World) (h : IsB w v l) (hn : l.length < 4294967000) : Calls Tryz.prog 117 #[v, .int .u16 (x : Int)] w (FreshB w (l ++ le 2 x)) := by
  have HC := Lib.hid (clone60 v l w h (by omega))
  have hvv : ∃ ao cap, v = .slice ao l.length cap := by obtain ⟨a, c, e⟩ := h.val; exact ⟨a, c, e⟩
  obtain ⟨vao, vcap, rfl⟩ := hvv
  have HWX : Hid (IntKind.u64.wrap (x : Int) = x) := Lib.hid (by simp only [Nat.reducePow] at hx; show (x : Int) % 18446744073709551616 = x; omega)
  clear h hx
  go_enter Tryz.func117, Tryz.ntmps117
  go_wp2_with fail
  refine HC.out.mono ?_
  rintro e w1 ⟨ao, cap, rfl, hb, ho, hf⟩
  have HR0 : Hid (PutIn w l x 0 (.slice ao l.length cap) w1) := ⟨ao, cap, by simp [le], by simpa [le] using hb, ho, hf⟩
  have HW := Lib.hid (width180 w1)
  clear hb ho hf HC
  go_wp2_with fail
  refine HW.out.mono ?_
  rintro e w1' ⟨rfl, rfl⟩
  clear HW
  obtain ⟨N, hN⟩ : ∃ N, N = l.length := ⟨_, rfl⟩
  have HN := Lib.hid hN.symm
  rw [← hN] at hn ⊢
  clear hN
  go_wp2_with fail
  go_loopw [5, 6, 12] (fun o r i wr => ∃ k : Nat, k ≤ 2 ∧ i = .int .i64 (k : Nat) ∧ r = .int .u64 ((x / 256 ^ k : Nat) : Int) ∧ PutIn w l x k o wr) (fun _ _ i _ => 2 - (intOf i).toNat)
  case atStart => exact ⟨0, by omega, by go_num, by first | (simp; done) | (simp; exact HWX.out), by rw [← HN.out]; exact HR0.out⟩
  case round =>
    obtain ⟨k, hk, rfl, rfl, hin⟩ := hrel
    obtain ⟨y, hy⟩ : ∃ y, y = x / 256 ^ k := ⟨_, rfl⟩
    have HY := Lib.hid hy
    rw [← hy]
    by_cases hlt : k < 2
    · obtain ⟨ao, cap, rfl, hb, ho, hf⟩ := hin
      have hb1 := hb.off ((Off.refl [] wr).alloc (.cells #[.int .u8 ((y : Int) % 256)] 5)) (by simp)
      unfold IsB at hb1
      rw [List.length_append, le_len, HN.out] at hb1
      have HOA := Lib.hid hb1
      have HSRC := Lib.hid (src_new (P := Tryz.prog) wr (t := 22) (e := 5) (e' := 5) (sz := 1) #[.int .u8 ((y : Int) % 256)] 1 Tryz.underlying22 (by decide) rfl (by simp [Value.oneCell']))
      have HBD := Lib.hid (show (N + k + 1) * 1 ≤ 140737488355328 by omega)
      have HST := Lib.hid (PutIn.step (hf := hf) (ho := ho) HY.out)
      rw [HN.out] at HST ⊢
      clear hb1 hb ho hf hy
      go_wp2_with (at_builtin; go_loud (refine wp_app rfl _ _ 22 22 rfl rfl HOA.out Tryz.underlying22 iinfo5 rfl (by decide) rfl HSRC.out HBD.out ?_))
      intro ao4 cap4 w4 q1 q2 q3
      have HR4 := Lib.hid (HST.out ao4 cap4 w4 q1 q2 q3)
      clear q1 q2 q3 HST HOA HSRC
      go_wp2_with fail
      go_roundw
      case rel => exact ⟨k + 1, by omega, by go_num, by rw [Nat.pow_succ, ← Nat.div_div_eq_div_mul, ← HY.out]; first | rfl | go_num, HR4.out⟩
      case measure => simp [intOf]; omega
    · have hkk : k = 2 := by omega
      subst hkk
      obtain ⟨ao, cap, rfl, hb, ho, hf⟩ := hin
      have HF : Hid (FreshB w (l ++ le 2 x) (.returned (.slice ao (l.length + 2) cap)) wr) := Lib.hid ⟨ao, cap, by rw [List.length_append, le_len], by rw [List.length_append, le_len]; exact hb, ho, by rw [List.length_append, le_len]; exact hf⟩
      clear hb ho hf
      go_wp2_with fail
      go_ret
      exact HF.out

set_option maxRecDepth 100000 in
set_option maxHeartbeats 4000000 in
theorem put123 (v : Value) (l : List UInt8) (x : Nat) (hx : x < 256 ^ 4) (w : World) (h : IsB w v l) (hn : l.length < 4294967000) : Calls Tryz.prog 123 #[v, .int .u32 (x : Int)] w (FreshB w (l ++ le 4 x)) := by
  have HC := Lib.hid (clone60 v l w h (by omega))
  have hvv : ∃ ao cap, v = .slice ao l.length cap := by obtain ⟨a, c, e⟩ := h.val; exact ⟨a, c, e⟩
  obtain ⟨vao, vcap, rfl⟩ := hvv
  have HWX : Hid (IntKind.u64.wrap (x : Int) = x) := Lib.hid (by simp only [Nat.reducePow] at hx; show (x : Int) % 18446744073709551616 = x; omega)
  clear h hx
  go_enter Tryz.func123, Tryz.ntmps123
  go_wp2_with fail
  refine HC.out.mono ?_
  rintro e w1 ⟨ao, cap, rfl, hb, ho, hf⟩
  have HR0 : Hid (PutIn w l x 0 (.slice ao l.length cap) w1) := ⟨ao, cap, by simp [le], by simpa [le] using hb, ho, hf⟩
  have HW := Lib.hid (width190 w1)
  clear hb ho hf HC
  go_wp2_with fail
  refine HW.out.mono ?_
  rintro e w1' ⟨rfl, rfl⟩
  clear HW
  obtain ⟨N, hN⟩ : ∃ N, N = l.length := ⟨_, rfl⟩
  have HN := Lib.hid hN.symm
  rw [← hN] at hn ⊢
  clear hN
  go_wp2_with fail
  go_loopw [5, 6, 12] (fun o r i wr => ∃ k : Nat, k ≤ 4 ∧ i = .int .i64 (k : Nat) ∧ r = .int .u64 ((x / 256 ^ k : Nat) : Int) ∧ PutIn w l x k o wr) (fun _ _ i _ => 4 - (intOf i).toNat)
  case atStart => exact ⟨0, by omega, by go_num, by first | (simp; done) | (simp; exact HWX.out), by rw [← HN.out]; exact HR0.out⟩
  case round =>
    obtain ⟨k, hk, rfl, rfl, hin⟩ := hrel
    obtain ⟨y, hy⟩ : ∃ y, y = x / 256 ^ k := ⟨_, rfl⟩
    have HY := Lib.hid hy
    rw [← hy]
    by_cases hlt : k < 4
    · obtain ⟨ao, cap, rfl, hb, ho, hf⟩ := hin
      have hb1 := hb.off ((Off.refl [] wr).alloc (.cells #[.int .u8 ((y : Int) % 256)] 5)) (by simp)
      unfold IsB at hb1
      rw [List.length_append, le_len, HN.out] at hb1
      have HOA := Lib.hid hb1
      have HSRC := Lib.hid (src_new (P := Tryz.prog) wr (t := 22) (e := 5) (e' := 5) (sz := 1) #[.int .u8 ((y : Int) % 256)] 1 Tryz.underlying22 (by decide) rfl (by simp [Value.oneCell']))
      have HBD := Lib.hid (show (N + k + 1) * 1 ≤ 140737488355328 by omega)
      have HST := Lib.hid (PutIn.step (hf := hf) (ho := ho) HY.out)
      rw [HN.out] at HST ⊢
      clear hb1 hb ho hf hy
      go_wp2_with (at_builtin; go_loud (refine wp_app rfl _ _ 22 22 rfl rfl HOA.out Tryz.underlying22 iinfo5 rfl (by decide) rfl HSRC.out HBD.out ?_))
      intro ao4 cap4 w4 q1 q2 q3
      have HR4 := Lib.hid (HST.out ao4 cap4 w4 q1 q2 q3)
      clear q1 q2 q3 HST HOA HSRC
      go_wp2_with fail
      go_roundw
      case rel => exact ⟨k + 1, by omega, by go_num, by rw [Nat.pow_succ, ← Nat.div_div_eq_div_mul, ← HY.out]; first | rfl | go_num, HR4.out⟩
      case measure => simp [intOf]; omega
    · have hkk : k = 4 := by omega
      subst hkk
      obtain ⟨ao, cap, rfl, hb, ho, hf⟩ := hin
      have HF : Hid (FreshB w (l ++ le 4 x) (.returned (.slice ao (l.length + 4) cap)) wr) := Lib.hid ⟨ao, cap, by rw [List.length_append, le_len], by rw [List.length_append, le_len]; exact hb, ho, by rw [List.length_append, le_len]; exact hf⟩
      clear hb ho hf
      go_wp2_with fail
      go_ret
      exact HF.out
end Go.Proofs.YtfdgiblkllfpjaaGreatDoor

/- octet: Get. -/
set_option linter.unusedVariables false
set_option linter.unusedSimpArgs false
namespace Go.Proofs.YtfdgiblkllfpjaaGreatDoor
open Go.ChangeShapes Go.WideShapes Go.ChangeAt Go.RowKit

/-- The number that bytes are. -/
def num8 : List UInt8 → Nat
  | [] => 0
  | b :: l => b.toNat + 256 * num8 l
theorem num8_lt : ∀ l, num8 l < 256 ^ l.length
  | [] => by simp [num8]
  | b :: l => by
    have := num8_lt l
    have hb := UInt8.toNat_lt b
    rw [num8, List.length_cons, Nat.pow_succ]; omega

theorem or_join (y c : Nat) (hy : y < 256 ^ 7) (hc : c < 256) : bits .or .u64 (IntKind.u64.wrap ((y : Int) * 256)) (IntKind.u64.wrap (c : Int)) = ((c + 256 * y : Nat) : Int) := by
  have hy' : y < 72057594037927936 := hy
  have e8 : (2 : Int) ^ 8 = 256 := rfl
  have e64 : (2 : Int) ^ 64 = 18446744073709551616 := rfl
  have h1 : IntKind.u64.wrap ((y : Int) * 256) = (y : Int) * 256 := wraps_u64 _ (by omega) (by rw [e64]; omega)
  have h2 : IntKind.u64.wrap (c : Int) = (c : Int) := wraps_u64 _ (by omega) (by rw [e64]; omega)
  have h3 : bits .or .u64 ((y : Int) * 256) (c : Int) = (y : Int) * 256 + c := bits_join .u64 64 (by decide) wraps_u64 8 _ _ (by omega) (by rw [e8]; omega) (by rw [e64]; omega) (by omega) (by rw [e8]; omega) (by rw [e64]; omega)
  rw [h1, h2, h3]
  omega
set_option maxRecDepth 100000 in
set_option maxHeartbeats 4000000 in
theorem little196 (v : Value) (l : List UInt8) (w : World) (h : IsB w v l) (hn : l.length ≤ 8) : Calls Tryz.prog 196 #[v] w fun e w' => e = .returned (.int .u64 (num8 l : Nat)) ∧ w = w' := by
  obtain ⟨ao, cap, rfl⟩ := h.val
  have HB := Lib.hid h
  clear h
  obtain ⟨N, hN⟩ : ∃ N, N = l.length := ⟨_, rfl⟩
  have HN := Lib.hid hN
  rw [← hN] at hn ⊢
  clear hN
  go_enter Tryz.func196, Tryz.ntmps196
  go_wp2_with fail
  go_loopw [3, 4] (fun v i wr => ∃ k : Nat, k ≤ N ∧ i = .int .i64 ((k : Int) - 1) ∧ v = .int .u64 (num8 (l.drop k) : Nat) ∧ w = wr) (fun _ i _ => (intOf i + 1).toNat)
  case atStart => exact ⟨N, Nat.le_refl _, by go_num, by rw [HN.out, List.drop_length]; rfl, rfl⟩
  case round =>
    obtain ⟨k, hk, rfl, rfl, rfl⟩ := hrel
    rcases k with _ | j
    · rw [show ((0 : Nat) : Int) - 1 = -1 by omega]
      rw [List.drop_zero]
      go_wp2_with fail
      go_ret
      exact ⟨rfl, rfl⟩
    · rw [show ((j + 1 : Nat) : Int) - 1 = (j : Int) by omega]
      obtain ⟨g, off, rfl⟩ := HB.out.base (by rw [← HN.out]; omega)
      have hjl : j < l.length := by rw [← HN.out]; omega
      have hc := HB.out.cell j hjl
      have hdr : l.drop j = l[j] :: l.drop (j + 1) := (List.getElem_cons_drop hjl).symm
      have hnx : num8 (l.drop j) = l[j].toNat + 256 * num8 (l.drop (j + 1)) := by rw [hdr]; rfl
      have hlt := num8_lt (l.drop (j + 1))
      have hc8 := UInt8.toNat_lt l[j]
      unfold bv at hc
      generalize l[j].toNat = c at *
      obtain ⟨y, hy⟩ : ∃ y, y = num8 (l.drop (j + 1)) := ⟨_, rfl⟩
      rw [← hy] at hnx hlt ⊢
      have hy7 : y < 256 ^ 7 := Nat.lt_of_lt_of_le hlt (Nat.pow_le_pow_right (by omega) (by rw [List.length_drop]; have := HN.out; omega))
      have HNX := Lib.hid hnx
      have HB7 := Lib.hid (And.intro hy7 hc8)
      clear hy hnx hlt hjl hdr hy7 hc8
      go_wp2_with fail
      rw [or_join y c HB7.out.1 HB7.out.2, ← HNX.out]
      exact ⟨⟨j, by omega, rfl, rfl, trivial⟩, by simp [intOf]⟩

/-- What Get tells of n bytes. -/
def getN (n : Nat) (l : List UInt8) : Nat := if l.length < n then 0 else num8 (l.take n)
def getE (n : Nat) (l : List UInt8) : Int := if l.length < n then 10 else 0
theorem IsB.take {w : World} {ao : Option Addr} {n cap : Nat} {l : List UInt8} (h : IsB w (.slice ao n cap) l) (m : Nat) (hm : m ≤ l.length) : IsB w (.slice ao m cap) (l.take m) := by
  have hn : n = l.length := by obtain ⟨a, c, e⟩ := h.val; injection e
  subst hn
  unfold IsB at h ⊢
  have hl : (l.take m).length = m := by rw [List.length_take]; omega
  rw [hl]
  have e : bytesV l = bytesV (l.take m) ++ bytesV (l.drop m) := by rw [← bytesV_append, List.take_append_drop]
  rw [e, show l.length = m + (l.length - m) by omega] at h
  exact Own.shorten h (by rw [bytesV_len, hl]; omega)
theorem IsB.cap_ge {w : World} {ao : Option Addr} {n cap : Nat} {l : List UInt8} (h : IsB w (.slice ao n cap) l) : l.length ≤ cap := by
  rcases h.2 with ⟨e, h0⟩ | ⟨g, off, c, cur, e, _, hc, _⟩
  · omega
  · injection e with _ _ e3; omega

set_option maxRecDepth 100000 in
set_option maxHeartbeats 4000000 in
theorem get128 (v : Value) (l : List UInt8) (w : World) (h : IsB w v l) (hn : l.length < 4294967296) : Calls Tryz.prog 128 #[v] w fun e w' => e = .returned (.tuple #[.int .u64 (getN 8 l : Nat), .int .i64 (getE 8 l)]) ∧ w = w' := by
  obtain ⟨ao, cap, rfl⟩ := h.val
  have HW := Lib.hid (width178 w)
  by_cases hs : l.length < 8
  · have e1 : getN 8 l = 0 := by unfold getN; rw [if_pos hs]
    have e2 : getE 8 l = 10 := by unfold getE; rw [if_pos hs]
    rw [e1, e2]
    clear e1 e2 h
    generalize l.length = N at *
    go_enter Tryz.func128, Tryz.ntmps128
    go_wp2_with fail
    refine HW.out.mono ?_
    rintro e w1 ⟨rfl, rfl⟩
    go_wp2_with fail
    go_ret2
    exact ⟨rfl, rfl⟩
  · have e1 : getN 8 l = num8 (l.take 8) := by unfold getN; rw [if_neg hs]
    have e2 : getE 8 l = 0 := by unfold getE; rw [if_neg hs]
    rw [e1, e2]
    have hl : (l.take 8).length = 8 := by rw [List.length_take]; omega
    have HL := Lib.hid (little196 (.slice ao 8 cap) (l.take 8) w (h.take 8 (by omega)) (by omega))
    have hc := h.cap_ge
    have hlt := num8_lt (l.take 8)
    rw [hl] at hlt
    have HLT := Lib.hid hlt
    generalize num8 (l.take 8) = x at *
    clear e1 e2 h hl hlt
    generalize l.length = N at *
    go_enter Tryz.func128, Tryz.ntmps128
    go_wp2_with fail
    refine HW.out.mono ?_
    rintro e w1 ⟨rfl, rfl⟩
    go_wp2_with fail
    refine HL.out.mono ?_
    rintro e w1 ⟨rfl, rfl⟩
    go_wp2_with fail
    go_ret2
    exact ⟨rfl, rfl⟩

set_option maxRecDepth 100000 in
set_option maxHeartbeats 4000000 in
theorem get129 (v : Value) (l : List UInt8) (w : World) (h : IsB w v l) (hn : l.length < 4294967296) : Calls Tryz.prog 129 #[v] w fun e w' => e = .returned (.tuple #[.int .u32 (getN 4 l : Nat), .int .i64 (getE 4 l)]) ∧ w = w' := by
  obtain ⟨ao, cap, rfl⟩ := h.val
  have HW := Lib.hid (width190 w)
  by_cases hs : l.length < 4
  · have e1 : getN 4 l = 0 := by unfold getN; rw [if_pos hs]
    have e2 : getE 4 l = 10 := by unfold getE; rw [if_pos hs]
    rw [e1, e2]
    clear e1 e2 h
    generalize l.length = N at *
    go_enter Tryz.func129, Tryz.ntmps129
    go_wp2_with fail
    refine HW.out.mono ?_
    rintro e w1 ⟨rfl, rfl⟩
    go_wp2_with fail
    go_ret2
    exact ⟨rfl, rfl⟩
  · have e1 : getN 4 l = num8 (l.take 4) := by unfold getN; rw [if_neg hs]
    have e2 : getE 4 l = 0 := by unfold getE; rw [if_neg hs]
    rw [e1, e2]
    have hl : (l.take 4).length = 4 := by rw [List.length_take]; omega
    have HL := Lib.hid (little196 (.slice ao 4 cap) (l.take 4) w (h.take 4 (by omega)) (by omega))
    have hc := h.cap_ge
    have hlt := num8_lt (l.take 4)
    rw [hl] at hlt
    have HLT := Lib.hid hlt
    generalize num8 (l.take 4) = x at *
    clear e1 e2 h hl hlt
    generalize l.length = N at *
    go_enter Tryz.func129, Tryz.ntmps129
    go_wp2_with fail
    refine HW.out.mono ?_
    rintro e w1 ⟨rfl, rfl⟩
    go_wp2_with fail
    refine HL.out.mono ?_
    rintro e w1 ⟨rfl, rfl⟩
    go_wp2_with fail
    go_ret2
    have hx4 : x < 4294967296 := HLT.out
    rw [show (x : Int) % 4294967296 = x by omega]
    exact ⟨rfl, rfl⟩
end Go.Proofs.YtfdgiblkllfpjaaGreatDoor

/- octet: Join. -/
set_option linter.unusedVariables false
set_option linter.unusedSimpArgs false
namespace Go.Proofs.YtfdgiblkllfpjaaGreatDoor
open Go.ChangeShapes Go.WideShapes Go.ChangeAt Go.RowKit

/-- Room for bytes, none of them there yet. -/
def Room0 (w : World) (e : Ending) (w' : World) : Prop :=
  ∃ ao cap, e = .returned (.slice ao 0 cap) ∧ Own w' 5 1 (.slice ao 0 cap) 0 [] ∧ Off [] w w' ∧ ∀ z ∈ blk (.slice ao 0 cap), w.heap.size ≤ z
theorem u8info : ∃ i, Tryz.prog.info? 5 = some i ∧ i.zero = some (.int .u8 0) ∧ i.size = 1 ∧ i.bytes = 1 := by
  obtain ⟨i, h1, h2, h3, h4⟩ := info_parts iinfo5
  exact ⟨i, h1, h2, h3, h4⟩

set_option maxRecDepth 100000 in
set_option maxHeartbeats 4000000 in
theorem grow224 (n : Nat) (hn : n < 4294967296) (w : World) : Calls Tryz.prog 224 #[.slice none 0 0, .int .i64 (n : Int)] w (Room0 w) := by
  by_cases h0 : n = 0
  · subst h0
    have HF : Hid (Room0 w (.returned (.slice none 0 0)) w) := ⟨none, 0, rfl, Own.nil w 5 1, Off.refl _ _, by simp [blk]⟩
    go_enter Tryz.func224, Tryz.ntmps224
    go_wp2_with fail
    go_ret
    exact HF.out
  · obtain ⟨i, hi, hz, hsz, hby⟩ := u8info
    have hr := Lib.run_append_nil_zeros (P := Tryz.prog) w 22 3 22 5 i (.int .u8 0) .i64 .i64 Tryz.underlying22 Tryz.underlying3 hi hz n (by omega) (by omega) (by omega) (by rw [hby]; omega)
    have hge := grownCap_ge w n 0 5
    have hle := grownCap_le_maxLen w n 0 5 (by unfold maxLen; omega)
    have HF : Hid (Room0 w (.returned (.slice (some ⟨w.heap.size, 0, none⟩) 0 (grownCap w n 0 5))) (w.alloc (.cells (Builtin.zeroCells #[Value.int IntKind.u8 0] n ++ Builtin.zeroCells #[Value.int IntKind.u8 0] (grownCap w n 0 5 - n)) 5)).drew) := by
      refine ⟨_, _, rfl, ⟨by simp, .inr ⟨w.heap.size, 0, grownCap w n 0 5, _, rfl, IsC.drew_iff.2 (IsC.new w _ _), by omega, hle, ?_, by simp⟩⟩, ((Off.refl [] w).alloc _).drew, by simp [blk]⟩
      simp only [Array.size_append, size_zeroCells]
      simp; omega
    have HR := Lib.hid hr
    have hn0 : (0 : Int) < n := by omega
    clear hr hle hi hz hsz hby h0
    go_enter Tryz.func224, Tryz.ntmps224
    go_wp2_with (at_builtin; go_loud (refine Lib.wpList_append_run _ rfl _ _ _ _ rfl _ _ rfl rfl _ _ HR.out ?_))
    go_ret
    exact HF.out

/-- A slice of slices of these bytes. -/
def IsRows (w : World) (v : Value) (ls : List (List UInt8)) : Prop :=
  ∃ vs, Own w 22 1 v ls.length vs ∧ ∀ (i : Nat) (l : List UInt8), ls[i]? = some l → ∃ x, vs[i]? = some x ∧ IsB w x l
theorem IsRows.off {w w' : World} {v : Value} {ls : List (List UInt8)} (h : IsRows w v ls) (ho : Off [] w w') : IsRows w' v ls := by
  obtain ⟨vs, h1, h2⟩ := h
  refine ⟨vs, h1.off ho (by simp), fun i l hl => ?_⟩
  obtain ⟨x, hx, hb⟩ := h2 i l hl
  exact ⟨x, hx, hb.off ho (by simp)⟩
theorem IsRows.val {w : World} {v : Value} {ls : List (List UInt8)} (h : IsRows w v ls) : ∃ ao cap, v = .slice ao ls.length cap := by
  obtain ⟨vs, h1, _⟩ := h
  obtain ⟨a, c, e, _⟩ := h1.val; exact ⟨a, c, e⟩
theorem IsRows.row {w : World} {ao : Option Addr} {n cap : Nat} {ls : List (List UInt8)} (h : IsRows w (.slice ao n cap) ls) (k : Nat) (l : List UInt8) (hl : ls[k]? = some l) :
    ∃ g off xo xc, ao = some ⟨g, off, none⟩ ∧ w.cell? ⟨g, off + k, none⟩ = some (.slice xo l.length xc) ∧ IsB w (.slice xo l.length xc) l := by
  obtain ⟨vs, h1, h2⟩ := h
  obtain ⟨x, hx, hb⟩ := h2 k l hl
  have hk := (List.getElem?_eq_some_iff.1 hl).1
  obtain ⟨xo, xc, rfl⟩ := hb.val
  rcases h1.2 with ⟨e, h0⟩ | ⟨g, off, c, cur, e, hr⟩
  · omega
  · injection e with e1 e2 e3
    subst e1; subst e2; subst e3
    refine ⟨g, off, xo, xc, rfl, ?_, hb⟩
    rw [Own.cellAt h1 k (by omega)]; exact hx
theorem flat_succ (ls : List (List UInt8)) (k : Nat) (l : List UInt8) (h : ls[k]? = some l) : (ls.take (k + 1)).flatten = (ls.take k).flatten ++ l := by
  rw [List.take_add_one, h, List.flatten_append]; simp
theorem flat_le (ls : List (List UInt8)) (k : Nat) : (ls.take k).flatten.length ≤ ls.flatten.length := by
  conv => rhs; rw [← List.take_append_drop k ls, List.flatten_append, List.length_append]
  omega
def CatIn (w : World) (ls : List (List UInt8)) (k : Nat) (o : Value) (wr : World) : Prop :=
  ∃ ao cap, o = .slice ao (ls.take k).flatten.length cap ∧ IsB wr (.slice ao (ls.take k).flatten.length cap) (ls.take k).flatten ∧ Off [] w wr ∧ ∀ z ∈ blk (.slice ao (ls.take k).flatten.length cap), w.heap.size ≤ z
theorem CatIn.step {w wr : World} {ls : List (List UInt8)} {k : Nat} {l : List UInt8} {ao : Option Addr} {cap : Nat} (hl : ls[k]? = some l) (ho : Off [] w wr) (hf : ∀ z ∈ blk (.slice ao (ls.take k).flatten.length cap), w.heap.size ≤ z) :
    ∀ ao4 cap4 w4, Own w4 5 1 (.slice ao4 ((ls.take k).flatten.length + l.length) cap4) ((ls.take k).flatten.length + l.length) (bytesV (ls.take k).flatten ++ bytesV l) → Off (blk (.slice ao (ls.take k).flatten.length cap)) wr w4 →
      (blk (.slice ao4 ((ls.take k).flatten.length + l.length) cap4) = blk (.slice ao (ls.take k).flatten.length cap) ∨ blk (.slice ao4 ((ls.take k).flatten.length + l.length) cap4) = [wr.heap.size]) →
      CatIn w ls (k + 1) (.slice ao4 ((ls.take k).flatten.length + l.length) cap4) w4 := by
  intro ao4 cap4 w4 q1 q2 q3
  have e := flat_succ ls k l hl
  have el : (ls.take (k + 1)).flatten.length = (ls.take k).flatten.length + l.length := by rw [e, List.length_append]
  have hs := ho.size
  refine ⟨ao4, cap4, by rw [el], ?_, ho.trans q2 (fun z hz => .inr (hf z hz)), fun z hz => ?_⟩
  · unfold IsB; rw [el, e, bytesV_append]; exact q1
  · rw [el] at hz
    rcases q3 with q | q <;> rw [q] at hz
    · exact hf z hz
    · simp at hz; omega

set_option maxRecDepth 100000 in
set_option maxHeartbeats 4000000 in
theorem concat181 (v : Value) (ls : List (List UInt8)) (w : World) (h : IsRows w v ls) (hb : ls.flatten.length < 4294967000) (hc : ls.length < 1000000) : Calls Tryz.prog 181 #[v] w (FreshB w ls.flatten) := by
  obtain ⟨ao, cap, rfl⟩ := h.val
  have HRO := Lib.hid h
  have HG := Lib.hid (grow224 ls.flatten.length (by omega) w)
  have HFL := Lib.hid (flat_le ls)
  have HTOT := Lib.hid hb
  obtain ⟨n, hn⟩ : ∃ n, n = ls.length := ⟨_, rfl⟩
  have HN := Lib.hid hn
  rw [← hn] at hc ⊢
  clear hn h
  go_enter Tryz.func181, Tryz.ntmps181
  go_wp2_with fail
  go_loopw [3, 5, 11] (fun s _ i wr => ∃ k : Nat, k ≤ n ∧ i = .int .i64 (k : Nat) ∧ s = .int .i64 ((ls.take k).flatten.length : Nat) ∧ w = wr) (fun _ _ i _ => n - (intOf i).toNat)
  case atStart => exact ⟨0, by omega, by go_num, by simp, rfl⟩
  case round =>
    obtain ⟨k, hk, rfl, rfl, rfl⟩ := hrel
    by_cases hlt : k < n
    · obtain ⟨l, hl⟩ : ∃ l, ls[k]? = some l := ⟨ls[k]'(by rw [← HN.out]; exact hlt), List.getElem?_eq_getElem _⟩
      obtain ⟨g, off, xo, xc, rfl, hcell, _⟩ := HRO.out.row k l hl
      have hf1 := HFL.out (k + 1)
      have e := flat_succ ls k l hl
      rw [e, List.length_append] at hf1
      have HE : Hid ((ls.take (k + 1)).flatten.length = (ls.take k).flatten.length + l.length) := Lib.hid (by rw [e, List.length_append])
      clear e hl
      generalize (ls.take k).flatten.length = s at *
      generalize l.length = m at *
      have hsm : s + m < 4294967000 := by omega
      clear hf1
      go_wp2_with fail
      go_roundw
      case rel => exact ⟨k + 1, by omega, by go_num, by rw [HE.out]; go_num, trivial⟩
      case measure => simp [intOf]; omega
    · have hkn : n = k := by omega
      subst hkn
      rw [show ls.take n = ls from List.take_of_length_le (by rw [← HN.out]; exact Nat.le_refl _)]
      generalize ls.flatten.length = tot at HG hb ⊢
      go_wp2_with fail
      refine HG.out.mono ?_
      rintro e w1 ⟨go, gc, rfl, hg, hgo, hgf⟩
      have HC0 : Hid (CatIn w ls 0 (.slice go 0 gc) w1) := ⟨go, gc, by simp, by simpa [IsB, bytesV] using hg, hgo, by simpa using hgf⟩
      clear hg hgo hgf HG
      go_wp2_with fail
      go_loopw [6, 8, 27] (fun o _ i wr => ∃ k : Nat, k ≤ n ∧ i = .int .i64 (k : Nat) ∧ CatIn w ls k o wr) (fun _ _ i _ => n - (intOf i).toNat)
      case atStart => exact ⟨0, by omega, by go_num, HC0.out⟩
      case round =>
        obtain ⟨k, hk, rfl, ao2, cap2, rfl, hb2, ho2, hf2⟩ := hrel
        by_cases hlt2 : k < n
        · obtain ⟨l, hl⟩ : ∃ l, ls[k]? = some l := ⟨ls[k]'(by rw [← HN.out]; exact hlt2), List.getElem?_eq_getElem _⟩
          obtain ⟨g, off, xo, xc, rfl, hcell, hx⟩ := (HRO.out.off ho2).row k l hl
          have hf1 := HFL.out (k + 1)
          rw [flat_succ ls k l hl, List.length_append] at hf1
          have HST := Lib.hid (CatIn.step hl ho2 hf2)
          unfold IsB at hb2 hx
          have HOA := Lib.hid hb2
          have HSRC := Lib.hid (hx.src (P := Tryz.prog) (t := 22) (e' := 5) Tryz.underlying22 (bytesV_one _))
          have HTB := HTOT.out
          clear hl hb2 hx ho2 hf2
          generalize (ls.take k).flatten.length = s at *
          generalize l.length = m at *
          have HBD := Lib.hid (show (s + m) * 1 ≤ 140737488355328 by omega)
          clear hf1 HTB
          go_wp2_with (at_builtin; go_loud (refine wp_app rfl _ _ 22 22 rfl rfl HOA.out Tryz.underlying22 iinfo5 rfl (by decide) rfl HSRC.out HBD.out ?_))
          intro ao4 cap4 w4 q1 q2 q3
          have HR4 := Lib.hid (HST.out ao4 cap4 w4 q1 q2 q3)
          clear q1 q2 q3 HST HOA HSRC
          go_wp2_with fail
          go_roundw
          case rel => exact ⟨k + 1, by omega, by go_num, HR4.out⟩
          case measure => simp [intOf]; omega
        · have hkn : n = k := by omega
          subst hkn
          have e : ls.take n = ls := List.take_of_length_le (by rw [← HN.out]; exact Nat.le_refl _)
          rw [e] at hb2 hf2 ⊢
          have HF : Hid (FreshB w ls.flatten (.returned (.slice ao2 ls.flatten.length cap2)) wr) := ⟨ao2, cap2, rfl, hb2, ho2, hf2⟩
          clear hb2 hf2 ho2 e
          go_wp2_with fail
          go_ret
          exact HF.out
theorem join118 (v : Value) (ls : List (List UInt8)) (w : World) (h : IsRows w v ls) (hb : ls.flatten.length < 4294967000) (hc : ls.length < 1000000) : Calls Tryz.prog 118 #[v] w (FreshB w ls.flatten) := by
  have HC := Lib.hid (concat181 v ls w h hb hc)
  obtain ⟨ao, cap, rfl⟩ := h.val
  clear h hb
  generalize ls.length = n at *
  obtain ⟨fl, hfl⟩ : ∃ fl, fl = ls.flatten := ⟨_, rfl⟩
  rw [← hfl] at HC ⊢
  clear hfl
  go_enter Tryz.func118, Tryz.ntmps118
  go_wp2_with fail
  refine HC.out.mono ?_
  rintro e w1 ⟨o, c, rfl, h1, h2, h3⟩
  have HF : Hid (FreshB w fl (.returned (.slice o fl.length c)) w1) := ⟨o, c, rfl, h1, h2, h3⟩
  clear h1 h2 h3 HC
  go_wp2_with fail
  go_ret
  exact HF.out
end Go.Proofs.YtfdgiblkllfpjaaGreatDoor

/- crc: More, Sum. -/
set_option linter.unusedVariables false
set_option linter.unusedSimpArgs false
namespace Go.Proofs.YtfdgiblkllfpjaaGreatDoor
open Go.ChangeShapes Go.WideShapes Go.ChangeAt Go.RowKit

/-- The table lies where the program has it. -/
def Tbl (t : Nat → Nat) (w : World) : Prop := 0 < w.heap.size ∧ ∀ i, i < 16 → t i < 4294967296 ∧ w.cell? ⟨0, i, none⟩ = some (.int .u32 (t i : Nat))
theorem Tbl.off {t : Nat → Nat} {w w' : World} {S : List Nat} (h : Tbl t w) (ho : Off S w w') (hS : 0 ∉ S) : Tbl t w' := by
  refine ⟨Nat.lt_of_lt_of_le h.1 ho.size, fun i hi => ⟨(h.2 i hi).1, ?_⟩⟩
  rw [World.cell?_of_block (a := ⟨0, i, none⟩) (ho.old 0 h.1 hS)]; exact (h.2 i hi).2
def crcHalf (t : Nat → Nat) (z : Nat) : Nat := (z / 16) ^^^ t (z % 16)
def crcByte (t : Nat → Nat) (y : Nat) (c : UInt8) : Nat := crcHalf t (crcHalf t (y ^^^ c.toNat))
def crcMore (t : Nat → Nat) (x : Nat) (l : List UInt8) : Nat := 4294967295 ^^^ l.foldl (crcByte t) (4294967295 ^^^ x)
def crcSum (t : Nat → Nat) (ls : List (List UInt8)) : Nat := ls.foldl (crcMore t) 0
theorem xor32 {a b : Nat} (ha : a < 4294967296) (hb : b < 4294967296) : a ^^^ b < 4294967296 := Nat.xor_lt_two_pow (n := 32) ha hb
theorem bits_xor32 {a b : Nat} (ha : a < 4294967296) (hb : b < 4294967296) : bits .xor .u32 (a : Int) (b : Int) = ((a ^^^ b : Nat) : Int) := by
  have h := xor32 ha hb
  have ha' : a % 2 ^ IntKind.u32.bits = a := Nat.mod_eq_of_lt ha
  have hb' : b % 2 ^ IntKind.u32.bits = b := Nat.mod_eq_of_lt hb
  simp only [bits, BitVec.ofInt_natCast, BitVec.toNat_xor, BitVec.toNat_ofNat, ha', hb']
  rw [IntKind.wrap_u32]
  omega
theorem bits_and15 {a : Nat} (ha : a < 4294967296) : bits .and .u32 (a : Int) 15 = ((a % 16 : Nat) : Int) := by
  have e : (2 : Int) ^ 32 = 4294967296 := rfl
  have q := bits_mask .u32 32 (by decide) wraps_u32 4 (by decide) (a : Int) (by omega) (by rw [e]; omega)
  have e4 : (2 : Int) ^ 4 = 16 := rfl
  rw [e4] at q
  rw [show (16 : Int) - 1 = 15 from rfl] at q
  rw [q]; omega
theorem half_lt {t : Nat → Nat} {w : World} (ht : Tbl t w) {z : Nat} (hz : z < 4294967296) : crcHalf t z < 4294967296 := xor32 (by omega) (ht.2 _ (by omega)).1
theorem byte_lt {t : Nat → Nat} {w : World} (ht : Tbl t w) {y : Nat} (hy : y < 4294967296) (c : UInt8) : crcByte t y c < 4294967296 :=
  half_lt ht (half_lt ht (xor32 hy (by have := UInt8.toNat_lt c; omega)))
theorem fold_lt {t : Nat → Nat} {w : World} (ht : Tbl t w) : ∀ (l : List UInt8) {y : Nat}, y < 4294967296 → l.foldl (crcByte t) y < 4294967296
  | [], _, h => h
  | c :: l, _, h => fold_lt ht l (byte_lt ht h c)
theorem more_lt {t : Nat → Nat} {w : World} (ht : Tbl t w) {x : Nat} (hx : x < 4294967296) (l : List UInt8) : crcMore t x l < 4294967296 := xor32 (by omega) (fold_lt ht l (xor32 (by omega) hx))
theorem sum_lt {t : Nat → Nat} {w : World} (ht : Tbl t w) (ls : List (List UInt8)) : crcSum t ls < 4294967296 := by
  unfold crcSum
  have : ∀ (ls : List (List UInt8)) (x : Nat), x < 4294967296 → ls.foldl (crcMore t) x < 4294967296 := by
    intro ls
    induction ls with
    | nil => exact fun _ h => h
    | cons a l ih => exact fun x h => ih _ (more_lt ht h a)
  exact this ls 0 (by omega)

set_option maxRecDepth 100000 in
set_option maxHeartbeats 4000000 in
theorem more191 {t : Nat → Nat} (x : Nat) (hx : x < 4294967296) (v : Value) (l : List UInt8) (w : World) (ht : Tbl t w) (h : IsB w v l) (hn : l.length < 4294967296) :
    Calls Tryz.prog 191 #[.int .u32 (x : Int), v] w fun e w' => e = .returned (.int .u32 (crcMore t x l : Nat)) ∧ w = w' := by
  obtain ⟨ao, cap, rfl⟩ := h.val
  have HB := Lib.hid h
  have HT := Lib.hid ht
  have hx0 : bits .xor .u32 IntKind.u32.max (x : Int) = ((4294967295 ^^^ x : Nat) : Int) := bits_xor32 (a := 4294967295) (by omega) hx
  have HX0 := Lib.hid (xor32 (a := 4294967295) (by omega) hx)
  obtain ⟨y0, hy0⟩ : ∃ y0, y0 = 4294967295 ^^^ x := ⟨_, rfl⟩
  have hfl : crcMore t x l = 4294967295 ^^^ l.foldl (crcByte t) y0 := by rw [hy0]; rfl
  rw [← hy0] at hx0 HX0
  obtain ⟨r, hr⟩ : ∃ r, r = crcMore t x l := ⟨_, rfl⟩
  rw [← hr]
  rw [← hr] at hfl
  have HRR := Lib.hid hfl
  have HFL := Lib.hid (fold_lt ht l HX0.out)
  obtain ⟨n, hN⟩ : ∃ n, n = l.length := ⟨_, rfl⟩
  have HN := Lib.hid hN
  rw [← hN] at hn ⊢
  clear hN h ht hfl hy0 hx hr
  go_enter Tryz.func191, Tryz.ntmps191
  go_wp2_with fail
  go_loopw [5, 7, 12] (fun s _ i wr => ∃ (k : Nat), k ≤ n ∧ i = .int .i64 (k : Nat) ∧ s = .int .u32 ((l.take k).foldl (crcByte t) y0 : Nat) ∧ w = wr) (fun _ _ i _ => n - (intOf i).toNat)
  case atStart => exact ⟨0, by omega, by go_num, rfl, rfl⟩
  case round =>
    obtain ⟨k, hk, rfl, rfl, rfl⟩ := hrel
    by_cases hlt : k < n
    · obtain ⟨g, off, rfl⟩ := HB.out.base (by rw [← HN.out]; omega)
      have hkl : k < l.length := by rw [← HN.out]; exact hlt
      have hc := HB.out.cell k hkl
      unfold bv at hc
      have hfs : (l.take (k + 1)).foldl (crcByte t) y0 = crcHalf t (crcHalf t ((l.take k).foldl (crcByte t) y0 ^^^ l[k].toNat)) := by
        rw [List.take_add_one, List.getElem?_eq_getElem hkl, List.foldl_append]; rfl
      have HFS := Lib.hid hfs
      have hylt := fold_lt HT.out (l.take k) HX0.out
      generalize (l.take k).foldl (crcByte t) y0 = y at *
      have hcl := UInt8.toNat_lt l[k]
      generalize l[k].toNat = c at *
      have e0 : bits .xor .u32 (y : Int) ((c : Int) % 4294967296) = ((y ^^^ c : Nat) : Int) := by
        rw [show (c : Int) % 4294967296 = (c : Int) by omega]; exact bits_xor32 hylt (by omega)
      have hz := xor32 hylt (show c < 4294967296 by omega)
      generalize y ^^^ c = z at *
      have e1 := bits_and15 hz
      have c1 := (HT.out.2 (z % 16) (by omega)).2
      have l1 := (HT.out.2 (z % 16) (by omega)).1
      have e2 : bits .xor .u32 ((z : Int) / 16) (t (z % 16) : Int) = ((crcHalf t z : Nat) : Int) := by
        rw [show (z : Int) / 16 = ((z / 16 : Nat) : Int) by omega]; exact bits_xor32 (by omega) l1
      have hz2 := half_lt HT.out hz
      generalize crcHalf t z = z2 at *
      have e3 := bits_and15 hz2
      have c2 := (HT.out.2 (z2 % 16) (by omega)).2
      have l2 := (HT.out.2 (z2 % 16) (by omega)).1
      have e4 : bits .xor .u32 ((z2 : Int) / 16) (t (z2 % 16) : Int) = ((crcHalf t z2 : Nat) : Int) := by
        rw [show (z2 : Int) / 16 = ((z2 / 16 : Nat) : Int) by omega]; exact bits_xor32 (by omega) l2
      have m1 : z % 16 < 16 := by omega
      have m2 : z2 % 16 < 16 := by omega
      generalize crcHalf t z2 = z3 at *
      generalize z % 16 = p at *
      generalize z2 % 16 = q at *
      generalize t p = tp at *
      generalize t q = tq at *
      clear hylt hcl hz hz2 l1 l2 hfs hkl hx0
      go_wp2_with fail
      go_roundw
      case rel => exact ⟨k + 1, by omega, by go_num, by rw [HFS.out], trivial⟩
      case measure => simp [intOf]; omega
    · have hkn : n = k := by omega
      subst hkn
      rw [show l.take n = l from List.take_of_length_le (by rw [← HN.out]; exact Nat.le_refl _)]
      have hfin : bits .xor .u32 IntKind.u32.max ((l.foldl (crcByte t) y0 : Nat) : Int) = (r : Int) := by rw [HRR.out]; exact bits_xor32 (a := 4294967295) (by omega) HFL.out
      generalize l.foldl (crcByte t) y0 = z at *
      go_wp2_with fail
      go_ret
      exact ⟨rfl, rfl⟩

theorem sum_succ (t : Nat → Nat) (ls : List (List UInt8)) (k : Nat) (l : List UInt8) (h : ls[k]? = some l) : crcSum t (ls.take (k + 1)) = crcMore t (crcSum t (ls.take k)) l := by
  unfold crcSum; rw [List.take_add_one, h, List.foldl_append]; rfl
set_option maxRecDepth 100000 in
set_option maxHeartbeats 4000000 in
theorem sum124 {t : Nat → Nat} (v : Value) (ls : List (List UInt8)) (w : World) (ht : Tbl t w) (h : IsRows w v ls) (hb : ls.flatten.length < 4294967000) (hc : ls.length < 1000000) :
    Calls Tryz.prog 124 #[v] w fun e w' => e = .returned (.int .u32 (crcSum t ls : Nat)) ∧ w = w' := by
  obtain ⟨ao, cap, rfl⟩ := h.val
  have HRO := Lib.hid h
  have HT := Lib.hid ht
  have HFL := Lib.hid (fun k => Nat.le_trans (flat_le ls k) (Nat.le_of_lt hb))
  obtain ⟨n, hn⟩ : ∃ n, n = ls.length := ⟨_, rfl⟩
  have HN := Lib.hid hn
  rw [← hn] at hc ⊢
  clear hn h ht hb
  go_enter Tryz.func124, Tryz.ntmps124
  go_wp2_with fail
  go_loopw [3, 5, 8] (fun s _ i wr => ∃ k : Nat, k ≤ n ∧ i = .int .i64 (k : Nat) ∧ s = .int .u32 (crcSum t (ls.take k) : Nat) ∧ w = wr) (fun _ _ i _ => n - (intOf i).toNat)
  case atStart => exact ⟨0, by omega, by go_num, rfl, rfl⟩
  case round =>
    obtain ⟨k, hk, rfl, rfl, rfl⟩ := hrel
    by_cases hlt : k < n
    · obtain ⟨l, hl⟩ : ∃ l, ls[k]? = some l := ⟨ls[k]'(by rw [← HN.out]; exact hlt), List.getElem?_eq_getElem _⟩
      obtain ⟨g, off, xo, xc, rfl, hcell, hx⟩ := HRO.out.row k l hl
      have hll : l.length < 4294967296 := by
        have q := HFL.out (k + 1)
        rw [flat_succ ls k l hl, List.length_append] at q; omega
      have HM := Lib.hid (more191 (crcSum t (ls.take k)) (sum_lt HT.out _) _ l w HT.out hx hll)
      have HS := Lib.hid (sum_succ t ls k l hl)
      rw [← HS.out] at HM
      clear hl hx hll
      generalize l.length = m at *
      generalize crcSum t (ls.take k) = s at *
      go_wp2_with fail
      refine HM.out.mono ?_
      rintro e w1 ⟨rfl, rfl⟩
      go_wp2_with fail
      go_roundw
      case rel => exact ⟨k + 1, by omega, by go_num, rfl, trivial⟩
      case measure => simp [intOf]; omega
    · have hkn : n = k := by omega
      subst hkn
      rw [show ls.take n = ls from List.take_of_length_le (by rw [← HN.out]; exact Nat.le_refl _)]
      go_wp2_with fail
      go_ret
      exact ⟨rfl, rfl⟩
end Go.Proofs.YtfdgiblkllfpjaaGreatDoor
