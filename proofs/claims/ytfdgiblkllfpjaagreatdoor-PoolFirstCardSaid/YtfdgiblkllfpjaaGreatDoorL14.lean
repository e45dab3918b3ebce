/- PoolKeeps: what its walk keeps. -/
import Derived.Test.YtfdgiblkllfpjaaGreatDoorL13
set_option linter.unusedVariables false
set_option linter.unusedSimpArgs false
namespace Go.Proofs.YtfdgiblkllfpjaaGreatDoor
open Go.ChangeShapes Go.WideShapes Go.ChangeAt Go.RowKit

/-- Bytes that lie beside the whole, in blocks that are newer than w. -/
def Kept (w W : World) (F : Fp3) (v : Value) (l : List UInt8) : Prop := IsB W v l ∧ ∀ z ∈ blk v, w.heap.size ≤ z ∧ z ∉ F.d ++ F.l ++ F.p
section
variable {w W W1 : World} {F F1 : Fp3} {v : Value} {l : List UInt8}
theorem Kept.quiet (h : Kept w W F v l) (ho : Off [] W W1) : Kept w W1 F v l := ⟨h.1.off ho (by simp), h.2⟩
theorem Kept.step (h : Kept w W F v l) (hA : Acc3 F W F1 W1) : Kept w W1 F1 v l := by
  refine ⟨h.1.off hA.1 (fun z hz => (h.2 z hz).2), fun z hz => ⟨(h.2 z hz).1, fun hz' => ?_⟩⟩
  have hlt := h.1.lt z hz
  have hn := (h.2 z hz).2
  simp only [List.mem_append, not_or] at hn hz'
  rcases hz' with (q | q) | q
  · rcases hA.2.1 z q with e | e
    · exact hn.1.1 e
    · omega
  · rcases hA.2.2.1 z q with e | e
    · exact hn.1.2 e
    · omega
  · rcases hA.2.2.2 z q with e | e
    · exact hn.2 e
    · omega
theorem Kept.write {S : List Nat} (h : Kept w W F v l) (ho : Off S W W1) (hS : ∀ z ∈ blk v, z ∉ S) : Kept w W1 F v l := ⟨h.1.off ho hS, h.2⟩
/-- What a call has made anew lies beside. -/
theorem Kept.new {dm : DiskM} {lm : LogM} {pm : PoolM} {d g p : Nat} (hs : Since w d g p dm lm pm F W) (hb : IsB W1 v l) (hn : ∀ z ∈ blk v, W.heap.size ≤ z) : Kept w W1 F v l :=
  ⟨hb, fun z hz => ⟨Nat.le_trans hs.2.2.size (hn z hz), fun hz' => by have := hs.1.lt z hz'; have := hn z hz; omega⟩⟩
theorem Since.quiet {dm : DiskM} {lm : LogM} {pm : PoolM} {d g p : Nat} (hs : Since w d g p dm lm pm F W) (ho : Off [] W W1) : Since w d g p dm lm pm F W1 := hs.step (hs.1.off ho (by simp)) (Acc3.quiet ho)
end
theorem look_since {w W : World} {d g p : Nat} {dm : DiskM} {lm : LogM} {pm : PoolM} {F : Fp3} (hs : Since w d g p dm lm pm F W) {n : Nat} {f : Fr} (hf : pm.find n = some f) (hsm : ∀ f ∈ pm.held, f.b.length < 1000000) :
    Calls Tryz.prog 20 #[.pointer (some ⟨p, 0, none⟩), .int .i64 (n : Int)] W (LookPost (some f.b) W) := by
  obtain ⟨mb, es, clk, qs, hp, _⟩ := hs.1.2.1
  have q := look20 hp n hsm
  rw [hf] at q; exact q
/-- Four answers, each in memory of its own. -/
structure Four (w W : World) (F : Fp3) (B : List Nat) (vs : List Value) (gs : List (List UInt8)) : Prop where
  len : vs.length = 4
  items : Items W vs gs
  nodup : (vs.flatMap blk).Nodup
  apart : ∀ z ∈ vs.flatMap blk, w.heap.size ≤ z ∧ z ∉ F.d ++ F.l ++ F.p ∧ z ∉ B
theorem Four.off {w W W1 : World} {F : Fp3} {B : List Nat} {vs : List Value} {gs : List (List UInt8)} {S : List Nat} (h : Four w W F B vs gs) (ho : Off S W W1) (hS : ∀ z ∈ vs.flatMap blk, z ∉ S) : Four w W1 F B vs gs := ⟨h.len, h.items.off ho hS, h.nodup, h.apart⟩
theorem Four.at {w W : World} {F : Fp3} {B : List Nat} {vs : List Value} {gs : List (List UInt8)} (h : Four w W F B vs gs) (hg : ∀ l ∈ gs, l.length = 40) {k : Nat} {l : List UInt8} (hk : gs[k]? = some l) : ∃ xb xoff xc, vs[k]? = some (.slice (some ⟨xb, xoff, none⟩) 40 xc) ∧ IsB W (.slice (some ⟨xb, xoff, none⟩) 40 xc) l := by
  obtain ⟨x, hx, hb⟩ := h.items.2 k l hk
  have hl := hg l (List.mem_of_getElem? hk)
  obtain ⟨ao, c, rfl⟩ := hb.val
  obtain ⟨g, off, rfl⟩ := hb.base (by omega)
  rw [hl] at hx hb
  exact ⟨g, off, c, hx, hb⟩
/-- One byte of one of them written over. -/
theorem Four.put {w W : World} {F : Fp3} {B : List Nat} {vs : List Value} {gs : List (List UInt8)} (h : Four w W F B vs gs) {k xb xoff xc : Nat} {l : List UInt8} (hv : vs[k]? = some (.slice (some ⟨xb, xoff, none⟩) 40 xc)) (hk : gs[k]? = some l) (n : Nat) (y : UInt8) :
    Four w (W.setCell ⟨xb, xoff + n, none⟩ (bv y)) F B vs (gs.set k (l.set n y)) ∧ xb ∈ vs.flatMap blk := by
  have hin : xb ∈ vs.flatMap blk := List.mem_flatMap.2 ⟨_, List.mem_of_getElem? hv, by simp [blk]⟩
  have hlt := (List.getElem?_eq_some_iff.1 hk).1
  have ho : Off [xb] W (W.setCell ⟨xb, xoff + n, none⟩ (bv y)) := (Off.refl [xb] W).setCell (.inl (by simp)) _
  refine ⟨⟨h.len, ⟨by rw [List.length_set]; exact h.items.1, fun i l' hi => ?_⟩, h.nodup, h.apart⟩, hin⟩
  by_cases e : i = k
  · subst e
    rw [List.getElem?_set_self hlt] at hi
    injection hi with hi
    obtain ⟨x, hx, hb⟩ := h.items.2 i l hk
    rw [hv] at hx
    injection hx with hx
    subst hx
    exact ⟨_, hv, by rw [← hi]; exact hb.put n y⟩
  · rw [List.getElem?_set_ne (Ne.symm e)] at hi
    obtain ⟨x, hx, hb⟩ := h.items.2 i l' hi
    refine ⟨x, hx, hb.off ho (fun z hz hz' => ?_)⟩
    simp at hz'; subst hz'
    exact flat_apart h.nodup hv hx e z hz (by simp [blk])
def markB (n k : Nat) : List UInt8 := List.replicate n (UInt8.ofNat (k + 1))
def mk4 (S : List UInt8) (k : Nat) : List (List UInt8) := [if 0 < k then markB 40 0 else S, if 1 < k then markB 40 1 else S, if 2 < k then markB 40 2 else S, if 3 < k then markB 40 3 else S]
theorem mk4_same (S : List UInt8) {k : Nat} (hk : k < 4) : (mk4 S k).set k (markB 0 k ++ S.drop 0) = mk4 S k := by
  match k, hk with
  | 0, _ => rfl
  | 1, _ => rfl
  | 2, _ => rfl
  | 3, _ => rfl
theorem mk4_len {S : List UInt8} (hS : S.length = 40) (k : Nat) : ∀ l ∈ mk4 S k, l.length = 40 := by
  intro l hl
  unfold mk4 markB at hl
  simp only [List.mem_cons, List.not_mem_nil, or_false] at hl
  rcases hl with rfl | rfl | rfl | rfl <;> (split <;> simp [hS])
theorem mk4_at (S : List UInt8) {k : Nat} (hk : k < 4) : (mk4 S k)[k]? = some S := by
  match k, hk with
  | 0, _ => rfl
  | 1, _ => rfl
  | 2, _ => rfl
  | 3, _ => rfl
theorem mk4_set (S : List UInt8) {k : Nat} (hk : k < 4) : (mk4 S k).set k (markB 40 k) = mk4 S (k + 1) := by
  match k, hk with
  | 0, _ => rfl
  | 1, _ => rfl
  | 2, _ => rfl
  | 3, _ => rfl
theorem mark_step {S : List UInt8} (hS : S.length = 40) (k : Nat) {n : Nat} (hn : n < 40) : (markB n k ++ S.drop n).set n (UInt8.ofNat (k + 1)) = markB (n + 1) k ++ S.drop (n + 1) := by
  have h1 : (markB n k).length = n := by unfold markB; simp
  rw [List.set_append_right _ _ (by omega), h1, Nat.sub_self, ← List.getElem_cons_drop (show n < S.length by omega), List.set_cons_zero]
  unfold markB
  rw [List.replicate_succ', List.append_assoc]; rfl
theorem mark_val {k : Nat} (hk : k < 4) : bv (UInt8.ofNat (k + 1)) = .int .u8 ((k : Int) + 1) := by
  rw [bv_ofNat]; congr 1; omega
theorem four_of {w W : World} {F : Fp3} {B : List Nat} {a b c d : Value} {l : List UInt8} (ha : Kept w W F a l) (hb : Kept w W F b l) (hc : Kept w W F c l) (hd : Kept w W F d l) (h1 : ∀ z ∈ blk a, z ∉ B) (h2 : ∀ z ∈ blk b, z ∉ B ++ blk a) (h3 : ∀ z ∈ blk c, z ∉ B ++ blk a ++ blk b) (h4 : ∀ z ∈ blk d, z ∉ B ++ blk a ++ blk b ++ blk c) :
    Four w W F B [a, b, c, d] [l, l, l, l] := by
  simp only [List.mem_append, not_or] at h2 h3 h4
  refine ⟨rfl, ⟨rfl, fun i l' hi => ?_⟩, ?_, fun z hz => ?_⟩
  · match i with
    | 0 => simp at hi; subst hi; exact ⟨a, rfl, ha.1⟩
    | 1 => simp at hi; subst hi; exact ⟨b, rfl, hb.1⟩
    | 2 => simp at hi; subst hi; exact ⟨c, rfl, hc.1⟩
    | 3 => simp at hi; subst hi; exact ⟨d, rfl, hd.1⟩
    | (n + 4) => simp at hi
  · simp only [List.flatMap_cons, List.flatMap_nil, List.append_nil]
    refine List.nodup_append.2 ⟨blk_nodup' _, List.nodup_append.2 ⟨blk_nodup' _, List.nodup_append.2 ⟨blk_nodup' _, blk_nodup' _, fun x hx y hy e => (h4 y hy).2 (e ▸ hx)⟩, fun x hx y hy e => ?_⟩, fun x hx y hy e => ?_⟩
    · subst e
      rcases List.mem_append.1 hy with q | q
      · exact (h3 x q).2 hx
      · exact (h4 x q).1.2 hx
    · subst e
      simp only [List.mem_append] at hy
      rcases hy with q | q | q
      · exact (h2 x q).2 hx
      · exact (h3 x q).1.2 hx
      · exact (h4 x q).1.1.2 hx
  · simp only [List.flatMap_cons, List.flatMap_nil, List.append_nil, List.mem_append] at hz
    rcases hz with q | q | q | q
    · exact ⟨(ha.2 z q).1, (ha.2 z q).2, h1 z q⟩
    · exact ⟨(hb.2 z q).1, (hb.2 z q).2, (h2 z q).1⟩
    · exact ⟨(hc.2 z q).1, (hc.2 z q).2, (h3 z q).1.1⟩
    · exact ⟨(hd.2 z q).1, (hd.2 z q).2, (h4 z q).1.1.1⟩
def sh2 : Shp := ⟨2, 1, 1024⟩
theorem new8_sh2 (w : World) : Calls Tryz.prog 8 #[.agg #[.int .i64 2, .int .i64 1, .int .i64 1024]] w (NewPost sh2 w) := new8 sh2 (by unfold Shp.ok sh2; decide) w
def dmK : DiskM := (newDisk sh2).act.act
def lmK (t : Nat → Nat) : LogM := (newLog 0).begin t 9
def pgK (t : Nat → Nat) (f : List UInt8) : List UInt8 := stampB t f 1 1
def pmK (t : Nat → Nat) (f : List UInt8) (pins : Nat) : PoolM := { most := 2, held := [{ num := 1, b := pgK t f, pins := pins, rc := 1 }], dead := false }
theorem pgK_len {t : Nat → Nat} {f : List UInt8} (hf : f.length = 40) : (pgK t f).length = 40 := by unfold pgK; rw [stampB_len _ _ _ _ (by omega), hf]
theorem Four.grow {w W W1 : World} {F : Fp3} {B : List Nat} {vs : List Value} {gs : List (List UInt8)} (h : Four w W F B vs gs) {k : Nat} {v : Value} {l : List UInt8} (hv : vs[k]? = some v) (hk : gs[k]? = some l) (hb : IsB W1 v l) (ho : Off (blk v) W W1) : Four w W1 F B vs gs := by
  refine ⟨h.len, ⟨h.items.1, fun i l' hi => ?_⟩, h.nodup, h.apart⟩
  obtain ⟨x, hx, hbx⟩ := h.items.2 i l' hi
  by_cases e : i = k
  · subst e
    rw [hk] at hi
    injection hi with hi
    subst hi
    exact ⟨v, hv, hb⟩
  · exact ⟨x, hx, hbx.off ho (fun z hz hz' => flat_apart h.nodup hv hx e z hz hz')⟩
theorem mk4_end (S : List UInt8) {k : Nat} (hk : k < 4) : (mk4 S 4)[k]? = some (markB 40 k) := by
  match k, hk with
  | 0, _ => rfl
  | 1, _ => rfl
  | 2, _ => rfl
  | 3, _ => rfl
theorem markB_add (a b k : Nat) : markB a k ++ List.replicate b (UInt8.ofNat (k + 1)) = markB (a + b) k := by
  unfold markB; rw [List.replicate_append_replicate]
theorem markB_all (n k : Nat) : ∀ b ∈ markB n k, b = UInt8.ofNat (k + 1) := fun b hb => (List.mem_replicate.1 hb).2
theorem markB_len (n k : Nat) : (markB n k).length = n := by unfold markB; rw [List.length_replicate]
/-- The longer answers so far. -/
def MoreAt (w5 : World) (vs : List Value) (mv : Value) (ms : List Value) (wr : World) : Prop :=
  Own wr 22 1 mv ms.length ms ∧ (∀ z ∈ blk mv, w5.heap.size ≤ z) ∧ ∀ j x, ms[j]? = some x → IsB wr x (markB 120 j) ∧ (∀ z ∈ blk x, z ∉ blk mv) ∧ ∀ z ∈ blk x, (∃ v, vs[j]? = some v ∧ z ∈ blk v) ∨ w5.heap.size ≤ z
theorem MoreAt.nil (w5 : World) (vs : List Value) : MoreAt w5 vs (.slice none 0 0) [] w5 := ⟨Own.nil _ _ _, by simp [blk], fun j x h => by simp at h⟩
theorem MoreAt.step {w5 wr w1 w3 : World} {vs ms : List Value} {mv mv' v x : Value} (h : MoreAt w5 vs mv ms wr) (hnd : (vs.flatMap blk).Nodup) (hlt : ∀ z ∈ vs.flatMap blk, z < w5.heap.size) (h5 : w5.heap.size ≤ wr.heap.size) (hv : vs[ms.length]? = some v) (ho : Off (blk v) wr w1) (hx : IsB w1 x (markB 120 ms.length)) (hxn : ∀ z ∈ blk x, z ∈ blk v ∨ wr.heap.size ≤ z) (o3 : Off (blk mv) (w1.alloc (.cells #[x] 22)) w3) (hown : Own w3 22 1 mv' (ms.length + 1) (ms ++ [x])) (hbl : blk mv' = blk mv ∨ blk mv' = [w1.heap.size + 1]) :
    MoreAt w5 vs mv' (ms ++ [x]) w3 ∧ Off (blk mv) w1 w3 := by
  have o13 : Off (blk mv) w1 w3 := ((Off.refl (blk mv) w1).alloc _).trans o3 (fun z hz => .inl hz)
  have hmlt := h.1.lt
  have hs1 := ho.size
  have hvin : ∀ z ∈ blk v, z < w5.heap.size := fun z hz => hlt z (List.mem_flatMap.2 ⟨v, List.mem_of_getElem? hv, hz⟩)
  have hsz : (w1.alloc (.cells #[x] 22)).heap.size = w1.heap.size + 1 := World.size_alloc _ _
  have hnew : ∀ z ∈ blk mv', z ∈ blk mv ∨ z = w1.heap.size + 1 := fun z hz => by
    rcases hbl with e | e
    · rw [e] at hz; exact .inl hz
    · rw [e] at hz; simp at hz; exact .inr hz
  refine ⟨⟨by rw [List.length_append]; exact hown, fun z hz => ?_, fun j y hj => ?_⟩, o13⟩
  · rcases hnew z hz with q | q
    · exact h.2.1 z q
    · omega
  · by_cases e : j < ms.length
    · rw [List.getElem?_append_left e] at hj
      obtain ⟨a1, a2, a3⟩ := h.2.2 j y hj
      have hlt' := a1.lt
      refine ⟨(a1.off ho (fun z hz hz' => ?_)).off o13 a2, fun z hz hz' => ?_, a3⟩
      · rcases a3 z hz with ⟨v', q1, q2⟩ | q
        · exact flat_apart hnd hv q1 (by omega) z q2 hz'
        · have := hvin z hz'; omega
      · rcases hnew z hz' with q | q
        · exact a2 z hz q
        · have := hlt' z hz; omega
    · have e2 : j = ms.length := by
        have := (List.getElem?_eq_some_iff.1 hj).1
        rw [List.length_append] at this; simp at this; omega
      subst e2
      rw [List.getElem?_append_right (by omega), Nat.sub_self] at hj
      simp at hj; subst hj
      have hxm : ∀ z ∈ blk x, z ∉ blk mv := fun z hz hz' => by
        have := hmlt z hz'
        have h2 := h.2.1 z hz'
        rcases hxn z hz with q | q
        · have := hvin z q; omega
        · omega
      refine ⟨hx.off o13 hxm, fun z hz hz' => ?_, fun z hz => ?_⟩
      · rcases hnew z hz' with q | q
        · exact hxm z hz q
        · have := hx.lt z hz; omega
      · rcases hxn z hz with q | q
        · exact .inl ⟨v, hv, q⟩
        · exact .inr (by omega)
/-- The four answers and the longer ones. -/
def Grow4 (w w5 : World) (F : Fp3) (B : List Nat) (vs : List Value) (S : List UInt8) (k : Nat) (mv : Value) (wr : World) : Prop :=
  ∃ ms, ms.length = k ∧ Four w wr F B vs (mk4 S 4) ∧ MoreAt w5 vs mv ms wr ∧ Off (vs.flatMap blk) w5 wr
theorem Grow4.step {w w5 wr w1 : World} {F : Fp3} {B : List Nat} {vs ms : List Value} {S : List UInt8} {mv : Value} {k xb xoff xcc : Nat} {co : Option Addr} {cc : Nat} (hms : ms.length = k) (hF : Four w wr F B vs (mk4 S 4)) (hM : MoreAt w5 vs mv ms wr) (hO : Off (vs.flatMap blk) w5 wr) (hlt : ∀ z ∈ vs.flatMap blk, z < w5.heap.size) (hk : k < 4) (hv : vs[k]? = some (.slice (some ⟨xb, xoff, none⟩) 40 xcc))
    (h1 : IsB w1 (.slice co 120 cc) (markB 40 k ++ List.replicate 80 (UInt8.ofNat (k + 1)))) (h2 : IsB w1 (.slice (some ⟨xb, xoff, none⟩) 40 xcc) (markB 40 k)) (h3 : Off (blk (.slice (some ⟨xb, xoff, none⟩) 40 xcc)) wr w1) (h4 : ∀ z ∈ blk (.slice co 120 cc), z ∈ blk (.slice (some ⟨xb, xoff, none⟩) 40 xcc) ∨ wr.heap.size ≤ z) :
    Own w1 22 1 mv k ms ∧ ∀ ao cap w3, Own w3 22 1 (.slice ao (k + 1) cap) (k + 1) (ms ++ [.slice co 120 cc]) → Off (blk mv) (w1.alloc (.cells #[.slice co 120 cc] 22)) w3 → (blk (.slice ao (k + 1) cap) = blk mv ∨ blk (.slice ao (k + 1) cap) = [w1.heap.size + 1]) →
      Grow4 w w5 F B vs S (k + 1) (.slice ao (k + 1) cap) w3 := by
  subst hms
  have hvin : ∀ z ∈ blk (.slice (some ⟨xb, xoff, none⟩) 40 xcc), z ∈ vs.flatMap blk := fun z hz => List.mem_flatMap.2 ⟨_, List.mem_of_getElem? hv, hz⟩
  rw [markB_add] at h1
  refine ⟨hM.1.off h3 (fun z hz hz' => by have := hM.2.1 z hz; have := hlt z (hvin z hz'); omega), fun ao cap w3 q1 q2 q3 => ?_⟩
  obtain ⟨r1, r2⟩ := hM.step hF.nodup hlt hO.size hv h3 h1 h4 q2 q1 q3
  refine ⟨_, by rw [List.length_append]; rfl, ?_, r1, ?_⟩
  · exact (hF.grow hv (mk4_end S hk) h2 h3).off r2 (fun z hz hz' => by have := hM.2.1 z hz'; have := hlt z hz; omega)
  · exact (hO.trans h3 (fun z hz => .inl (hvin z hz))).trans r2 (fun z hz => .inr (hM.2.1 z hz))
theorem MoreAt.all {w5 wr : World} {vs ms : List Value} {mv : Value} (h : MoreAt w5 vs mv ms wr) (hms : ms.length = 4) : ∃ pb poff cap, mv = .slice (some ⟨pb, poff, none⟩) 4 cap ∧ ∀ j, j < 4 → ∃ x xn xc, wr.cell? ⟨pb, poff + j, none⟩ = some (.slice x xn xc) ∧ IsB wr (.slice x xn xc) (markB 120 j) := by
  have h1 := h.1
  rw [hms] at h1
  rcases h1.2 with ⟨_, h0⟩ | ⟨pb, poff, c, cur, e, _⟩
  · omega
  · subst e
    refine ⟨pb, poff, c, rfl, fun j hj => ?_⟩
    obtain ⟨x, hx⟩ : ∃ x, ms[j]? = some x := ⟨_, List.getElem?_eq_getElem (by omega)⟩
    have q := h1.cellAt j (by omega)
    have hb := (h.2.2 j x hx).1
    obtain ⟨ao, ac, rfl⟩ := hb.val
    exact ⟨ao, _, ac, by rw [q, hx], hb⟩
/-- Full of one mark. -/
theorem full_mark {w : World} {v : Value} {n k : Nat} (h : IsB w v (markB n k)) (hn : n < 1000000) (hk : k < 4) : Calls Tryz.prog 22 #[v, .int .u8 ((k : Int) + 1)] w fun e w' => e = .returned (.bool true) ∧ w = w' := by
  have q := full22 h (by rw [markB_len]; exact hn) (UInt8.ofNat (k + 1)) (markB_all n k)
  have e : Value.int .u8 (((UInt8.ofNat (k + 1)).toNat : Nat) : Int) = .int .u8 ((k : Int) + 1) := mark_val hk
  rw [e] at q; exact q
theorem grown_mark {w : World} {ao : Option Addr} {cap k : Nat} (h : IsB w (.slice ao 40 cap) (markB 40 k)) (hk : k < 4) : Calls Tryz.prog 21 #[.slice ao 40 cap, .int .u8 ((k : Int) + 1)] w fun e w' => ∃ co cc, e = .returned (.slice co 120 cc) ∧ IsB w' (.slice co 120 cc) (markB 40 k ++ List.replicate 80 (UInt8.ofNat (k + 1))) ∧ IsB w' (.slice ao 40 cap) (markB 40 k) ∧ Off (blk (.slice ao 40 cap)) w w' ∧ (∀ z ∈ blk (.slice co 120 cc), z ∈ blk (.slice ao 40 cap) ∨ w.heap.size ≤ z) := by
  have q := grown21 h (by omega) (UInt8.ofNat (k + 1))
  have e : Value.int .u8 (((UInt8.ofNat (k + 1)).toNat : Nat) : Int) = .int .u8 ((k : Int) + 1) := mark_val hk
  rw [e] at q; exact q
theorem dmK_live : dmK.live ∧ dmK.acts = 2 := by
  have h0 : (newDisk sh2).live := ⟨rfl, rfl⟩
  exact ⟨h0.act.1.act.1, rfl⟩
theorem dmK_fit : dmK.fit := DiskM.act_fit (DiskM.act_fit (newDisk_fit sh2))
theorem lmK_is (t : Nat → Nat) : (lmK t).base = 0 ∧ (lmK t).disk = 0 ∧ (lmK t).bytes = 34 ∧ (lmK t).tail.length = 34 ∧ (lmK t).dead = false := by
  have hl : (frameB t (newLog 0).fin (beginB 9)).length = 34 := by rw [frameB_len, beginB_len]
  refine ⟨rfl, rfl, ?_, ?_, rfl⟩
  · show 0 + (frameB t (newLog 0).fin (beginB 9)).length = 34; rw [hl]
  · show ([] ++ frameB t (newLog 0).fin (beginB 9)).length = 34; rw [List.nil_append, hl]
theorem deskK (t : Nat → Nat) : DeskOk dmK (lmK t) 100 := by
  obtain ⟨h1, h2, h3, h4, h5⟩ := lmK_is t
  exact ⟨dmK_fit, fun x hx => by simp [dmK, DiskM.act, DiskM.stops, newDisk] at hx, by rw [dmK_live.2]; omega, by simp [dmK, DiskM.act, DiskM.stops, newDisk], by rw [h2]; rfl, by rw [h3]; decide, h5⟩
theorem pgK_lsn (t : Nat → Nat) {f : List UInt8} (hf : f.length = 40) : pageLsn (pgK t f) = some 1 := pageLsn_stamp (by rw [hf, slots40]; omega) (by omega)
theorem pgK_check {t : Nat → Nat} {w : World} (ht : Tbl t w) {f : List UInt8} (hf : f.length = 40) : pageCheck t (pgK t f) 1 1 = some 1 :=
  check_stamp ht (by rw [hf, slots40]; omega) (by omega) (by omega) (by rw [hf]; rfl)
theorem poolK {t : Nat → Nat} {w : World} (ht : Tbl t w) {f : List UInt8} (hf : f.length = 40) (k : Nat) : PoolOk t dmK.shp (pmK t f k) := by
  intro x hx
  simp [pmK] at hx; subst hx
  refine ⟨by show 1 < 2; omega, by rw [pgK_len hf]; rfl, 1, ?_, pgK_lsn t hf, by omega, fun _ => by omega⟩
  simp only [pgK_len hf, slots40]
  exact pgK_check ht hf
/-- What PoolKeeps comes to. -/
theorem keepsEnd (t : Nat → Nat) {f : List UInt8} (hf : f.length = 40) : ∃ dmf lmf pmf, cleanM dmK (lmK t) (pmK t f 3) 1 = (dmf, lmf, pmf, 0) ∧ dmf.stops = false ∧ dmf.acts = 8 ∧ dmf.reads[1]? = some (pgK t f) ∧ dmf.shp = sh2 := by
  obtain ⟨h1, h2, h3, h4, h5⟩ := lmK_is t
  have hz : (lmK t).bytes = (lmK t).disk + (lmK t).tail.length := by omega
  have hc := cleanM_live (t := t) dmK_live.1 (lm := lmK t) (pm := pmK t f 3) (n := 1) (f := ⟨1, pgK t f, 3, 1⟩) rfl (by show 0 < 1; omega)
  have hx : (pageLsn (pgK t f)).getD 0 = 1 := by rw [pgK_lsn t hf]; rfl
  simp only [hx] at hc
  have hne : ¬ (1 ≤ (lmK t).base + (lmK t).disk ∨ (lmK t).tail = []) := by
    rintro (q | q)
    · omega
    · rw [q] at h4; simp at h4
  have hf' := dmK_live.1.flush (lm := lmK t) 1
  rw [if_neg hne, if_neg hne] at hf'
  have hok := flushM_ok (deskK t) hz hf'.1
  have hg := flushM_grounds (deskK t) hz 1
  have hs := flushM_shp (deskK t) hz 1
  have hp := hf'.2.1.pair 1 (pgK t f) (pairB 1 1 (pgK t f))
  have hpo := (pairS_ok hok.1 hok.2.1 (n := 1) (by rw [hs]; decide) (b := pgK t f) (pb := pairB 1 1 (pgK t f)) (by rw [hs, pgK_len hf]; rfl) (by rw [pairB_len, hs, pgK_len hf]; rfl)).2.2.2.2
  have hlo : (flushM dmK (lmK t) 1).1.loose = [] := hg.2.2
  have hpg := pairS_grounds hok.1 hlo (n := 1) (by rw [hs]; decide) (b := pgK t f) (pb := pairB 1 1 (pgK t f)) (by rw [hs, pgK_len hf]; rfl) (by rw [pairB_len, hs, pgK_len hf]; rfl) 1 (by rw [hs]; decide)
  refine ⟨_, _, _, hc, hp.2.1.stops, ?_, ?_, hpo.1.trans hs⟩
  · rw [hp.2.2, hf'.2.2.1, dmK_live.2]
  · rw [hpg.2, if_pos rfl]
end Go.Proofs.YtfdgiblkllfpjaaGreatDoor

/- PoolPins: the pool as its law plays with it: pages of zeros alone, each frame clean, pinned so often. -/
set_option linter.unusedVariables false
set_option linter.unusedSimpArgs false
namespace Go.Proofs.YtfdgiblkllfpjaaGreatDoor
open Go.ChangeShapes Go.WideShapes Go.ChangeAt Go.RowKit

theorem sub_len {α : Type} [DecidableEq α] : ∀ {L M : List α}, L.Nodup → (∀ x ∈ L, x ∈ M) → L.length ≤ M.length
  | [], _, _, _ => Nat.zero_le _
  | a :: L, M, h, hs => by
    obtain ⟨h1, h2⟩ := List.nodup_cons.1 h
    have hm : a ∈ M := hs a (by simp)
    have q := sub_len (L := L) (M := M.erase a) h2 (fun x hx => (List.mem_erase_of_ne (fun e => h1 (by rw [← e]; exact hx))).2 (hs x (List.mem_cons_of_mem _ hx)))
    rw [List.length_erase_of_mem hm] at q
    have := List.length_pos_of_mem hm
    simp only [List.length_cons]; omega
structure PinsI (c : Nat → Nat) (A m : Nat) (dm : DiskM) (pm : PoolM) : Prop where
  live : dm.live
  fit : dm.fit
  shp : dm.shp = ⟨m + 1, 1, 1024⟩
  reads : ∀ n, n < m + 1 → dm.reads[n]? = some zA
  acts : dm.acts ≤ A
  most : pm.most = m
  dead : pm.dead = false
  len : pm.held.length ≤ m
  nod : (pm.held.map (·.num)).Nodup
  fr : ∀ f ∈ pm.held, f.b = zA ∧ f.rc = 0 ∧ f.num < m + 1 ∧ f.pins = c f.num
  pin : ∀ n, n < m + 1 → 0 < c n → ∃ f ∈ pm.held, f.num = n
def bump (c : Nat → Nat) (a n : Nat) : Nat := if n = a then c n + 1 else c n
def drop1 (c : Nat → Nat) (a n : Nat) : Nat := if n = a then c n - 1 else c n
theorem zA_40 : zA.length = 40 := by unfold zA; rw [List.length_replicate]
theorem pfind_some {pm : PoolM} {n : Nat} {f : Fr} (h : pm.find n = some f) : f ∈ pm.held ∧ f.num = n := by
  unfold PoolM.find at h
  exact ⟨List.mem_of_find?_eq_some h, by have := List.find?_some h; simpa using this⟩
theorem pfind_none {pm : PoolM} {n : Nat} : pm.find n = none ↔ ∀ f ∈ pm.held, f.num ≠ n := by
  unfold PoolM.find
  rw [List.find?_eq_none]
  exact ⟨fun h f hf e => h f hf (by simpa using e), fun h f hf e => h f hf (by simpa using e)⟩
theorem pfind_mem {pm : PoolM} (hn : (pm.held.map (·.num)).Nodup) {f : Fr} (hf : f ∈ pm.held) : pm.find f.num = some f := by
  cases h : pm.find f.num with
  | none => exact absurd rfl (pfind_none.1 h f hf)
  | some g =>
    obtain ⟨g1, g2⟩ := pfind_some h
    congr 1
    generalize pm.held = L at *
    clear h
    induction L with
    | nil => cases hf
    | cons x L ih =>
      rw [List.map_cons] at hn
      obtain ⟨n1, n2⟩ := List.nodup_cons.1 hn
      rcases List.mem_cons.1 hf with rfl | e1 <;> rcases List.mem_cons.1 g1 with rfl | e2
      · rfl
      · exact absurd (List.mem_map.2 ⟨g, e2, g2⟩) n1
      · exact absurd (List.mem_map.2 ⟨f, e1, g2.symm⟩) n1
      · exact ih n2 e1 e2
section
variable {c c' : Nat → Nat} {A m : Nat} {dm : DiskM} {pm : PoolM}
theorem PinsI.congr (h : PinsI c A m dm pm) {A' : Nat} (hA : A ≤ A') (hc : ∀ n, n < m + 1 → c n = c' n) : PinsI c' A' m dm pm :=
  ⟨h.live, h.fit, h.shp, h.reads, Nat.le_trans h.acts hA, h.most, h.dead, h.len, h.nod, fun f hf => by
    obtain ⟨e1, e2, e3, e4⟩ := h.fr f hf
    exact ⟨e1, e2, e3, by rw [e4, hc _ e3]⟩, fun n hn hp => h.pin n hn (by rw [hc n hn]; exact hp)⟩
theorem PinsI.nums (h : PinsI c A m dm pm) : ∀ n ∈ pm.held.map (·.num), n ∈ List.range (m + 1) := by
  intro n hn
  obtain ⟨f, hf, rfl⟩ := List.mem_map.1 hn
  exact List.mem_range.2 (h.fr f hf).2.2.1
/-- A frame's pins are turned. -/
theorem PinsI.setP (h : PinsI c A m dm pm) {a : Nat} {f : Fr} (hf : pm.find a = some f) (x : Nat) : PinsI (fun n => if n = a then x else c n) A m dm (pm.set { f with pins := x }) := by
  obtain ⟨f1, f2⟩ := pfind_some hf
  obtain ⟨e1, e2, e3, e4⟩ := h.fr f f1
  have hh : (pm.set { f with pins := x }).held = pm.held.map (fun y => if y.num = a then { f with pins := x } else y) := by
    unfold PoolM.set; simp only [f2]
  have hnum : ((pm.set { f with pins := x }).held).map (·.num) = pm.held.map (·.num) := by
    rw [hh, List.map_map]
    refine List.map_congr_left (fun y hy => ?_)
    simp only [Function.comp_apply]
    split
    · rename_i q; rw [q]; exact f2
    · rfl
  refine ⟨h.live, h.fit, h.shp, h.reads, h.acts, h.most, h.dead, ?_, ?_, ?_, ?_⟩
  · rw [hh, List.length_map]; exact h.len
  · rw [hnum]; exact h.nod
  · intro y hy
    rw [hh] at hy
    obtain ⟨z, hz, rfl⟩ := List.mem_map.1 hy
    by_cases q : z.num = a
    · rw [if_pos q]; exact ⟨e1, e2, e3, by rw [if_pos f2]⟩
    · rw [if_neg q]
      obtain ⟨k1, k2, k3, k4⟩ := h.fr z hz
      exact ⟨k1, k2, k3, by rw [if_neg q]; exact k4⟩
  · intro n hn hp
    have : n ∈ ((pm.set { f with pins := x }).held).map (·.num) := by
      rw [hnum]
      by_cases q : n = a
      · exact List.mem_map.2 ⟨f, f1, by rw [q]; exact f2⟩
      · rw [if_neg q] at hp
        obtain ⟨y, y1, y2⟩ := h.pin n hn hp
        exact List.mem_map.2 ⟨y, y1, y2⟩
    obtain ⟨y, y1, y2⟩ := List.mem_map.1 this
    exact ⟨y, y1, y2⟩
theorem PinsI.none0 (h : PinsI c A m dm pm) {a : Nat} (ha : a < m + 1) (hf : pm.find a = none) : c a = 0 := by
  rcases Nat.eq_zero_or_pos (c a) with q | q
  · exact q
  · obtain ⟨f, f1, f2⟩ := h.pin a ha q
    exact absurd f2 (pfind_none.1 hf f f1)
theorem PinsI.act (h : PinsI c A m dm pm) : PinsI c (A + 1) m dm.act pm :=
  ⟨h.live.act.1, DiskM.act_fit h.fit, by rw [(act_shp dm).1]; exact h.shp, fun n hn => by rw [dm.act_fields.2.2.1]; exact h.reads n hn, by rw [h.live.act.2]; have := h.acts; omega, h.most, h.dead, h.len, h.nod, h.fr, h.pin⟩
theorem PinsI.addP (h : PinsI c A m dm pm) {a : Nat} (ha : a < m + 1) (hf : pm.find a = none) (hr : pm.held.length < m) : PinsI (bump c a) A m dm (pm.add ⟨a, zA, 1, 0⟩) := by
  have h0 := h.none0 ha hf
  have hnn := pfind_none.1 hf
  refine ⟨h.live, h.fit, h.shp, h.reads, h.acts, h.most, h.dead, ?_, ?_, ?_, ?_⟩
  · show (pm.held ++ [(⟨a, zA, 1, 0⟩ : Fr)]).length ≤ m
    rw [List.length_append]; simp only [List.length_cons, List.length_nil]; omega
  · show ((pm.held ++ [(⟨a, zA, 1, 0⟩ : Fr)]).map (·.num)).Nodup
    rw [List.map_append]
    refine List.nodup_append.2 ⟨h.nod, by simp, fun x hx y hy e => ?_⟩
    obtain ⟨f, f1, f2⟩ := List.mem_map.1 hx
    simp at hy
    exact hnn f f1 (by rw [f2, e, hy])
  · intro f hf'
    rcases List.mem_append.1 hf' with q | q
    · obtain ⟨k1, k2, k3, k4⟩ := h.fr f q
      exact ⟨k1, k2, k3, by unfold bump; rw [if_neg (hnn f q)]; exact k4⟩
    · simp at q; subst q
      exact ⟨rfl, rfl, ha, by unfold bump; rw [if_pos rfl, h0]⟩
  · intro n hn hp
    unfold bump at hp
    by_cases q : n = a
    · exact ⟨⟨a, zA, 1, 0⟩, List.mem_append.2 (.inr (by simp)), q.symm⟩
    · rw [if_neg q] at hp
      obtain ⟨y, y1, y2⟩ := h.pin n hn hp
      exact ⟨y, List.mem_append.2 (.inl y1), y2⟩
theorem PinsI.delP (h : PinsI c A m dm pm) {v : Nat} {f : Fr} (hf : pm.find v = some f) (h0 : c v = 0) : PinsI c A m dm (pm.del v) ∧ (pm.del v).held.length < m := by
  obtain ⟨f1, f2⟩ := pfind_some hf
  have hsub : (pm.del v).held.Sublist pm.held := List.filter_sublist
  have hlt : (pm.del v).held.length < pm.held.length := by
    refine Nat.lt_of_le_of_ne hsub.length_le (fun e => ?_)
    have := hsub.eq_of_length e
    rw [← this] at f1
    have q := (List.mem_filter.1 f1).2
    simp [f2] at q
  have hl := h.len
  refine ⟨⟨h.live, h.fit, h.shp, h.reads, h.acts, h.most, h.dead, by omega, h.nod.sublist (hsub.map _), fun f hf => h.fr f (hsub.subset hf), fun n hn hp => ?_⟩, by omega⟩
  obtain ⟨y, y1, y2⟩ := h.pin n hn hp
  refine ⟨y, List.mem_filter.2 ⟨y1, ?_⟩, y2⟩
  have : n ≠ v := fun e => by rw [e] at hp; omega
  simp [y2, this]
theorem del_none {v a : Nat} (h : pm.find a = none) : (pm.del v).find a = none := pfind_none.2 (fun f hf => pfind_none.1 h f (List.filter_sublist.subset hf))
theorem pfr_mem {pr : Fr → Bool} {x : Int} (h : x ∈ pm.pick pr) : ∃ f ∈ pm.held, pr f = true ∧ x = (f.num : Int) := by
  unfold PoolM.pick at h
  have := (srtI_perm _).mem_iff.1 h
  obtain ⟨f, f1, f2⟩ := List.mem_map.1 this
  exact ⟨f, (List.mem_filter.1 f1).1, (List.mem_filter.1 f1).2, f2.symm⟩
theorem pick_all : (pm.pick all).length = pm.held.length := by
  unfold PoolM.pick
  rw [srtI_len]; unfold numsI; rw [List.length_map]
  congr 1
  exact List.filter_eq_self.2 (fun f _ => rfl)
/-- All frames are held, the page isn't: an idle one is there. -/
theorem PinsI.hasIdle (h : PinsI c A m dm pm) {a b : Nat} (ha : a < m + 1) (hb : b < m + 1) (hab : b ≠ a) (h0 : c b = 0) (hf : pm.find a = none) (hful : ¬ pm.held.length < m) : pm.pick idle ≠ [] := by
  have hbf : ∃ f ∈ pm.held, f.num = b := by
    refine Classical.byContradiction (fun hno => ?_)
    have hnd : (a :: b :: pm.held.map (·.num)).Nodup := by
      refine List.nodup_cons.2 ⟨fun hz => ?_, List.nodup_cons.2 ⟨fun hz => ?_, h.nod⟩⟩
      · rcases List.mem_cons.1 hz with e | e
        · exact hab e.symm
        · obtain ⟨f, f1, f2⟩ := List.mem_map.1 e; exact pfind_none.1 hf f f1 f2
      · obtain ⟨f, f1, f2⟩ := List.mem_map.1 hz; exact hno ⟨f, f1, f2⟩
    have q := sub_len hnd (M := List.range (m + 1)) (fun x hx => by
      rcases List.mem_cons.1 hx with e | hx
      · rw [e]; exact List.mem_range.2 ha
      rcases List.mem_cons.1 hx with e | hx
      · rw [e]; exact List.mem_range.2 hb
      exact h.nums x hx)
    simp only [List.length_cons, List.length_map, List.length_range] at q
    omega
  obtain ⟨f, f1, f2⟩ := hbf
  have e4 := (h.fr f f1).2.2.2
  intro hnil
  have hm : ((f.num : Nat) : Int) ∈ pm.pick idle := by
    unfold PoolM.pick
    refine (srtI_perm _).mem_iff.2 (List.mem_map.2 ⟨f, List.mem_filter.2 ⟨f1, ?_⟩, rfl⟩)
    unfold idle
    rw [e4, f2, h0]; rfl
  rw [hnil] at hm; cases hm
/-- All pages but one are pinned. -/
theorem PinsI.full (h : PinsI c A m dm pm) {x : Nat} (hx : x < m + 1) (hc : ∀ n, n < m + 1 → n ≠ x → 0 < c n) : pm.held.length = m ∧ pm.find x = none ∧ pm.pick idle = [] := by
  have hin : ∀ n, n < m + 1 → n ≠ x → n ∈ pm.held.map (·.num) := fun n hn hne => by
    obtain ⟨f, f1, f2⟩ := h.pin n hn (hc n hn hne)
    exact List.mem_map.2 ⟨f, f1, f2⟩
  have hl := h.len
  have q1 := sub_len (L := List.range (m + 1)) (M := x :: pm.held.map (·.num)) List.nodup_range (fun n hn => by
    by_cases e : n = x
    · simp [e]
    · exact List.mem_cons_of_mem _ (hin n (List.mem_range.1 hn) e))
  simp only [List.length_cons, List.length_map, List.length_range] at q1
  have hno : pm.find x = none := by
    cases hf : pm.find x with
    | none => rfl
    | some f =>
      obtain ⟨f1, f2⟩ := pfind_some hf
      have q2 := sub_len (L := List.range (m + 1)) (M := pm.held.map (·.num)) List.nodup_range (fun n hn => by
        by_cases e : n = x
        · rw [e]; exact List.mem_map.2 ⟨f, f1, f2⟩
        · exact hin n (List.mem_range.1 hn) e)
      simp only [List.length_map, List.length_range] at q2
      omega
  refine ⟨by omega, hno, ?_⟩
  cases hp : pm.pick idle with
  | nil => rfl
  | cons y L =>
    obtain ⟨f, f1, f2, _⟩ := pfr_mem (pm := pm) (pr := idle) (x := y) (by rw [hp]; simp)
    obtain ⟨_, _, e3, e4⟩ := h.fr f f1
    have hne : f.num ≠ x := pfind_none.1 hno f f1
    have := hc _ e3 hne
    unfold idle at f2
    simp at f2; omega
end
/-- What a Pin comes to. -/
def PinsPost (w0 : World) (d g p : Nat) (lm : LogM) (c : Nat → Nat) (A m : Nat) (e : Ending) (w' : World) : Prop :=
  ∃ dm pm F ao cap, e = .returned (.tuple #[.slice ao 40 cap, .int .i64 0]) ∧ Since w0 d g p dm lm pm F w' ∧ PinsI c A m dm pm
section
variable {t : Nat → Nat} {w0 w : World} {d g p : Nat} {dm : DiskM} {lm : LogM} {pm : PoolM} {F : Fp3} {c : Nat → Nat} {A m : Nat}
/-- Pin of any page, as long as one beside it is not pinned. -/
theorem pin_any (ht : Tbl t w0) (hs : Since w0 d g p dm lm pm F w) (h : PinsI c A m dm pm) (hm : m ≤ 14) (hA : A < 1000000) (hc : ∀ n, n < m + 1 → c n < 1000000) (a : Nat) (ha : a < m + 1) (hb : ∃ b, b < m + 1 ∧ b ≠ a ∧ c b = 0) (pick : Int) :
    Calls Tryz.prog 16 #[.pointer (some ⟨p, 0, none⟩), .int .i64 (a : Int), .int .i64 pick] w (PinsPost w0 d g p lm (bump c a) (A + 1) m) := by
  obtain ⟨hT, z1, z2, z3⟩ := hs.zero ht
  have hn : a < dm.shp.pages := by rw [h.shp]; exact ha
  have hac := h.acts
  have hck : pageCheck t zA (a : Int) (dm.shp.slots : Nat) = some 0 := by rw [h.shp]; exact check_zeros t a 1 (by omega) (by omega) (by omega)
  cases hf : pm.find a with
  | some f =>
    obtain ⟨f1, f2⟩ := pfind_some hf
    obtain ⟨e1, e2, e3, e4⟩ := h.fr f f1
    have hc' := hc a ha
    refine (pin16_held hs.1 h.dead a hn f hf (by rw [e1, zA_40]; omega) (by rw [e4, f2]; omega) pick).mono ?_
    rintro e w' ⟨F1, ao, cap, rfl, hW, hA1, _, _⟩
    rw [e1, zA_40]
    refine ⟨dm, _, F1, ao, cap, rfl, hs.step hW hA1, (h.setP hf _).congr (by omega) (fun n hn => ?_)⟩
    unfold bump
    by_cases q : n = a
    · rw [if_pos q, if_pos q, e4, f2, q]
    · rw [if_neg q, if_neg q]
  | none =>
    by_cases hr : pm.held.length < m
    · refine (pin16_room hT hs.1 z1 h.dead (by omega) h.fit a hn hf (by rw [h.most]; exact hr) zA (h.reads a ha) 0 hck h.live.stops pick).mono ?_
      rintro e w' ⟨F1, ao, cap, rfl, hW, hA1, _, _⟩
      rw [zA_40]
      exact ⟨_, _, F1, ao, cap, rfl, hs.step hW hA1, h.act.addP ha hf hr⟩
    · obtain ⟨b, b1, b2, b3⟩ := hb
      have hid := h.hasIdle ha b1 b2 b3 hf hr
      have hil : 0 < (pm.pick idle).length := List.length_pos_iff.2 hid
      obtain ⟨j, hj⟩ : ∃ j : Nat, (pick.tmod ((pm.pick idle).length : Nat) + ((pm.pick idle).length : Nat)).tmod ((pm.pick idle).length : Nat) = (j : Int) ∧ j < (pm.pick idle).length := by
        have x1 := Int.lt_tmod_of_pos pick (show (0 : Int) < ((pm.pick idle).length : Nat) by omega)
        have x2 := Int.tmod_nonneg ((pm.pick idle).length : Nat) (show (0 : Int) ≤ pick.tmod ((pm.pick idle).length : Nat) + ((pm.pick idle).length : Nat) by omega)
        have x3 := Int.tmod_lt_of_pos (pick.tmod ((pm.pick idle).length : Nat) + ((pm.pick idle).length : Nat)) (show (0 : Int) < ((pm.pick idle).length : Nat) by omega)
        refine ⟨((pick.tmod ((pm.pick idle).length : Nat) + ((pm.pick idle).length : Nat)).tmod ((pm.pick idle).length : Nat)).toNat, ?_, ?_⟩
        · omega
        · omega
      have hx := List.getElem?_eq_getElem hj.2
      obtain ⟨fv, v1, v2, v3⟩ := pfr_mem (List.mem_of_getElem? hx)
      rw [v3] at hx
      obtain ⟨k1, k2, k3, k4⟩ := h.fr fv v1
      have hv0 : c fv.num = 0 := by unfold idle at v2; simp at v2; omega
      have hfv := pfind_mem h.nod v1
      have hl := h.len
      refine (pin16_evict hT hs.1 z1 h.dead (by omega) h.fit a hn pick hf (by rw [h.most]; omega) (by rw [h.most]; omega) hj.1 hx hfv k2 zA (h.reads a ha) 0 hck h.live.stops).mono ?_
      rintro e w' ⟨F1, ao, cap, rfl, hW, hA1, _, _⟩
      rw [zA_40]
      obtain ⟨y1, y2⟩ := h.act.delP hfv hv0
      exact ⟨_, _, F1, ao, cap, rfl, hs.step hW hA1, y1.addP ha (del_none hf) y2⟩
theorem unpin_any (hs : Since w0 d g p dm lm pm F w) (h : PinsI c A m dm pm) (a : Nat) (ha : a < m + 1) (hp : 0 < c a) :
    Calls Tryz.prog 27 #[.pointer (some ⟨p, 0, none⟩), .int .i64 (a : Int)] w (fun e w' => e = .returned (.tuple #[]) ∧ ∃ pm' F', Since w0 d g p dm lm pm' F' w' ∧ PinsI (drop1 c a) A m dm pm') := by
  obtain ⟨mb, es, clk, qs, hat, hpf⟩ := hs.1.2.1
  refine (unpin27 hat a).mono ?_
  rintro e w' ⟨rfl, hst⟩
  rw [← hpf] at hst
  obtain ⟨Q, hW, hA⟩ := hs.1.poolAt hst
  refine ⟨rfl, _, _, hs.step hW hA, ?_⟩
  obtain ⟨f, f1, f2⟩ := h.pin a ha hp
  have hf : pm.find a = some f := by rw [← f2]; exact pfind_mem h.nod f1
  have e4 := (h.fr f f1).2.2.2
  unfold PoolM.unpin
  rw [hf]
  simp only
  rw [if_pos (by rw [e4, f2]; exact hp)]
  refine (h.setP hf _).congr (Nat.le_refl _) (fun n hn => ?_)
  unfold drop1
  by_cases q : n = a
  · rw [if_pos q, if_pos q, e4, f2, q]
  · rw [if_neg q, if_neg q]
theorem pin_not (hs : Since w0 d g p dm lm pm F w) (h : PinsI c A m dm pm) (x : Nat) (hx : x < m + 1) (hc : ∀ n, n < m + 1 → n ≠ x → 0 < c n) (pick : Int) :
    Calls Tryz.prog 16 #[.pointer (some ⟨p, 0, none⟩), .int .i64 (x : Int), .int .i64 pick] w (fun e w' => e = .returned (.tuple #[.slice none 0 0, .int .i64 141]) ∧ Since w0 d g p dm lm pm F w') := by
  obtain ⟨h1, h2, h3⟩ := h.full hx hc
  refine (pin16_none hs.1 h.dead x (by rw [h.shp]; exact hx) h2 (by rw [h.most]; exact h1) h3 pick).mono ?_
  rintro e w' ⟨rfl, ho⟩
  exact ⟨rfl, hs.quiet ho⟩
theorem held_any (hs : Since w0 d g p dm lm pm F w) (h : PinsI c A m dm pm) (hm : m ≤ 14) :
    Calls Tryz.prog 26 #[.pointer (some ⟨p, 0, none⟩)] w (fun e w' => ∃ ao cap, e = .returned (.slice ao pm.held.length cap) ∧ Since w0 d g p dm lm pm F w') := by
  obtain ⟨mb, es, clk, qs, hat, hpf⟩ := hs.1.2.1
  have hl := h.len
  refine (held26 hat (by rw [hat.len]; omega)).mono ?_
  rintro e w' ⟨ao, cap, rfl, _, ho, _⟩
  exact ⟨ao, cap, by rw [pick_all], hs.quiet ho⟩
theorem look_any (hs : Since w0 d g p dm lm pm F w) (h : PinsI c A m dm pm) (n : Nat) (hn : n < m + 1) (hp : 0 < c n) :
    Calls Tryz.prog 20 #[.pointer (some ⟨p, 0, none⟩), .int .i64 (n : Int)] w (fun e w' => ∃ ao cap, e = .returned (.tuple #[.slice ao 40 cap, .bool true]) ∧ Since w0 d g p dm lm pm F w') := by
  obtain ⟨f, f1, f2⟩ := h.pin n hn hp
  have hf : pm.find n = some f := by rw [← f2]; exact pfind_mem h.nod f1
  refine (look_since hs hf (fun f hf => by rw [(h.fr f hf).1, zA_40]; omega)).mono ?_
  rintro e w' ⟨ao, cap, rfl, _, ho, _⟩
  rw [(h.fr f f1).1, zA_40]
  exact ⟨ao, cap, rfl, hs.quiet ho⟩
theorem look_not (hs : Since w0 d g p dm lm pm F w) (h : PinsI c A m dm pm) (n : Nat) (hf : pm.find n = none) :
    Calls Tryz.prog 20 #[.pointer (some ⟨p, 0, none⟩), .int .i64 (n : Int)] w (fun e w' => e = .returned (.tuple #[.slice none 0 0, .bool false]) ∧ Since w0 d g p dm lm pm F w') := by
  obtain ⟨mb, es, clk, qs, hp, _⟩ := hs.1.2.1
  have q := look20 hp n (fun f hf => by rw [(h.fr f hf).1, zA_40]; omega)
  rw [hf] at q
  refine q.mono ?_
  rintro e w' ⟨rfl, ho⟩
  exact ⟨rfl, hs.quiet ho⟩
end
/-- How often each page is pinned: k has q more, and the i pages from k on one each. -/
def ring (m k i n : Nat) : Nat := if (if k ≤ n then n - k else n + (m + 1) - k) < i then 1 else 0
def cc (m k q i n : Nat) : Nat := (if n = k then q else 0) + ring m k i n
theorem ring_at {m k i : Nat} (hk : k ≤ m) (hi : i ≤ m) : (k + i) % (m + 1) = if k + i < m + 1 then k + i else k + i - (m + 1) := by
  split
  · rename_i h; exact Nat.mod_eq_of_lt h
  · rename_i h
    rw [Nat.mod_eq_sub_mod (by omega), Nat.mod_eq_of_lt (by omega)]
theorem cc_pin {m k q i : Nat} (hk : k ≤ m) : ∀ n, n < m + 1 → bump (cc m k q i) k n = cc m k (q + 1) i n := by
  intro n hn
  unfold bump cc
  split <;> omega
theorem cc_unpin {m k q i : Nat} : ∀ n, n < m + 1 → drop1 (cc m k (q + 1) i) k n = cc m k q i n := by
  intro n hn
  unfold drop1 cc
  split <;> omega
theorem cc_back {m k q i a : Nat} : ∀ n, n < m + 1 → drop1 (bump (cc m k q i) a) a n = cc m k q i n := by
  intro n hn
  unfold drop1 bump
  split <;> simp_all
theorem cc_ring {m k q i : Nat} (hk : k ≤ m) (hi : i < m) : ∀ n, n < m + 1 → bump (cc m k q i) ((k + i) % (m + 1)) n = cc m k q (i + 1) n := by
  intro n hn
  rw [ring_at hk (by omega)]
  unfold bump cc ring
  split <;> split <;> split <;> (try split) <;> (try split) <;> (try split) <;> omega
theorem cc_le {m k q i n : Nat} : cc m k q i n ≤ q + 1 := by
  have : ring m k i n ≤ 1 := by
    unfold ring
    generalize (if k ≤ n then n - k else n + (m + 1) - k) = y
    split <;> omega
  unfold cc
  split <;> omega
end Go.Proofs.YtfdgiblkllfpjaaGreatDoor

/- pool: Pin of a page that comes in where all frames are held and an idle dirty one is written out and gives way. -/
set_option linter.unusedVariables false
set_option linter.unusedSimpArgs false
namespace Go.Proofs.YtfdgiblkllfpjaaGreatDoor
open Go.ChangeShapes Go.WideShapes Go.ChangeAt Go.RowKit
open Go.ChangeMaps (setBlock)

theorem set_find {pm : PoolM} {f f' : Fr} {n : Nat} (h : pm.find n = some f) (hn : f'.num = n) : (pm.set f').find n = some f' := by
  unfold PoolM.find PoolM.set at *
  simp only
  generalize pm.held = L at *
  induction L with
  | nil => cases h
  | cons x L ih =>
    rw [List.find?_cons] at h
    rw [List.map_cons, List.find?_cons]
    by_cases q : x.num = n
    · rw [if_pos (by rw [q, hn])]
      simp [hn]
    · have q2 : (x.num == n) = false := by simp [q]
      rw [q2] at h
      rw [if_neg (by rw [hn]; exact q), q2]
      exact ih h
theorem writeM_pool {dm : DiskM} {lm : LogM} {pm : PoolM} {f : Fr} {lsn : Nat} (h : (writeM dm lm pm f lsn).2.2.2 = 0) : (writeM dm lm pm f lsn).2.2.1 = pm.set { f with rc := 0 } := by
  unfold writeM at h ⊢
  split
  · rename_i h1
    rw [if_pos h1] at h
    split
    · rfl
    · rename_i h2
      rw [if_neg h2] at h; cases h
  · rename_i h1
    rw [if_neg h1] at h; cases h
set_option maxRecDepth 100000 in
set_option maxHeartbeats 8000000 in
theorem pin16_dirty {t : Nat → Nat} {w : World} {d g p : Nat} {dm : DiskM} {lm : LogM} {pm : PoolM} {F : Fp3} (ht : Tbl t w) (h : Whole w d g p dm lm pm F) (h0 : 0 ∉ F.d) (h0l : 0 ∉ F.l) (hdead : pm.dead = false) (ha : dm.acts < 4611686018427387904) (hfit : dm.fit) (n : Nat) (hn : n < dm.shp.pages) (pick : Int) (hf : pm.find n = none) (hful : pm.held.length = pm.most) (hsm : pm.most ≤ 16) {v j : Nat} {fv : Fr} (hj : (pick.tmod ((pm.pick idle).length : Nat) + ((pm.pick idle).length : Nat)).tmod ((pm.pick idle).length : Nat) = (j : Int)) (hidx : (pm.pick idle)[j]? = some (v : Int)) (hfv : pm.find v = some fv) (hrc : 0 < fv.rc) {k lsn : Nat} (hk : k < 3000000000000000000) (hok : DeskOk dm.act lm k) (hpg : PageOk t dm.act.shp fv lsn) (hwrm : (writeM dm.act lm pm fv lsn).2.2.2 = 0)
    (l : List UInt8) (hl : dm.reads[n]? = some l) (x : Nat) (hck : pageCheck t l (n : Int) (dm.shp.slots : Nat) = some x) (hst : dm.stops = false) :
    Calls Tryz.prog 16 #[.pointer (some ⟨p, 0, none⟩), .int .i64 (n : Int), .int .i64 pick] w (PinPost d g p F (writeM dm.act lm pm fv lsn).1 (writeM dm.act lm pm fv lsn).2.1 (((pm.set { fv with rc := 0 }).del v).add ⟨n, l, 1, 0⟩) l w) := by
  obtain ⟨D, L, pf⟩ := F
  have hp := h.2.1
  obtain ⟨mb, es, clk, qs, hp, hpf⟩ := hp
  simp only at hpf
  subst hpf
  obtain ⟨c0, _, k2, k3, k4, kf⟩ := hp.cells
  rw [hdead] at k4
  have hql := hp.len
  have hm16 := hp.most
  have hsh := h.1.1.ok.1
  have hll : l.length ≤ 152 := by
    obtain ⟨l', e1, e2⟩ := hfit.2.1 n (by omega)
    rw [hl] at e1; injection e1 with e1; subst e1
    rw [e2]; unfold Shp.sizeB Shp.pageB; rw [if_pos hn]; have := hsh.2.2.2.1; omega
  have HT := Lib.hid (there59 hp h.1.1 (n : Int))
  rw [decide_eq_true (show (0 : Int) ≤ (n : Int) ∧ (n : Int) < (dm.shp.pages : Int) by omega)] at HT
  have HG : Hid (∀ W, Off [] w W → Calls Tryz.prog 61 #[.pointer (some ⟨p, 0, none⟩), .func (.func 62) #[] #[]] W (FreshI W (pm.pick idle))) := Lib.hid (fun W ho => gathered61 (hp.off ho (by simp)) (by omega) 62 ent62 idle (fun W' q _ hq => idle62 W' q hq))
  rcases hp.look n with ⟨e1, hno, e2⟩ | ⟨A, q, B, rfl, hq, e1, e2⟩
  rotate_left
  · rw [hf] at e1; cases e1
  have hlk := fun W hW => run_lookup_map (P := Tryz.prog) (t := 125) (k := 3) (e := 129) (clk := clk) Tryz.underlying125 Tryz.underlying3 zero129 hp.ent mb (n : Int) false W hW
  rw [e2] at hlk
  simp only [Bool.false_eq_true, if_false, Option.getD_none] at hlk
  obtain ⟨A, q, B, hqs, hqn, hq1, hq2⟩ : ∃ A q B, qs = A ++ q :: B ∧ q.1.num = v ∧ q.1 = fv ∧ mget (qs.map entP) (v : Int) = some (.pointer (some ⟨q.2.fb, 0, none⟩)) := by
    rcases hp.look v with ⟨e1', _, _⟩ | ⟨A, q, B, hqs, hqn, e1', e2'⟩
    · rw [hfv] at e1'; cases e1'
    · rw [hfv] at e1'; injection e1' with e1'
      exact ⟨A, q, B, hqs, hqn, e1'.symm, e2'⟩
  have hlv := fun W hW => run_lookup_map (P := Tryz.prog) (t := 125) (k := 3) (e := 129) (clk := clk) Tryz.underlying125 Tryz.underlying3 zero129 hp.ent mb (v : Int) false W hW
  rw [hq2] at hlv
  simp only [Bool.false_eq_true, if_false, Option.getD_some] at hlv
  have HLV := Lib.hid hlv
  have HQ := Lib.hid (And.intro hqs (And.intro hqn hq1))
  clear hlv hqs hqn hq1 hq2
  have HLK := Lib.hid hlk
  have HLN : Hid (∀ W ty, IsM W mb es clk → (Builtin.len_ #[125] ty #[.map (some mb)]).run Tryz.prog W = .ok (.int .i64 (pm.held.length : Nat)) W) := Lib.hid (fun W ty hW => by
    have q := run_len_map (P := Tryz.prog) (k := 3) (e := 129) (clk := clk) Tryz.underlying125 hp.ent mb ty W hW
    rw [List.length_map, hql] at q; exact q)
  have HRD : Hid (∀ W, Off [] w W → Calls Tryz.prog 24 #[.pointer (some ⟨d, 0, none⟩), .int .i64 (n : Int)] W (ReadPost d D dm l W)) := Lib.hid (fun W ho => readPage24 (h.1.1.off ho (by simp)) ha n hn l hl (by omega))
  obtain ⟨P, hP⟩ : ∃ P, P = PinPost d g p ⟨D, L, p :: mb :: qs.flatMap (·.2.fp)⟩ (writeM dm.act lm pm fv lsn).1 (writeM dm.act lm pm fv lsn).2.1 (((pm.set { fv with rc := 0 }).del v).add ⟨n, l, 1, 0⟩) l w := ⟨_, rfl⟩
  rw [← hP]
  have HP := Lib.hid hP
  have HALL := Lib.hid (And.intro h (And.intro hp (And.intro ht (And.intro h0 (And.intro hno (And.intro hck (And.intro hll hst)))))))
  have hfull : ((pm.held.length : Int) == (pm.most : Int)) = true := by rw [beq_iff_eq]; omega
  have hil : 0 < (pm.pick idle).length := by have := (List.getElem?_eq_some_iff.1 hidx).1; omega
  have HIDX := Lib.hid hidx
  have HWR := Lib.hid (And.intro hk (And.intro hok (And.intro hpg (And.intro hwrm (And.intro h0l (And.intro hfv hrc))))))
  have hrcv : (0 : Int) < ((fv.rc : Nat) : Int) := by omega
  have hjl : j < (pm.pick idle).length := (List.getElem?_eq_some_iff.1 hidx).1
  have hil16 : (pm.pick idle).length ≤ 16 := by
    have q : (pm.pick idle).length ≤ pm.held.length := by unfold PoolM.pick; rw [srtI_len]; unfold numsI; rw [List.length_map]; exact List.length_filter_le _ _
    omega
  have hwr : wrap64 (pick.tmod ((pm.pick idle).length : Nat) + ((pm.pick idle).length : Nat)) = pick.tmod ((pm.pick idle).length : Nat) + ((pm.pick idle).length : Nat) := by
    have a := Int.tmod_lt_of_pos pick (show (0 : Int) < ((pm.pick idle).length : Nat) by omega)
    have b := Int.lt_tmod_of_pos pick (show (0 : Int) < ((pm.pick idle).length : Nat) by omega)
    exact wadd (by omega) (by unfold imax; omega)
  clear hP h hp ht h0 h0l hfv hk hok hpg hwrm hf hn hful hidx hno hlk hck hfit ha hsh hql hm16 e1 e2 hl
  generalize hhl : pm.held.length = hln at *
  generalize hmo : pm.most = mo at *
  clear hhl hmo
  go_enter Tryz.func16, Tryz.ntmps16
  go_wp2_with fail
  refine HT.out.mono ?_
  rintro e w1 ⟨rfl, ho1⟩
  have HO1 := Lib.hid ho1
  have k31 := ho1.cell k3 (by simp)
  have hm1 := HALL.out.2.1.map.off ho1 (by simp)
  have hlk1 := HLK.out w1 hm1
  clear ho1 hm1 HT
  go_wp2_with fail
  refine (HG.out w1 HO1.out).mono ?_
  rintro e w2 ⟨io, ic, rfl, hI2, ho2, hfi⟩
  have HO2 := Lib.hid (HO1.out.trans ho2 (by simp))
  have k22 := HO2.out.cell k2 (by simp)
  have k32 := HO2.out.cell k3 (by simp)
  have k02 := HO2.out.cell c0 (by simp)
  have hln2 : ∀ ty j, (Builtin.len_ #[125] ty #[.map (some mb)]).run Tryz.prog (w2.drewN j) = .ok (.int .i64 (hln : Nat)) (w2.drewN j) := fun ty j => HLN.out _ ty ((HALL.out.2.1.map.off HO2.out (by simp)).off ((Off.refl [] w2).drewN j) (by simp))
  have hln3 : ∀ ty, (Builtin.len_ #[125] ty #[.map (some mb)]).run Tryz.prog w2 = .ok (.int .i64 (hln : Nat)) w2 := fun ty => HLN.out _ ty (HALL.out.2.1.map.off HO2.out (by simp))
  obtain ⟨ib, ioff, rfl, hcell⟩ : ∃ ib ioff, io = some ⟨ib, ioff, none⟩ ∧ w2.cell? ⟨ib, ioff + j, none⟩ = some (.int .i64 (v : Int)) := by
    rcases hI2.2 with ⟨e, h0⟩ | ⟨g1, off1, c1, cur1, e, _⟩
    · omega
    · injection e with e1 _ e3
      subst e1; subst e3
      refine ⟨g1, off1, rfl, ?_⟩
      have q := Own.cellAt hI2 j (by omega)
      rw [q]; unfold intsV; rw [List.getElem?_map, HIDX.out]; rfl
  have hib : w.heap.size ≤ ib := Nat.le_trans HO1.out.size (hfi ib (by simp [blk]))
  have HIB := Lib.hid hib
  have HCE := Lib.hid hcell
  clear hib hcell
  clear hI2 ho2 hfi HG hlk1 k31
  generalize (pm.pick idle).length = il at *
  have hil0 : ((il : Int) == 0) = false := by rw [beq_eq_false_iff_ne]; omega
  go_wp2_with fail
  go_quiet (fail)
  clear hln2 hln3
  go_wp2_with fail
  refine (HRD.out _ (HO2.out.drewN _)).mono ?_
  rintro e w3 ⟨hk3, ⟨hs3, _⟩ | ⟨_, ao, cap, rfl, hb3, hf3⟩⟩
  · rw [HALL.out.2.2.2.2.2.2.2] at hs3; cases hs3
  have hw2 := (HALL.out.1.off (HO2.out.drewN nq) (by simp))
  obtain ⟨hw3, ha3⟩ := hw2.keep hk3
  have hp3 : PoolAt w3 p d g pm mb es clk qs := (HALL.out.2.1.off (HO2.out.drewN nq) (by simp)).off hk3.2 (fun z hz hz' => (hw2.2.2 z hz).1 hz')
  have HW3 := Lib.hid (And.intro hw3 (And.intro ((Acc3.quiet (HO2.out.drewN nq) : Acc3 ⟨D, L, p :: mb :: qs.flatMap (·.2.fp)⟩ w ⟨D, L, p :: mb :: qs.flatMap (·.2.fp)⟩ (w2.drewN nq)).trans ha3) hp3))
  have HT3 : Hid (Tbl t w3) := Lib.hid ((HALL.out.2.2.1.off (HO2.out.drewN nq) (by simp)).off hk3.2 HALL.out.2.2.2.1)
  have HB3 := Lib.hid (And.intro hb3 (fun z hz => Nat.le_trans (HO2.out.drewN nq).size (hf3 z hz)))
  obtain ⟨c03, _, _, k33, _, _⟩ := hp3.cells
  have HS3 := Lib.hid (shape51 hw3.1.1)
  rw [(act_shp dm).1] at HS3
  have hf1 := field28_1
  have HC3 : Hid (w3.cell? ⟨ib, ioff + j, none⟩ = some (.int .i64 (v : Int))) := Lib.hid (hk3.2.cell ((Off.refl [] w2).drewN nq |>.cell HCE.out (by simp)) (fun hz => by have := HALL.out.1.lt ib (by simp [hz]); have := HIB.out; omega))
  clear hk3 hb3 hf3 hw2 hw3 ha3 hp3 HRD k22 k32 k02
  go_wp2_with fail
  refine HS3.out.mono ?_
  rintro e w4 ⟨rfl, ho4⟩
  have HO4 := Lib.hid ho4
  have HC4 := Lib.hid (check64 _ l (n : Int) (dm.shp.slots : Nat) w4 (HT3.out.off ho4 (by simp)) (HB3.out.1.off ho4 (by simp)) (by have := HALL.out.2.2.2.2.2.2.1; omega))
  rw [HALL.out.2.2.2.2.2.1] at HC4
  unfold CheckPost at HC4
  rw [show (some x).getD 0 = x from rfl, show errOf (some x) 40 = 0 from rfl] at HC4
  clear ho4 HS3
  go_wp2_with fail
  refine HC4.out.mono ?_
  rintro e w5 ⟨rfl, ho5⟩
  have HO5 := Lib.hid (HO4.out.trans ho5 (by simp))
  have k35 := HO5.out.cell k33 (by simp)
  have hij : (0 : Int) ≤ (j : Int) := by omega
  have hji : (j : Int) < (il : Int) := by omega
  have hc5 : w5.cell? ⟨ib, ioff + j, none⟩ = some (.int .i64 (v : Int)) := HO5.out.cell HC3.out (by simp)
  have hm5 : IsM w5 mb es clk := HW3.out.2.2.map.off HO5.out (by simp)
  have hlv5 := HLV.out w5 hm5
  have hfr5 : w5.cell? ⟨q.2.fb, 2, none⟩ = some (.int .i64 (fv.rc : Nat)) := by
    have q5 := (HW3.out.2.2.off HO5.out (by simp)).fr q (by rw [HQ.out.1]; simp)
    rw [q5.1.cell]
    show some (Value.int .i64 (q.1.rc : Nat)) = _
    rw [HQ.out.2.2]
  obtain ⟨R, hR⟩ : ∃ R, R = writeM dm.act lm pm fv lsn := ⟨_, rfl⟩
  have HR := Lib.hid hR
  have HW65 : Hid (Calls Tryz.prog 65 #[.pointer (some ⟨p, 0, none⟩), .int .i64 (v : Int), .pointer (some ⟨q.2.fb, 0, none⟩)] w5 (WPost d g p ⟨D, L, p :: mb :: qs.flatMap (·.2.fp)⟩ R w5)) := Lib.hid (by
    have hp5 := HW3.out.2.2.off HO5.out (by simp)
    have hw5 := HW3.out.1.off HO5.out (by simp)
    have r := write65 (A := A) (B := B) (q := q) (mb := mb) (es := es) (clk := clk) (df := D) (lf := L) (HT3.out.off HO5.out (by simp)) (by rw [← HQ.out.1]; exact hw5) ⟨HALL.out.2.2.2.1, HWR.out.2.2.2.2.1⟩ (by rw [← HQ.out.1]; exact hp5) HWR.out.1 HWR.out.2.1 (by rw [HQ.out.2.2]; exact HWR.out.2.2.1)
    rw [← HQ.out.1, HQ.out.2.1, HQ.out.2.2, ← HR.out] at r
    exact r)
  have hR0 : R.2.2.2 = 0 := by rw [hR]; exact HWR.out.2.2.2.1
  have hR1 : R.2.2.1 = pm.set { fv with rc := 0 } := by rw [hR]; exact writeM_pool HWR.out.2.2.2.1
  rw [← HR.out] at HP
  have HRR := Lib.hid (And.intro hR0 hR1)
  have HB5 : Hid (IsB w5 (.slice ao l.length cap) l ∧ ∀ z ∈ blk (.slice ao l.length cap), w.heap.size ≤ z ∧ z < w5.heap.size) := Lib.hid ⟨HB3.out.1.off HO5.out (by simp), fun z hz => ⟨HB3.out.2 z hz, (HB3.out.1.off HO5.out (by simp)).lt z hz⟩⟩
  have HA5 := Lib.hid (HW3.out.2.1.trans (Acc3.quiet HO5.out))
  clear hR hR0 hR1 ho5 HC4 HW3 HB3 HT3
  go_wp2_with fail
  refine HW65.out.mono ?_
  rintro e w6 ⟨rfl, F6, hw6, hA6⟩
  rw [HRR.out.1]
  rw [HRR.out.2] at hw6
  clear HW65
  obtain ⟨D6, L6, pf6⟩ := F6
  obtain ⟨mb6, es6, clk6, qs6, hp6, hpf6⟩ := hw6.2.1
  simp only at hpf6
  subst hpf6
  have hfv6 := set_find (f' := { fv with rc := 0 }) HWR.out.2.2.2.2.2.1 (by have := HQ.out.2.1; rw [HQ.out.2.2] at this; exact this)
  obtain ⟨A6, q6, B6, hqs6, hqn6⟩ : ∃ A q B, qs6 = A ++ q :: B ∧ q.1.num = v := by
    rcases hp6.look v with ⟨e1', _, _⟩ | ⟨A, q, B, hqs, hqn, e1', e2'⟩
    · rw [hfv6] at e1'; cases e1'
    · exact ⟨A, q, B, hqs, hqn⟩
  obtain ⟨es', hde, hds, hdel⟩ := run_delete_st (P := Tryz.prog) (t := 125) (k := 3) (e := 129) (clk := clk6) Tryz.underlying125 Tryz.underlying3 hp6.ent hp6.stamp mb6 (v : Int)
  obtain ⟨_, _, _, k36, _, _⟩ := hp6.cells
  obtain ⟨W7, hW7⟩ : ∃ W7, W7 = setBlock w6 mb6 (.map es' clk6) := ⟨_, rfl⟩
  have hdl6 := fun ty => hdel w6 ty hp6.map
  rw [← hW7] at hdl6
  obtain ⟨h71, h72⟩ : PoolAt W7 p d g ((pm.set { fv with rc := 0 }).del v) mb6 es' clk6 (A6 ++ B6) ∧ Off [mb6] w6 W7 := by
    rw [hW7]
    have hq6 : PoolAt w6 p d g (pm.set { fv with rc := 0 }) mb6 es6 clk6 (A6 ++ q6 :: B6) := by rw [← hqs6]; exact hp6
    have r := hq6.remove (es' := es') (by rw [← hqs6, hqn6]; exact hde) hds
    rw [hqn6] at r; exact r
  have hsub : ∀ z ∈ p :: mb6 :: (A6 ++ B6).flatMap (·.2.fp), z ∈ p :: mb6 :: qs6.flatMap (·.2.fp) := fun z hz => by
    rw [hqs6]
    simp only [List.mem_cons, List.flatMap_append, List.flatMap_cons, List.mem_append] at hz ⊢
    rcases hz with e | e | e | e
    · exact .inl e
    · exact .inr (.inl e)
    · exact .inr (.inr (.inl e))
    · exact .inr (.inr (.inr (.inr e)))
  have hmbd : ∀ z ∈ D6 ++ L6, z ∉ [mb6] := fun z hz hz' => by
    simp at hz'; subst hz'
    have := hw6.2.2 z (by simp)
    rcases List.mem_append.1 hz with e | e
    · exact this.1 e
    · exact this.2 e
  have hw7 : Whole W7 d g p R.1 R.2.1 ((pm.set { fv with rc := 0 }).del v) ⟨D6, L6, p :: mb6 :: (A6 ++ B6).flatMap (·.2.fp)⟩ := ⟨hw6.1.off h72 (fun z hz => hmbd z (by simp [hz])) (fun z hz => hmbd z (by simp [hz])), ⟨mb6, es', clk6, A6 ++ B6, h71, rfl⟩, fun z hz => hw6.2.2 z (hsub z hz)⟩
  have ha7 : Acc3 ⟨D, L, p :: mb :: qs.flatMap (·.2.fp)⟩ w ⟨D6, L6, p :: mb6 :: qs6.flatMap (·.2.fp)⟩ W7 := (HA5.out.trans hA6).trans ⟨h72.mono (fun z hz => .inl (by simp at hz; simp [hz])), fun z hz => .inl hz, fun z hz => .inl hz, fun z hz => .inl hz⟩
  obtain ⟨fu6, hfa, hfb⟩ := run_update_sta (P := Tryz.prog) (t := 125) (k := 3) (e := 129) (clk := clk6) Tryz.underlying125 Tryz.underlying3 h71.ent h71.stamp mb6 (n : Int)
  obtain ⟨_, _, _, k37, _, _⟩ := h71.cells
  have hbz : ∀ z ∈ blk (.slice ao l.length cap), z ∉ D6 ∧ z ∉ L6 ∧ z ∉ p :: mb6 :: qs6.flatMap (·.2.fp) := fun z hz => by
    have a := HB5.out.2 z hz
    have b := HALL.out.1.lt
    refine ⟨fun hz' => ?_, fun hz' => ?_, fun hz' => ?_⟩
    · rcases hA6.2.1 z hz' with e | e
      · have := b z (by simp only [List.mem_append]; exact .inl (.inl e)); omega
      · omega
    · rcases hA6.2.2.1 z hz' with e | e
      · have := b z (by simp only [List.mem_append]; exact .inl (.inr e)); omega
      · omega
    · rcases hA6.2.2.2 z hz' with e | e
      · have := b z (by simp only [List.mem_append]; exact .inr e); omega
      · omega
  have hb7 := (HB5.out.1.off hA6.1 (fun z hz hz' => by
    have a := HB5.out.2 z hz
    have b := HALL.out.1.lt z hz'
    omega)).off h72 (fun z hz hz' => by
    simp at hz'; subst hz'
    exact (hbz z hz).2.2 (by simp))
  have hno7 : ∀ x ∈ A6 ++ B6, x.1.num ≠ n := fun x hx e => by
    have hx6 : x ∈ qs6 := by rw [hqs6]; simp only [List.mem_append, List.mem_cons] at hx ⊢; rcases hx with e | e; exact .inl e; exact .inr (.inr e)
    have hm : x.1 ∈ (pm.set { fv with rc := 0 }).held := by rw [← hp6.held]; exact List.mem_map.2 ⟨x, hx6, rfl⟩
    obtain ⟨y, hy, hy2⟩ := List.mem_map.1 hm
    have hyn : y.num = n := by
      rw [← e, ← hy2]
      split
      · rename_i h; exact h
      · rfl
    rw [← HALL.out.2.1.held] at hy
    obtain ⟨z, hz, rfl⟩ := List.mem_map.1 hy
    exact HALL.out.2.2.2.2.1 z hz hyn
  have hmu := hfb (.pointer (some ⟨W7.heap.size, 0, none⟩)) (W7.alloc (.cells (frC ⟨n, l, 1, 0⟩ (.slice ao l.length cap)) 131)) (IsM.alloc _ h71.map)
  have HEND := Lib.hid (pin_last (w := w) (F0 := ⟨D, L, p :: mb :: qs.flatMap (·.2.fp)⟩) hw7 ha7 hsub h71 (n := n) (l := l) (bv := .slice ao l.length cap) hno7 (hfa _).1 (hfa _).2 hb7 (fun z hz => ⟨(HB5.out.2 z hz).1, (hbz z hz).1, (hbz z hz).2.1, fun hz' => (hbz z hz).2.2 (hsub z hz')⟩) (by have := HALL.out.2.2.2.2.2.2.1; omega))
  rw [← HP.out] at HEND
  have eC : frC ⟨n, l, 1, 0⟩ (.slice ao l.length cap) = #[.slice ao l.length cap, .int .i64 1, .int .i64 0] := rfl
  rw [eC] at hmu HEND
  clear eC hfa hfb hb7 hno7 hw7 ha7 hmbd hsub h71 h72 hW7 hbz hfv6 hqs6 hqn6 hde hds hdel hp6 hw6 hA6
  clear HALL HP HWR HA5 HB5 HRR HR
  have HC := Lib.hid HEND.out.1
  have HE := Lib.hid HEND.out.2
  clear HEND
  go_wp2_with fail
  refine HC.out.mono ?_
  rintro e w8 ⟨bo, bc, rfl, z1, z2, z3⟩
  have HF := Lib.hid (HE.out w8 bo bc z1 z2 z3)
  clear z1 z2 z3 HC HE
  go_wp2_with fail
  first | exact HF.out | (go_ret2; exact HF.out)
end Go.Proofs.YtfdgiblkllfpjaaGreatDoor
