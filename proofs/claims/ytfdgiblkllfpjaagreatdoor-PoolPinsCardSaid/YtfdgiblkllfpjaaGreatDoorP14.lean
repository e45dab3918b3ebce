/- PoolKeeps: what its walk keeps. -/
import Derived.Test.YtfdgiblkllfpjaaGreatDoorP13
set_option linter.unusedVariables false
set_option linter.unusedSimpArgs false
namespace Go.Proofs.YtfdgiblkllfpjaaGreatDoor
open Go.ChangeShapes Go.WideShapes Go.ChangeAt Go.RowKit

/-- Bytes that lie beside the whole, in blocks that are newer than w. -/
def Kept (w W : World) (F : Fp3) (v : Value) (l : List UInt8) : Prop := IsB W v l ∧ ∀ z ∈ blk v, w.heap.size ≤ z ∧ z ∉ F.d ++ F.l ++ F.p
section
variable {w W W1 : World} {F F1 : Fp3} {v : Value} {l : List UInt8}
theorem Kept.quiet (h : Kept w W F v l) (ho : Off [] W W1) : Kept w W1 F v l := ⟨h.1.off ho (by simp), h.2⟩
theorem Kept.step (h : Kept w W F v l) (hA : Acc3 F W F1 W1) : Kept w W1 F1 v l := by
  refine ⟨h.1.off hA.1 (fun z hz => (h.2 z hz).2), fun z hz => ⟨(h.2 z hz).1, fun hz' => ?_⟩⟩
  have hlt := h.1.lt z hz
  have hn := (h.2 z hz).2
  simp only [List.mem_append, not_or] at hn hz'
  rcases hz' with (q | q) | q
  · rcases hA.2.1 z q with e | e
    · exact hn.1.1 e
    · omega
  · rcases hA.2.2.1 z q with e | e
    · exact hn.1.2 e
    · omega
  · rcases hA.2.2.2 z q with e | e
    · exact hn.2 e
    · omega
theorem Kept.write {S : List Nat} (h : Kept w W F v l) (ho : Off S W W1) (hS : ∀ z ∈ blk v, z ∉ S) : Kept w W1 F v l := ⟨h.1.off ho hS, h.2⟩
/-- What a call has made anew lies beside. -/
theorem Kept.new {dm : DiskM} {lm : LogM} {pm : PoolM} {d g p : Nat} (hs : Since w d g p dm lm pm F W) (hb : IsB W1 v l) (hn : ∀ z ∈ blk v, W.heap.size ≤ z) : Kept w W1 F v l :=
  ⟨hb, fun z hz => ⟨Nat.le_trans hs.2.2.size (hn z hz), fun hz' => by have := hs.1.lt z hz'; have := hn z hz; omega⟩⟩
theorem Since.quiet {dm : DiskM} {lm : LogM} {pm : PoolM} {d g p : Nat} (hs : Since w d g p dm lm pm F W) (ho : Off [] W W1) : Since w d g p dm lm pm F W1 := hs.step (hs.1.off ho (by simp)) (Acc3.quiet ho)
end
theorem look_since {w W : World} {d g p : Nat} {dm : DiskM} {lm : LogM} {pm : PoolM} {F : Fp3} (hs : Since w d g p dm lm pm F W) {n : Nat} {f : Fr} (hf : pm.find n = some f) (hsm : ∀ f ∈ pm.held, f.b.length < 1000000) :
    Calls Tryz.prog 20 #[.pointer (some ⟨p, 0, none⟩), .int .i64 (n : Int)] W (LookPost (some f.b) W) := by
  obtain ⟨mb, es, clk, qs, hp, _⟩ := hs.1.2.1
  have q := look20 hp n hsm
  rw [hf] at q; exact q
/-- Four answers, each in memory of its own. -/
structure Four (w W : World) (F : Fp3) (B : List Nat) (vs : List Value) (gs : List (List UInt8)) : Prop where
  len : vs.length = 4
  items : Items W vs gs
  nodup : (vs.flatMap blk).Nodup
  apart : ∀ z ∈ vs.flatMap blk, w.heap.size ≤ z ∧ z ∉ F.d ++ F.l ++ F.p ∧ z ∉ B
theorem Four.off {w W W1 : World} {F : Fp3} {B : List Nat} {vs : List Value} {gs : List (List UInt8)} {S : List Nat} (h : Four w W F B vs gs) (ho : Off S W W1) (hS : ∀ z ∈ vs.flatMap blk, z ∉ S) : Four w W1 F B vs gs := ⟨h.len, h.items.off ho hS, h.nodup, h.apart⟩
theorem Four.at {w W : World} {F : Fp3} {B : List Nat} {vs : List Value} {gs : List (List UInt8)} (h : Four w W F B vs gs) (hg : ∀ l ∈ gs, l.length = 40) {k : Nat} {l : List UInt8} (hk : gs[k]? = some l) : ∃ xb xoff xc, vs[k]? = some (.slice (some ⟨xb, xoff, none⟩) 40 xc) ∧ IsB W (.slice (some ⟨xb, xoff, none⟩) 40 xc) l := by
  obtain ⟨x, hx, hb⟩ := h.items.2 k l hk
  have hl := hg l (List.mem_of_getElem? hk)
  obtain ⟨ao, c, rfl⟩ := hb.val
  obtain ⟨g, off, rfl⟩ := hb.base (by omega)
  rw [hl] at hx hb
  exact ⟨g, off, c, hx, hb⟩
/-- One byte of one of them written over. -/
theorem Four.put {w W : World} {F : Fp3} {B : List Nat} {vs : List Value} {gs : List (List UInt8)} (h : Four w W F B vs gs) {k xb xoff xc : Nat} {l : List UInt8} (hv : vs[k]? = some (.slice (some ⟨xb, xoff, none⟩) 40 xc)) (hk : gs[k]? = some l) (n : Nat) (y : UInt8) :
    Four w (W.setCell ⟨xb, xoff + n, none⟩ (bv y)) F B vs (gs.set k (l.set n y)) ∧ xb ∈ vs.flatMap blk := by
  have hin : xb ∈ vs.flatMap blk := List.mem_flatMap.2 ⟨_, List.mem_of_getElem? hv, by simp [blk]⟩
  have hlt := (List.getElem?_eq_some_iff.1 hk).1
  have ho : Off [xb] W (W.setCell ⟨xb, xoff + n, none⟩ (bv y)) := (Off.refl [xb] W).setCell (.inl (by simp)) _
  refine ⟨⟨h.len, ⟨by rw [List.length_set]; exact h.items.1, fun i l' hi => ?_⟩, h.nodup, h.apart⟩, hin⟩
  by_cases e : i = k
  · subst e
    rw [List.getElem?_set_self hlt] at hi
    injection hi with hi
    obtain ⟨x, hx, hb⟩ := h.items.2 i l hk
    rw [hv] at hx
    injection hx with hx
    subst hx
    exact ⟨_, hv, by rw [← hi]; exact hb.put n y⟩
  · rw [List.getElem?_set_ne (Ne.symm e)] at hi
    obtain ⟨x, hx, hb⟩ := h.items.2 i l' hi
    refine ⟨x, hx, hb.off ho (fun z hz hz' => ?_)⟩
    simp at hz'; subst hz'
    exact flat_apart h.nodup hv hx e z hz (by simp [blk])
def markB (n k : Nat) : List UInt8 := List.replicate n (UInt8.ofNat (k + 1))
def mk4 (S : List UInt8) (k : Nat) : List (List UInt8) := [if 0 < k then markB 40 0 else S, if 1 < k then markB 40 1 else S, if 2 < k then markB 40 2 else S, if 3 < k then markB 40 3 else S]
theorem mk4_same (S : List UInt8) {k : Nat} (hk : k < 4) : (mk4 S k).set k (markB 0 k ++ S.drop 0) = mk4 S k := by
  match k, hk with
  | 0, _ => rfl
  | 1, _ => rfl
  | 2, _ => rfl
  | 3, _ => rfl
theorem mk4_len {S : List UInt8} (hS : S.length = 40) (k : Nat) : ∀ l ∈ mk4 S k, l.length = 40 := by
  intro l hl
  unfold mk4 markB at hl
  simp only [List.mem_cons, List.not_mem_nil, or_false] at hl
  rcases hl with rfl | rfl | rfl | rfl <;> (split <;> simp [hS])
theorem mk4_at (S : List UInt8) {k : Nat} (hk : k < 4) : (mk4 S k)[k]? = some S := by
  match k, hk with
  | 0, _ => rfl
  | 1, _ => rfl
  | 2, _ => rfl
  | 3, _ => rfl
theorem mk4_set (S : List UInt8) {k : Nat} (hk : k < 4) : (mk4 S k).set k (markB 40 k) = mk4 S (k + 1) := by
  match k, hk with
  | 0, _ => rfl
  | 1, _ => rfl
  | 2, _ => rfl
  | 3, _ => rfl
theorem mark_step {S : List UInt8} (hS : S.length = 40) (k : Nat) {n : Nat} (hn : n < 40) : (markB n k ++ S.drop n).set n (UInt8.ofNat (k + 1)) = markB (n + 1) k ++ S.drop (n + 1) := by
  have h1 : (markB n k).length = n := by unfold markB; simp
  rw [List.set_append_right _ _ (by omega), h1, Nat.sub_self, ← List.getElem_cons_drop (show n < S.length by omega), List.set_cons_zero]
  unfold markB
  rw [List.replicate_succ', List.append_assoc]; rfl
theorem mark_val {k : Nat} (hk : k < 4) : bv (UInt8.ofNat (k + 1)) = .int .u8 ((k : Int) + 1) := by
  rw [bv_ofNat]; congr 1; omega
theorem four_of {w W : World} {F : Fp3} {B : List Nat} {a b c d : Value} {l : List UInt8} (ha : Kept w W F a l) (hb : Kept w W F b l) (hc : Kept w W F c l) (hd : Kept w W F d l) (h1 : ∀ z ∈ blk a, z ∉ B) (h2 : ∀ z ∈ blk b, z ∉ B ++ blk a) (h3 : ∀ z ∈ blk c, z ∉ B ++ blk a ++ blk b) (h4 : ∀ z ∈ blk d, z ∉ B ++ blk a ++ blk b ++ blk c) :
    Four w W F B [a, b, c, d] [l, l, l, l] := by
  simp only [List.mem_append, not_or] at h2 h3 h4
  refine ⟨rfl, ⟨rfl, fun i l' hi => ?_⟩, ?_, fun z hz => ?_⟩
  · match i with
    | 0 => simp at hi; subst hi; exact ⟨a, rfl, ha.1⟩
    | 1 => simp at hi; subst hi; exact ⟨b, rfl, hb.1⟩
    | 2 => simp at hi; subst hi; exact ⟨c, rfl, hc.1⟩
    | 3 => simp at hi; subst hi; exact ⟨d, rfl, hd.1⟩
    | (n + 4) => simp at hi
  · simp only [List.flatMap_cons, List.flatMap_nil, List.append_nil]
    refine List.nodup_append.2 ⟨blk_nodup' _, List.nodup_append.2 ⟨blk_nodup' _, List.nodup_append.2 ⟨blk_nodup' _, blk_nodup' _, fun x hx y hy e => (h4 y hy).2 (e ▸ hx)⟩, fun x hx y hy e => ?_⟩, fun x hx y hy e => ?_⟩
    · subst e
      rcases List.mem_append.1 hy with q | q
      · exact (h3 x q).2 hx
      · exact (h4 x q).1.2 hx
    · subst e
      simp only [List.mem_append] at hy
      rcases hy with q | q | q
      · exact (h2 x q).2 hx
      · exact (h3 x q).1.2 hx
      · exact (h4 x q).1.1.2 hx
  · simp only [List.flatMap_cons, List.flatMap_nil, List.append_nil, List.mem_append] at hz
    rcases hz with q | q | q | q
    · exact ⟨(ha.2 z q).1, (ha.2 z q).2, h1 z q⟩
    · exact ⟨(hb.2 z q).1, (hb.2 z q).2, (h2 z q).1⟩
    · exact ⟨(hc.2 z q).1, (hc.2 z q).2, (h3 z q).1.1⟩
    · exact ⟨(hd.2 z q).1, (hd.2 z q).2, (h4 z q).1.1.1⟩
def sh2 : Shp := ⟨2, 1, 1024⟩
theorem new8_sh2 (w : World) : Calls Tryz.prog 8 #[.agg #[.int .i64 2, .int .i64 1, .int .i64 1024]] w (NewPost sh2 w) := new8 sh2 (by unfold Shp.ok sh2; decide) w
def dmK : DiskM := (newDisk sh2).act.act
def lmK (t : Nat → Nat) : LogM := (newLog 0).begin t 9
def pgK (t : Nat → Nat) (f : List UInt8) : List UInt8 := stampB t f 1 1
def pmK (t : Nat → Nat) (f : List UInt8) (pins : Nat) : PoolM := { most := 2, held := [{ num := 1, b := pgK t f, pins := pins, rc := 1 }], dead := false }
theorem pgK_len {t : Nat → Nat} {f : List UInt8} (hf : f.length = 40) : (pgK t f).length = 40 := by unfold pgK; rw [stampB_len _ _ _ _ (by omega), hf]
theorem Four.grow {w W W1 : World} {F : Fp3} {B : List Nat} {vs : List Value} {gs : List (List UInt8)} (h : Four w W F B vs gs) {k : Nat} {v : Value} {l : List UInt8} (hv : vs[k]? = some v) (hk : gs[k]? = some l) (hb : IsB W1 v l) (ho : Off (blk v) W W1) : Four w W1 F B vs gs := by
  refine ⟨h.len, ⟨h.items.1, fun i l' hi => ?_⟩, h.nodup, h.apart⟩
  obtain ⟨x, hx, hbx⟩ := h.items.2 i l' hi
  by_cases e : i = k
  · subst e
    rw [hk] at hi
    injection hi with hi
    subst hi
    exact ⟨v, hv, hb⟩
  · exact ⟨x, hx, hbx.off ho (fun z hz hz' => flat_apart h.nodup hv hx e z hz hz')⟩
theorem mk4_end (S : List UInt8) {k : Nat} (hk : k < 4) : (mk4 S 4)[k]? = some (markB 40 k) := by
  match k, hk with
  | 0, _ => rfl
  | 1, _ => rfl
  | 2, _ => rfl
  | 3, _ => rfl
theorem markB_add (a b k : Nat) : markB a k ++ List.replicate b (UInt8.ofNat (k + 1)) = markB (a + b) k := by
  unfold markB; rw [List.replicate_append_replicate]
theorem markB_all (n k : Nat) : ∀ b ∈ markB n k, b = UInt8.ofNat (k + 1) := fun b hb => (List.mem_replicate.1 hb).2
theorem markB_len (n k : Nat) : (markB n k).length = n := by unfold markB; rw [List.length_replicate]
/-- The longer answers so far. -/
def MoreAt (w5 : World) (vs : List Value) (mv : Value) (ms : List Value) (wr : World) : Prop :=
  Own wr 22 1 mv ms.length ms ∧ (∀ z ∈ blk mv, w5.heap.size ≤ z) ∧ ∀ j x, ms[j]? = some x → IsB wr x (markB 120 j) ∧ (∀ z ∈ blk x, z ∉ blk mv) ∧ ∀ z ∈ blk x, (∃ v, vs[j]? = some v ∧ z ∈ blk v) ∨ w5.heap.size ≤ z
theorem MoreAt.nil (w5 : World) (vs : List Value) : MoreAt w5 vs (.slice none 0 0) [] w5 := ⟨Own.nil _ _ _, by simp [blk], fun j x h => by simp at h⟩
theorem MoreAt.step {w5 wr w1 w3 : World} {vs ms : List Value} {mv mv' v x : Value} (h : MoreAt w5 vs mv ms wr) (hnd : (vs.flatMap blk).Nodup) (hlt : ∀ z ∈ vs.flatMap blk, z < w5.heap.size) (h5 : w5.heap.size ≤ wr.heap.size) (hv : vs[ms.length]? = some v) (ho : Off (blk v) wr w1) (hx : IsB w1 x (markB 120 ms.length)) (hxn : ∀ z ∈ blk x, z ∈ blk v ∨ wr.heap.size ≤ z) (o3 : Off (blk mv) (w1.alloc (.cells #[x] 22)) w3) (hown : Own w3 22 1 mv' (ms.length + 1) (ms ++ [x])) (hbl : blk mv' = blk mv ∨ blk mv' = [w1.heap.size + 1]) :
    MoreAt w5 vs mv' (ms ++ [x]) w3 ∧ Off (blk mv) w1 w3 := by
  have o13 : Off (blk mv) w1 w3 := ((Off.refl (blk mv) w1).alloc _).trans o3 (fun z hz => .inl hz)
  have hmlt := h.1.lt
  have hs1 := ho.size
  have hvin : ∀ z ∈ blk v, z < w5.heap.size := fun z hz => hlt z (List.mem_flatMap.2 ⟨v, List.mem_of_getElem? hv, hz⟩)
  have hsz : (w1.alloc (.cells #[x] 22)).heap.size = w1.heap.size + 1 := World.size_alloc _ _
  have hnew : ∀ z ∈ blk mv', z ∈ blk mv ∨ z = w1.heap.size + 1 := fun z hz => by
    rcases hbl with e | e
    · rw [e] at hz; exact .inl hz
    · rw [e] at hz; simp at hz; exact .inr hz
  refine ⟨⟨by rw [List.length_append]; exact hown, fun z hz => ?_, fun j y hj => ?_⟩, o13⟩
  · rcases hnew z hz with q | q
    · exact h.2.1 z q
    · omega
  · by_cases e : j < ms.length
    · rw [List.getElem?_append_left e] at hj
      obtain ⟨a1, a2, a3⟩ := h.2.2 j y hj
      have hlt' := a1.lt
      refine ⟨(a1.off ho (fun z hz hz' => ?_)).off o13 a2, fun z hz hz' => ?_, a3⟩
      · rcases a3 z hz with ⟨v', q1, q2⟩ | q
        · exact flat_apart hnd hv q1 (by omega) z q2 hz'
        · have := hvin z hz'; omega
      · rcases hnew z hz' with q | q
        · exact a2 z hz q
        · have := hlt' z hz; omega
    · have e2 : j = ms.length := by
        have := (List.getElem?_eq_some_iff.1 hj).1
        rw [List.length_append] at this; simp at this; omega
      subst e2
      rw [List.getElem?_append_right (by omega), Nat.sub_self] at hj
      simp at hj; subst hj
      have hxm : ∀ z ∈ blk x, z ∉ blk mv := fun z hz hz' => by
        have := hmlt z hz'
        have h2 := h.2.1 z hz'
        rcases hxn z hz with q | q
        · have := hvin z q; omega
        · omega
      refine ⟨hx.off o13 hxm, fun z hz hz' => ?_, fun z hz => ?_⟩
      · rcases hnew z hz' with q | q
        · exact hxm z hz q
        · have := hx.lt z hz; omega
      · rcases hxn z hz with q | q
        · exact .inl ⟨v, hv, q⟩
        · exact .inr (by omega)
/-- The four answers and the longer ones. -/
def Grow4 (w w5 : World) (F : Fp3) (B : List Nat) (vs : List Value) (S : List UInt8) (k : Nat) (mv : Value) (wr : World) : Prop :=
  ∃ ms, ms.length = k ∧ Four w wr F B vs (mk4 S 4) ∧ MoreAt w5 vs mv ms wr ∧ Off (vs.flatMap blk) w5 wr
theorem Grow4.step {w w5 wr w1 : World} {F : Fp3} {B : List Nat} {vs ms : List Value} {S : List UInt8} {mv : Value} {k xb xoff xcc : Nat} {co : Option Addr} {cc : Nat} (hms : ms.length = k) (hF : Four w wr F B vs (mk4 S 4)) (hM : MoreAt w5 vs mv ms wr) (hO : Off (vs.flatMap blk) w5 wr) (hlt : ∀ z ∈ vs.flatMap blk, z < w5.heap.size) (hk : k < 4) (hv : vs[k]? = some (.slice (some ⟨xb, xoff, none⟩) 40 xcc))
    (h1 : IsB w1 (.slice co 120 cc) (markB 40 k ++ List.replicate 80 (UInt8.ofNat (k + 1)))) (h2 : IsB w1 (.slice (some ⟨xb, xoff, none⟩) 40 xcc) (markB 40 k)) (h3 : Off (blk (.slice (some ⟨xb, xoff, none⟩) 40 xcc)) wr w1) (h4 : ∀ z ∈ blk (.slice co 120 cc), z ∈ blk (.slice (some ⟨xb, xoff, none⟩) 40 xcc) ∨ wr.heap.size ≤ z) :
    Own w1 22 1 mv k ms ∧ ∀ ao cap w3, Own w3 22 1 (.slice ao (k + 1) cap) (k + 1) (ms ++ [.slice co 120 cc]) → Off (blk mv) (w1.alloc (.cells #[.slice co 120 cc] 22)) w3 → (blk (.slice ao (k + 1) cap) = blk mv ∨ blk (.slice ao (k + 1) cap) = [w1.heap.size + 1]) →
      Grow4 w w5 F B vs S (k + 1) (.slice ao (k + 1) cap) w3 := by
  subst hms
  have hvin : ∀ z ∈ blk (.slice (some ⟨xb, xoff, none⟩) 40 xcc), z ∈ vs.flatMap blk := fun z hz => List.mem_flatMap.2 ⟨_, List.mem_of_getElem? hv, hz⟩
  rw [markB_add] at h1
  refine ⟨hM.1.off h3 (fun z hz hz' => by have := hM.2.1 z hz; have := hlt z (hvin z hz'); omega), fun ao cap w3 q1 q2 q3 => ?_⟩
  obtain ⟨r1, r2⟩ := hM.step hF.nodup hlt hO.size hv h3 h1 h4 q2 q1 q3
  refine ⟨_, by rw [List.length_append]; rfl, ?_, r1, ?_⟩
  · exact (hF.grow hv (mk4_end S hk) h2 h3).off r2 (fun z hz hz' => by have := hM.2.1 z hz'; have := hlt z hz; omega)
  · exact (hO.trans h3 (fun z hz => .inl (hvin z hz))).trans r2 (fun z hz => .inr (hM.2.1 z hz))
theorem MoreAt.all {w5 wr : World} {vs ms : List Value} {mv : Value} (h : MoreAt w5 vs mv ms wr) (hms : ms.length = 4) : ∃ pb poff cap, mv = .slice (some ⟨pb, poff, none⟩) 4 cap ∧ ∀ j, j < 4 → ∃ x xn xc, wr.cell? ⟨pb, poff + j, none⟩ = some (.slice x xn xc) ∧ IsB wr (.slice x xn xc) (markB 120 j) := by
  have h1 := h.1
  rw [hms] at h1
  rcases h1.2 with ⟨_, h0⟩ | ⟨pb, poff, c, cur, e, _⟩
  · omega
  · subst e
    refine ⟨pb, poff, c, rfl, fun j hj => ?_⟩
    obtain ⟨x, hx⟩ : ∃ x, ms[j]? = some x := ⟨_, List.getElem?_eq_getElem (by omega)⟩
    have q := h1.cellAt j (by omega)
    have hb := (h.2.2 j x hx).1
    obtain ⟨ao, ac, rfl⟩ := hb.val
    exact ⟨ao, _, ac, by rw [q, hx], hb⟩
/-- Full of one mark. -/
theorem full_mark {w : World} {v : Value} {n k : Nat} (h : IsB w v (markB n k)) (hn : n < 1000000) (hk : k < 4) : Calls Tryz.prog 22 #[v, .int .u8 ((k : Int) + 1)] w fun e w' => e = .returned (.bool true) ∧ w = w' := by
  have q := full22 h (by rw [markB_len]; exact hn) (UInt8.ofNat (k + 1)) (markB_all n k)
  have e : Value.int .u8 (((UInt8.ofNat (k + 1)).toNat : Nat) : Int) = .int .u8 ((k : Int) + 1) := mark_val hk
  rw [e] at q; exact q
theorem grown_mark {w : World} {ao : Option Addr} {cap k : Nat} (h : IsB w (.slice ao 40 cap) (markB 40 k)) (hk : k < 4) : Calls Tryz.prog 21 #[.slice ao 40 cap, .int .u8 ((k : Int) + 1)] w fun e w' => ∃ co cc, e = .returned (.slice co 120 cc) ∧ IsB w' (.slice co 120 cc) (markB 40 k ++ List.replicate 80 (UInt8.ofNat (k + 1))) ∧ IsB w' (.slice ao 40 cap) (markB 40 k) ∧ Off (blk (.slice ao 40 cap)) w w' ∧ (∀ z ∈ blk (.slice co 120 cc), z ∈ blk (.slice ao 40 cap) ∨ w.heap.size ≤ z) := by
  have q := grown21 h (by omega) (UInt8.ofNat (k + 1))
  have e : Value.int .u8 (((UInt8.ofNat (k + 1)).toNat : Nat) : Int) = .int .u8 ((k : Int) + 1) := mark_val hk
  rw [e] at q; exact q
theorem dmK_live : dmK.live ∧ dmK.acts = 2 := by
  have h0 : (newDisk sh2).live := ⟨rfl, rfl⟩
  exact ⟨h0.act.1.act.1, rfl⟩
theorem dmK_fit : dmK.fit := DiskM.act_fit (DiskM.act_fit (newDisk_fit sh2))
theorem lmK_is (t : Nat → Nat) : (lmK t).base = 0 ∧ (lmK t).disk = 0 ∧ (lmK t).bytes = 34 ∧ (lmK t).tail.length = 34 ∧ (lmK t).dead = false := by
  have hl : (frameB t (newLog 0).fin (beginB 9)).length = 34 := by rw [frameB_len, beginB_len]
  refine ⟨rfl, rfl, ?_, ?_, rfl⟩
  · show 0 + (frameB t (newLog 0).fin (beginB 9)).length = 34; rw [hl]
  · show ([] ++ frameB t (newLog 0).fin (beginB 9)).length = 34; rw [List.nil_append, hl]
theorem deskK (t : Nat → Nat) : DeskOk dmK (lmK t) 100 := by
  obtain ⟨h1, h2, h3, h4, h5⟩ := lmK_is t
  exact ⟨dmK_fit, fun x hx => by simp [dmK, DiskM.act, DiskM.stops, newDisk] at hx, by rw [dmK_live.2]; omega, by simp [dmK, DiskM.act, DiskM.stops, newDisk], by rw [h2]; rfl, by rw [h3]; decide, h5⟩
theorem pgK_lsn (t : Nat → Nat) {f : List UInt8} (hf : f.length = 40) : pageLsn (pgK t f) = some 1 := pageLsn_stamp (by rw [hf, slots40]; omega) (by omega)
theorem pgK_check {t : Nat → Nat} {w : World} (ht : Tbl t w) {f : List UInt8} (hf : f.length = 40) : pageCheck t (pgK t f) 1 1 = some 1 :=
  check_stamp ht (by rw [hf, slots40]; omega) (by omega) (by omega) (by rw [hf]; rfl)
theorem poolK {t : Nat → Nat} {w : World} (ht : Tbl t w) {f : List UInt8} (hf : f.length = 40) (k : Nat) : PoolOk t dmK.shp (pmK t f k) := by
  intro x hx
  simp [pmK] at hx; subst hx
  refine ⟨by show 1 < 2; omega, by rw [pgK_len hf]; rfl, 1, ?_, pgK_lsn t hf, by omega, fun _ => by omega⟩
  simp only [pgK_len hf, slots40]
  exact pgK_check ht hf
/-- What PoolKeeps comes to. -/
theorem keepsEnd (t : Nat → Nat) {f : List UInt8} (hf : f.length = 40) : ∃ dmf lmf pmf, cleanM dmK (lmK t) (pmK t f 3) 1 = (dmf, lmf, pmf, 0) ∧ dmf.stops = false ∧ dmf.acts = 8 ∧ dmf.reads[1]? = some (pgK t f) ∧ dmf.shp = sh2 := by
  obtain ⟨h1, h2, h3, h4, h5⟩ := lmK_is t
  have hz : (lmK t).bytes = (lmK t).disk + (lmK t).tail.length := by omega
  have hc := cleanM_live (t := t) dmK_live.1 (lm := lmK t) (pm := pmK t f 3) (n := 1) (f := ⟨1, pgK t f, 3, 1⟩) rfl (by show 0 < 1; omega)
  have hx : (pageLsn (pgK t f)).getD 0 = 1 := by rw [pgK_lsn t hf]; rfl
  simp only [hx] at hc
  have hne : ¬ (1 ≤ (lmK t).base + (lmK t).disk ∨ (lmK t).tail = []) := by
    rintro (q | q)
    · omega
    · rw [q] at h4; simp at h4
  have hf' := dmK_live.1.flush (lm := lmK t) 1
  rw [if_neg hne, if_neg hne] at hf'
  have hok := flushM_ok (deskK t) hz hf'.1
  have hg := flushM_grounds (deskK t) hz 1
  have hs := flushM_shp (deskK t) hz 1
  have hp := hf'.2.1.pair 1 (pgK t f) (pairB 1 1 (pgK t f))
  have hpo := (pairS_ok hok.1 hok.2.1 (n := 1) (by rw [hs]; decide) (b := pgK t f) (pb := pairB 1 1 (pgK t f)) (by rw [hs, pgK_len hf]; rfl) (by rw [pairB_len, hs, pgK_len hf]; rfl)).2.2.2.2
  have hlo : (flushM dmK (lmK t) 1).1.loose = [] := hg.2.2
  have hpg := pairS_grounds hok.1 hlo (n := 1) (by rw [hs]; decide) (b := pgK t f) (pb := pairB 1 1 (pgK t f)) (by rw [hs, pgK_len hf]; rfl) (by rw [pairB_len, hs, pgK_len hf]; rfl) 1 (by rw [hs]; decide)
  refine ⟨_, _, _, hc, hp.2.1.stops, ?_, ?_, hpo.1.trans hs⟩
  · rw [hp.2.2, hf'.2.2.1, dmK_live.2]
  · rw [hpg.2, if_pos rfl]
end Go.Proofs.YtfdgiblkllfpjaaGreatDoor

/- PoolPins: the pool as its law plays with it: pages of zeros alone, each frame clean, pinned so often. -/
set_option linter.unusedVariables false
set_option linter.unusedSimpArgs false
namespace Go.Proofs.YtfdgiblkllfpjaaGreatDoor
open Go.ChangeShapes Go.WideShapes Go.ChangeAt Go.RowKit

theorem sub_len {α : Type} [DecidableEq α] : ∀ {L M : List α}, L.Nodup → (∀ x ∈ L, x ∈ M) → L.length ≤ M.length
  | [], _, _, _ => Nat.zero_le _
  | a :: L, M, h, hs => by
    obtain ⟨h1, h2⟩ := List.nodup_cons.1 h
    have hm : a ∈ M := hs a (by simp)
    have q := sub_len (L := L) (M := M.erase a) h2 (fun x hx => (List.mem_erase_of_ne (fun e => h1 (by rw [← e]; exact hx))).2 (hs x (List.mem_cons_of_mem _ hx)))
    rw [List.length_erase_of_mem hm] at q
    have := List.length_pos_of_mem hm
    simp only [List.length_cons]; omega
structure PinsI (c : Nat → Nat) (A m : Nat) (dm : DiskM) (pm : PoolM) : Prop where
  live : dm.live
  fit : dm.fit
  shp : dm.shp = ⟨m + 1, 1, 1024⟩
  reads : ∀ n, n < m + 1 → dm.reads[n]? = some zA
  acts : dm.acts ≤ A
  most : pm.most = m
  dead : pm.dead = false
  len : pm.held.length ≤ m
  nod : (pm.held.map (·.num)).Nodup
  fr : ∀ f ∈ pm.held, f.b = zA ∧ f.rc = 0 ∧ f.num < m + 1 ∧ f.pins = c f.num
  pin : ∀ n, n < m + 1 → 0 < c n → ∃ f ∈ pm.held, f.num = n
def bump (c : Nat → Nat) (a n : Nat) : Nat := if n = a then c n + 1 else c n
def drop1 (c : Nat → Nat) (a n : Nat) : Nat := if n = a then c n - 1 else c n
theorem zA_40 : zA.length = 40 := by unfold zA; rw [List.length_replicate]
theorem pfind_some {pm : PoolM} {n : Nat} {f : Fr} (h : pm.find n = some f) : f ∈ pm.held ∧ f.num = n := by
  unfold PoolM.find at h
  exact ⟨List.mem_of_find?_eq_some h, by have := List.find?_some h; simpa using this⟩
theorem pfind_none {pm : PoolM} {n : Nat} : pm.find n = none ↔ ∀ f ∈ pm.held, f.num ≠ n := by
  unfold PoolM.find
  rw [List.find?_eq_none]
  exact ⟨fun h f hf e => h f hf (by simpa using e), fun h f hf e => h f hf (by simpa using e)⟩
theorem pfind_mem {pm : PoolM} (hn : (pm.held.map (·.num)).Nodup) {f : Fr} (hf : f ∈ pm.held) : pm.find f.num = some f := by
  cases h : pm.find f.num with
  | none => exact absurd rfl (pfind_none.1 h f hf)
  | some g =>
    obtain ⟨g1, g2⟩ := pfind_some h
    congr 1
    generalize pm.held = L at *
    clear h
    induction L with
    | nil => cases hf
    | cons x L ih =>
      rw [List.map_cons] at hn
      obtain ⟨n1, n2⟩ := List.nodup_cons.1 hn
      rcases List.mem_cons.1 hf with rfl | e1 <;> rcases List.mem_cons.1 g1 with rfl | e2
      · rfl
      · exact absurd (List.mem_map.2 ⟨g, e2, g2⟩) n1
      · exact absurd (List.mem_map.2 ⟨f, e1, g2.symm⟩) n1
      · exact ih n2 e1 e2
section
variable {c c' : Nat → Nat} {A m : Nat} {dm : DiskM} {pm : PoolM}
theorem PinsI.congr (h : PinsI c A m dm pm) {A' : Nat} (hA : A ≤ A') (hc : ∀ n, n < m + 1 → c n = c' n) : PinsI c' A' m dm pm :=
  ⟨h.live, h.fit, h.shp, h.reads, Nat.le_trans h.acts hA, h.most, h.dead, h.len, h.nod, fun f hf => by
    obtain ⟨e1, e2, e3, e4⟩ := h.fr f hf
    exact ⟨e1, e2, e3, by rw [e4, hc _ e3]⟩, fun n hn hp => h.pin n hn (by rw [hc n hn]; exact hp)⟩
theorem PinsI.nums (h : PinsI c A m dm pm) : ∀ n ∈ pm.held.map (·.num), n ∈ List.range (m + 1) := by
  intro n hn
  obtain ⟨f, hf, rfl⟩ := List.mem_map.1 hn
  exact List.mem_range.2 (h.fr f hf).2.2.1
/-- A frame's pins are turned. -/
theorem PinsI.setP (h : PinsI c A m dm pm) {a : Nat} {f : Fr} (hf : pm.find a = some f) (x : Nat) : PinsI (fun n => if n = a then x else c n) A m dm (pm.set { f with pins := x }) := by
  obtain ⟨f1, f2⟩ := pfind_some hf
  obtain ⟨e1, e2, e3, e4⟩ := h.fr f f1
  have hh : (pm.set { f with pins := x }).held = pm.held.map (fun y => if y.num = a then { f with pins := x } else y) := by
    unfold PoolM.set; simp only [f2]
  have hnum : ((pm.set { f with pins := x }).held).map (·.num) = pm.held.map (·.num) := by
    rw [hh, List.map_map]
    refine List.map_congr_left (fun y hy => ?_)
    simp only [Function.comp_apply]
    split
    · rename_i q; rw [q]; exact f2
    · rfl
  refine ⟨h.live, h.fit, h.shp, h.reads, h.acts, h.most, h.dead, ?_, ?_, ?_, ?_⟩
  · rw [hh, List.length_map]; exact h.len
  · rw [hnum]; exact h.nod
  · intro y hy
    rw [hh] at hy
    obtain ⟨z, hz, rfl⟩ := List.mem_map.1 hy
    by_cases q : z.num = a
    · rw [if_pos q]; exact ⟨e1, e2, e3, by rw [if_pos f2]⟩
    · rw [if_neg q]
      obtain ⟨k1, k2, k3, k4⟩ := h.fr z hz
      exact ⟨k1, k2, k3, by rw [if_neg q]; exact k4⟩
  · intro n hn hp
    have : n ∈ ((pm.set { f with pins := x }).held).map (·.num) := by
      rw [hnum]
      by_cases q : n = a
      · exact List.mem_map.2 ⟨f, f1, by rw [q]; exact f2⟩
      · rw [if_neg q] at hp
        obtain ⟨y, y1, y2⟩ := h.pin n hn hp
        exact List.mem_map.2 ⟨y, y1, y2⟩
    obtain ⟨y, y1, y2⟩ := List.mem_map.1 this
    exact ⟨y, y1, y2⟩
theorem PinsI.none0 (h : PinsI c A m dm pm) {a : Nat} (ha : a < m + 1) (hf : pm.find a = none) : c a = 0 := by
  rcases Nat.eq_zero_or_pos (c a) with q | q
  · exact q
  · obtain ⟨f, f1, f2⟩ := h.pin a ha q
    exact absurd f2 (pfind_none.1 hf f f1)
theorem PinsI.act (h : PinsI c A m dm pm) : PinsI c (A + 1) m dm.act pm :=
  ⟨h.live.act.1, DiskM.act_fit h.fit, by rw [(act_shp dm).1]; exact h.shp, fun n hn => by rw [dm.act_fields.2.2.1]; exact h.reads n hn, by rw [h.live.act.2]; have := h.acts; omega, h.most, h.dead, h.len, h.nod, h.fr, h.pin⟩
theorem PinsI.addP (h : PinsI c A m dm pm) {a : Nat} (ha : a < m + 1) (hf : pm.find a = none) (hr : pm.held.length < m) : PinsI (bump c a) A m dm (pm.add ⟨a, zA, 1, 0⟩) := by
  have h0 := h.none0 ha hf
  have hnn := pfind_none.1 hf
  refine ⟨h.live, h.fit, h.shp, h.reads, h.acts, h.most, h.dead, ?_, ?_, ?_, ?_⟩
  · show (pm.held ++ [(⟨a, zA, 1, 0⟩ : Fr)]).length ≤ m
    rw [List.length_append]; simp only [List.length_cons, List.length_nil]; omega
  · show ((pm.held ++ [(⟨a, zA, 1, 0⟩ : Fr)]).map (·.num)).Nodup
    rw [List.map_append]
    refine List.nodup_append.2 ⟨h.nod, by simp, fun x hx y hy e => ?_⟩
    obtain ⟨f, f1, f2⟩ := List.mem_map.1 hx
    simp at hy
    exact hnn f f1 (by rw [f2, e, hy])
  · intro f hf'
    rcases List.mem_append.1 hf' with q | q
    · obtain ⟨k1, k2, k3, k4⟩ := h.fr f q
      exact ⟨k1, k2, k3, by unfold bump; rw [if_neg (hnn f q)]; exact k4⟩
    · simp at q; subst q
      exact ⟨rfl, rfl, ha, by unfold bump; rw [if_pos rfl, h0]⟩
  · intro n hn hp
    unfold bump at hp
    by_cases q : n = a
    · exact ⟨⟨a, zA, 1, 0⟩, List.mem_append.2 (.inr (by simp)), q.symm⟩
    · rw [if_neg q] at hp
      obtain ⟨y, y1, y2⟩ := h.pin n hn hp
      exact ⟨y, List.mem_append.2 (.inl y1), y2⟩
theorem PinsI.delP (h : PinsI c A m dm pm) {v : Nat} {f : Fr} (hf : pm.find v = some f) (h0 : c v = 0) : PinsI c A m dm (pm.del v) ∧ (pm.del v).held.length < m := by
  obtain ⟨f1, f2⟩ := pfind_some hf
  have hsub : (pm.del v).held.Sublist pm.held := List.filter_sublist
  have hlt : (pm.del v).held.length < pm.held.length := by
    refine Nat.lt_of_le_of_ne hsub.length_le (fun e => ?_)
    have := hsub.eq_of_length e
    rw [← this] at f1
    have q := (List.mem_filter.1 f1).2
    simp [f2] at q
  have hl := h.len
  refine ⟨⟨h.live, h.fit, h.shp, h.reads, h.acts, h.most, h.dead, by omega, h.nod.sublist (hsub.map _), fun f hf => h.fr f (hsub.subset hf), fun n hn hp => ?_⟩, by omega⟩
  obtain ⟨y, y1, y2⟩ := h.pin n hn hp
  refine ⟨y, List.mem_filter.2 ⟨y1, ?_⟩, y2⟩
  have : n ≠ v := fun e => by rw [e] at hp; omega
  simp [y2, this]
theorem del_none {v a : Nat} (h : pm.find a = none) : (pm.del v).find a = none := pfind_none.2 (fun f hf => pfind_none.1 h f (List.filter_sublist.subset hf))
theorem pfr_mem {pr : Fr → Bool} {x : Int} (h : x ∈ pm.pick pr) : ∃ f ∈ pm.held, pr f = true ∧ x = (f.num : Int) := by
  unfold PoolM.pick at h
  have := (srtI_perm _).mem_iff.1 h
  obtain ⟨f, f1, f2⟩ := List.mem_map.1 this
  exact ⟨f, (List.mem_filter.1 f1).1, (List.mem_filter.1 f1).2, f2.symm⟩
theorem pick_all : (pm.pick all).length = pm.held.length := by
  unfold PoolM.pick
  rw [srtI_len]; unfold numsI; rw [List.length_map]
  congr 1
  exact List.filter_eq_self.2 (fun f _ => rfl)
/-- All frames are held, the page isn't: an idle one is there. -/
theorem PinsI.hasIdle (h : PinsI c A m dm pm) {a b : Nat} (ha : a < m + 1) (hb : b < m + 1) (hab : b ≠ a) (h0 : c b = 0) (hf : pm.find a = none) (hful : ¬ pm.held.length < m) : pm.pick idle ≠ [] := by
  have hbf : ∃ f ∈ pm.held, f.num = b := by
    refine Classical.byContradiction (fun hno => ?_)
    have hnd : (a :: b :: pm.held.map (·.num)).Nodup := by
      refine List.nodup_cons.2 ⟨fun hz => ?_, List.nodup_cons.2 ⟨fun hz => ?_, h.nod⟩⟩
      · rcases List.mem_cons.1 hz with e | e
        · exact hab e.symm
        · obtain ⟨f, f1, f2⟩ := List.mem_map.1 e; exact pfind_none.1 hf f f1 f2
      · obtain ⟨f, f1, f2⟩ := List.mem_map.1 hz; exact hno ⟨f, f1, f2⟩
    have q := sub_len hnd (M := List.range (m + 1)) (fun x hx => by
      rcases List.mem_cons.1 hx with e | hx
      · rw [e]; exact List.mem_range.2 ha
      rcases List.mem_cons.1 hx with e | hx
      · rw [e]; exact List.mem_range.2 hb
      exact h.nums x hx)
    simp only [List.length_cons, List.length_map, List.length_range] at q
    omega
  obtain ⟨f, f1, f2⟩ := hbf
  have e4 := (h.fr f f1).2.2.2
  intro hnil
  have hm : ((f.num : Nat) : Int) ∈ pm.pick idle := by
    unfold PoolM.pick
    refine (srtI_perm _).mem_iff.2 (List.mem_map.2 ⟨f, List.mem_filter.2 ⟨f1, ?_⟩, rfl⟩)
    unfold idle
    rw [e4, f2, h0]; rfl
  rw [hnil] at hm; cases hm
/-- All pages but one are pinned. -/
theorem PinsI.full (h : PinsI c A m dm pm) {x : Nat} (hx : x < m + 1) (hc : ∀ n, n < m + 1 → n ≠ x → 0 < c n) : pm.held.length = m ∧ pm.find x = none ∧ pm.pick idle = [] := by
  have hin : ∀ n, n < m + 1 → n ≠ x → n ∈ pm.held.map (·.num) := fun n hn hne => by
    obtain ⟨f, f1, f2⟩ := h.pin n hn (hc n hn hne)
    exact List.mem_map.2 ⟨f, f1, f2⟩
  have hl := h.len
  have q1 := sub_len (L := List.range (m + 1)) (M := x :: pm.held.map (·.num)) List.nodup_range (fun n hn => by
    by_cases e : n = x
    · simp [e]
    · exact List.mem_cons_of_mem _ (hin n (List.mem_range.1 hn) e))
  simp only [List.length_cons, List.length_map, List.length_range] at q1
  have hno : pm.find x = none := by
    cases hf : pm.find x with
    | none => rfl
    | some f =>
      obtain ⟨f1, f2⟩ := pfind_some hf
      have q2 := sub_len (L := List.range (m + 1)) (M := pm.held.map (·.num)) List.nodup_range (fun n hn => by
        by_cases e : n = x
        · rw [e]; exact List.mem_map.2 ⟨f, f1, f2⟩
        · exact hin n (List.mem_range.1 hn) e)
      simp only [List.length_map, List.length_range] at q2
      omega
  refine ⟨by omega, hno, ?_⟩
  cases hp : pm.pick idle with
  | nil => rfl
  | cons y L =>
    obtain ⟨f, f1, f2, _⟩ := pfr_mem (pm := pm) (pr := idle) (x := y) (by rw [hp]; simp)
    obtain ⟨_, _, e3, e4⟩ := h.fr f f1
    have hne : f.num ≠ x := pfind_none.1 hno f f1
    have := hc _ e3 hne
    unfold idle at f2
    simp at f2; omega
end
/-- What a Pin comes to. -/
def PinsPost (w0 : World) (d g p : Nat) (lm : LogM) (c : Nat → Nat) (A m : Nat) (e : Ending) (w' : World) : Prop :=
  ∃ dm pm F ao cap, e = .returned (.tuple #[.slice ao 40 cap, .int .i64 0]) ∧ Since w0 d g p dm lm pm F w' ∧ PinsI c A m dm pm
section
variable {t : Nat → Nat} {w0 w : World} {d g p : Nat} {dm : DiskM} {lm : LogM} {pm : PoolM} {F : Fp3} {c : Nat → Nat} {A m : Nat}
/-- Pin of any page, as long as one beside it is not pinned. -/
theorem pin_any (ht : Tbl t w0) (hs : Since w0 d g p dm lm pm F w) (h : PinsI c A m dm pm) (hm : m ≤ 14) (hA : A < 1000000) (hc : ∀ n, n < m + 1 → c n < 1000000) (a : Nat) (ha : a < m + 1) (hb : ∃ b, b < m + 1 ∧ b ≠ a ∧ c b = 0) (pick : Int) :
    Calls Tryz.prog 16 #[.pointer (some ⟨p, 0, none⟩), .int .i64 (a : Int), .int .i64 pick] w (PinsPost w0 d g p lm (bump c a) (A + 1) m) := by
  obtain ⟨hT, z1, z2, z3⟩ := hs.zero ht
  have hn : a < dm.shp.pages := by rw [h.shp]; exact ha
  have hac := h.acts
  have hck : pageCheck t zA (a : Int) (dm.shp.slots : Nat) = some 0 := by rw [h.shp]; exact check_zeros t a 1 (by omega) (by omega) (by omega)
  cases hf : pm.find a with
  | some f =>
    obtain ⟨f1, f2⟩ := pfind_some hf
    obtain ⟨e1, e2, e3, e4⟩ := h.fr f f1
    have hc' := hc a ha
    refine (pin16_held hs.1 h.dead a hn f hf (by rw [e1, zA_40]; omega) (by rw [e4, f2]; omega) pick).mono ?_
    rintro e w' ⟨F1, ao, cap, rfl, hW, hA1, _, _⟩
    rw [e1, zA_40]
    refine ⟨dm, _, F1, ao, cap, rfl, hs.step hW hA1, (h.setP hf _).congr (by omega) (fun n hn => ?_)⟩
    unfold bump
    by_cases q : n = a
    · rw [if_pos q, if_pos q, e4, f2, q]
    · rw [if_neg q, if_neg q]
  | none =>
    by_cases hr : pm.held.length < m
    · refine (pin16_room hT hs.1 z1 h.dead (by omega) h.fit a hn hf (by rw [h.most]; exact hr) zA (h.reads a ha) 0 hck h.live.stops pick).mono ?_
      rintro e w' ⟨F1, ao, cap, rfl, hW, hA1, _, _⟩
      rw [zA_40]
      exact ⟨_, _, F1, ao, cap, rfl, hs.step hW hA1, h.act.addP ha hf hr⟩
    · obtain ⟨b, b1, b2, b3⟩ := hb
      have hid := h.hasIdle ha b1 b2 b3 hf hr
      have hil : 0 < (pm.pick idle).length := List.length_pos_iff.2 hid
      obtain ⟨j, hj⟩ : ∃ j : Nat, (pick.tmod ((pm.pick idle).length : Nat) + ((pm.pick idle).length : Nat)).tmod ((pm.pick idle).length : Nat) = (j : Int) ∧ j < (pm.pick idle).length := by
        have x1 := Int.lt_tmod_of_pos pick (show (0 : Int) < ((pm.pick idle).length : Nat) by omega)
        have x2 := Int.tmod_nonneg ((pm.pick idle).length : Nat) (show (0 : Int) ≤ pick.tmod ((pm.pick idle).length : Nat) + ((pm.pick idle).length : Nat) by omega)
        have x3 := Int.tmod_lt_of_pos (pick.tmod ((pm.pick idle).length : Nat) + ((pm.pick idle).length : Nat)) (show (0 : Int) < ((pm.pick idle).length : Nat) by omega)
        refine ⟨((pick.tmod ((pm.pick idle).length : Nat) + ((pm.pick idle).length : Nat)).tmod ((pm.pick idle).length : Nat)).toNat, ?_, ?_⟩
        · omega
        · omega
      have hx := List.getElem?_eq_getElem hj.2
      obtain ⟨fv, v1, v2, v3⟩ := pfr_mem (List.mem_of_getElem? hx)
      rw [v3] at hx
      obtain ⟨k1, k2, k3, k4⟩ := h.fr fv v1
      have hv0 : c fv.num = 0 := by unfold idle at v2; simp at v2; omega
      have hfv := pfind_mem h.nod v1
      have hl := h.len
      refine (pin16_evict hT hs.1 z1 h.dead (by omega) h.fit a hn pick hf (by rw [h.most]; omega) (by rw [h.most]; omega) hj.1 hx hfv k2 zA (h.reads a ha) 0 hck h.live.stops).mono ?_
      rintro e w' ⟨F1, ao, cap, rfl, hW, hA1, _, _⟩
      rw [zA_40]
      obtain ⟨y1, y2⟩ := h.act.delP hfv hv0
      exact ⟨_, _, F1, ao, cap, rfl, hs.step hW hA1, y1.addP ha (del_none hf) y2⟩
theorem unpin_any (hs : Since w0 d g p dm lm pm F w) (h : PinsI c A m dm pm) (a : Nat) (ha : a < m + 1) (hp : 0 < c a) :
    Calls Tryz.prog 27 #[.pointer (some ⟨p, 0, none⟩), .int .i64 (a : Int)] w (fun e w' => e = .returned (.tuple #[]) ∧ ∃ pm' F', Since w0 d g p dm lm pm' F' w' ∧ PinsI (drop1 c a) A m dm pm') := by
  obtain ⟨mb, es, clk, qs, hat, hpf⟩ := hs.1.2.1
  refine (unpin27 hat a).mono ?_
  rintro e w' ⟨rfl, hst⟩
  rw [← hpf] at hst
  obtain ⟨Q, hW, hA⟩ := hs.1.poolAt hst
  refine ⟨rfl, _, _, hs.step hW hA, ?_⟩
  obtain ⟨f, f1, f2⟩ := h.pin a ha hp
  have hf : pm.find a = some f := by rw [← f2]; exact pfind_mem h.nod f1
  have e4 := (h.fr f f1).2.2.2
  unfold PoolM.unpin
  rw [hf]
  simp only
  rw [if_pos (by rw [e4, f2]; exact hp)]
  refine (h.setP hf _).congr (Nat.le_refl _) (fun n hn => ?_)
  unfold drop1
  by_cases q : n = a
  · rw [if_pos q, if_pos q, e4, f2, q]
  · rw [if_neg q, if_neg q]
theorem pin_not (hs : Since w0 d g p dm lm pm F w) (h : PinsI c A m dm pm) (x : Nat) (hx : x < m + 1) (hc : ∀ n, n < m + 1 → n ≠ x → 0 < c n) (pick : Int) :
    Calls Tryz.prog 16 #[.pointer (some ⟨p, 0, none⟩), .int .i64 (x : Int), .int .i64 pick] w (fun e w' => e = .returned (.tuple #[.slice none 0 0, .int .i64 141]) ∧ Since w0 d g p dm lm pm F w') := by
  obtain ⟨h1, h2, h3⟩ := h.full hx hc
  refine (pin16_none hs.1 h.dead x (by rw [h.shp]; exact hx) h2 (by rw [h.most]; exact h1) h3 pick).mono ?_
  rintro e w' ⟨rfl, ho⟩
  exact ⟨rfl, hs.quiet ho⟩
theorem held_any (hs : Since w0 d g p dm lm pm F w) (h : PinsI c A m dm pm) (hm : m ≤ 14) :
    Calls Tryz.prog 26 #[.pointer (some ⟨p, 0, none⟩)] w (fun e w' => ∃ ao cap, e = .returned (.slice ao pm.held.length cap) ∧ Since w0 d g p dm lm pm F w') := by
  obtain ⟨mb, es, clk, qs, hat, hpf⟩ := hs.1.2.1
  have hl := h.len
  refine (held26 hat (by rw [hat.len]; omega)).mono ?_
  rintro e w' ⟨ao, cap, rfl, _, ho, _⟩
  exact ⟨ao, cap, by rw [pick_all], hs.quiet ho⟩
theorem look_any (hs : Since w0 d g p dm lm pm F w) (h : PinsI c A m dm pm) (n : Nat) (hn : n < m + 1) (hp : 0 < c n) :
    Calls Tryz.prog 20 #[.pointer (some ⟨p, 0, none⟩), .int .i64 (n : Int)] w (fun e w' => ∃ ao cap, e = .returned (.tuple #[.slice ao 40 cap, .bool true]) ∧ Since w0 d g p dm lm pm F w') := by
  obtain ⟨f, f1, f2⟩ := h.pin n hn hp
  have hf : pm.find n = some f := by rw [← f2]; exact pfind_mem h.nod f1
  refine (look_since hs hf (fun f hf => by rw [(h.fr f hf).1, zA_40]; omega)).mono ?_
  rintro e w' ⟨ao, cap, rfl, _, ho, _⟩
  rw [(h.fr f f1).1, zA_40]
  exact ⟨ao, cap, rfl, hs.quiet ho⟩
theorem look_not (hs : Since w0 d g p dm lm pm F w) (h : PinsI c A m dm pm) (n : Nat) (hf : pm.find n = none) :
    Calls Tryz.prog 20 #[.pointer (some ⟨p, 0, none⟩), .int .i64 (n : Int)] w (fun e w' => e = .returned (.tuple #[.slice none 0 0, .bool false]) ∧ Since w0 d g p dm lm pm F w') := by
  obtain ⟨mb, es, clk, qs, hp, _⟩ := hs.1.2.1
  have q := look20 hp n (fun f hf => by rw [(h.fr f hf).1, zA_40]; omega)
  rw [hf] at q
  refine q.mono ?_
  rintro e w' ⟨rfl, ho⟩
  exact ⟨rfl, hs.quiet ho⟩
end
/-- How often each page is pinned: k has q more, and the i pages from k on one each. -/
def ring (m k i n : Nat) : Nat := if (if k ≤ n then n - k else n + (m + 1) - k) < i then 1 else 0
def cc (m k q i n : Nat) : Nat := (if n = k then q else 0) + ring m k i n
theorem ring_at {m k i : Nat} (hk : k ≤ m) (hi : i ≤ m) : (k + i) % (m + 1) = if k + i < m + 1 then k + i else k + i - (m + 1) := by
  split
  · rename_i h; exact Nat.mod_eq_of_lt h
  · rename_i h
    rw [Nat.mod_eq_sub_mod (by omega), Nat.mod_eq_of_lt (by omega)]
theorem cc_pin {m k q i : Nat} (hk : k ≤ m) : ∀ n, n < m + 1 → bump (cc m k q i) k n = cc m k (q + 1) i n := by
  intro n hn
  unfold bump cc
  split <;> omega
theorem cc_unpin {m k q i : Nat} : ∀ n, n < m + 1 → drop1 (cc m k (q + 1) i) k n = cc m k q i n := by
  intro n hn
  unfold drop1 cc
  split <;> omega
theorem cc_back {m k q i a : Nat} : ∀ n, n < m + 1 → drop1 (bump (cc m k q i) a) a n = cc m k q i n := by
  intro n hn
  unfold drop1 bump
  split <;> simp_all
theorem cc_ring {m k q i : Nat} (hk : k ≤ m) (hi : i < m) : ∀ n, n < m + 1 → bump (cc m k q i) ((k + i) % (m + 1)) n = cc m k q (i + 1) n := by
  intro n hn
  rw [ring_at hk (by omega)]
  unfold bump cc ring
  split <;> split <;> split <;> (try split) <;> (try split) <;> (try split) <;> omega
theorem cc_le {m k q i n : Nat} : cc m k q i n ≤ q + 1 := by
  have : ring m k i n ≤ 1 := by
    unfold ring
    generalize (if k ≤ n then n - k else n + (m + 1) - k) = y
    split <;> omega
  unfold cc
  split <;> omega
end Go.Proofs.YtfdgiblkllfpjaaGreatDoor

/- PoolPins: the walk. -/
set_option linter.unusedVariables false
set_option linter.unusedSimpArgs false
namespace Go.Proofs.YtfdgiblkllfpjaaGreatDoor
open Go.ChangeShapes Go.WideShapes Go.ChangeAt Go.RowKit

/-- Ints that came in: they are read, no more. -/
def ReadI (w : World) (v : Value) (l : List Int) : Prop :=
  ∃ ao cap, v = .slice ao l.length cap ∧ ∀ k (hk : k < l.length), ∃ g off, ao = some ⟨g, off, none⟩ ∧ g < w.heap.size ∧ w.cell? ⟨g, off + k, none⟩ = some (.int .i64 l[k])
theorem ReadI.off {w w' : World} {v : Value} {l : List Int} (h : ReadI w v l) (ho : Off [] w w') : ReadI w' v l := by
  obtain ⟨ao, cap, e, hc⟩ := h
  refine ⟨ao, cap, e, fun k hk => ?_⟩
  obtain ⟨g, off, e1, e2, e3⟩ := hc k hk
  exact ⟨g, off, e1, Nat.lt_of_lt_of_le e2 ho.size, by rw [World.cell?_of_block (a := ⟨g, off + k, none⟩) (ho.old g e2 (by simp))]; exact e3⟩
theorem ReadI.val {w : World} {v : Value} {l : List Int} (h : ReadI w v l) : ∃ ao cap, v = .slice ao l.length cap := by obtain ⟨a, c, e, _⟩ := h; exact ⟨a, c, e⟩
theorem ReadI.cellAt {w : World} {ao : Option Addr} {n cap : Nat} {l : List Int} (h : ReadI w (.slice ao n cap) l) {k : Nat} (hk : k < l.length) : ∃ g off, ao = some ⟨g, off, none⟩ ∧ w.cell? ⟨g, off + k, none⟩ = some (.int .i64 l[k]) := by
  obtain ⟨ao', cap', e, hc⟩ := h
  injection e with e1 e2 e3
  subst e1
  obtain ⟨g, off, q1, _, q3⟩ := hc k hk
  exact ⟨g, off, q1, q3⟩
def shm (m : Nat) : Shp := ⟨m + 1, 1, 1024⟩
theorem new8_m (m : Nat) (hm : m ≤ 14) (w : World) : Calls Tryz.prog 8 #[.agg #[.int .i64 ((m + 1 : Nat) : Int), .int .i64 1, .int .i64 1024]] w (NewPost (shm m) w) := new8 (shm m) (by unfold Shp.ok shm; simp only; omega) w
/-- The whole, played with so far. -/
def PW (w0 : World) (d g p : Nat) (c : Nat → Nat) (A m : Nat) (dm : DiskM) (w : World) : Prop := ∃ pm F, Since w0 d g p dm (newLog 0) pm F w ∧ PinsI c A m dm pm
section
variable {t : Nat → Nat} {w0 w : World} {d g p : Nat} {dm : DiskM} {c c' : Nat → Nat} {A m : Nat}
theorem PW.congr (h : PW w0 d g p c A m dm w) {A' : Nat} (hA : A ≤ A') (hc : ∀ n, n < m + 1 → c n = c' n) : PW w0 d g p c' A' m dm w := by
  obtain ⟨pm, F, h1, h2⟩ := h
  exact ⟨pm, F, h1, h2.congr hA hc⟩
theorem PW.quiet (h : PW w0 d g p c A m dm w) {w' : World} (ho : Off [] w w') : PW w0 d g p c A m dm w' := by
  obtain ⟨pm, F, h1, h2⟩ := h
  exact ⟨pm, F, h1.quiet ho, h2⟩
theorem PW.since (h : PW w0 d g p c A m dm w) : Off [] w0 w := by
  obtain ⟨pm, F, h1, h2⟩ := h
  exact h1.2.2
theorem PW.pin (ht : Tbl t w0) (h : PW w0 d g p c A m dm w) (hm : m ≤ 14) (hA : A < 1000000) (hc : ∀ n, n < m + 1 → c n < 1000000) (a : Nat) (ha : a < m + 1) (hb : ∃ b, b < m + 1 ∧ b ≠ a ∧ c b = 0) (pick : Int) :
    Calls Tryz.prog 16 #[.pointer (some ⟨p, 0, none⟩), .int .i64 (a : Int), .int .i64 pick] w (fun e w' => ∃ ao cap dm', e = .returned (.tuple #[.slice ao 40 cap, .int .i64 0]) ∧ PW w0 d g p (bump c a) (A + 1) m dm' w') := by
  obtain ⟨pm, F, h1, h2⟩ := h
  refine (pin_any ht h1 h2 hm hA hc a ha hb pick).mono ?_
  rintro e w' ⟨dm', pm', F', ao, cap, rfl, k1, k2⟩
  exact ⟨ao, cap, dm', rfl, pm', F', k1, k2⟩
theorem PW.unpin (h : PW w0 d g p c A m dm w) (a : Nat) (ha : a < m + 1) (hp : 0 < c a) :
    Calls Tryz.prog 27 #[.pointer (some ⟨p, 0, none⟩), .int .i64 (a : Int)] w (fun e w' => e = .returned (.tuple #[]) ∧ PW w0 d g p (drop1 c a) A m dm w') := by
  obtain ⟨pm, F, h1, h2⟩ := h
  refine (unpin_any h1 h2 a ha hp).mono ?_
  rintro e w' ⟨rfl, pm', F', k1, k2⟩
  exact ⟨rfl, pm', F', k1, k2⟩
theorem PW.pinNot (h : PW w0 d g p c A m dm w) (x : Nat) (hx : x < m + 1) (hc : ∀ n, n < m + 1 → n ≠ x → 0 < c n) (pick : Int) :
    Calls Tryz.prog 16 #[.pointer (some ⟨p, 0, none⟩), .int .i64 (x : Int), .int .i64 pick] w (fun e w' => e = .returned (.tuple #[.slice none 0 0, .int .i64 141]) ∧ PW w0 d g p c A m dm w') := by
  obtain ⟨pm, F, h1, h2⟩ := h
  refine (pin_not h1 h2 x hx hc pick).mono ?_
  rintro e w' ⟨rfl, k1⟩
  exact ⟨rfl, pm, F, k1, h2⟩
theorem PW.heldSome (h : PW w0 d g p c A m dm w) (hm : m ≤ 14) :
    Calls Tryz.prog 26 #[.pointer (some ⟨p, 0, none⟩)] w (fun e w' => ∃ ao n cap, n ≤ m ∧ e = .returned (.slice ao n cap) ∧ PW w0 d g p c A m dm w') := by
  obtain ⟨pm, F, h1, h2⟩ := h
  refine (held_any h1 h2 hm).mono ?_
  rintro e w' ⟨ao, cap, rfl, k1⟩
  exact ⟨ao, _, cap, h2.len, rfl, pm, F, k1, h2⟩
theorem PW.heldAll (h : PW w0 d g p c A m dm w) (hm : m ≤ 14) (x : Nat) (hx : x < m + 1) (hc : ∀ n, n < m + 1 → n ≠ x → 0 < c n) :
    Calls Tryz.prog 26 #[.pointer (some ⟨p, 0, none⟩)] w (fun e w' => ∃ ao cap, e = .returned (.slice ao m cap) ∧ PW w0 d g p c A m dm w') := by
  obtain ⟨pm, F, h1, h2⟩ := h
  obtain ⟨f1, f2, f3⟩ := h2.full hx hc
  refine (held_any h1 h2 hm).mono ?_
  rintro e w' ⟨ao, cap, rfl, k1⟩
  rw [f1]
  exact ⟨ao, cap, rfl, pm, F, k1, h2⟩
theorem PW.look (h : PW w0 d g p c A m dm w) (n : Nat) (hn : n < m + 1) (hp : 0 < c n) :
    Calls Tryz.prog 20 #[.pointer (some ⟨p, 0, none⟩), .int .i64 (n : Int)] w (fun e w' => ∃ ao cap, e = .returned (.tuple #[.slice ao 40 cap, .bool true]) ∧ PW w0 d g p c A m dm w') := by
  obtain ⟨pm, F, h1, h2⟩ := h
  refine (look_any h1 h2 n hn hp).mono ?_
  rintro e w' ⟨ao, cap, rfl, k1⟩
  exact ⟨ao, cap, rfl, pm, F, k1, h2⟩
theorem PW.lookNot (h : PW w0 d g p c A m dm w) (x : Nat) (hx : x < m + 1) (hc : ∀ n, n < m + 1 → n ≠ x → 0 < c n) :
    Calls Tryz.prog 20 #[.pointer (some ⟨p, 0, none⟩), .int .i64 (x : Int)] w (fun e w' => e = .returned (.tuple #[.slice none 0 0, .bool false]) ∧ PW w0 d g p c A m dm w') := by
  obtain ⟨pm, F, h1, h2⟩ := h
  obtain ⟨f1, f2, f3⟩ := h2.full hx hc
  refine (look_not h1 h2 x f2).mono ?_
  rintro e w' ⟨rfl, k1⟩
  exact ⟨rfl, pm, F, k1, h2⟩
theorem PW.acts (h : PW w0 d g p c A m dm w) : Calls Tryz.prog 28 #[.pointer (some ⟨d, 0, none⟩)] w fun e w' => e = .returned (.int .i64 (dm.acts : Nat)) ∧ w = w' := by
  obtain ⟨pm, F, h1, h2⟩ := h
  exact acts28 h1.1.1.1
end
theorem PW.first {w0 w3 : World} {d g p m : Nat} {D L Q : List Nat} (hW : Since w0 d g p (newDisk (shm m)).act (newLog 0) ⟨m, [], false⟩ ⟨D, L, Q⟩ w3) : PW w0 d g p (cc m 0 0 0) 1 m (newDisk (shm m)).act w3 := by
  have hl : (newDisk (shm m)).live := ⟨rfl, rfl⟩
  have hz : ∀ n, cc m 0 0 0 n = 0 := fun n => by unfold cc ring; simp
  refine ⟨_, _, hW, hl.act.1, DiskM.act_fit (newDisk_fit _), by rw [(act_shp _).1]; rfl, fun n hn => ?_, by rw [hl.act.2]; exact Nat.le_refl _, rfl, rfl, Nat.zero_le _, List.nodup_nil, fun f hf => absurd hf (List.not_mem_nil), fun n hn hp => by rw [hz] at hp; omega⟩
  rw [(newDisk (shm m)).act_fields.2.2.1]
  show (blankG (shm m))[n]? = _
  rw [blankG_at _ _ (by unfold shm; simp only; omega)]
  unfold Shp.sizeB Shp.pageB shm zA
  simp only
  rw [if_pos hn]
end Go.Proofs.YtfdgiblkllfpjaaGreatDoor
