/- RoomSums: what stands between the law's steps: the Room, the law's two lists, the operation's own block. -/
import Derived.Test.YtlhmcbcoaplcaaaRoomAllW
import Derived.Deep.RegionLaw
set_option linter.unusedVariables false
set_option linter.unusedSimpArgs false
namespace Go.Proofs.Ytlhmcbcoaplcaaa
open Go.ChangeShapes Go.WideShapes Go.ChangeAt Go.RowKit

/-- The Room at L, and the law's two lists, all made since w0. -/
def SumAt (w0 wr : World) (rb : Nat) (area : Int) (L : Txns) (B K : List Int) (bv kv : Value) : Prop :=
  ∃ fp, RoomP wr rb fp area L ∧ Own wr 3 1 bv B.length (ints B) ∧ Own wr 3 1 kv K.length (ints K) ∧ Off [] w0 wr ∧ (∀ x ∈ fp, w0.heap.size ≤ x) ∧ (∀ x ∈ blk bv, w0.heap.size ≤ x) ∧ (∀ x ∈ blk kv, w0.heap.size ≤ x) ∧
    (∀ x ∈ fp, x ∉ blk bv ∧ x ∉ blk kv) ∧ ∀ x ∈ blk bv, x ∉ blk kv
/-- So too, and the operation's own struct. -/
def SumOp (w0 wr : World) (rb : Nat) (area : Int) (L : Txns) (B K : List Int) (bv kv : Value) (ob : Nat) (os : Array Value) : Prop :=
  ∃ fp, RoomP wr rb fp area L ∧ Own wr 3 1 bv B.length (ints B) ∧ Own wr 3 1 kv K.length (ints K) ∧ IsC wr ob os 47 ∧ Off [] w0 wr ∧ (∀ x ∈ fp, w0.heap.size ≤ x) ∧ (∀ x ∈ blk bv, w0.heap.size ≤ x) ∧ (∀ x ∈ blk kv, w0.heap.size ≤ x) ∧
    (∀ x ∈ fp, x ∉ blk bv ∧ x ∉ blk kv ∧ x ≠ ob) ∧ (∀ x ∈ blk bv, x ∉ blk kv ∧ x ≠ ob) ∧ ∀ x ∈ blk kv, x ≠ ob

section
variable {w0 w w' : World} {rb : Nat} {area : Int} {L L' : Txns} {B K : List Int} {bv kv : Value} {ob : Nat} {os : Array Value}
theorem SumAt.old (h : SumAt w0 w rb area L B K bv kv) : Off [] w0 w := by obtain ⟨fp, h1, h2, h3, h4, h5⟩ := h; exact h4
theorem SumAt.op (h : SumAt w0 w rb area L B K bv kv) (os : Array Value) : SumOp w0 (w.alloc (.cells os 47)) rb area L B K bv kv w.heap.size os := by
  obtain ⟨fp, h1, h2, h3, h4, h5, h6, h7, h8, h9⟩ := h
  have ho := (Off.refl [] w).alloc (.cells os 47)
  refine ⟨fp, h1.off ho (by simp), h2.alloc _, h3.alloc _, IsC.new _ _ _, h4.alloc _, h5, h6, h7, ?_, ?_, ?_⟩
  · intro x hx; have := h1.lt x hx; exact ⟨(h8 x hx).1, (h8 x hx).2, by omega⟩
  · intro x hx; have := h2.lt x hx; exact ⟨h9 x hx, by omega⟩
  · intro x hx; have := h3.lt x hx; omega
theorem SumOp.at_ (h : SumOp w0 w rb area L B K bv kv ob os) : SumAt w0 w rb area L B K bv kv := by
  obtain ⟨fp, h1, h2, h3, h4, h5, h6, h7, h8, h9, h10, h11⟩ := h
  exact ⟨fp, h1, h2, h3, h5, h6, h7, h8, fun x hx => ⟨(h9 x hx).1, (h9 x hx).2.1⟩, fun x hx => (h10 x hx).1⟩
theorem SumOp.isC (h : SumOp w0 w rb area L B K bv kv ob os) : IsC w ob os 47 := by obtain ⟨fp, h1, h2, h3, h4, _⟩ := h; exact h4
theorem SumOp.ownB (h : SumOp w0 w rb area L B K bv kv ob os) : Own w 3 1 bv B.length (ints B) := by obtain ⟨fp, h1, h2, h3, h4, _⟩ := h; exact h2
theorem SumOp.ownK (h : SumOp w0 w rb area L B K bv kv ob os) : Own w 3 1 kv K.length (ints K) := by obtain ⟨fp, h1, h2, h3, h4, _⟩ := h; exact h3
theorem SumOp.off (h : SumOp w0 w rb area L B K bv kv ob os) (ho : Off [] w w') : SumOp w0 w' rb area L B K bv kv ob os := by
  obtain ⟨fp, h1, h2, h3, h4, h5, h6⟩ := h
  exact ⟨fp, h1.off ho (by simp), h2.off ho (by simp), h3.off ho (by simp), h4.off ho (by simp), h5.trans ho (by simp), h6⟩
theorem SumOp.apart (h : SumOp w0 w rb area L B K bv kv ob os) : (∀ x ∈ blk bv, x ∉ blk kv ∧ x ≠ ob) ∧ ∀ x ∈ blk kv, x ≠ ob := by
  obtain ⟨fp, h1, h2, h3, h4, h5, h6, h7, h8, h9, h10, h11⟩ := h; exact ⟨h10, h11⟩
/-- The births' slice changes. -/
theorem SumOp.setB {B' : List Int} {bv' : Value} (h : SumOp w0 w rb area L B K bv kv ob os) (ho : Own w' 3 1 bv' B'.length (ints B')) (hoff : Off (blk bv) w w') (hb : ∀ x ∈ blk bv', x ∈ blk bv ∨ w.heap.size ≤ x) :
    SumOp w0 w' rb area L B' K bv' kv ob os := by
  obtain ⟨fp, h1, h2, h3, h4, h5, h6, h7, h8, h9, h10, h11⟩ := h
  have hsz := h5.size
  refine ⟨fp, h1.off hoff (fun x hx hx' => (h9 x hx).1 hx'), ho, h3.off hoff (fun x hx hx' => (h10 x hx').1 hx), h4.off hoff (fun hx => (h10 ob hx).2 rfl), h5.trans hoff (fun x hx => .inr (h7 x hx)), h6, ?_, h8, ?_, ?_, h11⟩
  · intro x hx; rcases hb x hx with q | q; exact h7 x q; omega
  · intro x hx
    refine ⟨fun hx' => ?_, (h9 x hx).2⟩
    rcases hb x hx' with q | q
    · exact (h9 x hx).1 q
    · have := h1.lt x hx; omega
  · intro x hx
    rcases hb x hx with q | q
    · exact h10 x q
    · exact ⟨fun hx' => by have := h3.lt x hx'; omega, by have := h4.lt; omega⟩
/-- The kept's slice changes. -/
theorem SumOp.setK {K' : List Int} {kv' : Value} (h : SumOp w0 w rb area L B K bv kv ob os) (ho : Own w' 3 1 kv' K'.length (ints K')) (hoff : Off (blk kv) w w') (hb : ∀ x ∈ blk kv', x ∈ blk kv ∨ w.heap.size ≤ x) :
    SumOp w0 w' rb area L B K' bv kv' ob os := by
  obtain ⟨fp, h1, h2, h3, h4, h5, h6, h7, h8, h9, h10, h11⟩ := h
  have hsz := h5.size
  refine ⟨fp, h1.off hoff (fun x hx hx' => (h9 x hx).2.1 hx'), h2.off hoff (fun x hx hx' => (h10 x hx).1 hx'), ho, h4.off hoff (fun hx => h11 ob hx rfl), h5.trans hoff (fun x hx => .inr (h8 x hx)), h6, h7, ?_, ?_, ?_, ?_⟩
  · intro x hx; rcases hb x hx with q | q; exact h8 x q; omega
  · intro x hx
    refine ⟨(h9 x hx).1, fun hx' => ?_, (h9 x hx).2.2⟩
    rcases hb x hx' with q | q
    · exact (h9 x hx).2.1 q
    · have := h1.lt x hx; omega
  · intro x hx
    refine ⟨fun hx' => ?_, (h10 x hx).2⟩
    rcases hb x hx' with q | q
    · exact (h10 x hx).1 q
    · have := h2.lt x hx; omega
  · intro x hx
    rcases hb x hx with q | q
    · exact h11 x q
    · have := h4.lt; omega
theorem SumOp.room {fp : List Nat} {r : Int × Txns} {e : Ending} (h1 : RoomP w rb fp area L) (h2 : Own w 3 1 bv B.length (ints B)) (h3 : Own w 3 1 kv K.length (ints K)) (h0 : IsC w ob os 47) (h4 : Off [] w0 w) (h5 : ∀ x ∈ fp, w0.heap.size ≤ x) (h6 : ∀ x ∈ blk bv, w0.heap.size ≤ x) (h7 : ∀ x ∈ blk kv, w0.heap.size ≤ x)
    (h8 : ∀ x ∈ fp, x ∉ blk bv ∧ x ∉ blk kv ∧ x ≠ ob) (h9 : ∀ x ∈ blk bv, x ∉ blk kv ∧ x ≠ ob) (h10 : ∀ x ∈ blk kv, x ≠ ob) (hs : RoomStep rb fp area r w e w') : e = .returned (.int .i64 r.1) ∧ SumOp w0 w' rb area r.2 B K bv kv ob os := by
  obtain ⟨rfl, fp', g1, g2, g3⟩ := hs
  have hsz := h4.size
  refine ⟨rfl, fp', g1, h2.off g2 (fun x hx hx' => (h8 x hx').1 hx), h3.off g2 (fun x hx hx' => (h8 x hx').2.1 hx), h0.off g2 (fun hx => (h8 ob hx).2.2 rfl), h4.trans g2 (fun x hx => .inr (h5 x hx)), ?_, h6, h7, ?_, h9, h10⟩
  · intro x hx; rcases g3 x hx with h | h; exact h5 x h; omega
  · intro x hx
    rcases g3 x hx with h | h
    · exact h8 x h
    · exact ⟨fun hx' => by have := h2.lt x hx'; omega, fun hx' => by have := h3.lt x hx'; omega, by have := h0.lt; omega⟩
variable {n : Nat}
theorem begin_m (b : Int) (h : SumOp w0 w rb area L B K bv kv ob os) (hw : Wf L n) :
    Calls Try.prog 21 #[.pointer (some ⟨rb, 0, none⟩), .int .i64 b] w fun e w' => e = .returned (.int .i64 (rBegin L b).1) ∧ SumOp w0 w' rb area (rBegin L b).2 B K bv kv ob os := by
  obtain ⟨fp, h1, h2, h3, h4, h5, h6, h7, h8, h9, h10, h11⟩ := h
  exact (begin_any rb fp area b L w h1 hw.big).mono fun _ _ h => SumOp.room h1 h2 h3 h4 h5 h6 h7 h8 h9 h10 h11 h
theorem update_m (b x : Int) (h : SumOp w0 w rb area L B K bv kv ob os) (hw : Wf L n) :
    Calls Try.prog 27 #[.pointer (some ⟨rb, 0, none⟩), .int .i64 b, .int .i64 x] w fun e w' => e = .returned (.int .i64 (rUpdate L b x).1) ∧ SumOp w0 w' rb area (rUpdate L b x).2 B K bv kv ob os := by
  obtain ⟨fp, h1, h2, h3, h4, h5, h6, h7, h8, h9, h10, h11⟩ := h
  exact (update_any rb fp area b x L w h1 hw.big).mono fun _ _ h => SumOp.room h1 h2 h3 h4 h5 h6 h7 h8 h9 h10 h11 h
theorem undone_m (b x : Int) (h : SumOp w0 w rb area L B K bv kv ob os) (hw : Wf L n) :
    Calls Try.prog 28 #[.pointer (some ⟨rb, 0, none⟩), .int .i64 b, .int .i64 x] w fun e w' => e = .returned (.int .i64 (rUndone L b x).1) ∧ SumOp w0 w' rb area (rUndone L b x).2 B K bv kv ob os := by
  obtain ⟨fp, h1, h2, h3, h4, h5, h6, h7, h8, h9, h10, h11⟩ := h
  exact (undone_any rb fp area b x L w h1 hw.big).mono fun _ _ h => SumOp.room h1 h2 h3 h4 h5 h6 h7 h8 h9 h10 h11 h
theorem drop_m (b : Int) (h : SumOp w0 w rb area L B K bv kv ob os) (hw : Wf L n) :
    Calls Try.prog 29 #[.pointer (some ⟨rb, 0, none⟩), .int .i64 b] w fun e w' => e = .returned (.int .i64 (rDrop L b).1) ∧ SumOp w0 w' rb area (rDrop L b).2 B K bv kv ob os := by
  obtain ⟨fp, h1, h2, h3, h4, h5, h6, h7, h8, h9, h10, h11⟩ := h
  exact (drop_any rb fp area b L w h1 hw.big).mono fun _ _ h => SumOp.room h1 h2 h3 h4 h5 h6 h7 h8 h9 h10 h11 h
theorem of_m (b : Int) (h : SumOp w0 w rb area L B K bv kv ob os) :
    Calls Try.prog 24 #[.pointer (some ⟨rb, 0, none⟩), .int .i64 b] w fun e w' => e = .returned (.int .i64 (rOf L b)) ∧ w = w' := by
  obtain ⟨fp, h1, _⟩ := h; exact of_any rb fp area b L w h1
theorem kept_m (h : SumOp w0 w rb area L B K bv kv ob os) :
    Calls Try.prog 26 #[.pointer (some ⟨rb, 0, none⟩)] w fun e w' => e = .returned (.int .i64 (tot L)) ∧ w = w' := by
  obtain ⟨fp, h1, _⟩ := h; exact kept_any rb fp area L w h1
end

theorem pos_take {L : Txns} {b : Int} (hd : (L.map (·.1)).Nodup) {j : Nat} {p : Int × List Int} (hp : L[j]? = some p) : posI (L.take (j + 1)) b = if p.1 = b then (j : Int) else posI (L.take j) b := by
  have hjl := (List.getElem?_eq_some_iff.1 hp).1
  have hjt : (L.take (j + 1))[j]? = some p := by rw [List.getElem?_take, if_pos (by omega)]; exact hp
  by_cases h : p.1 = b
  · rw [if_pos h]
    refine pos_first hjt h ?_
    intro i hi q hq e
    rw [List.getElem?_take, if_pos (by omega)] at hq
    have h1 : (L.map (·.1))[i]? = some b := by rw [List.getElem?_map, hq]; simp [e]
    have h2 : (L.map (·.1))[j]? = some b := by rw [List.getElem?_map, hp]; simp [h]
    have := (List.getElem?_inj (by simpa using Nat.lt_trans hi hjl) hd).1 (h1.trans h2.symm)
    omega
  · rw [if_neg h]
    rcases pos_spec (L.take j) b with ⟨h1, _, h3⟩ | ⟨i, u, h1, h2, _, h4⟩
    · have e1 : posI (L.take j) b = -1 := by simp [posI, h1]
      rw [e1]
      refine pos_none_iff ?_
      intro i q hq
      rw [List.getElem?_take] at hq
      split at hq
      · by_cases e : i = j
        · subst e; rw [hp] at hq; obtain rfl := Option.some.inj hq; exact h
        · exact h3 q (List.mem_of_getElem? (i := i) (by rw [List.getElem?_take, if_pos (by omega)]; exact hq))
      · cases hq
    · have e1 : posI (L.take j) b = i := by simp [posI, h1]
      have hi := (List.getElem?_eq_some_iff.1 h2).1
      rw [List.length_take] at hi
      rw [e1]
      refine pos_first (p := (b, u)) ?_ rfl ?_
      · rw [List.getElem?_take, if_pos (by omega)]
        rw [List.getElem?_take, if_pos (by omega)] at h2; exact h2
      · intro i' hi' q hq
        rw [List.getElem?_take, if_pos (by omega)] at hq
        exact h4 i' hi' q (by rw [List.getElem?_take, if_pos (by omega)]; exact hq)

/-- What an owned list of integers answers to a load. -/
theorem own_ints {w : World} {v : Value} {u : List Int} (h : Own w 3 1 v u.length (ints u)) : ∃ ao cap, v = .slice ao u.length cap ∧ ∀ (j : Nat) (n : Int), u[j]? = some n → ∃ g off, ao = some ⟨g, off, none⟩ ∧ w.cell? ⟨g, off + j, none⟩ = some (.int .i64 n) ∧ w.frozen? ⟨g, off + j, none⟩ = false := by
  obtain ⟨ao, cap, rfl, h1, h2⟩ := ints_get h
  refine ⟨ao, cap, rfl, fun j n hj => ?_⟩
  have hl := (List.getElem?_eq_some_iff.1 hj).1
  obtain ⟨g, off, rfl⟩ := h1 (by omega)
  exact ⟨g, off, rfl, h2 g off rfl j n hj, h.unfrozen _⟩

def births (L : Txns) : List Int := L.map (·.1)
def keeps (L : Txns) : List Int := L.map fun p => ksum p.2

def SumRel (w0 : World) (rb : Nat) (area : Int) (len : Nat) (bv kv i : Value) (wr : World) : Prop := ∃ k L, k ≤ len ∧ i = .int .i64 (k : Nat) ∧ SumAt w0 wr rb area L (births L) (keeps L) bv kv ∧ Wf L k
def PosRel (wA : World) (L : Txns) (b : Int) (p i : Value) (w : World) : Prop := ∃ n j, j ≤ L.length ∧ p = .int .i64 (posI (L.take j) b) ∧ i = .int .i64 (j : Nat) ∧ w = wA.drewN n
def SumMid (w0 : World) (rb : Nat) (area : Int) (L : Txns) (k ob : Nat) (os : Array Value) (bv kv e : Value) (w : World) : Prop := ∃ L' ev, e = .int .i64 ev ∧ (ev = 0 ∨ L' = L) ∧ SumOp w0 w rb area L' (births L') (keeps L') bv kv ob os ∧ Wf L' (k + 1)
def AddRel (wA : World) (L : Txns) (s i : Value) (w : World) : Prop := ∃ n j, j ≤ L.length ∧ s = .int .i64 (tot (L.take j)) ∧ i = .int .i64 (j : Nat) ∧ w = wA.drewN n

theorem keeps_mput {L : Txns} {i : Nat} {b : Int} {u u' : List Int} (h : L[i]? = some (b, u)) (hj : ∀ j, j < i → ∀ p : Int × List Int, L[j]? = some p → p.1 ≠ b) : births (mput L b u') = births L ∧ keeps (mput L b u') = (keeps L).set i (ksum u') := by
  rw [mput_set h hj]
  have hi := (List.getElem?_eq_some_iff.1 h).1
  refine ⟨?_, by simp [keeps, List.map_set]⟩
  unfold births
  rw [List.map_set]
  apply List.ext_getElem? 
  intro j
  rw [List.getElem?_set]
  by_cases e : i = j
  · subst e; rw [if_pos rfl, if_pos (by simpa using hi), List.getElem?_map, h]; rfl
  · rw [if_neg e]
theorem keeps_mdel {L : Txns} {i : Nat} {b : Int} {u : List Int} (h : L[i]? = some (b, u)) (hj : ∀ j, j < i → ∀ p : Int × List Int, L[j]? = some p → p.1 ≠ b) :
    births (mdel L b) = (births L).take i ++ (births L).drop (i + 1) ∧ keeps (mdel L b) = (keeps L).take i ++ (keeps L).drop (i + 1) := by
  rw [mdel_take h hj]; simp [births, keeps, List.map_take, List.map_drop]
theorem births_len (L : Txns) : (births L).length = L.length := by simp [births]
theorem keeps_len (L : Txns) : (keeps L).length = L.length := by simp [keeps]
theorem of_get {L : Txns} (hd : (L.map (·.1)).Nodup) {j : Nat} {p : Int × List Int} (hp : L[j]? = some p) : rOf L p.1 = ksum p.2 := by
  rcases pos_spec L p.1 with ⟨_, _, h3⟩ | ⟨i, u, _, h2, h3, _⟩
  · exact (h3 p (List.mem_of_getElem? hp) rfl).elim
  · have hjl := (List.getElem?_eq_some_iff.1 hp).1
    have hil := (List.getElem?_eq_some_iff.1 h2).1
    have e1 : (L.map (·.1))[i]? = some p.1 := by rw [List.getElem?_map, h2]; simp
    have e2 : (L.map (·.1))[j]? = some p.1 := by rw [List.getElem?_map, hp]; simp
    have := (List.getElem?_inj (by simpa using hil) hd).1 (e1.trans e2.symm)
    subst this
    rw [hp] at h2
    have h4 := Option.some.inj h2
    rw [rOf, h3, h4]

section
variable {w0 w w' : World} {rb : Nat} {area : Int} {L : Txns} {B K : List Int} {bv kv : Value} {ob : Nat} {os : Array Value}
theorem SumOp.shape (h : SumOp w0 w rb area L B K bv kv ob os) : ∃ bao bcap kao kcap, bv = .slice bao B.length bcap ∧ kv = .slice kao K.length kcap := by
  obtain ⟨bao, bcap, h1, _⟩ := own_ints h.ownB
  obtain ⟨kao, kcap, h2, _⟩ := own_ints h.ownK
  exact ⟨bao, bcap, kao, kcap, h1, h2⟩
theorem SumOp.birthAt {bao : Option Addr} {n bcap : Nat} (h : SumOp w0 w rb area L B K (.slice bao n bcap) kv ob os) {j : Nat} {v : Int} (hj : B[j]? = some v) : ∃ g off, bao = some ⟨g, off, none⟩ ∧ w.cell? ⟨g, off + j, none⟩ = some (.int .i64 v) := by
  obtain ⟨bao', bcap', h1, h2⟩ := own_ints h.ownB
  obtain ⟨rfl, rfl, rfl⟩ : bao = bao' ∧ n = B.length ∧ bcap = bcap' := by simpa using h1
  obtain ⟨g, off, q1, q2, q3⟩ := h2 j v hj
  exact ⟨g, off, q1, q2⟩
theorem SumOp.keptAt {kao : Option Addr} {n kcap : Nat} (h : SumOp w0 w rb area L B K bv (.slice kao n kcap) ob os) {j : Nat} {v : Int} (hj : K[j]? = some v) : ∃ g off, kao = some ⟨g, off, none⟩ ∧ w.cell? ⟨g, off + j, none⟩ = some (.int .i64 v) ∧ w.frozen? ⟨g, off + j, none⟩ = false := by
  obtain ⟨bao', bcap', h1, h2⟩ := own_ints h.ownK
  obtain ⟨rfl, rfl, rfl⟩ : kao = bao' ∧ n = K.length ∧ kcap = bcap' := by simpa using h1
  exact h2 j v hj
theorem SumOp.storeK {g off n cap : Nat} (h : SumOp w0 w rb area L B K bv (.slice (some ⟨g, off, none⟩) n cap) ob os) (hn : K.length = n) (i : Nat) (v : Int) :
    SumOp w0 (w.setCell ⟨g, off + i, none⟩ (.int .i64 v)) rb area L B (K.set i v) bv (.slice (some ⟨g, off, none⟩) n cap) ob os := by
  subst hn
  have ho := h.ownK.set i (.int .i64 v)
  have e : (ints K).set i (.int .i64 v) = ints (K.set i v) := by simp [ints, List.map_set]
  rw [e] at ho
  exact h.setK (by rw [List.length_set]; exact ho) ((Off.refl _ w).setCell (.inl (by simp [blk])) _) (fun x hx => .inl hx)
theorem own_cuts {v : Value} {N : Nat} (h : Own w 3 1 v N (ints B)) (hN : B.length = N) (i : Nat) (hi : i < N) : ∃ ao1 cap1 ao2 cap2, Own w 3 1 (.slice ao1 i cap1) i (ints (B.take i)) ∧ Own w 3 1 (.slice ao2 (N - (i + 1)) cap2) (N - (i + 1)) (ints (B.drop (i + 1))) ∧
    blk (.slice ao1 i cap1) = blk v ∧ blk (.slice ao2 (N - (i + 1)) cap2) = blk v ∧ (∀ (W : World) (j : Int), j = i → (Instr.slice 51 v none (some (.int .i64 j)) none).run Try.prog W = .ok (.slice ao1 i cap1) W) ∧
    (∀ (W : World) (j : Int), j = ((i + 1 : Nat) : Int) → (Instr.slice 51 v (some (.int .i64 j)) none none).run Try.prog W = .ok (.slice ao2 (N - (i + 1)) cap2) W) := by
  obtain ⟨ao1, cap1, ho1, hb1, f1, z1, f1'⟩ := h.cut (t := 51) Try.underlying51 size3 0 i (by omega) (by omega)
  obtain ⟨ao2, cap2, ho2, hb2, z2, f2, z3⟩ := h.cut (t := 51) Try.underlying51 size3 (i + 1) N (by omega) (by omega)
  have g1 := f1' rfl
  have g2 := f2 rfl
  rw [Nat.sub_zero, Nat.mul_one, Nat.zero_mul, List.drop_zero] at ho1
  rw [Nat.sub_zero] at g1 hb1
  rw [Nat.mul_one, Nat.mul_one, List.take_of_length_le (by simp [ints, hN])] at ho2
  have e1 : List.take i (ints B) = ints (B.take i) := by simp [ints]
  have e2 : List.drop (i + 1) (ints B) = ints (B.drop (i + 1)) := by simp [ints]
  rw [e1] at ho1
  rw [e2] at ho2
  exact ⟨ao1, cap1, ao2, cap2, ho1, ho2, hb1, hb2, g1, g2⟩
theorem cut_own {v : Value} {N : Nat} (hN : B.length = N) {i : Nat} (hi : i < N) (h : Own w 3 1 v (i + (N - (i + 1))) (ints (B.take i) ++ ints (B.drop (i + 1)))) : Own w 3 1 v (B.take i ++ B.drop (i + 1)).length (ints (B.take i ++ B.drop (i + 1))) := by
  have e : (B.take i ++ B.drop (i + 1)).length = i + (N - (i + 1)) := by rw [List.length_append, List.length_take, List.length_drop, hN, Nat.min_eq_left (by omega)]
  rw [e]
  simpa [ints] using h
theorem app_own {v : Value} {N : Nat} {b : Int} (hN : B.length = N) (h : Own w 3 1 v (N + 1) (ints B ++ [.int .i64 b])) : Own w 3 1 v (B ++ [b]).length (ints (B ++ [b])) := by
  have e : (B ++ [b]).length = N + 1 := by simp [hN]
  rw [e]
  simpa [ints] using h
end
theorem keeps_get {L : Txns} {i : Nat} {p : Int × List Int} (h : L[i]? = some p) : (births L)[i]? = some p.1 ∧ (keeps L)[i]? = some (ksum p.2) := by simp [births, keeps, h]
theorem own_at {w : World} {v : Value} {B : List Int} {N : Nat} (hN : B.length = N) (h : Own w 3 1 v B.length (ints B)) : Own w 3 1 v N (ints B) := hN ▸ h
theorem wf_up {L : Txns} {n : Nat} (h : Wf L n) (hs : n + 1 < 4398046511104) : Wf L (n + 1) := ⟨h.births, h.good, Nat.le_succ_of_le h.cnt, hs⟩
theorem quiet_plus {P : Program} {f : FuncId} {args : Array Value} {w : World} {n x : Nat} {v : Value}
    (h : Calls P f args (w.drewN (n + x)) fun e w' => e = .returned v ∧ w.drewN (n + x) = w') : Calls P f args (w.drewN (n + x)) fun e w'' => e = .returned v ∧ ∃ m, w'' = w.drewN (n + m) :=
  h.mono fun _ _ ⟨he, hm⟩ => ⟨he, x, hm.symm⟩
end Go.Proofs.Ytlhmcbcoaplcaaa
