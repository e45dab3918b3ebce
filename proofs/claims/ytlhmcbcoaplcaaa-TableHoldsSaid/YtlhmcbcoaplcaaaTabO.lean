/- The table as the program holds it: what its words mean; the plain calls. -/
import Derived.Test.YtlhmcbcoaplcaaaTabN
set_option linter.unusedVariables false
set_option linter.unusedSimpArgs false
namespace Go.Proofs.Ytlhmcbcoaplcaaa
open Go.ChangeShapes Go.WideShapes Go.ChangeAt Go.RowKit

def putCode (most : Nat) (L : List Rw) (r : Rw) : Int :=
  if rightR r = false then 30 else if ((L.map Rw.birth).contains r.birth || (L.map Rw.id).contains r.id) = true then 160 else if most ≤ L.length then 161 else 0
def getL (L : List Rw) (x : Int) : Option Rw := L.find? (fun a => a.birth == x)
def idL (L : List Rw) (x : Int) : Option Rw := L.find? (fun a => a.id == x)
def setCode (L : List Rw) (r : Rw) : Int :=
  if rightR r = false then 30 else if (getL L r.birth).isSome = false then 160 else if ((getL L r.birth).getD Rw.zero).id ≠ r.id then 160 else 0
def putL (most : Nat) (L : List Rw) (r : Rw) : List Rw := if putCode most L r = 0 then insB Rw.birth L r else L
def setL (L : List Rw) (r : Rw) : List Rw := if setCode L r = 0 then setB Rw.birth L r else L
def dropL (L : List Rw) (x : Int) : List Rw := if (L.map Rw.birth).contains x = true then delB Rw.birth L x else L

/-- What is true of the rows and the pairs. -/
structure TInv (most : Nat) (L : List Rw) (I : List (Int × Int)) : Prop where
  small : most ≤ 8
  len : L.length ≤ most
  srt : L.Pairwise (fun a b => a.birth < b.birth)
  isrt : I.Pairwise (fun a b => a.1 < b.1)
  same : (L.map fun r => (r.id, r.birth)).Perm I
  right : ∀ r ∈ L, rightR r = true

section
variable {most : Nat} {L : List Rw} {I : List (Int × Int)}
theorem TInv.ilen (h : TInv most L I) : I.length = L.length := by have := h.same.length_eq; rw [List.length_map] at this; exact this.symm
theorem TInv.mem (h : TInv most L I) {i b : Int} : (i, b) ∈ I ↔ ∃ r ∈ L, r.id = i ∧ r.birth = b := by
  rw [← h.same.mem_iff, List.mem_map]
  constructor
  · rintro ⟨r, hr, e⟩; exact ⟨r, hr, by simpa using e⟩
  · rintro ⟨r, hr, e1, e2⟩; exact ⟨r, hr, by rw [e1, e2]⟩
theorem srt_inj {α : Type} {f : α → Int} {l : List α} (hs : l.Pairwise (fun a b => f a < f b)) {a b : α} (ha : a ∈ l) (hb : b ∈ l) (e : f a = f b) : a = b := by
  induction l with
  | nil => simp at ha
  | cons c l ih =>
    obtain ⟨h1, h2⟩ := List.pairwise_cons.1 hs
    rcases List.mem_cons.1 ha with rfl | ha' <;> rcases List.mem_cons.1 hb with rfl | hb'
    · rfl
    · have := h1 b hb'; omega
    · have := h1 a ha'; omega
    · exact ih h2 ha' hb'
theorem TInv.births (h : TInv most L I) {a b : Rw} (ha : a ∈ L) (hb : b ∈ L) (e : a.birth = b.birth) : a = b := srt_inj h.srt ha hb e
theorem TInv.ids (h : TInv most L I) {a b : Rw} (ha : a ∈ L) (hb : b ∈ L) (e : a.id = b.id) : a = b := by
  have h1 := h.mem.2 ⟨a, ha, rfl, rfl⟩
  have h2 := h.mem.2 ⟨b, hb, rfl, rfl⟩
  have := srt_inj (f := Prod.fst) h.isrt h1 h2 (by simpa using e)
  exact h.births ha hb (by simpa using congrArg Prod.snd this)
theorem TInv.idHas (h : TInv most L I) (x : Int) : (I.map Prod.fst).contains x = (L.map Rw.id).contains x := by
  rw [Bool.eq_iff_iff]
  simp only [List.contains_iff_mem, List.mem_map]
  constructor
  · rintro ⟨⟨i, b⟩, hm, rfl⟩
    obtain ⟨r, hr, e, _⟩ := h.mem.1 hm
    exact ⟨r, hr, e⟩
  · rintro ⟨r, hr, rfl⟩
    exact ⟨(r.id, r.birth), h.mem.2 ⟨r, hr, rfl, rfl⟩, rfl⟩
theorem getL_isSome (L : List Rw) (x : Int) : (getL L x).isSome = (L.map Rw.birth).contains x := by
  rw [Bool.eq_iff_iff]; simp [getL]
theorem idL_isSome (L : List Rw) (x : Int) : (idL L x).isSome = (L.map Rw.id).contains x := by
  rw [Bool.eq_iff_iff]; simp [idL]
/-- Both searches, one behind the other. -/
theorem TInv.byId (h : TInv most L I) (x : Int) : (look (I.map Prod.fst) (I.map Prod.snd) x).bind (getL L) = idL L x ∧ (look (I.map Prod.fst) (I.map Prod.snd) x).isSome = (idL L x).isSome := by
  rw [look_find Prod.fst Prod.snd I x h.isrt]
  cases e : I.find? (fun a => a.1 == x) with
  | none =>
    have : idL L x = none := by
      unfold idL
      rw [List.find?_eq_none] at e ⊢
      intro r hr q
      exact e (r.id, r.birth) (h.mem.2 ⟨r, hr, rfl, rfl⟩) q
    rw [this]; exact ⟨rfl, rfl⟩
  | some p =>
    obtain ⟨i, b⟩ := p
    have hm := List.mem_of_find?_eq_some e
    have hx : i = x := by simpa using List.find?_some e
    obtain ⟨r, hr, e1, e2⟩ := h.mem.1 hm
    have q1 : idL L x = some r := find_unique hr (by simp [e1, hx]) (fun b hb hb' => h.ids hb hr (by rw [e1, hx]; simpa using hb'))
    have q2 : getL L b = some r := find_unique hr (by simp [e2]) (fun c hc hc' => h.births hc hr (by rw [e2]; simpa using hc'))
    rw [q1]
    exact ⟨by simpa using q2, rfl⟩
theorem map_has {α : Type} {f : α → Int} {l m : List α} (h : l.Perm m) (x : Int) : (l.map f).contains x = (m.map f).contains x := by
  rw [Bool.eq_iff_iff]
  simp only [List.contains_iff_mem]
  exact (h.map f).mem_iff
theorem putCode_zero {r : Rw} (h : putCode most L r = 0) : rightR r = true ∧ (L.map Rw.birth).contains r.birth = false ∧ (L.map Rw.id).contains r.id = false ∧ L.length < most := by
  unfold putCode at h
  cases h1 : rightR r <;> rw [h1] at h
  · simp at h
  · rw [if_neg (by simp)] at h
    cases h2 : (L.map Rw.birth).contains r.birth <;> rw [h2] at h
    · cases h3 : (L.map Rw.id).contains r.id <;> rw [h3] at h
      · rw [if_neg (by simp)] at h
        by_cases h4 : most ≤ L.length
        · rw [if_pos h4] at h; simp at h
        · exact ⟨rfl, rfl, rfl, by omega⟩
      · simp at h
    · simp at h
theorem TInv.put (h : TInv most L I) {r : Rw} (hc : putCode most L r = 0) : TInv most (insB Rw.birth L r) (insB Prod.fst I (r.id, r.birth)) := by
  obtain ⟨h1, h2, h3, h4⟩ := putCode_zero hc
  refine ⟨h.small, by rw [insB_len]; omega, insB_sorted _ _ _ h.srt h2, insB_sorted _ _ _ h.isrt (by rw [h.idHas]; exact h3), ?_, fun a ha => ?_⟩
  · refine ((insB_perm Rw.birth L r).map _).trans (List.Perm.trans ?_ (insB_perm Prod.fst I (r.id, r.birth)).symm)
    exact List.Perm.cons _ h.same
  · rcases List.mem_cons.1 ((insB_perm Rw.birth L r).mem_iff.1 ha) with rfl | q
    · exact h1
    · exact h.right a q
theorem getL_pos (h : L.Pairwise (fun a b => a.birth < b.birth)) (x : Int) {r : Rw} (hr : getL L x = some r) : L[pos Rw.birth L x]? = some r ∧ r.birth = x := by
  have hs : (L.map Rw.birth).contains x = true := by rw [← getL_isSome, hr]; rfl
  obtain ⟨a, ha, e⟩ := has_pos Rw.birth L x h hs
  have : getL L x = some a := find_unique (List.mem_of_getElem? ha) (by simp [e]) (fun b hb hb' => srt_inj h hb (List.mem_of_getElem? ha) (by rw [e]; simpa using hb'))
  rw [hr] at this
  injection this with this
  subst this
  exact ⟨ha, e⟩
theorem setCode_zero {r : Rw} (h : setCode L r = 0) : rightR r = true ∧ ∃ o, getL L r.birth = some o ∧ o.id = r.id := by
  unfold setCode at h
  cases h1 : rightR r <;> rw [h1] at h
  · simp at h
  · rw [if_neg (by simp)] at h
    cases h2 : getL L r.birth <;> rw [h2] at h
    · simp at h
    · rw [if_neg (by simp)] at h
      rename_i o
      by_cases h3 : o.id = r.id
      · exact ⟨rfl, o, rfl, h3⟩
      · rw [if_pos (by simpa using h3)] at h; simp at h
theorem TInv.set (h : TInv most L I) {r : Rw} (hc : setCode L r = 0) : TInv most (setB Rw.birth L r) I := by
  obtain ⟨h1, o, h2, h3⟩ := setCode_zero hc
  obtain ⟨h4, h5⟩ := getL_pos h.srt _ h2
  have hs : (L.map Rw.birth).contains r.birth = true := by rw [← getL_isSome, h2]; rfl
  have e1 := setB_map Rw.birth Rw.birth L r o h4 h5
  have e2 := setB_map (fun r => (r.id, r.birth)) Rw.birth L r o h4 (by rw [h3, h5])
  refine ⟨h.small, by rw [setB_len _ _ _ hs]; exact h.len, ?_, h.isrt, by rw [e2]; exact h.same, fun a ha => ?_⟩
  · have q : (L.map Rw.birth).Pairwise (· < ·) := List.pairwise_map.2 h.srt
    rw [← e1] at q
    exact List.pairwise_map.1 q
  · rcases List.mem_append.1 ha with q | q
    · exact h.right a (List.mem_of_mem_take q)
    · rcases List.mem_cons.1 q with rfl | q
      · exact h1
      · exact h.right a (List.mem_of_mem_drop q)
theorem TInv.drop (h : TInv most L I) {x : Int} {r : Rw} (hr : getL L x = some r) : TInv most (delB Rw.birth L x) (delB Prod.fst I r.id) := by
  obtain ⟨h4, h5⟩ := getL_pos h.srt _ hr
  have hs : (L.map Rw.birth).contains x = true := by rw [← getL_isSome, hr]; rfl
  have hm : r ∈ L := List.mem_of_getElem? h4
  have hi : (I.map Prod.fst).contains r.id = true := by rw [h.idHas]; simpa using ⟨r, hm, rfl⟩
  obtain ⟨a, e1, p1⟩ := delB_perm Rw.birth L x h.srt hs
  obtain rfl : a = r := h.births (p1.mem_iff.2 List.mem_cons_self) hm (by rw [e1, h5])
  obtain ⟨p, e2, p2⟩ := delB_perm Prod.fst I a.id h.isrt hi
  obtain rfl : p = (a.id, a.birth) := srt_inj (f := Prod.fst) h.isrt (p2.mem_iff.2 List.mem_cons_self) (h.mem.2 ⟨a, hm, rfl, rfl⟩) e2
  refine ⟨h.small, by rw [delB_len _ _ _ hs]; have := h.len; omega, delB_sorted _ _ _ h.srt, delB_sorted _ _ _ h.isrt, ?_, fun b hb => h.right b (p1.mem_iff.2 (List.mem_cons_of_mem _ hb))⟩
  have q := ((p1.map fun r => (r.id, r.birth)).symm.trans h.same).trans p2
  exact (List.perm_cons _).1 q
end

/-- The Table's block and its four slices. -/
structure TabW (w : World) (tb : Nat) (m : Int) (k1 v1 k2 v2 : Value) (n1 n2 : Nat) (a1 b1 a2 b2 : List Value) : Prop where
  o1 : Ord w tb 1 #[.int .i64 m, k1, v1, k2, v2] 102 70 5 k1 v1 n1 a1 b1
  o2 : Ord w tb 3 #[.int .i64 m, k1, v1, k2, v2] 102 3 1 k2 v2 n2 a2 b2
  d : ∀ x ∈ blk k1 ++ blk v1, x ∉ blk k2 ++ blk v2

section
variable {w w' : World} {tb : Nat} {m : Int} {k1 v1 k2 v2 : Value} {n1 n2 n1' n2' : Nat} {a1 b1 a2 b2 a1' b1' a2' b2' : List Value}
theorem TabW.off {S : List Nat} (h : TabW w tb m k1 v1 k2 v2 n1 n2 a1 b1 a2 b2) (ho : Off S w w') (hd : ∀ x ∈ tb :: (blk k1 ++ blk v1 ++ (blk k2 ++ blk v2)), x ∉ S) : TabW w' tb m k1 v1 k2 v2 n1 n2 a1 b1 a2 b2 :=
  ⟨h.o1.off ho (hd _ (by simp)) (fun x hx => hd x (by simp [hx])) (fun x hx => hd x (by simp [hx])), h.o2.off ho (hd _ (by simp)) (fun x hx => hd x (by simp [hx])) (fun x hx => hd x (by simp [hx])), h.d⟩
theorem TabW.lt (h : TabW w tb m k1 v1 k2 v2 n1 n2 a1 b1 a2 b2) : ∀ x ∈ tb :: (blk k1 ++ blk v1 ++ (blk k2 ++ blk v2)), x < w.heap.size := by
  intro x hx
  simp only [List.mem_cons, List.mem_append] at hx
  rcases hx with rfl | (hx | hx) | hx | hx
  · exact h.o1.blkC.lt
  · exact h.o1.keys.lt x hx
  · exact h.o1.vals.lt x hx
  · exact h.o2.keys.lt x hx
  · exact h.o2.vals.lt x hx
theorem TabW.step1 (h : TabW w tb m k1 v1 k2 v2 n1 n2 a1 b1 a2 b2) (hs : OrdStep w tb 1 #[.int .i64 m, k1, v1, k2, v2] 102 70 5 k1 v1 n1' a1' b1' w') :
    ∃ k v, TabW w' tb m k v k2 v2 n1' n2 a1' b1' a2 b2 ∧ Off (tb :: (blk k1 ++ blk v1 ++ (blk k2 ++ blk v2))) w w' ∧ ∀ x ∈ blk k ++ blk v, x ∈ blk k1 ++ blk v1 ∨ w.heap.size ≤ x := by
  obtain ⟨k, v, q1, q2, q3, q4⟩ := hs
  have hk : ∀ x ∈ blk k2, x ∉ tb :: (blk k1 ++ blk v1) := fun x hx hx' => by
    rcases List.mem_cons.1 hx' with rfl | hx'
    · exact h.o2.tk hx
    · exact h.d x hx' (by simp [hx])
  have hv : ∀ x ∈ blk v2, x ∉ tb :: (blk k1 ++ blk v1) := fun x hx hx' => by
    rcases List.mem_cons.1 hx' with rfl | hx'
    · exact h.o2.tv hx
    · exact h.d x hx' (by simp [hx])
  have hn : ∀ x ∈ blk k ++ blk v, x ∈ blk k1 ++ blk v1 ∨ w.heap.size ≤ x := fun x hx => by
    rcases List.mem_append.1 hx with hx | hx
    · rcases q3 x hx with e | e
      · exact .inl (by simp [e])
      · exact .inr e
    · rcases q4 x hx with e | e
      · exact .inl (by simp [e])
      · exact .inr e
  refine ⟨k, v, ⟨q1, ⟨q1.blkC, rfl, rfl, h.o2.keys.off q2 hk, h.o2.vals.off q2 hv, h.o2.tk, h.o2.tv, h.o2.kvd⟩, fun x hx hx' => ?_⟩, q2.mono (fun x hx => .inl ?_), hn⟩
  · rcases hn x hx with e | e
    · exact h.d x e hx'
    · have := h.lt x (by rcases List.mem_append.1 hx' with q | q <;> simp [q]); omega
  · simp only [List.mem_cons, List.mem_append] at hx ⊢
    rcases hx with e | e | e <;> simp [e]
theorem TabW.step2 (h : TabW w tb m k1 v1 k2 v2 n1 n2 a1 b1 a2 b2) (hs : OrdStep w tb 3 #[.int .i64 m, k1, v1, k2, v2] 102 3 1 k2 v2 n2' a2' b2' w') :
    ∃ k v, TabW w' tb m k1 v1 k v n1 n2' a1 b1 a2' b2' ∧ Off (tb :: (blk k1 ++ blk v1 ++ (blk k2 ++ blk v2))) w w' ∧ ∀ x ∈ blk k ++ blk v, x ∈ blk k2 ++ blk v2 ∨ w.heap.size ≤ x := by
  obtain ⟨k, v, q1, q2, q3, q4⟩ := hs
  have hk : ∀ x ∈ blk k1, x ∉ tb :: (blk k2 ++ blk v2) := fun x hx hx' => by
    rcases List.mem_cons.1 hx' with rfl | hx'
    · exact h.o1.tk hx
    · exact h.d x (by simp [hx]) hx'
  have hv : ∀ x ∈ blk v1, x ∉ tb :: (blk k2 ++ blk v2) := fun x hx hx' => by
    rcases List.mem_cons.1 hx' with rfl | hx'
    · exact h.o1.tv hx
    · exact h.d x (by simp [hx]) hx'
  have hn : ∀ x ∈ blk k ++ blk v, x ∈ blk k2 ++ blk v2 ∨ w.heap.size ≤ x := fun x hx => by
    rcases List.mem_append.1 hx with hx | hx
    · rcases q3 x hx with e | e
      · exact .inl (by simp [e])
      · exact .inr e
    · rcases q4 x hx with e | e
      · exact .inl (by simp [e])
      · exact .inr e
  refine ⟨k, v, ⟨⟨q1.blkC, rfl, rfl, h.o1.keys.off q2 hk, h.o1.vals.off q2 hv, h.o1.tk, h.o1.tv, h.o1.kvd⟩, q1, fun x hx hx' => ?_⟩, q2.mono (fun x hx => .inl ?_), hn⟩
  · rcases hn x hx' with e | e
    · exact h.d x hx e
    · have := h.lt x (by rcases List.mem_append.1 hx with q | q <;> simp [q]); omega
  · simp only [List.mem_cons, List.mem_append] at hx ⊢
    rcases hx with e | e | e <;> simp [e]
end

/-- A table of the program's. -/
def TabP (w : World) (tb : Nat) (fp : List Nat) (most : Nat) (L : List Rw) : Prop :=
  ∃ k1 v1 k2 v2 I, TabW w tb most k1 v1 k2 v2 L.length I.length (zin (L.map Rw.birth)) (rows L) (zin (I.map Prod.fst)) (zin (I.map Prod.snd)) ∧ TInv most L I ∧ fp = tb :: (blk k1 ++ blk v1 ++ (blk k2 ++ blk v2))
/-- A call has been made of it. -/
def TabStep (tb : Nat) (fp : List Nat) (most : Nat) (L : List Rw) (w w' : World) : Prop :=
  ∃ fp', TabP w' tb fp' most L ∧ Off fp w w' ∧ ∀ x ∈ fp', x ∈ fp ∨ w.heap.size ≤ x
theorem TabP.off {w w' : World} {tb : Nat} {fp S : List Nat} {most : Nat} {L : List Rw} (h : TabP w tb fp most L) (ho : Off S w w') (hd : ∀ x ∈ fp, x ∉ S) : TabP w' tb fp most L := by
  obtain ⟨k1, v1, k2, v2, I, h1, h2, rfl⟩ := h
  exact ⟨k1, v1, k2, v2, I, h1.off ho hd, h2, rfl⟩
theorem TabP.lt {w : World} {tb : Nat} {fp : List Nat} {most : Nat} {L : List Rw} (h : TabP w tb fp most L) : ∀ x ∈ fp, x < w.heap.size := by
  obtain ⟨k1, v1, k2, v2, I, h1, h2, rfl⟩ := h
  exact h1.lt
theorem TabP.same {w w' : World} {tb : Nat} {fp : List Nat} {most : Nat} {L : List Rw} (h : TabP w tb fp most L) (ho : Off [] w w') : TabStep tb fp most L w w' :=
  ⟨fp, h.off ho (by simp), ho.mono (by simp), fun x hx => .inl hx⟩
end Go.Proofs.Ytlhmcbcoaplcaaa
