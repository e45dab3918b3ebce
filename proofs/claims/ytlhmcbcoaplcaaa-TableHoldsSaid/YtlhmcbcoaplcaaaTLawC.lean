/- The two tables beside one another: plainly. -/
import Derived.Test.YtlhmcbcoaplcaaaTLawB
set_option linter.unusedVariables false
set_option linter.unusedSimpArgs false
namespace Go.Proofs.Ytlhmcbcoaplcaaa
open Go.ChangeShapes Go.WideShapes Go.ChangeAt Go.RowKit

def BirthsOne (L : List Rw) : Prop := ∀ a ∈ L, ∀ b ∈ L, a.birth = b.birth → a = b
theorem TInv.one {most : Nat} {L : List Rw} {I : List (Int × Int)} (h : TInv most L I) : BirthsOne L := fun _ ha _ hb e => h.births ha hb e
theorem getL_perm {L M : List Rw} (h : L.Perm M) (hu : BirthsOne L) (x : Int) : getL L x = getL M x :=
  find_perm h (fun a ha b hb pa pb => hu a ha b hb (by simp at pa pb; rw [pa, pb]))
theorem idL_perm {most : Nat} {L M : List Rw} {I : List (Int × Int)} (h : L.Perm M) (hu : TInv most L I) (x : Int) : idL L x = idL M x :=
  find_perm h (fun a ha b hb pa pb => hu.ids ha hb (by simp at pa pb; rw [pa, pb]))
theorem putCode_perm {most : Nat} {L M : List Rw} (h : L.Perm M) (r : Rw) : putCode most L r = putCode most M r := by
  unfold putCode
  rw [map_has h, map_has h, h.length_eq]
theorem setCode_perm {L M : List Rw} (h : L.Perm M) (hu : BirthsOne L) (r : Rw) : setCode L r = setCode M r := by
  unfold setCode
  rw [getL_perm h hu]
theorem put_perm {most : Nat} {L M : List Rw} (h : L.Perm M) (r : Rw) : (putL most L r).Perm (putM most M r) := by
  unfold putL putM
  rw [putCode_perm h]
  split
  · refine (insB_perm _ _ _).trans ((List.Perm.cons r h).trans ?_)
    exact (List.perm_append_comm (l₁ := [r]) (l₂ := M))
  · exact h
theorem take_drop_perm (M : List Rw) (i : Nat) (a r : Rw) (hi : M[i]? = some a) : M.Perm (a :: (M.take i ++ M.drop (i + 1))) ∧ (M.set i r).Perm (r :: (M.take i ++ M.drop (i + 1))) := by
  obtain ⟨hl, rfl⟩ := List.getElem?_eq_some_iff.1 hi
  constructor
  · have e : M = M.take i ++ (M[i] :: M.drop (i + 1)) := by rw [List.getElem_cons_drop, List.take_append_drop]
    exact (List.Perm.of_eq e).trans List.perm_middle
  · rw [List.set_eq_take_append_cons_drop, if_pos hl]; exact List.perm_middle
theorem set_perm {most : Nat} {L M M' : List Rw} {I : List (Int × Int)} (h : L.Perm M) (hu : TInv most L I) (r : Rw) (hs : SetM M r M') : (setL L r).Perm M' := by
  unfold setL
  rcases hs with ⟨h1, rfl⟩ | ⟨h1, i, a, h2, h3, rfl⟩
  · rw [if_neg (by rw [setCode_perm h hu.one]; exact h1)]; exact h
  · have hc : setCode L r = 0 := by rw [setCode_perm h hu.one]; exact h1
    rw [if_pos hc]
    obtain ⟨_, o, g1, g2⟩ := setCode_zero hc
    obtain ⟨g3, g4⟩ := getL_pos hu.srt _ g1
    obtain ⟨p1, p2⟩ := take_drop_perm M i a r h2
    have hoa : o = a := hu.births (List.mem_of_getElem? g3) (h.mem_iff.2 (List.mem_of_getElem? h2)) (by rw [g4, h3])
    subst hoa
    have q1 : L.Perm (o :: (L.take (pos Rw.birth L r.birth) ++ L.drop (pos Rw.birth L r.birth + 1))) := by
      have e := split_at Rw.birth L r.birth g3
      exact (List.Perm.of_eq e).trans List.perm_middle
    have q2 := (List.perm_cons _).1 ((q1.symm.trans h).trans p1)
    unfold setB
    exact List.perm_middle.trans ((List.Perm.cons r q2).trans p2.symm)
theorem drop_perm {most : Nat} {L M M' : List Rw} {I : List (Int × Int)} (h : L.Perm M) (hu : TInv most L I) (x : Int) (hs : DropM M x M') : (dropL L x).Perm M' := by
  unfold dropL
  rcases hs with ⟨h1, rfl⟩ | ⟨i, a, h2, h3, h4, rfl⟩
  · rw [if_neg]
    · exact h
    · rw [← getL_isSome, getL_perm h hu.one, h1]; simp
  · have hg : getL L x = some a := by rw [getL_perm h hu.one, h4]
    have hs : (L.map Rw.birth).contains x = true := by rw [← getL_isSome, hg]; rfl
    rw [if_pos hs]
    obtain ⟨g3, g4⟩ := getL_pos hu.srt _ hg
    obtain ⟨p1, p2⟩ := take_drop_perm M i a a h2
    have e := split_at Rw.birth L x g3
    have q1 : L.Perm (a :: delB Rw.birth L x) := (List.Perm.of_eq e).trans List.perm_middle
    exact (List.perm_cons _).1 ((q1.symm.trans h).trans p1)

theorem TabP.inv {w : World} {tb : Nat} {fp : List Nat} {most : Nat} {L : List Rw} (h : TabP w tb fp most L) : ∃ I, TInv most L I := by
  obtain ⟨_, _, _, _, I, _, h2, _⟩ := h; exact ⟨I, h2⟩

/-- The program's table and the document's, with the same rows, and nothing in common. -/
def TwoP (w : World) (pb qb : Nat) (f : List Nat) (most : Nat) : Prop :=
  ∃ fp fq L M, TabP w pb fp most L ∧ DocP w qb fq most M ∧ L.Perm M ∧ (∀ x ∈ fp, x ∉ fq) ∧ f = fp ++ fq
def TwoStep (pb qb : Nat) (f : List Nat) (most : Nat) (w w' : World) : Prop :=
  ∃ f', TwoP w' pb qb f' most ∧ Off f w w' ∧ ∀ x ∈ f', x ∈ f ∨ w.heap.size ≤ x
theorem TwoP.off {w w' : World} {pb qb : Nat} {f S : List Nat} {most : Nat} (h : TwoP w pb qb f most) (ho : Off S w w') (hd : ∀ x ∈ f, x ∉ S) : TwoP w' pb qb f most := by
  obtain ⟨fp, fq, L, M, h1, h2, h3, h4, rfl⟩ := h
  exact ⟨fp, fq, L, M, h1.off ho (fun x hx => hd x (by simp [hx])), h2.off ho (fun x hx => hd x (by simp [hx])), h3, h4, rfl⟩
theorem TwoP.lt {w : World} {pb qb : Nat} {f : List Nat} {most : Nat} (h : TwoP w pb qb f most) : ∀ x ∈ f, x < w.heap.size := by
  obtain ⟨fp, fq, L, M, h1, h2, h3, h4, rfl⟩ := h
  intro x hx
  rcases List.mem_append.1 hx with q | q
  · exact h1.lt x q
  · exact h2.lt x q
theorem TwoP.same {w w' : World} {pb qb : Nat} {f : List Nat} {most : Nat} (h : TwoP w pb qb f most) (ho : Off [] w w') : TwoStep pb qb f most w w' :=
  ⟨f, h.off ho (by simp), ho.mono (by simp), fun x hx => .inl hx⟩
theorem TwoStep.ends {pb qb : Nat} {f : List Nat} {most : Nat} {w w1 w2 w3 : World} (o1 : Off [] w w1) (h : TwoStep pb qb f most w1 w2) (o3 : Off [] w2 w3) : TwoStep pb qb f most w w3 := by
  obtain ⟨fp', h1, h2, h3⟩ := h
  have := o1.size
  refine ⟨fp', h1.off o3 (by simp), ((o1.mono (by simp)).trans h2 (fun x hx => .inl hx)).trans o3 (by simp), fun x hx => ?_⟩
  rcases h3 x hx with q | q
  · exact .inl q
  · exact .inr (by omega)
/-- The program's call, then the document's. -/
theorem two_ab {pb qb : Nat} {fp fq : List Nat} {most : Nat} {L M L' M' : List Rw} {w w1 w2 : World} (hp : TabP w pb fp most L) (hq : DocP w qb fq most M) (hd : ∀ x ∈ fp, x ∉ fq) (hperm : L'.Perm M')
    (h1 : TabStep pb fp most L' w w1) (h2 : DocStep qb fq most M' w1 w2) : TwoStep pb qb (fp ++ fq) most w w2 := by
  obtain ⟨fp', a1, a2, a3⟩ := h1
  obtain ⟨fq', b1, b2, b3⟩ := h2
  have hs := a2.size
  have hlt1 := a1.lt
  have hqlt := hq.lt
  have hdd : ∀ x ∈ fp', x ∉ fq := fun x hx hx' => by
    rcases a3 x hx with q | q
    · exact hd x q hx'
    · have := hqlt x hx'; omega
  refine ⟨fp' ++ fq', ⟨fp', fq', L', M', a1.off b2 hdd, b1, hperm, fun x hx hx' => ?_, rfl⟩, ?_, fun x hx => ?_⟩
  · rcases b3 x hx' with q | q
    · exact hdd x hx q
    · have := hlt1 x hx; omega
  · exact (a2.mono (fun x hx => .inl (by simp [hx]))).trans b2 (fun x hx => .inl (by simp [hx]))
  · rcases List.mem_append.1 hx with hx | hx
    · rcases a3 x hx with q | q
      · exact .inl (by simp [q])
      · exact .inr q
    · rcases b3 x hx with q | q
      · exact .inl (by simp [q])
      · exact .inr (by omega)
/-- The document's call, then the program's. -/
theorem two_ba {pb qb : Nat} {fp fq : List Nat} {most : Nat} {L M L' M' : List Rw} {w w1 w2 : World} (hp : TabP w pb fp most L) (hq : DocP w qb fq most M) (hd : ∀ x ∈ fp, x ∉ fq) (hperm : L'.Perm M')
    (h1 : DocStep qb fq most M' w w1) (h2 : TabStep pb fp most L' w1 w2) : TwoStep pb qb (fp ++ fq) most w w2 := by
  obtain ⟨fq', a1, a2, a3⟩ := h1
  obtain ⟨fp', b1, b2, b3⟩ := h2
  have hs := a2.size
  have hlt1 := a1.lt
  have hplt := hp.lt
  have hdd : ∀ x ∈ fq', x ∉ fp := fun x hx hx' => by
    rcases a3 x hx with q | q
    · exact hd x hx' q
    · have := hplt x hx'; omega
  refine ⟨fp' ++ fq', ⟨fp', fq', L', M', b1, a1.off b2 hdd, hperm, fun x hx hx' => ?_, rfl⟩, ?_, fun x hx => ?_⟩
  · rcases b3 x hx with q | q
    · exact hdd x hx' q
    · have := hlt1 x hx'; omega
  · exact (a2.mono (fun x hx => .inl (by simp [hx]))).trans b2 (fun x hx => .inl (by simp [hx]))
  · rcases List.mem_append.1 hx with hx | hx
    · rcases b3 x hx with q | q
      · exact .inl (by simp [q])
      · exact .inr (by omega)
    · rcases a3 x hx with q | q
      · exact .inl (by simp [q])
      · exact .inr q
end Go.Proofs.Ytlhmcbcoaplcaaa
