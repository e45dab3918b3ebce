/- Table: the two changes of a Put and of a Drop, joined. -/
import Derived.Test.YtlhmcbcoaplcaaaTabQ
set_option linter.unusedVariables false
set_option linter.unusedSimpArgs false
namespace Go.Proofs.Ytlhmcbcoaplcaaa
open Go.ChangeShapes Go.WideShapes Go.ChangeAt Go.RowKit

/-- Behind the change of the rows the ids' one is left. -/
def Mid (N : Nat) (args : Array Value) (tb : Nat) (fp : List Nat) (most : Nat) (L : List Rw) (w w2 : World) : Prop :=
  Off fp w w2 ∧ ∀ W, Off [] w2 W → Calls Try.prog N args W fun e w3 => e = .returned (.tuple #[]) ∧ TabStep tb fp most L w w3

theorem zin_one' (ks : List Int) : ∀ u ∈ zin ks, u.oneCell' = true := zin_one ks

theorem TabP.drop63 {w : World} {tb : Nat} {fp : List Nat} {most : Nat} {L : List Rw} (h : TabP w tb fp most L) (x : Int) (r : Rw) (hr : getL L x = some r) :
    Calls Try.prog 63 #[.pointer (some ⟨tb, 1, none⟩), .int .i64 x] w fun e w2 => e = .returned (.tuple #[]) ∧ Mid 64 #[.pointer (some ⟨tb, 3, none⟩), .int .i64 r.id] tb fp most (delB Rw.birth L x) w w2 := by
  obtain ⟨k1, v1, k2, v2, I, h1, h2, rfl⟩ := h
  have hl := h2.len; have hm := h2.small; have hi := h2.ilen
  have hs : (L.map Rw.birth).contains x = true := by rw [← getL_isSome, hr]; rfl
  have hmem : r ∈ L := List.mem_of_find?_eq_some hr
  have hid : (I.map Prod.fst).contains r.id = true := by rw [h2.idHas]; simpa using ⟨r, hmem, rfl⟩
  have q := Ytlhmcbcoaplcaaa.drop63 tb 1 _ 102 k1 v1 (L.map Rw.birth) (rows L) x w (by rw [List.length_map]; exact h1.o1) (rows_one L) (by rw [List.length_map]; omega) (List.pairwise_map.2 (h2.srt.imp (fun h => by omega)))
  refine q.mono ?_
  rintro e w2 ⟨rfl, ⟨hf, _⟩ | ⟨_, hst⟩⟩
  · rw [hs] at hf; cases hf
  rw [List.length_map, ← delB_map, ← rows_del] at hst
  obtain ⟨k, v, t1, o1, n1⟩ := h1.step1 hst
  refine ⟨rfl, o1, fun W ho => ?_⟩
  have t2 := t1.off ho (by simp)
  have q2 := Ytlhmcbcoaplcaaa.drop64 tb 3 _ 102 k2 v2 (I.map Prod.fst) (zin (I.map Prod.snd)) r.id W (by rw [List.length_map]; exact t2.o2) (zin_one _) (by rw [List.length_map]; omega) (List.pairwise_map.2 (h2.isrt.imp (fun h => by omega)))
  refine q2.mono ?_
  rintro e w3 ⟨rfl, ⟨hf, _⟩ | ⟨_, hst2⟩⟩
  · rw [hid] at hf; cases hf
  have e1 : (zin (I.map Prod.snd)).take ((I.map Prod.fst).countP (· < r.id) * 1) ++ (zin (I.map Prod.snd)).drop (((I.map Prod.fst).countP (· < r.id) + 1) * 1) = zin ((delB Prod.fst I r.id).map Prod.snd) := by
    rw [zin_cut]; simp [delB, pos, List.map_take, List.map_drop]
  rw [List.length_map, ← delB_map, e1] at hst2
  obtain ⟨k', v', t3, o3, n3⟩ := t2.step2 hst2
  have hinv := h2.drop hr
  refine ⟨rfl, tb :: (blk k ++ blk v ++ (blk k' ++ blk v')), ⟨k, v, k', v', delB Prod.fst I r.id, ?_, hinv, rfl⟩, ?_, ?_⟩
  · rw [delB_len _ _ _ hs, delB_len _ _ _ hid]; exact t3
  · have hsz := o1.size
    refine (o1.trans ho (by simp)).trans o3 (fun y hy => ?_)
    simp only [List.mem_cons, List.mem_append] at hy ⊢
    rcases hy with e | (e | e) | e | e
    · exact .inl (.inl e)
    · rcases n1 y (by simp [e]) with q | q
      · simp only [List.mem_append] at q; exact .inl (.inr (.inl q))
      · exact .inr q
    · rcases n1 y (by simp [e]) with q | q
      · simp only [List.mem_append] at q; exact .inl (.inr (.inl q))
      · exact .inr q
    · exact .inl (.inr (.inr (.inl e)))
    · exact .inl (.inr (.inr (.inr e)))
  · intro y hy
    have hsz := o1.size
    have hsz2 := ho.size
    simp only [List.mem_cons, List.mem_append] at hy ⊢
    rcases hy with e | (e | e) | e | e
    · exact .inl (.inl e)
    · rcases n1 y (by simp [e]) with q | q
      · simp only [List.mem_append] at q; exact .inl (.inr (.inl q))
      · exact .inr q
    · rcases n1 y (by simp [e]) with q | q
      · simp only [List.mem_append] at q; exact .inl (.inr (.inl q))
      · exact .inr q
    · rcases n3 y (by simp [e]) with q | q
      · simp only [List.mem_append] at q; exact .inl (.inr (.inr q))
      · exact .inr (by omega)
    · rcases n3 y (by simp [e]) with q | q
      · simp only [List.mem_append] at q; exact .inl (.inr (.inr q))
      · exact .inr (by omega)

theorem TabP.put61 {w : World} {tb : Nat} {fp : List Nat} {most : Nat} {L : List Rw} (h : TabP w tb fp most L) (r : Rw) (hc : putCode most L r = 0) :
    Calls Try.prog 61 #[.pointer (some ⟨tb, 1, none⟩), .int .i64 r.birth, ragg r] w fun e w2 => e = .returned (.tuple #[]) ∧ Mid 62 #[.pointer (some ⟨tb, 3, none⟩), .int .i64 r.id, .int .i64 r.birth] tb fp most (insB Rw.birth L r) w w2 := by
  obtain ⟨k1, v1, k2, v2, I, h1, h2, rfl⟩ := h
  have hl := h2.len; have hm := h2.small; have hi := h2.ilen
  obtain ⟨_, hs, hid', _⟩ := putCode_zero hc
  have hid : (I.map Prod.fst).contains r.id = false := by rw [h2.idHas]; exact hid'
  have q := put61_new tb 1 _ 102 k1 v1 (L.map Rw.birth) (rows L) r.birth r w (by rw [List.length_map]; exact h1.o1) (rows_one L) (by rw [List.length_map]; omega) (List.pairwise_map.2 (h2.srt.imp (fun h => by omega))) hs
  refine q.mono ?_
  rintro e w2 ⟨rfl, ⟨hf, _⟩ | ⟨_, hst⟩⟩
  · rw [hs] at hf; cases hf
  rw [List.length_map, ← insB_map, ← rows_ins] at hst
  obtain ⟨k, v, t1, o1, n1⟩ := h1.step1 hst
  refine ⟨rfl, o1, fun W ho => ?_⟩
  have t2 := t1.off ho (by simp)
  have q2 := Ytlhmcbcoaplcaaa.put62_new tb 3 _ 102 k2 v2 (I.map Prod.fst) (zin (I.map Prod.snd)) r.id r.birth W (by rw [List.length_map]; exact t2.o2) (zin_one _) (by rw [List.length_map]; omega) (List.pairwise_map.2 (h2.isrt.imp (fun h => by omega))) hid
  refine q2.mono ?_
  rintro e w3 ⟨rfl, ⟨hf, _⟩ | ⟨_, hst2⟩⟩
  · rw [hid] at hf; cases hf
  have e1 : (zin (I.map Prod.snd)).take ((I.map Prod.fst).countP (· < r.id) * 1) ++ ([.int .i64 r.birth] ++ (zin (I.map Prod.snd)).drop ((I.map Prod.fst).countP (· < r.id) * 1)) = zin ((insB Prod.fst I (r.id, r.birth)).map Prod.snd) := by
    rw [zin_ins]; simp [insB, pos, List.map_take, List.map_drop]
  have e2 := insB_map Prod.fst I (r.id, r.birth)
  rw [List.length_map, e1] at hst2
  simp only at e2
  rw [← e2] at hst2
  obtain ⟨k', v', t3, o3, n3⟩ := t2.step2 hst2
  have hinv := h2.put hc
  refine ⟨rfl, tb :: (blk k ++ blk v ++ (blk k' ++ blk v')), ⟨k, v, k', v', insB Prod.fst I (r.id, r.birth), ?_, hinv, rfl⟩, ?_, ?_⟩
  · rw [insB_len, insB_len]; exact t3
  · have hsz := o1.size
    refine (o1.trans ho (by simp)).trans o3 (fun y hy => ?_)
    simp only [List.mem_cons, List.mem_append] at hy ⊢
    rcases hy with e | (e | e) | e | e
    · exact .inl (.inl e)
    · rcases n1 y (by simp [e]) with q | q
      · simp only [List.mem_append] at q; exact .inl (.inr (.inl q))
      · exact .inr q
    · rcases n1 y (by simp [e]) with q | q
      · simp only [List.mem_append] at q; exact .inl (.inr (.inl q))
      · exact .inr q
    · exact .inl (.inr (.inr (.inl e)))
    · exact .inl (.inr (.inr (.inr e)))
  · intro y hy
    have hsz := o1.size
    have hsz2 := ho.size
    simp only [List.mem_cons, List.mem_append] at hy ⊢
    rcases hy with e | (e | e) | e | e
    · exact .inl (.inl e)
    · rcases n1 y (by simp [e]) with q | q
      · simp only [List.mem_append] at q; exact .inl (.inr (.inl q))
      · exact .inr q
    · rcases n1 y (by simp [e]) with q | q
      · simp only [List.mem_append] at q; exact .inl (.inr (.inl q))
      · exact .inr q
    · rcases n3 y (by simp [e]) with q | q
      · simp only [List.mem_append] at q; exact .inl (.inr (.inr q))
      · exact .inr (by omega)
    · rcases n3 y (by simp [e]) with q | q
      · simp only [List.mem_append] at q; exact .inl (.inr (.inr q))
      · exact .inr (by omega)

/-- A change of the rows alone: put of a birth that is there. -/
theorem TabP.put61_set {w : World} {tb : Nat} {fp : List Nat} {most : Nat} {L : List Rw} (h : TabP w tb fp most L) (r : Rw) (hc : setCode L r = 0) :
    Calls Try.prog 61 #[.pointer (some ⟨tb, 1, none⟩), .int .i64 r.birth, ragg r] w fun e w2 => e = .returned (.tuple #[]) ∧ TabStep tb fp most (setB Rw.birth L r) w w2 := by
  obtain ⟨k1, v1, k2, v2, I, h1, h2, rfl⟩ := h
  have hl := h2.len; have hm := h2.small; have hi := h2.ilen
  obtain ⟨_, o, hg, hoi⟩ := setCode_zero hc
  have hs : (L.map Rw.birth).contains r.birth = true := by rw [← getL_isSome, hg]; rfl
  obtain ⟨h4, h5⟩ := getL_pos h2.srt _ hg
  have q := put61_old tb 1 _ 102 k1 v1 (L.map Rw.birth) (rows L) r.birth r w (by rw [List.length_map]; exact h1.o1) (by rw [List.length_map]; omega) (List.pairwise_map.2 (h2.srt.imp (fun h => by omega))) hs
  refine q.mono ?_
  rintro e w2 ⟨rfl, ⟨_, hst, ho⟩ | ⟨hf, _⟩⟩
  rotate_left
  · rw [hs] at hf; cases hf
  rw [List.length_map, ← rows_set] at hst
  have hinv := h2.set hc
  refine ⟨rfl, _, ⟨k1, v1, k2, v2, I, ?_, hinv, rfl⟩, ho.mono (fun y hy => .inl (by simp [hy])), fun y hy => .inl hy⟩
  rw [setB_len _ _ _ hs, setB_map Rw.birth Rw.birth L r o h4 h5]
  refine ⟨hst, h1.o2.off ho h1.o1.tv (fun y hy hy' => h1.d y (by simp [hy']) (by simp [hy])) (fun y hy hy' => h1.d y (by simp [hy']) (by simp [hy])), h1.d⟩
end Go.Proofs.Ytlhmcbcoaplcaaa
