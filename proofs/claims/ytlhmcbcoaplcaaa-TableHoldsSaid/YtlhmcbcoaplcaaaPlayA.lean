/- played: what holds ahead of each round. -/
import Derived.Test.YtlhmcbcoaplcaaaTLawG
set_option linter.unusedVariables false
set_option linter.unusedSimpArgs false
namespace Go.Proofs.Ytlhmcbcoaplcaaa
open Go.ChangeShapes Go.WideShapes Go.ChangeAt Go.RowKit

def upd (r x : Rw) : Rw := if x.birth = r.birth then r else x
def keepB (there : Bool) (n : Int) (x : Rw) : Bool := !there || decide (x.birth ≠ n)
theorem pos_parts (L : List Rw) (x : Int) (hs : L.Pairwise (fun a b => a.birth < b.birth)) {o : Rw} (ho : L[pos Rw.birth L x]? = some o) (hx : o.birth = x) :
    (∀ a ∈ L.take (pos Rw.birth L x), a.birth < x) ∧ ∀ a ∈ L.drop (pos Rw.birth L x + 1), x < a.birth := by
  have e := split_at Rw.birth L x ho
  obtain ⟨h1, _⟩ := pos_split Rw.birth L x hs
  refine ⟨h1, fun a ha => ?_⟩
  have q := hs
  rw [e] at q
  have q2 := (List.pairwise_cons.1 (List.pairwise_append.1 q).2.1).1 a ha
  omega
theorem upd_setB (L : List Rw) (r : Rw) (hs : L.Pairwise (fun a b => a.birth < b.birth)) {o : Rw} (ho : L[pos Rw.birth L r.birth]? = some o) (hx : o.birth = r.birth) : L.map (upd r) = setB Rw.birth L r := by
  obtain ⟨h1, h2⟩ := pos_parts L r.birth hs ho hx
  have e := split_at Rw.birth L r.birth ho
  conv => lhs; rw [e]
  rw [List.map_append, List.map_cons]
  have a1 : (L.take (pos Rw.birth L r.birth)).map (upd r) = L.take (pos Rw.birth L r.birth) := by
    conv => rhs; rw [← List.map_id (L.take (pos Rw.birth L r.birth))]
    apply List.map_congr_left
    intro a ha
    have := h1 a ha
    unfold upd; rw [if_neg (by omega)]; rfl
  have a2 : (L.drop (pos Rw.birth L r.birth + 1)).map (upd r) = L.drop (pos Rw.birth L r.birth + 1) := by
    conv => rhs; rw [← List.map_id (L.drop (pos Rw.birth L r.birth + 1))]
    apply List.map_congr_left
    intro a ha
    have := h2 a ha
    unfold upd; rw [if_neg (by omega)]; rfl
  rw [a1, a2]
  have a3 : upd r o = r := by unfold upd; rw [if_pos hx]
  rw [a3]; rfl
theorem filter_delB (L : List Rw) (x : Int) (hs : L.Pairwise (fun a b => a.birth < b.birth)) {o : Rw} (ho : L[pos Rw.birth L x]? = some o) (hx : o.birth = x) : L.filter (keepB true x) = delB Rw.birth L x := by
  obtain ⟨h1, h2⟩ := pos_parts L x hs ho hx
  have e := split_at Rw.birth L x ho
  conv => lhs; rw [e]
  rw [List.filter_append, List.filter_cons]
  have a1 : (L.take (pos Rw.birth L x)).filter (keepB true x) = L.take (pos Rw.birth L x) := by
    rw [List.filter_eq_self]
    intro a ha
    have := h1 a ha
    simp [keepB]; omega
  have a2 : (L.drop (pos Rw.birth L x + 1)).filter (keepB true x) = L.drop (pos Rw.birth L x + 1) := by
    rw [List.filter_eq_self]
    intro a ha
    have := h2 a ha
    simp [keepB]; omega
  rw [a1, a2]
  have a3 : keepB true x o = false := by simp [keepB, hx]
  rw [a3]; rfl
theorem set_perm_upd {most : Nat} {L M : List Rw} {I : List (Int × Int)} (h : L.Perm M) (hu : TInv most L I) (r : Rw) (hc : setCode L r = 0) : (setL L r).Perm (M.map (upd r)) := by
  unfold setL
  rw [if_pos hc]
  obtain ⟨_, o, g1, g2⟩ := setCode_zero hc
  obtain ⟨g3, g4⟩ := getL_pos hu.srt _ g1
  rw [← upd_setB L r hu.srt g3 g4]
  exact h.map _
theorem drop_perm_keep {most : Nat} {L M : List Rw} {I : List (Int × Int)} (h : L.Perm M) (hu : TInv most L I) (x : Int) : (dropL L x).Perm (M.filter (keepB (getL L x).isSome x)) := by
  unfold dropL
  cases hg : getL L x with
  | none =>
    rw [if_neg]
    · have : M.filter (keepB false x) = M := List.filter_eq_self.2 (fun a _ => rfl)
      show L.Perm (M.filter (keepB false x))
      rw [this]; exact h
    · rw [← getL_isSome, hg]; simp
  | some o =>
    have hs : (L.map Rw.birth).contains x = true := by rw [← getL_isSome, hg]; rfl
    rw [if_pos hs]
    obtain ⟨g3, g4⟩ := getL_pos hu.srt _ hg
    rw [← filter_delB L x hu.srt g3 g4]
    exact h.filter _

/-- A table and the list of its rows as they were put, both made within the call. -/
def PlayRel (w : World) (tb most : Nat) (lv : Value) (M : List Rw) (wr : World) : Prop :=
  ∃ fp L, TabP wr tb fp most L ∧ Own wr 70 5 lv M.length (rows M) ∧ L.Perm M ∧ Off [] w wr ∧ (∀ z ∈ fp, w.heap.size ≤ z ∧ z ∉ blk lv) ∧ ∀ z ∈ blk lv, w.heap.size ≤ z
theorem PlayRel.off {w wr w' : World} {tb most : Nat} {lv : Value} {M : List Rw} (h : PlayRel w tb most lv M wr) (ho : Off [] wr w') : PlayRel w tb most lv M w' := by
  obtain ⟨fp, L, h1, h2, h3, h4, h5, h6⟩ := h
  exact ⟨fp, L, h1.off ho (by simp), h2.off ho (by simp), h3, h4.trans ho (by simp), h5, h6⟩
theorem PlayRel.offs {w wr : World} {tb most : Nat} {lv : Value} {M : List Rw} (h : PlayRel w tb most lv M wr) : Off [] w wr := by obtain ⟨_, _, _, _, _, h, _⟩ := h; exact h
theorem PlayRel.own {w wr : World} {tb most : Nat} {lv : Value} {M : List Rw} (h : PlayRel w tb most lv M wr) : Own wr 70 5 lv M.length (rows M) := by obtain ⟨_, _, _, h, _⟩ := h; exact h
theorem PlayRel.short {w wr : World} {tb most : Nat} {lv : Value} {M : List Rw} (h : PlayRel w tb most lv M wr) : M.length ≤ 8 := by
  obtain ⟨_, _, h1, _, h3, _⟩ := h
  have := h1.births.2.2.1; have := h3.length_eq; omega
/-- The list has become another slice; the table is as it was. -/
theorem PlayRel.turn {w wr w' : World} {tb most : Nat} {lv lv' : Value} {M M' : List Rw} {S : List Nat} (h : PlayRel w tb most lv M wr) (ho : Off S wr w') (hS : ∀ z ∈ S, z ∈ blk lv ∨ wr.heap.size ≤ z) (hown : Own w' 70 5 lv' M'.length (rows M')) (hp : M.Perm M')
    (hb : ∀ z ∈ blk lv', z ∈ blk lv ∨ wr.heap.size ≤ z) : PlayRel w tb most lv' M' w' := by
  obtain ⟨fp, L, h1, h2, h3, h4, h5, h6⟩ := h
  have hs := h4.size
  have hlt := h1.lt
  refine ⟨fp, L, h1.off ho (fun z hz hz' => ?_), hown, h3.trans hp, h4.trans ho (fun z hz => .inr ?_), fun z hz => ⟨(h5 z hz).1, fun hz' => ?_⟩, fun z hz => ?_⟩
  · rcases hS z hz' with q | q
    · exact (h5 z hz).2 q
    · have := hlt z hz; omega
  · rcases hS z hz with q | q
    · exact h6 z q
    · omega
  · rcases hb z hz' with q | q
    · exact (h5 z hz).2 q
    · have := hlt z hz; omega
  · rcases hb z hz with q | q
    · exact h6 z q
    · omega
/-- The table has changed; the list is as it was. -/
def MidPlay (w : World) (tb most : Nat) (lv : Value) (M : List Rw) (L' : List Rw) (wr : World) : Prop :=
  ∃ fp, TabP wr tb fp most L' ∧ Own wr 70 5 lv M.length (rows M) ∧ Off [] w wr ∧ (∀ z ∈ fp, w.heap.size ≤ z ∧ z ∉ blk lv) ∧ ∀ z ∈ blk lv, w.heap.size ≤ z
theorem mid_play {w wr W w' : World} {tb most : Nat} {lv : Value} {M L L' : List Rw} {fp : List Nat} (h1 : TabP wr tb fp most L) (h2 : Own wr 70 5 lv M.length (rows M)) (h4 : Off [] w wr) (h5 : ∀ z ∈ fp, w.heap.size ≤ z ∧ z ∉ blk lv) (h6 : ∀ z ∈ blk lv, w.heap.size ≤ z)
    (ho : Off [] wr W) (hs : TabStep tb fp most L' W w') : MidPlay w tb most lv M L' w' := by
  obtain ⟨fp', q1, q2, q3⟩ := hs
  have e1 := h4.size; have e2 := ho.size
  have hl := h2.lt
  refine ⟨fp', q1, (h2.off ho (by simp)).off q2 (fun z hz hz' => (h5 z hz').2 hz), (h4.trans ho (by simp)).trans q2 (fun z hz => .inr (h5 z hz).1), fun z hz => ?_, h6⟩
  rcases q3 z hz with q | q
  · exact h5 z q
  · exact ⟨by omega, fun hz' => by have := hl z hz'; omega⟩
theorem MidPlay.done {w wr : World} {tb most : Nat} {lv : Value} {M L' : List Rw} (h : MidPlay w tb most lv M L' wr) (hp : L'.Perm M) : PlayRel w tb most lv M wr := by
  obtain ⟨fp, h1, h2, h3, h4, h5⟩ := h
  exact ⟨fp, L', h1, h2, hp, h3, h4, h5⟩
theorem MidPlay.turn {w wr w' : World} {tb most : Nat} {lv lv' : Value} {M M' L' : List Rw} {S : List Nat} (h : MidPlay w tb most lv M L' wr) (ho : Off S wr w') (hS : ∀ z ∈ S, z ∈ blk lv ∨ wr.heap.size ≤ z) (hown : Own w' 70 5 lv' M'.length (rows M'))
    (hb : ∀ z ∈ blk lv', z ∈ blk lv ∨ wr.heap.size ≤ z) : MidPlay w tb most lv' M' L' w' := by
  obtain ⟨fp, h1, h2, h4, h5, h6⟩ := h
  have hs := h4.size
  have hlt := h1.lt
  refine ⟨fp, h1.off ho (fun z hz hz' => ?_), hown, h4.trans ho (fun z hz => .inr ?_), fun z hz => ⟨(h5 z hz).1, fun hz' => ?_⟩, fun z hz => ?_⟩
  · rcases hS z hz' with q | q
    · exact (h5 z hz).2 q
    · have := hlt z hz; omega
  · rcases hS z hz with q | q
    · exact h6 z q
    · omega
  · rcases hb z hz' with q | q
    · exact (h5 z hz).2 q
    · have := hlt z hz; omega
  · rcases hb z hz with q | q
    · exact h6 z q
    · omega
theorem MidPlay.off {w wr w' : World} {tb most : Nat} {lv : Value} {M L' : List Rw} (h : MidPlay w tb most lv M L' wr) (ho : Off [] wr w') : MidPlay w tb most lv M L' w' := by
  obtain ⟨fp, h1, h2, h4, h5, h6⟩ := h
  exact ⟨fp, h1.off ho (by simp), h2.off ho (by simp), h4.trans ho (by simp), h5, h6⟩
theorem MidPlay.own {w wr : World} {tb most : Nat} {lv : Value} {M L' : List Rw} (h : MidPlay w tb most lv M L' wr) : Own wr 70 5 lv M.length (rows M) := by obtain ⟨_, _, h, _⟩ := h; exact h
theorem MidPlay.offs {w wr : World} {tb most : Nat} {lv : Value} {M L' : List Rw} (h : MidPlay w tb most lv M L' wr) : Off [] w wr := by obtain ⟨_, _, _, h, _⟩ := h; exact h

section
variable {w wr : World} {tb most : Nat} {lv : Value} {M : List Rw}
/-- A block that was made behind the table: it stays. -/
abbrev Stays (wr W w' : World) : Prop := ∀ b cs T, wr.heap.size ≤ b → IsC W b cs T → IsC w' b cs T
theorem PlayRel.put (h : PlayRel w tb most lv M wr) (r : Rw) (W : World) (ho : Off [] wr W) :
    Calls Try.prog 40 #[.pointer (some ⟨tb, 0, none⟩), ragg r] W fun e w' => Stays wr W w' ∧ ∃ code : Int, e = .returned (.int .i64 code) ∧ (code ≠ 0 → PlayRel w tb most lv M w') ∧ (code = 0 → ∃ L', MidPlay w tb most lv M L' w' ∧ L'.Perm (M ++ [r]) ∧ M.length < 8) := by
  obtain ⟨fp, L, h1, h2, h3, h4, h5, h6⟩ := h
  have hlt := h1.lt
  refine (put40 (h1.off ho (by simp)) r).mono ?_
  rintro e w' ⟨rfl, hs⟩
  have hm := mid_play h1 h2 h4 h5 h6 ho hs
  refine ⟨fun b cs T hb hc => hc.off hs.offs (fun hx => by have := hlt b hx; omega), putCode most L r, rfl, fun hc => ?_, fun hc => ⟨putL most L r, hm, ?_, ?_⟩⟩
  · have e : putL most L r = L := by unfold putL; rw [if_neg hc]
    rw [e] at hm
    exact hm.done h3
  · have q := put_perm (most := most) h3 r
    unfold putM at q
    rw [if_pos (by rw [← putCode_perm h3]; exact hc)] at q
    exact q
  · obtain ⟨_, _, _, q⟩ := putCode_zero hc
    have := h1.births.2.2.1; have := h3.length_eq
    have hi := h1.inv
    obtain ⟨I, hi⟩ := hi
    have := hi.small
    omega
theorem PlayRel.set (h : PlayRel w tb most lv M wr) (r : Rw) (W : World) (ho : Off [] wr W) :
    Calls Try.prog 51 #[.pointer (some ⟨tb, 0, none⟩), ragg r] W fun e w' => Stays wr W w' ∧ ∃ code : Int, e = .returned (.int .i64 code) ∧ ∃ L', MidPlay w tb most lv M L' w' ∧ (code ≠ 0 → L'.Perm M) ∧ (code = 0 → L'.Perm (M.map (upd r))) := by
  obtain ⟨fp, L, h1, h2, h3, h4, h5, h6⟩ := h
  have hlt := h1.lt
  obtain ⟨I, hi⟩ := h1.inv
  refine (set51 (h1.off ho (by simp)) r).mono ?_
  rintro e w' ⟨rfl, hs⟩
  have hm := mid_play h1 h2 h4 h5 h6 ho hs
  refine ⟨fun b cs T hb hc => hc.off hs.offs (fun hx => by have := hlt b hx; omega), setCode L r, rfl, setL L r, hm, fun hc => ?_, fun hc => set_perm_upd h3 hi r hc⟩
  have e : setL L r = L := by unfold setL; rw [if_neg hc]
  rw [e]; exact h3
theorem PlayRel.drop (h : PlayRel w tb most lv M wr) (x : Int) (W : World) (ho : Off [] wr W) :
    Calls Try.prog 42 #[.pointer (some ⟨tb, 0, none⟩), .int .i64 x] W fun e w' => Stays wr W w' ∧ ∃ (r : Rw) (there : Bool), e = .returned (.tuple #[ragg r, .bool there]) ∧ ∃ L', MidPlay w tb most lv M L' w' ∧ L'.Perm (M.filter (keepB there x)) := by
  obtain ⟨fp, L, h1, h2, h3, h4, h5, h6⟩ := h
  have hlt := h1.lt
  obtain ⟨I, hi⟩ := h1.inv
  refine (drop42 (h1.off ho (by simp)) x).mono ?_
  rintro e w' ⟨rfl, hs⟩
  have hm := mid_play h1 h2 h4 h5 h6 ho hs
  exact ⟨fun b cs T hb hc => hc.off hs.offs (fun hx => by have := hlt b hx; omega), _, _, rfl, dropL L x, hm, drop_perm_keep h3 hi x⟩
end

/-- How many rows a table is made for. -/
theorem into_lt (m : Int) : 0 ≤ m % 8 ∧ m % 8 < 8 := ⟨Int.emod_nonneg _ (by decide), Int.emod_lt_of_pos _ (by decide)⟩
set_option maxHeartbeats 1000000 in
theorem into37 (m : Int) (w : World) (hm : InI64 m) : Calls Try.prog 37 #[.int .i64 m, .int .i64 8] w fun e w' => e = .returned (.int .i64 (m % 8)) ∧ w = w' := by
  obtain ⟨hm1, hm2⟩ := hm
  have ht0 : Int.tmod m 8 = m % 8 ∨ (m < 0 ∧ Int.tmod m 8 = -((-m) % 8)) := by
    by_cases h : 0 ≤ m
    · exact .inl (Int.tmod_eq_emod_of_nonneg h)
    · refine .inr ⟨by omega, ?_⟩
      have q := Int.neg_tmod (-m) 8
      rw [Int.neg_neg] at q
      rw [q, Int.tmod_eq_emod_of_nonneg (show 0 ≤ -m by omega)]
  have ht : Int.tmod m 8 = m % 8 ∨ (Int.tmod m 8 < 0 ∧ Int.tmod m 8 + 8 = m % 8) := by
    rcases ht0 with h | ⟨h, h'⟩
    · exact .inl h
    · rw [h']; omega
  have hb1 : -8 < Int.tmod m 8 := by omega
  have hb2 : Int.tmod m 8 < 8 := by omega
  clear ht0
  have hn := (into_lt m).1
  go_enter Try.func37, Try.ntmps37
  go_wp2
  all_goals
    go_ret
    refine ⟨ret_int ?_, rfl⟩
    omega
end Go.Proofs.Ytlhmcbcoaplcaaa
