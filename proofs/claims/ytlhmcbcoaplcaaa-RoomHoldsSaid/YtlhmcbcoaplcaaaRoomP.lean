/- The program's Room in memory (RoomP) over a plain model: a list of births, each with its updates; the contracts of its methods. -/
import Derived.Test.YtlhmcbcoaplcaaaA1
import Derived.Test.YtlhmcbcoaplcaaaMap
namespace Go.Proofs.Ytlhmcbcoaplcaaa
open Go.ChangeShapes Go.WideShapes Go.ChangeAt Go.RowKit
open Go.ChangeMaps (setBlock)

abbrev Txns := List (Int × List Int)
def ksum : List Int → Int
  | [] => 99
  | n :: l => (46 + n) + ksum l
def tot : Txns → Int
  | [] => 0
  | p :: L => ksum p.2 + tot L
def good (u : List Int) : Prop := ∀ n ∈ u, 1 ≤ n ∧ n ≤ 65535
def big : Int := 4611686018427387904
theorem big_eq : big = 4611686018427387904 := rfl

theorem ksum_snoc (u : List Int) (n : Int) : ksum (u ++ [n]) = ksum u + (46 + n) := by
  induction u with
  | nil => simp [ksum]; omega
  | cons a u ih => simp only [List.cons_append, ksum, ih]; omega
theorem ksum_erase (u : List Int) (n : Int) (h : n ∈ u) : ksum (u.erase n) = ksum u - (46 + n) := by
  induction u with
  | nil => simp at h
  | cons a u ih =>
    by_cases e : a = n
    · subst e; simp [ksum]; omega
    · have : n ∈ u := by simpa [Ne.symm e] using h
      rw [List.erase_cons_tail (by simpa using e)]
      simp only [ksum, ih this]; omega
theorem ksum_pos (u : List Int) (h : good u) : 99 ≤ ksum u := by
  induction u with
  | nil => simp [ksum]
  | cons a u ih =>
    have h1 := h a (by simp)
    have := ih (fun n hn => h n (by simp [hn]))
    simp only [ksum]; omega
theorem tot_append (A B : Txns) : tot (A ++ B) = tot A + tot B := by
  induction A with
  | nil => simp [tot]
  | cons p A ih => simp only [List.cons_append, tot, ih]; omega
theorem tot_nonneg (L : Txns) (h : ∀ p ∈ L, good p.2) : 0 ≤ tot L := by
  induction L with
  | nil => simp [tot]
  | cons p L ih =>
    have h1 := ksum_pos p.2 (h p (by simp))
    have := ih (fun q hq => h q (by simp [hq]))
    simp only [tot]; omega

/-! The plain model. -/
def rBegin (L : Txns) (b : Int) : Int × Txns := match mget L b with | some _ => (160, L) | none => (0, L ++ [(b, [])])
def rUpdate (L : Txns) (b n : Int) : Int × Txns := match mget L b with | none => (160, L) | some u => if n < 1 ∨ 65535 < n then (30, L) else (0, mput L b (u ++ [n]))
def rUndone (L : Txns) (b n : Int) : Int × Txns := match mget L b with | none => (160, L) | some u => if n ∈ u then (0, mput L b (u.erase n)) else (30, L)
def rDrop (L : Txns) (b : Int) : Int × Txns := match mget L b with | none => (160, L) | some _ => (0, mdel L b)
def rOf (L : Txns) (b : Int) : Int := match mget L b with | none => 0 | some u => ksum u
def rFits (area k used more keep : Int) : Bool :=
  !(decide (used < 0) || decide (more < 0) || decide (keep < 0)) && !(decide (area < k) || decide (area - k < used) || decide (area - k - used < more) || decide (area - k - used - more < keep))

structure Kp where
  birth : Int
  kb : Nat
  um : Nat
  ups : List Int

def KeptAt (w : World) (k : Kp) : Prop :=
  IsC w k.kb #[.int .i64 (ksum k.ups), .map (some k.um)] 93 ∧
  ∃ ues uclk ul, IsM w k.um ues uclk ∧ Ent ues ul ∧ ∀ n : Int, (mget ul n).getD (.int .i64 0) = .int .i64 ((k.ups.count n : Nat) : Int)

def kpPair (k : Kp) : Int × Value := (k.birth, .pointer (some ⟨k.kb, 0, none⟩))
def kpFoot (ks : List Kp) : List Nat := ks.flatMap fun k => [k.kb, k.um]

structure RoomAt (w : World) (rb m : Nat) (area : Int) (L : Txns) (es : Array MapEntry) (clk : Nat) (ks : List Kp) : Prop where
  nodup : (rb :: m :: kpFoot ks).Nodup
  head : IsC w rb #[.int .i64 area, .int .i64 (tot L), .map (some m)] 88
  map : IsM w m es clk
  ent : Ent es (ks.map kpPair)
  list : ks.map (fun k => (k.birth, k.ups)) = L
  births : (L.map (·.1)).Nodup
  kept : ∀ k ∈ ks, KeptAt w k
  good : ∀ p ∈ L, good p.2

def RoomP (w : World) (rb : Nat) (fp : List Nat) (area : Int) (L : Txns) : Prop :=
  ∃ m es clk ks, fp = rb :: m :: kpFoot ks ∧ RoomAt w rb m area L es clk ks

theorem KeptAt.off {S : List Nat} {w w' : World} {k : Kp} (h : KeptAt w k) (ho : Off S w w') (h1 : k.kb ∉ S) (h2 : k.um ∉ S) : KeptAt w' k := by
  obtain ⟨a, ues, uclk, ul, b, c⟩ := h
  exact ⟨a.off ho h1, ues, uclk, ul, b.off ho h2, c⟩
theorem mem_kpFoot {ks : List Kp} {x : Nat} : x ∈ kpFoot ks ↔ ∃ k ∈ ks, x = k.kb ∨ x = k.um := by
  simp [kpFoot]
theorem RoomP.off {S fp : List Nat} {w w' : World} {rb : Nat} {area : Int} {L : Txns} (h : RoomP w rb fp area L) (ho : Off S w w') (hS : ∀ x ∈ fp, x ∉ S) : RoomP w' rb fp area L := by
  obtain ⟨m, es, clk, ks, rfl, ⟨a1, a2, a3, a4, a5, a6, a7, a8⟩⟩ := h
  refine ⟨m, es, clk, ks, rfl, ⟨a1, a2.off ho (hS _ (by simp)), a3.off ho (hS _ (by simp)), a4, a5, a6, fun k hk => (a7 k hk).off ho (hS _ ?_) (hS _ ?_), a8⟩⟩
  · simp only [List.mem_cons]; exact .inr (.inr (mem_kpFoot.2 ⟨k, hk, .inl rfl⟩))
  · simp only [List.mem_cons]; exact .inr (.inr (mem_kpFoot.2 ⟨k, hk, .inr rfl⟩))
theorem RoomP.lt {fp : List Nat} {w : World} {rb : Nat} {area : Int} {L : Txns} (h : RoomP w rb fp area L) : ∀ x ∈ fp, x < w.heap.size := by
  obtain ⟨m, es, clk, ks, rfl, ⟨a1, a2, a3, a4, a5, a6, a7, a8⟩⟩ := h
  intro x hx
  simp only [List.mem_cons] at hx
  rcases hx with rfl | rfl | hx
  · exact a2.lt
  · exact a3.lt
  · obtain ⟨k, hk, rfl | rfl⟩ := mem_kpFoot.1 hx
    · exact (a7 k hk).1.lt
    · obtain ⟨_, _, _, _, b, _⟩ := a7 k hk; exact b.lt
end Go.Proofs.Ytlhmcbcoaplcaaa
