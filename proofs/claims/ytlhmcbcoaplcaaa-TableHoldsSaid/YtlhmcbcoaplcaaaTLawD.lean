/- Pair.step: its two calls. -/
import Derived.Test.YtlhmcbcoaplcaaaTLawC
set_option linter.unusedVariables false
set_option linter.unusedSimpArgs false
namespace Go.Proofs.Ytlhmcbcoaplcaaa
open Go.ChangeShapes Go.WideShapes Go.ChangeAt Go.RowKit

def OpA (pb : Nat) (fp : List Nat) (most : Nat) (L : List Rw) (N : Nat) (args : Array Value) (a : Value) (LA : List Rw) : Prop :=
  ∀ W, TabP W pb fp most L → Calls Try.prog N args W fun e w' => e = .returned a ∧ TabStep pb fp most LA W w'
def OpB (qb : Nat) (fq : List Nat) (most : Nat) (M : List Rw) (N : Nat) (args : Array Value) (b : Value) (LA : List Rw) : Prop :=
  ∀ W, DocP W qb fq most M → Calls Try.prog N args W fun e w' => e = .returned b ∧ ∃ M', LA.Perm M' ∧ DocStep qb fq most M' W w'
/-- One call, and behind it the other's contract. -/
def Then2 (w : World) (pb qb : Nat) (f : List Nat) (most : Nat) (a : Value) (NB : Nat) (argsB : Array Value) (b : Value) (W0 : World) (e : Ending) (w1 : World) : Prop :=
  e = .returned a ∧ Off f W0 w1 ∧ ∀ W, Off [] w1 W → Calls Try.prog NB argsB W fun e w2 => e = .returned b ∧ Off f W w2 ∧ TwoStep pb qb f most w w2

section
variable {w : World} {pb qb : Nat} {fp fq : List Nat} {most : Nat} {L M LA : List Rw} {NA NB : Nat} {argsA argsB : Array Value} {a b : Value}
theorem join_ab (hA : OpA pb fp most L NA argsA a LA) (hB : OpB qb fq most M NB argsB b LA) (hp : TabP w pb fp most L) (hq : DocP w qb fq most M) (hd : ∀ x ∈ fp, x ∉ fq) (W0 : World) (ho0 : Off [] w W0) :
    Calls Try.prog NA argsA W0 (Then2 w pb qb (fp ++ fq) most a NB argsB b W0) := by
  have hp0 := hp.off ho0 (by simp)
  have hq0 := hq.off ho0 (by simp)
  refine (hA W0 hp0).mono ?_
  rintro e w1 ⟨rfl, hs⟩
  refine ⟨rfl, hs.offs.mono (fun x hx => .inl (by simp [hx])), fun W ho => ?_⟩
  have hqW := (hq0.off hs.offs (fun x hx hx' => hd x hx' hx)).off ho (by simp)
  refine (hB W hqW).mono ?_
  rintro e w2 ⟨rfl, M', hpm, hds⟩
  refine ⟨rfl, hds.offs.mono (fun x hx => .inl (by simp [hx])), TwoStep.ends ho0 (two_ab hp0 hq0 hd hpm (TabStep.ends (Off.refl _ _) hs ho) hds) (Off.refl _ _)⟩
theorem join_ba (hA : OpA pb fp most L NA argsA a LA) (hB : OpB qb fq most M NB argsB b LA) (hp : TabP w pb fp most L) (hq : DocP w qb fq most M) (hd : ∀ x ∈ fp, x ∉ fq) (W0 : World) (ho0 : Off [] w W0) :
    Calls Try.prog NB argsB W0 (Then2 w pb qb (fp ++ fq) most b NA argsA a W0) := by
  have hp0 := hp.off ho0 (by simp)
  have hq0 := hq.off ho0 (by simp)
  refine (hB W0 hq0).mono ?_
  rintro e w1 ⟨rfl, M', hpm, hs⟩
  refine ⟨rfl, hs.offs.mono (fun x hx => .inl (by simp [hx])), fun W ho => ?_⟩
  have hpW := (hp0.off hs.offs (fun x hx hx' => hd x hx hx')).off ho (by simp)
  refine (hA W hpW).mono ?_
  rintro e w2 ⟨rfl, hds⟩
  refine ⟨rfl, hds.offs.mono (fun x hx => .inl (by simp [hx])), TwoStep.ends ho0 (two_ba hp0 hq0 hd hpm (DocStep.ends (Off.refl _ _) hs ho) hds) (Off.refl _ _)⟩

theorem opA_put (r : Rw) : OpA pb fp most L 40 #[.pointer (some ⟨pb, 0, none⟩), ragg r] (.int .i64 (putCode most L r)) (putL most L r) := fun W h => put40 h r
theorem opB_put (hm : most ≤ 8) (hl : L.length ≤ most) (hp : L.Perm M) (r : Rw) : OpB qb fq most M 50 #[.pointer (some ⟨qb, 0, none⟩), ragg r] (.int .i64 (putCode most L r)) (putL most L r) := fun W h => by
  refine (putD50 h (by rw [← hp.length_eq]; exact hl) hm r).mono ?_
  rintro e w' ⟨rfl, hs⟩
  exact ⟨by rw [putCode_perm hp], _, put_perm hp r, hs⟩
theorem opA_set (r : Rw) : OpA pb fp most L 51 #[.pointer (some ⟨pb, 0, none⟩), ragg r] (.int .i64 (setCode L r)) (setL L r) := fun W h => set51 h r
theorem opB_set {I : List (Int × Int)} (hi : TInv most L I) (hp : L.Perm M) (r : Rw) : OpB qb fq most M 52 #[.pointer (some ⟨qb, 0, none⟩), ragg r] (.int .i64 (setCode L r)) (setL L r) := fun W h => by
  have hl := hi.len; have hm := hi.small; have he := hp.length_eq
  refine (setD52 h (by omega) r).mono ?_
  rintro e w' ⟨rfl, M', hsm, hs⟩
  exact ⟨by rw [setCode_perm hp hi.one], _, set_perm hp hi r hsm, hs⟩
theorem opA_get (x : Int) : OpA pb fp most L 38 #[.pointer (some ⟨pb, 0, none⟩), .int .i64 x] (.tuple #[ragg ((getL L x).getD Rw.zero), .bool (getL L x).isSome]) L := fun W h => by
  refine (get38 h x).mono ?_
  rintro e w' ⟨rfl, ho⟩
  exact ⟨rfl, h.same ho⟩
theorem opB_get {I : List (Int × Int)} (hi : TInv most L I) (hp : L.Perm M) (x : Int) : OpB qb fq most M 53 #[.pointer (some ⟨qb, 0, none⟩), .int .i64 x] (.tuple #[ragg ((getL L x).getD Rw.zero), .bool (getL L x).isSome]) L := fun W h => by
  have hl := hi.len; have hm := hi.small; have he := hp.length_eq
  refine (getD53 h (by omega) x).mono ?_
  rintro e w' ⟨rfl, ho⟩
  exact ⟨by rw [getL_perm hp hi.one], _, hp, h.same ho⟩
theorem opA_byId (x : Int) : OpA pb fp most L 39 #[.pointer (some ⟨pb, 0, none⟩), .int .i64 x] (.tuple #[ragg ((idL L x).getD Rw.zero), .bool (idL L x).isSome]) L := fun W h => by
  refine (byId39 h x).mono ?_
  rintro e w' ⟨rfl, ho⟩
  exact ⟨rfl, h.same ho⟩
theorem opB_byId {I : List (Int × Int)} (hi : TInv most L I) (hp : L.Perm M) (x : Int) : OpB qb fq most M 54 #[.pointer (some ⟨qb, 0, none⟩), .int .i64 x] (.tuple #[ragg ((idL L x).getD Rw.zero), .bool (idL L x).isSome]) L := fun W h => by
  have hl := hi.len; have hm := hi.small; have he := hp.length_eq
  refine (byIdD54 h (by omega) x).mono ?_
  rintro e w' ⟨rfl, ho⟩
  exact ⟨by rw [idL_perm hp hi], _, hp, h.same ho⟩
theorem opA_drop (x : Int) : OpA pb fp most L 42 #[.pointer (some ⟨pb, 0, none⟩), .int .i64 x] (.tuple #[ragg ((getL L x).getD Rw.zero), .bool (getL L x).isSome]) (dropL L x) := fun W h => drop42 h x
theorem opB_drop {I : List (Int × Int)} (hi : TInv most L I) (hp : L.Perm M) (x : Int) : OpB qb fq most M 55 #[.pointer (some ⟨qb, 0, none⟩), .int .i64 x] (.tuple #[ragg ((getL L x).getD Rw.zero), .bool (getL L x).isSome]) (dropL L x) := fun W h => by
  have hl := hi.len; have hm := hi.small; have he := hp.length_eq
  refine (dropD55 h (by omega) x).mono ?_
  rintro e w' ⟨rfl, M', hsm, hs⟩
  exact ⟨by rw [getL_perm hp hi.one], _, drop_perm hp hi x hsm, hs⟩
end

/-- What is loaded of the two boxes. -/
def Boxes (W : World) (k : Nat) (pb qb : Nat) (se : Bool) (kind b i s l n m : Int) : Prop :=
  W.cell? ⟨k, 0, none⟩ = some (.pointer (some ⟨pb, 0, none⟩)) ∧ W.cell? ⟨k, 1, none⟩ = some (.pointer (some ⟨qb, 0, none⟩)) ∧ W.cell? ⟨k + 1, 2, none⟩ = some (.int .i64 b) ∧ W.cell? ⟨k + 1, 3, none⟩ = some (.int .i64 i) ∧ W.cell? ⟨k + 1, 4, none⟩ = some (.int .i64 s) ∧ W.cell? ⟨k + 1, 5, none⟩ = some (.int .i64 l) ∧ W.cell? ⟨k + 1, 6, none⟩ = some (.int .i64 n) ∧ W.cell? ⟨k + 1, 7, none⟩ = some (.int .i64 m)

end Go.Proofs.Ytlhmcbcoaplcaaa
