/- AriesPlain: for every LSN, record and page the law returns true: Plain's Redo is 'page < lsn', Plain's Lay is true; nothing that came in changes. -/
import Derived.Test.YtlhmcbcoaplcaaaRows
import Derived.Test.YtlhmcbcoaplcaaaLib
import Derived.OpenShut
namespace Go.Proofs.Ytlhmcbcoaplcaaa.ariesPlain
open Go.ChangeShapes Go.WideShapes Go.ChangeAt Go.RowKit

theorem own : ownKnob Try.prog.godebug = none := by kernel_rfl
theorem laidOut : laidOutB Try.prog = true := by kernel_rfl

theorem redo_any (lsn page : Int) (S : Array Value) (c0 c1 c2 c3 c4 c5 c6 c7 c8 c9 c10 : Value) (w : World) :
    Calls Try.prog 14 #[.agg S, .int .i64 lsn, .agg #[c0, c1, c2, c3, c4, c5, c6, c7, c8, c9, c10], .int .i64 page] w fun e w' => e = .returned (.bool (decide (page < lsn))) ∧ Off [] w w' := by
  go_enter Try.func14, Try.ntmps14
  go_wp2
  go_ret
  exact ⟨rfl, ((Off.refl _ _).alloc _).alloc _⟩
theorem lay_any (lsn page : Int) (S : Array Value) (c0 c1 c2 c3 c4 c5 c6 c7 c8 c9 c10 : Value) (w : World) :
    Calls Try.prog 15 #[.agg S, .int .i64 lsn, .agg #[c0, c1, c2, c3, c4, c5, c6, c7, c8, c9, c10], .int .i64 page] w fun e w' => e = .returned (.bool true) ∧ Off [] w w' := by
  go_enter Try.func15, Try.ntmps15
  go_wp2
  go_ret
  exact ⟨rfl, ((Off.refl _ _).alloc _).alloc _⟩

theorem walk (lsn page : Int) (c0 c1 c2 c3 c4 c5 c6 c7 c8 c9 c10 : Value) (w : World) :
    Calls Try.prog 3 #[.int .i64 lsn, .agg #[c0, c1, c2, c3, c4, c5, c6, c7, c8, c9, c10], .int .i64 page] w fun e w' => e = .returned (.bool true) ∧ Below w.heap.size w w' := by
  go_enter Try.func3, Try.ntmps3
  go_wp2_with fail
  refine (redo_any _ _ _ _ _ _ _ _ _ _ _ _ _ _ _).mono ?_
  rintro e w1 ⟨rfl, h1⟩
  have g1 := h1.get (k := w.heap.size) (o := .cells #[c0, c1, c2, c3, c4, c5, c6, c7, c8, c9, c10] 26) (by rw [heap_alloc2_old]) (by simp)
  have g2 := h1.get (k := w.heap.size + 1) (o := .cells #[] 28) (by rw [heap_alloc2_new]) (by simp)
  have d1 := IsC.cell (show IsC w1 _ _ _ from g1)
  have d2 := IsC.cell (show IsC w1 _ _ _ from g2)
  go_wp2_with fail
  refine (lay_any _ _ _ _ _ _ _ _ _ _ _ _ _ _ _).mono ?_
  rintro e w2 ⟨rfl, h2⟩
  go_wp2_with fail
  go_ret
  exact ⟨rfl, Off.below (((((Off.refl _ _).alloc _).alloc _).trans h1 (by simp)).trans h2 (by simp))⟩

theorem cells26 : Try.prog.cellsOf 26 = 11 := by kernel_rfl
theorem agg11 (cs : Array Value) (h : cs.size = 11) : ∃ c0 c1 c2 c3 c4 c5 c6 c7 c8 c9 c10, cs = #[c0, c1, c2, c3, c4, c5, c6, c7, c8, c9, c10] := by
  obtain ⟨l⟩ := cs
  match l, h with
  | [c0, c1, c2, c3, c4, c5, c6, c7, c8, c9, c10], _ => exact ⟨c0, c1, c2, c3, c4, c5, c6, c7, c8, c9, c10, rfl⟩

set_option maxRecDepth 100000 in
theorem lifted (os : Os) (started : os.Started) (H : Type) (enc : TypeId × Value → H) :
    ReturnsInHanded {} Try.checked os 3 .any (Rows.ariesPlainSpec.pre6 enc Try.prog Try.f3 Rows.ariesPlainRow.domain false) (Rows.ariesPlainSpec.post enc Try.prog Try.f3 false true false false) := by
  refine returnsInHanded_of_change (C := Try.checked) own started (by kernel_rfl) Try.func3
    (ChangeSpec.witness6 (enc := enc) (C := Try.checked) false ⟨#[], #[.int .i64 0, .agg #[.int .i64 0, .int .i64 0, .int .i64 0, .int .i64 0, .int .i64 0, .int .i64 0, .slice none 0 0, .slice none 0 0, .int .i64 0, .slice none 0 0, .slice none 0 0], .int .i64 0], []⟩ 8 (by kernel_rfl) (by kernel_rfl) (by kernel_rfl) (by kernel_rfl)) ?_
  intro W base args ds gs before hval0 hW hcnd _
  have hval : ∀ (j : Nat) t v, Try.f3.params[j]? = some t → args[j]? = some v → Value.okWide Try.prog W .any base t v := hval0
  have hW' := hW
  obtain ⟨p, q, hA0, hV, rfl, hfz, hnd⟩ := hW
  have hA : DataW.TrodAll enc Try.prog W 0 (fun _ => true) true Try.f3.params.toList args.toList ds p := hA0
  rw [Try.params3] at hA hval
  obtain ⟨v0, vs0, d0, ds0, p0, q0, hargs, rfl, rfl, h0, r0⟩ := trodAll_cons hA
  obtain ⟨v1, vs1, d1, ds1, p1, q1, rfl, rfl, rfl, h1, r1⟩ := trodAll_cons r0
  obtain ⟨v2, vs2, d2, ds2, p2, q2, rfl, rfl, rfl, h2, r2⟩ := trodAll_cons r1
  obtain ⟨rfl, rfl, rfl⟩ := trodAll_nil r2
  obtain rfl : args = #[v0, v1, v2] := by cases args; simp_all
  obtain ⟨rfl, rfl⟩ := trodVars_none hV
  have k0 := h0
  have lt0 : ∀ x ∈ p0, x.block < W.heap.size := by obtain ⟨m, hm⟩ := k0; exact DataW.trod_lt m _ _ _ hm
  have k1 := h1
  have lt1 : ∀ x ∈ p1, x.block < W.heap.size := by obtain ⟨m, hm⟩ := k1; exact DataW.trod_lt m _ _ _ hm
  have k2 := h2
  have lt2 : ∀ x ∈ p2, x.block < W.heap.size := by obtain ⟨m, hm⟩ := k2; exact DataW.trod_lt m _ _ _ hm
  obtain ⟨a0, rfl, _, _, _⟩ := open_int Try.underlying3 (hval 0 3 v0 rfl rfl) h0
  obtain ⟨cs, rfl, hsz⟩ := okWide_struct Try.underlying26 (hval 1 26 v1 rfl rfl)
  obtain ⟨a2, rfl, _, _, _⟩ := open_int Try.underlying3 (hval 2 3 v2 rfl rfl) h2
  obtain ⟨c0, c1, c2, c3, c4, c5, c6, c7, c8, c9, c10, rfl⟩ := agg11 cs (hsz.trans cells26)
  clear hA0 hval0
  refine (walk a0 a2 c0 c1 c2 c3 c4 c5 c6 c7 c8 c9 c10 W).mono fun e W' ⟨he, bel⟩ => ?_
  subst he
  exact ⟨_, rfl, _, _, _, [], _, [], hW', trodAll_mk1 (shut_bool Try.underlying4 _), (trodAll_cons_mk (Below.trod laidOut (by kernel_rfl) (of_decide_eq_true (by kernel_rfl)) k0 bel lt0) (trodAll_cons_mk (Below.trod laidOut (by kernel_rfl) (of_decide_eq_true (by kernel_rfl)) k1 bel lt1) (trodAll_cons_mk (Below.trod laidOut (by kernel_rfl) (of_decide_eq_true (by kernel_rfl)) k2 bel lt2) trodAll_mk0))), rfl, bel.frame _, fun h => by cases h⟩

theorem over : Rows.ariesPlainRow.holds Try.pinned (OpenSpec.ofChange Rows.ariesPlainSpec) :=
  OpenClaim.holds_of_wide 3 Try.f3 rfl rfl rfl rfl rfl rfl rfl ⟨rfl, rfl, rfl, rfl, rfl⟩ rfl rfl rfl rfl rfl (by kernel_rfl) Try.func3 (by kernel_rfl)
    (of_decide_eq_true (by kernel_rfl)) (by unfold Func.isWrapper; first | (rw [if_pos (by decide +kernel)]; kernel_rfl) | (rw [if_neg (by decide +kernel)]; exact ⟨rfl, rfl⟩))
    (fun os started H enc _ => lifted os started H enc)

theorem proved : Rows.AriesPlainSaid := over
#print axioms proved
end Go.Proofs.Ytlhmcbcoaplcaaa.ariesPlain
