/- PoolPins: the row and its card. -/
import Derived.Test.YtfdgiblkllfpjaaGreatDoorP15
import Derived.Test.YtfdgiblkllfpjaaGreatDoorCards
import Derived.Test.YtfdgiblkllfpjaaGreatDoorTie
import Derived.ProofKit
import Derived.LaidMore
import Derived.OpenShut
import Derived.SizedLaws
import Derived.SevenTiedAt
import Derived.Stop.Joined
set_option linter.unusedVariables false
set_option linter.unusedSimpArgs false
namespace Go.Proofs.YtfdgiblkllfpjaaGreatDoor.poolPins
open Go Go.ChangeShapes Go.WideShapes Go.ChangeAt Go.RowKit

theorem own : ownKnob Tryz.prog.godebug = none := by kernel_rfl
theorem laidOut : laidOutB Tryz.prog = true := by kernel_rfl
theorem gT : Tryz.prog.globalNamed "tidemark/crc.table" = some 0 := by kernel_rfl
theorem tT : (Tryz.prog.globals[0]?).map (·.type) = some 271 := by kernel_rfl
theorem u271 : ∃ e, Tryz.prog.underlying 271 = some (.array 16 e) ∧ Tryz.prog.underlying e = some (.int .u32) ∧ Tryz.prog.cellsOf e = 1 := ⟨110, by kernel_rfl, by kernel_rfl, by kernel_rfl⟩
theorem cells3 : Tryz.prog.cellsOf 3 = 1 := by kernel_rfl
def laid1 : List (String × DataW Unit) := [("tidemark/crc.table", Rows.laid_tidemark_crc_table)]
def tab (i : Nat) : Nat := [0, 498536548, 997073096, 651767980, 1994146192, 1802195444, 1303535960, 1342533948, 3988292384, 4027552580, 3604390888, 3412177804, 2607071920, 2262029012, 2685067896, 3183342108].getD i 0
def tabD : List (DataW Unit) := match Rows.laid_tidemark_crc_table (H := Unit) with | .agg l => l | _ => []
theorem tabD_is : Rows.laid_tidemark_crc_table (H := Unit) = .agg tabD := rfl
theorem tabD_at {i : Nat} (h : i < 16) : tabD[i]? = some (.lit (.int .u32 (tab i : Nat))) ∧ tab i < 4294967296 := by
  match i, h with
  | 0, _ => exact ⟨rfl, by decide⟩
  | 1, _ => exact ⟨rfl, by decide⟩
  | 2, _ => exact ⟨rfl, by decide⟩
  | 3, _ => exact ⟨rfl, by decide⟩
  | 4, _ => exact ⟨rfl, by decide⟩
  | 5, _ => exact ⟨rfl, by decide⟩
  | 6, _ => exact ⟨rfl, by decide⟩
  | 7, _ => exact ⟨rfl, by decide⟩
  | 8, _ => exact ⟨rfl, by decide⟩
  | 9, _ => exact ⟨rfl, by decide⟩
  | 10, _ => exact ⟨rfl, by decide⟩
  | 11, _ => exact ⟨rfl, by decide⟩
  | 12, _ => exact ⟨rfl, by decide⟩
  | 13, _ => exact ⟨rfl, by decide⟩
  | 14, _ => exact ⟨rfl, by decide⟩
  | 15, _ => exact ⟨rfl, by decide⟩
  | (n + 16), h => exact absurd h (by omega)
theorem lit_inj {y k : Int} (h : some (DataW.lit (H := Unit) (.int .u32 y)) = some (.lit (.int .u32 k))) : y = k := by simpa using h

/-- What the condition gives: the table's sixteen cells. -/
theorem of_laid {W : World} (h : laidMetH Tryz.prog laid1 W) : Tbl tab W := by
  rw [MakeChecks.laidMetH_plain _ _ _ (by rfl)] at h
  obtain ⟨ps, ⟨g0, t0, cs0, f0, p0, q0, hg0, ht0, hv0, hd0, _, _⟩, _, _⟩ := h
  obtain rfl := Option.some.inj (gT.symm.trans hg0)
  obtain rfl := Option.some.inj (tT.symm.trans ht0)
  obtain ⟨e, hu, he, hce⟩ := u271
  obtain ⟨xs, m1, rfl, hx1, hlen, hn, hel⟩ := DataW.trod_array hu hd0
  simp only [Prod.mk.injEq] at hx1
  have hx := hx1.1
  rw [tabD_is] at hx
  injection hx with hx
  have cell : ∀ i, i < 16 → W.cell? ⟨0, i, none⟩ = some (.int .u32 (tab i : Nat)) := by
    intro i hi
    have hxi : xs[i]? = some (xs[i]'(by omega)) := List.getElem?_eq_getElem (by omega)
    have h1 := hel i hi
    rw [hxi] at h1
    obtain ⟨k, e1, e2, _⟩ := DataW.trod_int he h1
    have e3 : (xs.map (·.1))[i]? = some (.lit (.int .u32 k)) := by rw [List.getElem?_map, hxi, e2]; rfl
    rw [← hx, (tabD_at hi).1] at e3
    have hk : ((tab i : Nat) : Int) = k := lit_inj e3
    rw [World.var?_cell gT hv0 i, hk]
    rw [hce, Nat.mul_one] at e1
    have e4 : (cs0.toList.drop i)[0]? = some (.int .u32 k) := by
      have : ((cs0.toList.drop i).take 1)[0]? = some (.int .u32 k) := by rw [e1]; rfl
      rw [List.getElem?_take, if_pos (by omega)] at this; exact this
    rw [List.getElem?_drop, Nat.add_zero, Array.getElem?_toList] at e4
    exact e4
  exact ⟨World.block_lt_of_cell? W ⟨0, 0, none⟩ (cell 0 (by omega)), fun i hi => ⟨(tabD_at hi).2, cell i hi⟩⟩

/-- Ints that came in. -/
theorem open_readI {H : Type} {enc : TypeId × Value → H} {P : Program} {t e : TypeId} {w : World} {base : Nat} {spare : Nat → Bool} {held : Bool} {v : Value} {d : DataW H} {p : List MemPlace} {r : Reach} {b0 : Nat}
    (ht : P.underlying t = some (.slice e)) (he : P.underlying e = some (.int .i64)) (hce : P.cellsOf e = 1) (hv : Value.okWide P w r b0 t v) (h : DataW.Trod enc P w base spare held t v d p) :
    ∃ l, ReadI w v l := by
  obtain ⟨a0, len, cap, rfl⟩ := okWide_slice ht hv
  obtain ⟨fuel, hf⟩ := h
  rcases open_ints ht he hce hf with ⟨hcs, _⟩ | ⟨a, len', cap', zs, hcs, _, hl, hm, hz, hx, hc, hw⟩
  · simp [Value.cells] at hcs
    obtain ⟨rfl, rfl, rfl⟩ := hcs
    exact ⟨[], none, 0, rfl, fun k hk => by simp at hk⟩
  · simp [Value.cells] at hcs
    obtain ⟨rfl, rfl, rfl⟩ := hcs
    have hlz : len ≤ zs.length := by rw [hz]; split <;> omega
    have hlen : (zs.take len).length = len := by rw [List.length_take]; omega
    refine ⟨zs.take len, some a, cap, by rw [hlen], fun k hk => ?_⟩
    rw [hlen] at hk
    have c := hc k (by omega)
    obtain ⟨b, off, spot⟩ := a
    have hspot : spot = none := by have := World.cell?_spot (hc 0 (by omega)); simpa [Addr.add] using this
    subst hspot
    rw [Addr.add_lit] at c
    refine ⟨b, off, rfl, World.block_lt_of_cell? w ⟨b, off + k, none⟩ c, ?_⟩
    have hg : zs.getD k 0 = zs[k]'(by omega) := by simp [List.getD, List.getElem?_eq_getElem (show k < zs.length by omega)]
    rw [c, hg, List.getElem_take]

/-- The door's own heap meets the condition. -/
theorem door_met (os : Os) (args : Array Value) : laidMetH Tryz.prog laid1 ((World.doorLaid Tryz.prog 400 os).forCall (fun _ _ => 0) ⟨#[], args, []⟩).memory :=
  laidMetH_of_parts3 (fuel := 8) (laidMet_of_run' 8 (by kernel_rfl) (by kernel_rfl)) (by kernel_rfl) (by kernel_rfl)

set_option maxRecDepth 100000 in
theorem lifted (os : Os) (started : os.Started) (H : Type) (enc : TypeId × Value → H) :
    ReturnsInHanded {} Tryz.checked os 4 .any (fun w args => (Rows.poolPinsSpec.pre enc Tryz.prog Tryz.f4 [] false w args ∧ laidMetH Tryz.prog laid1 w) ∧ sizedMet enc Tryz.prog Tryz.f4 (OpenSpec.ofChange Rows.poolPinsSpec) false w args)
      (Rows.poolPinsSpec.post enc Tryz.prog Tryz.f4 false true false false) := by
  refine returnsInHanded_of_change_and (C := Tryz.checked) (X := fun w _ => laidMetH Tryz.prog laid1 w) (fun _ _ _ hh h => h.of_heap hh) own started (by kernel_rfl) Tryz.func4
    (ChangeSpec.witness_shaped (enc := enc) (C := Tryz.checked) (os := os) (X := fun w _ => laidMetH Tryz.prog laid1 w) false (World.doorLaid Tryz.prog 400 os) #[.int .i64 0, .int .i64 0, .slice none 0 0, .int .i64 0] 8 rfl (World.shaped_of_RefB (by kernel_rfl) (by kernel_rfl)) (by kernel_rfl) (by kernel_rfl) (by kernel_rfl) (door_met os _)) ?_
  intro W base args ds gs before hval0 hW hcnd hsz0 hL _
  have hval : ∀ (j : Nat) t v, Tryz.f4.params[j]? = some t → args[j]? = some v → Value.okWide Tryz.prog W .any base t v := hval0
  have hsz : (DataW.weightsEach Tryz.prog (Tryz.f4.params.toList ++ Rows.poolPinsSpec.plain.varTypes Tryz.prog) (ds ++ gs)).all (· ≤ reachBytes) = true := hsz0
  have hW' := hW
  obtain ⟨p, q, hA0, hV, rfl, hfz, hnd⟩ := hW
  have hA : DataW.TrodAll enc Tryz.prog W 0 (fun _ => true) true Tryz.f4.params.toList args.toList ds p := hA0
  rw [Tryz.params4] at hA hval hsz
  obtain ⟨v0, vs0, d0, ds0, p0, q0, hargs, rfl, rfl, h0, r0⟩ := trodAll_cons hA
  obtain ⟨v1, vs1, d1, ds1, p1, q1, rfl, rfl, rfl, h1, r1⟩ := trodAll_cons r0
  obtain ⟨v2, vs2, d2, ds2, p2, q2, rfl, rfl, rfl, h2, r2⟩ := trodAll_cons r1
  obtain ⟨v3, vs3, d3, ds3, p3, q3, rfl, rfl, rfl, h3, r3⟩ := trodAll_cons r2
  obtain ⟨rfl, rfl, rfl⟩ := trodAll_nil r3
  obtain rfl : args = #[v0, v1, v2, v3] := by cases args; simp_all
  obtain ⟨rfl, rfl⟩ := trodVars_none hV
  have k0 := h0
  have lt0 : ∀ x ∈ p0, x.block < W.heap.size := by obtain ⟨m, hm⟩ := k0; exact DataW.trod_lt m _ _ _ hm
  have k1 := h1
  have lt1 : ∀ x ∈ p1, x.block < W.heap.size := by obtain ⟨m, hm⟩ := k1; exact DataW.trod_lt m _ _ _ hm
  have k2 := h2
  have lt2 : ∀ x ∈ p2, x.block < W.heap.size := by obtain ⟨m, hm⟩ := k2; exact DataW.trod_lt m _ _ _ hm
  have k3 := h3
  have lt3 : ∀ x ∈ p3, x.block < W.heap.size := by obtain ⟨m, hm⟩ := k3; exact DataW.trod_lt m _ _ _ hm
  obtain ⟨a0, rfl, _, _, _⟩ := open_int Tryz.underlying3 (hval 0 3 v0 rfl rfl) h0
  obtain ⟨a1, rfl, _, _, _⟩ := open_int Tryz.underlying3 (hval 1 3 v1 rfl rfl) h1
  obtain ⟨l2, w2⟩ := open_readI Tryz.underlying57 Tryz.underlying3 cells3 (hval 2 57 v2 rfl rfl) h2
  obtain ⟨a3, rfl, _, _, _⟩ := open_int Tryz.underlying3 (hval 3 3 v3 rfl rfl) h3
  have hT := of_laid hL
  clear hA0 hval0
  refine (pins_walk hT w2).mono fun e W' ⟨he, ho⟩ => ?_
  subst he
  have bel := ho.below
  exact ⟨_, rfl, _, _, _, [], _, [], hW', trodAll_mk1 (shut_bool Tryz.underlying4 _), (trodAll_cons_mk (Below.trod laidOut (by kernel_rfl) (of_decide_eq_true (by kernel_rfl)) k0 bel lt0) (trodAll_cons_mk (Below.trod laidOut (by kernel_rfl) (of_decide_eq_true (by kernel_rfl)) k1 bel lt1) (trodAll_cons_mk (Below.trod laidOut (by kernel_rfl) (of_decide_eq_true (by kernel_rfl)) k2 bel lt2) (trodAll_cons_mk (Below.trod laidOut (by kernel_rfl) (of_decide_eq_true (by kernel_rfl)) k3 bel lt3) trodAll_mk0)))), rfl, bel.frame _, fun h => by cases h⟩

theorem over : Rows.poolPinsRow.holds Tryz.pinned (OpenSpec.ofChange Rows.poolPinsSpec) :=
  OpenClaim.holds_of_wide 4 Tryz.f4 rfl rfl rfl rfl rfl rfl rfl ⟨rfl, rfl, rfl, rfl, rfl⟩ rfl rfl rfl rfl rfl (by kernel_rfl) Tryz.func4 (by kernel_rfl)
    (of_decide_eq_true (by kernel_rfl)) (by unfold Func.isWrapper; first | (rw [if_pos (by decide +kernel)]; kernel_rfl) | (rw [if_neg (by decide +kernel)]; exact ⟨rfl, rfl⟩))
    (fun os started H enc _ => lifted os started H enc)

theorem proved : Rows.PoolPinsCardSaid :=
  Claim7.holds_tied_plain_at .later [] [.data] true (true, "997c3252fe8b1be03450fd091b01fbb68b135396acfe70e4c9bbef5f7b57087e") true
    over (fun _ h => by cases h) (by kernel_rfl) (fun _ h => by cases h) poolPins_row_tie rfl ⟨rfl, rfl⟩ (by kernel_rfl) rfl
    (fun f fn hf hfn => by
      obtain rfl : f = 4 := Option.some.inj ((show Tryz.prog.funcNamed "tidemark/tidemarklaw14.PoolPins" = some 4 by kernel_rfl).symm.trans hf) |>.symm
      obtain rfl : fn = Tryz.f4 := (Option.some.inj (Tryz.func4.symm.trans hfn)).symm
      exact ⟨by kernel_rfl, fun j t ht => by
        rw [Tryz.params4] at ht
        have hm : t ∈ [3, 3, 57, 3] := by simpa using Array.mem_of_getElem? ht
        have hall : ([3, 3, 57, 3].all fun u => !Tryz.prog.wantsStandIn u) = true := by kernel_rfl
        exact (show Tryz.prog.wantsStandIn t = false by simpa using List.all_eq_true.1 hall t hm)⟩)
    (by kernel_rfl)
#print axioms proved
end Go.Proofs.YtfdgiblkllfpjaaGreatDoor.poolPins
