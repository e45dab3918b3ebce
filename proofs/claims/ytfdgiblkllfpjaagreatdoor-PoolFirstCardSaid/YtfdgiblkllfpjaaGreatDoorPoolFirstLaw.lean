/- PoolFirst: for every plan the law returns true: pages change, come and go, with a log beside them; cut at any act, whatever the crash leaves: no page on the disk, and no right pair, is ahead of the log that lasts; behind Repair each page is one that it was; each Pin tells what was put there last; nothing that came in changes. Condition: the global of the package crc is laid as its own initialiser lays it (the card). -/
import Derived.Test.YtfdgiblkllfpjaaGreatDoorF07
import Derived.Test.YtfdgiblkllfpjaaGreatDoorCards
import Derived.Test.YtfdgiblkllfpjaaGreatDoorTie
import Derived.ProofKit
import Derived.LaidMore
import Derived.OpenShut
import Derived.SizedLaws
import Derived.SevenTiedAt
import Derived.Stop.Joined
set_option linter.unusedVariables false
set_option linter.unusedSimpArgs false
namespace Go.Proofs.YtfdgiblkllfpjaaGreatDoor.poolFirst
open Go Go.ChangeShapes Go.WideShapes Go.ChangeAt Go.RowKit

theorem own : ownKnob Tryz.prog.godebug = none := by kernel_rfl
theorem laidOut : laidOutB Tryz.prog = true := by kernel_rfl
theorem gT : Tryz.prog.globalNamed "tidemark/crc.table" = some 0 := by kernel_rfl
theorem tT : (Tryz.prog.globals[0]?).map (·.type) = some 271 := by kernel_rfl
theorem u271 : ∃ e, Tryz.prog.underlying 271 = some (.array 16 e) ∧ Tryz.prog.underlying e = some (.int .u32) ∧ Tryz.prog.cellsOf e = 1 := ⟨110, by kernel_rfl, by kernel_rfl, by kernel_rfl⟩
theorem cells3 : Tryz.prog.cellsOf 3 = 1 := by kernel_rfl
theorem cells5 : Tryz.prog.cellsOf 5 = 1 := by kernel_rfl
theorem bytes5 : Tryz.prog.bytesOf 5 = 1 := by kernel_rfl
theorem cells67 : Tryz.prog.cellsOf 67 = 6 := by kernel_rfl
theorem cells143 : Tryz.prog.cellsOf 143 = 4 := by kernel_rfl
theorem bytes143 : Tryz.prog.bytesOf 143 = 48 := by kernel_rfl
def laid1 : List (String × DataW Unit) := [("tidemark/crc.table", Rows.laid_tidemark_crc_table)]
def tab (i : Nat) : Nat := [0, 498536548, 997073096, 651767980, 1994146192, 1802195444, 1303535960, 1342533948, 3988292384, 4027552580, 3604390888, 3412177804, 2607071920, 2262029012, 2685067896, 3183342108].getD i 0
def tabD : List (DataW Unit) := match Rows.laid_tidemark_crc_table (H := Unit) with | .agg l => l | _ => []
theorem tabD_is : Rows.laid_tidemark_crc_table (H := Unit) = .agg tabD := rfl
theorem tabD_at {i : Nat} (h : i < 16) : tabD[i]? = some (.lit (.int .u32 (tab i : Nat))) ∧ tab i < 4294967296 := by
  match i, h with
  | 0, _ => exact ⟨rfl, by decide⟩
  | 1, _ => exact ⟨rfl, by decide⟩
  | 2, _ => exact ⟨rfl, by decide⟩
  | 3, _ => exact ⟨rfl, by decide⟩
  | 4, _ => exact ⟨rfl, by decide⟩
  | 5, _ => exact ⟨rfl, by decide⟩
  | 6, _ => exact ⟨rfl, by decide⟩
  | 7, _ => exact ⟨rfl, by decide⟩
  | 8, _ => exact ⟨rfl, by decide⟩
  | 9, _ => exact ⟨rfl, by decide⟩
  | 10, _ => exact ⟨rfl, by decide⟩
  | 11, _ => exact ⟨rfl, by decide⟩
  | 12, _ => exact ⟨rfl, by decide⟩
  | 13, _ => exact ⟨rfl, by decide⟩
  | 14, _ => exact ⟨rfl, by decide⟩
  | 15, _ => exact ⟨rfl, by decide⟩
  | (n + 16), h => exact absurd h (by omega)
theorem lit_inj {y k : Int} (h : some (DataW.lit (H := Unit) (.int .u32 y)) = some (.lit (.int .u32 k))) : y = k := by simpa using h

/-- What the condition gives: the table's sixteen cells. -/
theorem of_laid {W : World} (h : laidMetH Tryz.prog laid1 W) : Tbl tab W := by
  rw [MakeChecks.laidMetH_plain _ _ _ (by rfl)] at h
  obtain ⟨ps, ⟨g0, t0, cs0, f0, p0, q0, hg0, ht0, hv0, hd0, _, _⟩, _, _⟩ := h
  obtain rfl := Option.some.inj (gT.symm.trans hg0)
  obtain rfl := Option.some.inj (tT.symm.trans ht0)
  obtain ⟨e, hu, he, hce⟩ := u271
  obtain ⟨xs, m1, rfl, hx1, hlen, hn, hel⟩ := DataW.trod_array hu hd0
  simp only [Prod.mk.injEq] at hx1
  have hx := hx1.1
  rw [tabD_is] at hx
  injection hx with hx
  have cell : ∀ i, i < 16 → W.cell? ⟨0, i, none⟩ = some (.int .u32 (tab i : Nat)) := by
    intro i hi
    have hxi : xs[i]? = some (xs[i]'(by omega)) := List.getElem?_eq_getElem (by omega)
    have h1 := hel i hi
    rw [hxi] at h1
    obtain ⟨k, e1, e2, _⟩ := DataW.trod_int he h1
    have e3 : (xs.map (·.1))[i]? = some (.lit (.int .u32 k)) := by rw [List.getElem?_map, hxi, e2]; rfl
    rw [← hx, (tabD_at hi).1] at e3
    have hk : ((tab i : Nat) : Int) = k := lit_inj e3
    rw [World.var?_cell gT hv0 i, hk]
    rw [hce, Nat.mul_one] at e1
    have e4 : (cs0.toList.drop i)[0]? = some (.int .u32 k) := by
      have : ((cs0.toList.drop i).take 1)[0]? = some (.int .u32 k) := by rw [e1]; rfl
      rw [List.getElem?_take, if_pos (by omega)] at this; exact this
    rw [List.getElem?_drop, Nat.add_zero, Array.getElem?_toList] at e4
    exact e4
  exact ⟨World.block_lt_of_cell? W ⟨0, 0, none⟩ (cell 0 (by omega)), fun i hi => ⟨(tabD_at hi).2, cell i hi⟩⟩

/-- The door's own heap meets the condition. -/
theorem door_met (os : Os) (args : Array Value) : laidMetH Tryz.prog laid1 ((World.doorLaid Tryz.prog 400 os).forCall (fun _ _ => 0) ⟨#[], args, []⟩).memory :=
  laidMetH_of_parts3 (fuel := 8) (laidMet_of_run' 8 (by kernel_rfl) (by kernel_rfl)) (by kernel_rfl) (by kernel_rfl)

set_option maxRecDepth 100000 in
theorem lifted (os : Os) (started : os.Started) (H : Type) (enc : TypeId × Value → H) :
    ReturnsInHanded {} Tryz.checked os 7 .any (fun w args => (Rows.poolFirstSpec.pre enc Tryz.prog Tryz.f7 [] false w args ∧ laidMetH Tryz.prog laid1 w) ∧ sizedMet enc Tryz.prog Tryz.f7 (OpenSpec.ofChange Rows.poolFirstSpec) false w args)
      (Rows.poolFirstSpec.post enc Tryz.prog Tryz.f7 false true false false) := by
  refine returnsInHanded_of_change_and (C := Tryz.checked) (X := fun w _ => laidMetH Tryz.prog laid1 w) (fun _ _ _ hh h => h.of_heap hh) own started (by kernel_rfl) Tryz.func7
    (ChangeSpec.witness_shaped (enc := enc) (C := Tryz.checked) (os := os) (X := fun w _ => laidMetH Tryz.prog laid1 w) false (World.doorLaid Tryz.prog 400 os) #[.agg #[.int .i64 0, .int .i64 0, .slice none 0 0, .int .i64 0, .int .i64 0, .slice none 0 0]] 8 rfl (World.shaped_of_RefB (by kernel_rfl) (by kernel_rfl)) (by kernel_rfl) (by kernel_rfl) (by kernel_rfl) (door_met os _)) ?_
  intro W base args ds gs before hval0 hW hcnd hsz0 hL _
  have hval : ∀ (j : Nat) t v, Tryz.f7.params[j]? = some t → args[j]? = some v → Value.okWide Tryz.prog W .any base t v := hval0
  have hsz : (DataW.weightsEach Tryz.prog (Tryz.f7.params.toList ++ Rows.poolFirstSpec.plain.varTypes Tryz.prog) (ds ++ gs)).all (· ≤ reachBytes) = true := hsz0
  have hW' := hW
  obtain ⟨p, q, hA0, hV, rfl, hfz, hnd⟩ := hW
  have hA : DataW.TrodAll enc Tryz.prog W 0 (fun _ => true) true Tryz.f7.params.toList args.toList ds p := hA0
  rw [Tryz.params7] at hA hval hsz
  obtain ⟨v0, vs0, d0, ds0, p0, q0, hargs, rfl, rfl, h0, r0⟩ := trodAll_cons hA
  obtain ⟨rfl, rfl, rfl⟩ := trodAll_nil r0
  obtain rfl : args = #[v0] := by cases args; simp_all
  obtain ⟨rfl, rfl⟩ := trodVars_none hV
  have k0 := h0
  have lt0 : ∀ x ∈ p0, x.block < W.heap.size := by obtain ⟨m, hm⟩ := k0; exact DataW.trod_lt m _ _ _ hm
  obtain ⟨pgs, frs, tv, st, ch, kv, l, ks, rfl, w0, n0, hks, hkw⟩ := open_plan2 Tryz.underlying67 cells67 (by kernel_rfl) (by kernel_rfl) Tryz.underlying65 (by kernel_rfl) (by kernel_rfl) Tryz.underlying57 Tryz.underlying3 cells3 Tryz.underlying63 cells143 bytes143 Tryz.underlying143 (by kernel_rfl) (by kernel_rfl) Tryz.underlying22 Tryz.underlying5 cells5 bytes5 (hval 0 67 v0 rfl rfl) h0 hsz (j := 0) rfl rfl
  have hT := of_laid hL
  clear hA0 hval0
  refine (first_walk hT pgs frs st ch w0 n0 hks hkw).mono fun e W' ⟨he, ho⟩ => ?_
  subst he
  have bel := ho.below
  exact ⟨_, rfl, _, _, _, [], _, [], hW', trodAll_mk1 (shut_bool Tryz.underlying4 _), (trodAll_cons_mk (Below.trod laidOut (by kernel_rfl) (of_decide_eq_true (by kernel_rfl)) k0 bel lt0) trodAll_mk0), rfl, bel.frame _, fun h => by cases h⟩

theorem over : Rows.poolFirstRow.holds Tryz.pinned (OpenSpec.ofChange Rows.poolFirstSpec) :=
  OpenClaim.holds_of_wide 7 Tryz.f7 rfl rfl rfl rfl rfl rfl rfl ⟨rfl, rfl, rfl, rfl, rfl⟩ rfl rfl rfl rfl rfl (by kernel_rfl) Tryz.func7 (by kernel_rfl)
    (of_decide_eq_true (by kernel_rfl)) (by unfold Func.isWrapper; first | (rw [if_pos (by decide +kernel)]; kernel_rfl) | (rw [if_neg (by decide +kernel)]; exact ⟨rfl, rfl⟩))
    (fun os started H enc _ => lifted os started H enc)

theorem proved : Rows.PoolFirstCardSaid :=
  Claim7.holds_tied_plain_at .later [] [.data] true (true, "997c3252fe8b1be03450fd091b01fbb68b135396acfe70e4c9bbef5f7b57087e") true
    over (fun _ h => by cases h) (by kernel_rfl) (fun _ h => by cases h) poolFirst_row_tie rfl ⟨rfl, rfl⟩ (by kernel_rfl) rfl
    (fun f fn hf hfn => by
      obtain rfl : f = 7 := Option.some.inj ((show Tryz.prog.funcNamed "tidemark/tidemarklaw14.PoolFirst" = some 7 by kernel_rfl).symm.trans hf) |>.symm
      obtain rfl : fn = Tryz.f7 := (Option.some.inj (Tryz.func7.symm.trans hfn)).symm
      exact ⟨by kernel_rfl, fun j t ht => by
        rw [Tryz.params7] at ht
        have hm : t ∈ [67] := by simpa using Array.mem_of_getElem? ht
        have hall : ([67].all fun u => !Tryz.prog.wantsStandIn u) = true := by kernel_rfl
        exact (show Tryz.prog.wantsStandIn t = false by simpa using List.all_eq_true.1 hall t hm)⟩)
    (by kernel_rfl)
#print axioms proved
end Go.Proofs.YtfdgiblkllfpjaaGreatDoor.poolFirst
