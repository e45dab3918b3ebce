/-
  No cell of these rows narrows 'for every input' (looked for: loops, veiled, ifaces, maps, wideKeys, modest, calm, conditions, laid).
  DERIVED. THE GIVEN ROWS OF THIS SEAT. 11 by the template 'for every input the law returns true; each argument reads behind the call as it read before'; 0 by the template 'total and deterministic' (their statements: YtlhmcbcoaplcaaaTotals.lean).
  GIVEN WITH THE SEED: the statements are not yours to turn. If you find one false, say at which input.
  Laid BY PROGRAM, IN A SANDBOX (cutbox-rows.mjs): the forced cells as the released guide's own fill.sh prints them over the translation 708615ab5a56b4ec… (all of the seat's roots in one cut). By AI agents, Wed Nov 11 2026. No macro, syntax, notation, axiom, sorry.
-/
import Derived.Test.YtlhmcbcoaplcaaaChecked
import GoSem.Claim
import GoSem.ClaimJoined
import GoSem.ClaimMapViews
import Derived.JoinedTies
import Derived.KernelRfl
namespace Go.Proofs.Ytlhmcbcoaplcaaa
/- THE CELL 'sum', in the pinned program and in every row, IS THE sha256 OF THE DUMP (.gsa) THAT YtlhmcbcoaplcaaaProg.lean LOADS. Nothing in Lean hashes anything: it is a label: what it is worth is what the hold of that sum in a sandbox is worth. -/
noncomputable def Try.pinned : Pinned := { name := "ytlhmcbcoaplcaaa", sum := "708615ab5a56b4ecc17c69f44ee752a3ab5840724a103576a6261f5295155c14", checked := Try.checked }
namespace Rows
def none {H : Type} : Left H := { results := [], args := [] }

/-- 'tidemarklaw23.AriesPlain': WHATEVER THE INPUT: true; the input reads as it did. -/
def ariesPlainSpec : ChangeSpec := { name := "ariesPlain", fn := fun _ => fun
  | [d1, d2, d3] => { results := [.lit (.bool true)], args := [d1, d2, d3] }
  | _ => none }
def ariesPlainRow : OpenClaim := { program := "ytlhmcbcoaplcaaa", sum := "708615ab5a56b4ecc17c69f44ee752a3ab5840724a103576a6261f5295155c14", func := "tidemark/tidemarklaw23.AriesPlain", spec := "ariesPlain", apart := false }
def AriesPlainSaid : Prop := ariesPlainRow.holds Try.pinned (OpenSpec.ofChange ariesPlainSpec)

/-- ITS FALSE NEIGHBOUR: 'it returns false'. Refute it at one input. -/
def ariesPlainWrong : ChangeSpec := { name := "ariesPlain", fn := fun _ => fun
  | [d1, d2, d3] => { results := [.lit (.bool false)], args := [d1, d2, d3] }
  | _ => none }
def AriesPlainWrongFalsely : Prop := ariesPlainRow.holds Try.pinned (OpenSpec.ofChange ariesPlainWrong)

/-- 'tidemarklaw17.RoomFrames': WHATEVER THE INPUT: true; the input reads as it did. -/
def roomFramesSpec : ChangeSpec := { name := "roomFrames", fn := fun _ => fun
  | [d1, d2, d3] => { results := [.lit (.bool true)], args := [d1, d2, d3] }
  | _ => none }
def roomFramesRow : OpenClaim := { program := "ytlhmcbcoaplcaaa", sum := "708615ab5a56b4ecc17c69f44ee752a3ab5840724a103576a6261f5295155c14", func := "tidemark/tidemarklaw17.RoomFrames", spec := "roomFrames", apart := false }
def RoomFramesSaid : Prop := roomFramesRow.holds Try.pinned (OpenSpec.ofChange roomFramesSpec)

/-- ITS FALSE NEIGHBOUR: 'it returns false'. Refute it at one input. -/
def roomFramesWrong : ChangeSpec := { name := "roomFrames", fn := fun _ => fun
  | [d1, d2, d3] => { results := [.lit (.bool false)], args := [d1, d2, d3] }
  | _ => none }
def RoomFramesWrongFalsely : Prop := roomFramesRow.holds Try.pinned (OpenSpec.ofChange roomFramesWrong)

/-- 'tidemarklaw17.RoomFits': WHATEVER THE INPUT: true; the input reads as it did. -/
def roomFitsSpec : ChangeSpec := { name := "roomFits", fn := fun _ => fun
  | [d] => { results := [.lit (.bool true)], args := [d] }
  | _ => none }
def roomFitsRow : OpenClaim := { program := "ytlhmcbcoaplcaaa", sum := "708615ab5a56b4ecc17c69f44ee752a3ab5840724a103576a6261f5295155c14", func := "tidemark/tidemarklaw17.RoomFits", spec := "roomFits", apart := false }
def RoomFitsSaid : Prop := roomFitsRow.holds Try.pinned (OpenSpec.ofChange roomFitsSpec)

/-- ITS FALSE NEIGHBOUR: 'it returns false'. Refute it at one input. -/
def roomFitsWrong : ChangeSpec := { name := "roomFits", fn := fun _ => fun
  | [d] => { results := [.lit (.bool false)], args := [d] }
  | _ => none }
def RoomFitsWrongFalsely : Prop := roomFitsRow.holds Try.pinned (OpenSpec.ofChange roomFitsWrong)

/-- 'tidemarklaw17.RoomAll': WHATEVER THE INPUT: true; the input reads as it did. -/
def roomAllSpec : ChangeSpec := { name := "roomAll", fn := fun _ => fun
  | [d1, d2] => { results := [.lit (.bool true)], args := [d1, d2] }
  | _ => none }
def roomAllRow : OpenClaim := { program := "ytlhmcbcoaplcaaa", sum := "708615ab5a56b4ecc17c69f44ee752a3ab5840724a103576a6261f5295155c14", func := "tidemark/tidemarklaw17.RoomAll", spec := "roomAll", apart := false }
def RoomAllSaid : Prop := roomAllRow.holds Try.pinned (OpenSpec.ofChange roomAllSpec)

/-- ITS FALSE NEIGHBOUR: 'it returns false'. Refute it at one input. -/
def roomAllWrong : ChangeSpec := { name := "roomAll", fn := fun _ => fun
  | [d1, d2] => { results := [.lit (.bool false)], args := [d1, d2] }
  | _ => none }
def RoomAllWrongFalsely : Prop := roomAllRow.holds Try.pinned (OpenSpec.ofChange roomAllWrong)

/-- 'tidemarklaw17.RoomSums': WHATEVER THE INPUT: true; the input reads as it did. -/
def roomSumsSpec : ChangeSpec := { name := "roomSums", fn := fun _ => fun
  | [d1, d2] => { results := [.lit (.bool true)], args := [d1, d2] }
  | _ => none }
def roomSumsRow : OpenClaim := { program := "ytlhmcbcoaplcaaa", sum := "708615ab5a56b4ecc17c69f44ee752a3ab5840724a103576a6261f5295155c14", func := "tidemark/tidemarklaw17.RoomSums", spec := "roomSums", apart := false }
def RoomSumsSaid : Prop := roomSumsRow.holds Try.pinned (OpenSpec.ofChange roomSumsSpec)

/-- ITS FALSE NEIGHBOUR: 'it returns false'. Refute it at one input. -/
def roomSumsWrong : ChangeSpec := { name := "roomSums", fn := fun _ => fun
  | [d1, d2] => { results := [.lit (.bool false)], args := [d1, d2] }
  | _ => none }
def RoomSumsWrongFalsely : Prop := roomSumsRow.holds Try.pinned (OpenSpec.ofChange roomSumsWrong)

/-- 'tidemarklaw17.RoomHolds': WHATEVER THE INPUT: true; the input reads as it did. -/
def roomHoldsSpec : ChangeSpec := { name := "roomHolds", fn := fun _ => fun
  | [d1, d2] => { results := [.lit (.bool true)], args := [d1, d2] }
  | _ => none }
def roomHoldsRow : OpenClaim := { program := "ytlhmcbcoaplcaaa", sum := "708615ab5a56b4ecc17c69f44ee752a3ab5840724a103576a6261f5295155c14", func := "tidemark/tidemarklaw17.RoomHolds", spec := "roomHolds", apart := false }
def RoomHoldsSaid : Prop := roomHoldsRow.holds Try.pinned (OpenSpec.ofChange roomHoldsSpec)

/-- ITS FALSE NEIGHBOUR: 'it returns false'. Refute it at one input. -/
def roomHoldsWrong : ChangeSpec := { name := "roomHolds", fn := fun _ => fun
  | [d1, d2] => { results := [.lit (.bool false)], args := [d1, d2] }
  | _ => none }
def RoomHoldsWrongFalsely : Prop := roomHoldsRow.holds Try.pinned (OpenSpec.ofChange roomHoldsWrong)

/-- 'tidemarklaw17.RoomApart': WHATEVER THE INPUT: true; the input reads as it did. -/
def roomApartSpec : ChangeSpec := { name := "roomApart", fn := fun _ => fun
  | [d1, d2, d3] => { results := [.lit (.bool true)], args := [d1, d2, d3] }
  | _ => none }
def roomApartRow : OpenClaim := { program := "ytlhmcbcoaplcaaa", sum := "708615ab5a56b4ecc17c69f44ee752a3ab5840724a103576a6261f5295155c14", func := "tidemark/tidemarklaw17.RoomApart", spec := "roomApart", apart := false }
def RoomApartSaid : Prop := roomApartRow.holds Try.pinned (OpenSpec.ofChange roomApartSpec)

/-- ITS FALSE NEIGHBOUR: 'it returns false'. Refute it at one input. -/
def roomApartWrong : ChangeSpec := { name := "roomApart", fn := fun _ => fun
  | [d1, d2, d3] => { results := [.lit (.bool false)], args := [d1, d2, d3] }
  | _ => none }
def RoomApartWrongFalsely : Prop := roomApartRow.holds Try.pinned (OpenSpec.ofChange roomApartWrong)

/-- 'tidemarklaw16.TableAll': WHATEVER THE INPUT: true; the input reads as it did. -/
def tableAllSpec : ChangeSpec := { name := "tableAll", fn := fun _ => fun
  | [d1, d2, d3] => { results := [.lit (.bool true)], args := [d1, d2, d3] }
  | _ => none }
def tableAllRow : OpenClaim := { program := "ytlhmcbcoaplcaaa", sum := "708615ab5a56b4ecc17c69f44ee752a3ab5840724a103576a6261f5295155c14", func := "tidemark/tidemarklaw16.TableAll", spec := "tableAll", inPlace := ["slices.overlaps[int]", "slices.overlaps[tidemark/api.Row]"], apart := false }
def TableAllSaid : Prop := tableAllRow.holds Try.pinned (OpenSpec.ofChange tableAllSpec)

/-- ITS FALSE NEIGHBOUR: 'it returns false'. Refute it at one input. -/
def tableAllWrong : ChangeSpec := { name := "tableAll", fn := fun _ => fun
  | [d1, d2, d3] => { results := [.lit (.bool false)], args := [d1, d2, d3] }
  | _ => none }
def TableAllWrongFalsely : Prop := tableAllRow.holds Try.pinned (OpenSpec.ofChange tableAllWrong)

/-- 'tidemarklaw16.TableHolds': WHATEVER THE INPUT: true; the input reads as it did. -/
def tableHoldsSpec : ChangeSpec := { name := "tableHolds", fn := fun _ => fun
  | [d1, d2, d3] => { results := [.lit (.bool true)], args := [d1, d2, d3] }
  | _ => none }
def tableHoldsRow : OpenClaim := { program := "ytlhmcbcoaplcaaa", sum := "708615ab5a56b4ecc17c69f44ee752a3ab5840724a103576a6261f5295155c14", func := "tidemark/tidemarklaw16.TableHolds", spec := "tableHolds", inPlace := ["slices.overlaps[int]", "slices.overlaps[tidemark/api.Row]"], apart := false }
def TableHoldsSaid : Prop := tableHoldsRow.holds Try.pinned (OpenSpec.ofChange tableHoldsSpec)

/-- ITS FALSE NEIGHBOUR: 'it returns false'. Refute it at one input. -/
def tableHoldsWrong : ChangeSpec := { name := "tableHolds", fn := fun _ => fun
  | [d1, d2, d3] => { results := [.lit (.bool false)], args := [d1, d2, d3] }
  | _ => none }
def TableHoldsWrongFalsely : Prop := tableHoldsRow.holds Try.pinned (OpenSpec.ofChange tableHoldsWrong)

/-- 'tidemarklaw16.TableOrder': WHATEVER THE INPUT: true; the input reads as it did. -/
def tableOrderSpec : ChangeSpec := { name := "tableOrder", fn := fun _ => fun
  | [d1, d2, d3] => { results := [.lit (.bool true)], args := [d1, d2, d3] }
  | _ => none }
def tableOrderRow : OpenClaim := { program := "ytlhmcbcoaplcaaa", sum := "708615ab5a56b4ecc17c69f44ee752a3ab5840724a103576a6261f5295155c14", func := "tidemark/tidemarklaw16.TableOrder", spec := "tableOrder", inPlace := ["slices.overlaps[int]", "slices.overlaps[tidemark/api.Row]"], apart := false }
def TableOrderSaid : Prop := tableOrderRow.holds Try.pinned (OpenSpec.ofChange tableOrderSpec)

/-- ITS FALSE NEIGHBOUR: 'it returns false'. Refute it at one input. -/
def tableOrderWrong : ChangeSpec := { name := "tableOrder", fn := fun _ => fun
  | [d1, d2, d3] => { results := [.lit (.bool false)], args := [d1, d2, d3] }
  | _ => none }
def TableOrderWrongFalsely : Prop := tableOrderRow.holds Try.pinned (OpenSpec.ofChange tableOrderWrong)

/-- 'tidemarklaw16.TableFresh': WHATEVER THE INPUT: true; the input reads as it did. -/
def tableFreshSpec : ChangeSpec := { name := "tableFresh", fn := fun _ => fun
  | [d1, d2] => { results := [.lit (.bool true)], args := [d1, d2] }
  | _ => none }
def tableFreshRow : OpenClaim := { program := "ytlhmcbcoaplcaaa", sum := "708615ab5a56b4ecc17c69f44ee752a3ab5840724a103576a6261f5295155c14", func := "tidemark/tidemarklaw16.TableFresh", spec := "tableFresh", inPlace := ["slices.overlaps[int]", "slices.overlaps[tidemark/api.Row]"], apart := false }
def TableFreshSaid : Prop := tableFreshRow.holds Try.pinned (OpenSpec.ofChange tableFreshSpec)

/-- ITS FALSE NEIGHBOUR: 'it returns false'. Refute it at one input. -/
def tableFreshWrong : ChangeSpec := { name := "tableFresh", fn := fun _ => fun
  | [d1, d2] => { results := [.lit (.bool false)], args := [d1, d2] }
  | _ => none }
def TableFreshWrongFalsely : Prop := tableFreshRow.holds Try.pinned (OpenSpec.ofChange tableFreshWrong)

/- THE SECOND FORM. 'bulk': how many values and letters a reading holds, each counted each time it is reached (what is shared counts as often as it is met; a slice's spare places count too). A statement '..UptoSaid' is the law's where the arguments, and the package variables that the reading takes, are together of bulk at most 1048576: NARROWER than '..Said'. Prove '..Said' where nothing that the law and all that it calls make is longer than what came in: it says more and counts as full. Else prove '..UptoSaid'. A law counts once. -/
mutual
def uptoBulk {H : Type} : DataW H → Nat
  | .lit (.string bytes) => bytes.length + 1
  | .lit _ => 1
  | .nil => 1
  | .ptr d => uptoBulk d + 1
  | .slice elems spare => uptoBulkAll elems + uptoBulkAll spare + 1
  | .agg parts => uptoBulkAll parts + 1
  | .iface _ d => uptoBulk d + 1
  | .map entries => uptoBulkEntries entries + 1
  | .held _ => 1
def uptoBulkAll {H : Type} : List (DataW H) → Nat
  | [] => 0
  | d :: r => uptoBulk d + uptoBulkAll r
def uptoBulkEntries {H : Type} : List (Lit × DataW H) → Nat
  | [] => 0
  | x :: r => uptoBulkEntry x + uptoBulkEntries r
def uptoBulkEntry {H : Type} : Lit × DataW H → Nat
  | (.string bytes, d) => bytes.length + uptoBulk d + 1
  | (_, d) => uptoBulk d + 1
 end
def uptoSmall : (H : Type) → List (DataW H) → Bool := fun _ ds => decide (uptoBulkAll ds ≤ 1048576)
def OpenSpec.upto (s : _root_.Go.ChangeSpec) : _root_.Go.OpenSpec := { _root_.Go.OpenSpec.ofChange s with cond := some uptoSmall }

/-- 'tidemarklaw23.AriesPlain', WHERE WHAT IT READS IS OF BULK AT MOST 1048576: true; the input reads as it did. -/
def ariesPlainUptoRow : OpenClaim := { program := "ytlhmcbcoaplcaaa", sum := "708615ab5a56b4ecc17c69f44ee752a3ab5840724a103576a6261f5295155c14", func := "tidemark/tidemarklaw23.AriesPlain", spec := "ariesPlain", apart := false, narrowed := true }
def AriesPlainUptoSaid : Prop := ariesPlainUptoRow.holds Try.pinned (OpenSpec.upto ariesPlainSpec)

/-- 'tidemarklaw17.RoomFrames', WHERE WHAT IT READS IS OF BULK AT MOST 1048576: true; the input reads as it did. -/
def roomFramesUptoRow : OpenClaim := { program := "ytlhmcbcoaplcaaa", sum := "708615ab5a56b4ecc17c69f44ee752a3ab5840724a103576a6261f5295155c14", func := "tidemark/tidemarklaw17.RoomFrames", spec := "roomFrames", apart := false, narrowed := true }
def RoomFramesUptoSaid : Prop := roomFramesUptoRow.holds Try.pinned (OpenSpec.upto roomFramesSpec)

/-- 'tidemarklaw17.RoomFits', WHERE WHAT IT READS IS OF BULK AT MOST 1048576: true; the input reads as it did. -/
def roomFitsUptoRow : OpenClaim := { program := "ytlhmcbcoaplcaaa", sum := "708615ab5a56b4ecc17c69f44ee752a3ab5840724a103576a6261f5295155c14", func := "tidemark/tidemarklaw17.RoomFits", spec := "roomFits", apart := false, narrowed := true }
def RoomFitsUptoSaid : Prop := roomFitsUptoRow.holds Try.pinned (OpenSpec.upto roomFitsSpec)

/-- 'tidemarklaw17.RoomAll', WHERE WHAT IT READS IS OF BULK AT MOST 1048576: true; the input reads as it did. -/
def roomAllUptoRow : OpenClaim := { program := "ytlhmcbcoaplcaaa", sum := "708615ab5a56b4ecc17c69f44ee752a3ab5840724a103576a6261f5295155c14", func := "tidemark/tidemarklaw17.RoomAll", spec := "roomAll", apart := false, narrowed := true }
def RoomAllUptoSaid : Prop := roomAllUptoRow.holds Try.pinned (OpenSpec.upto roomAllSpec)

/-- 'tidemarklaw17.RoomSums', WHERE WHAT IT READS IS OF BULK AT MOST 1048576: true; the input reads as it did. -/
def roomSumsUptoRow : OpenClaim := { program := "ytlhmcbcoaplcaaa", sum := "708615ab5a56b4ecc17c69f44ee752a3ab5840724a103576a6261f5295155c14", func := "tidemark/tidemarklaw17.RoomSums", spec := "roomSums", apart := false, narrowed := true }
def RoomSumsUptoSaid : Prop := roomSumsUptoRow.holds Try.pinned (OpenSpec.upto roomSumsSpec)

/-- 'tidemarklaw17.RoomHolds', WHERE WHAT IT READS IS OF BULK AT MOST 1048576: true; the input reads as it did. -/
def roomHoldsUptoRow : OpenClaim := { program := "ytlhmcbcoaplcaaa", sum := "708615ab5a56b4ecc17c69f44ee752a3ab5840724a103576a6261f5295155c14", func := "tidemark/tidemarklaw17.RoomHolds", spec := "roomHolds", apart := false, narrowed := true }
def RoomHoldsUptoSaid : Prop := roomHoldsUptoRow.holds Try.pinned (OpenSpec.upto roomHoldsSpec)

/-- 'tidemarklaw17.RoomApart', WHERE WHAT IT READS IS OF BULK AT MOST 1048576: true; the input reads as it did. -/
def roomApartUptoRow : OpenClaim := { program := "ytlhmcbcoaplcaaa", sum := "708615ab5a56b4ecc17c69f44ee752a3ab5840724a103576a6261f5295155c14", func := "tidemark/tidemarklaw17.RoomApart", spec := "roomApart", apart := false, narrowed := true }
def RoomApartUptoSaid : Prop := roomApartUptoRow.holds Try.pinned (OpenSpec.upto roomApartSpec)

/-- 'tidemarklaw16.TableAll', WHERE WHAT IT READS IS OF BULK AT MOST 1048576: true; the input reads as it did. -/
def tableAllUptoRow : OpenClaim := { program := "ytlhmcbcoaplcaaa", sum := "708615ab5a56b4ecc17c69f44ee752a3ab5840724a103576a6261f5295155c14", func := "tidemark/tidemarklaw16.TableAll", spec := "tableAll", inPlace := ["slices.overlaps[int]", "slices.overlaps[tidemark/api.Row]"], apart := false, narrowed := true }
def TableAllUptoSaid : Prop := tableAllUptoRow.holds Try.pinned (OpenSpec.upto tableAllSpec)

/-- 'tidemarklaw16.TableHolds', WHERE WHAT IT READS IS OF BULK AT MOST 1048576: true; the input reads as it did. -/
def tableHoldsUptoRow : OpenClaim := { program := "ytlhmcbcoaplcaaa", sum := "708615ab5a56b4ecc17c69f44ee752a3ab5840724a103576a6261f5295155c14", func := "tidemark/tidemarklaw16.TableHolds", spec := "tableHolds", inPlace := ["slices.overlaps[int]", "slices.overlaps[tidemark/api.Row]"], apart := false, narrowed := true }
def TableHoldsUptoSaid : Prop := tableHoldsUptoRow.holds Try.pinned (OpenSpec.upto tableHoldsSpec)

/-- 'tidemarklaw16.TableOrder', WHERE WHAT IT READS IS OF BULK AT MOST 1048576: true; the input reads as it did. -/
def tableOrderUptoRow : OpenClaim := { program := "ytlhmcbcoaplcaaa", sum := "708615ab5a56b4ecc17c69f44ee752a3ab5840724a103576a6261f5295155c14", func := "tidemark/tidemarklaw16.TableOrder", spec := "tableOrder", inPlace := ["slices.overlaps[int]", "slices.overlaps[tidemark/api.Row]"], apart := false, narrowed := true }
def TableOrderUptoSaid : Prop := tableOrderUptoRow.holds Try.pinned (OpenSpec.upto tableOrderSpec)

/-- 'tidemarklaw16.TableFresh', WHERE WHAT IT READS IS OF BULK AT MOST 1048576: true; the input reads as it did. -/
def tableFreshUptoRow : OpenClaim := { program := "ytlhmcbcoaplcaaa", sum := "708615ab5a56b4ecc17c69f44ee752a3ab5840724a103576a6261f5295155c14", func := "tidemark/tidemarklaw16.TableFresh", spec := "tableFresh", inPlace := ["slices.overlaps[int]", "slices.overlaps[tidemark/api.Row]"], apart := false, narrowed := true }
def TableFreshUptoSaid : Prop := tableFreshUptoRow.holds Try.pinned (OpenSpec.upto tableFreshSpec)

end Rows
end Go.Proofs.Ytlhmcbcoaplcaaa
