/-
  NARROWER THAN 'FOR EVERY INPUT', by the rows' own cells (each row's printed sentence says how): PoolKeeps: laid · PoolPins: laid · PoolLasts: laid · PoolScripts: laid · PoolFirst: laid.
  DERIVED. THE GIVEN ROWS OF THIS SEAT. 5 by the template 'for every input the law returns true; each argument reads behind the call as it read before'; 0 by the template 'total and deterministic' (their statements: YtfdgiblkllfpjaaGreatDoorTotals.lean).
  GIVEN WITH THE SEED: the statements are not yours to turn. If you find one false, say at which input.
  Laid BY PROGRAM, IN A SANDBOX (cutbox-rows.mjs): the forced cells as the released guide's own fill.sh prints them over the translation 7f4139194cf818bc… (all of the seat's roots in one cut). By AI agents, Wed Nov 11 2026. No macro, syntax, notation, axiom, sorry.
-/
import Derived.Test.YtfdgiblkllfpjaaGreatDoorChecked
import GoSem.Claim
import GoSem.ClaimJoined
import GoSem.ClaimMapViews
import Derived.JoinedTies
import Derived.KernelRfl
namespace Go.Proofs.YtfdgiblkllfpjaaGreatDoor
/- THE CELL 'sum', in the pinned program and in every row, IS THE sha256 OF THE DUMP (.gsa) THAT YtfdgiblkllfpjaaGreatDoorProg.lean LOADS. Nothing in Lean hashes anything: it is a label: what it is worth is what the hold of that sum in a sandbox is worth. -/
noncomputable def Tryz.pinned : Pinned := { name := "ytfdgiblkllfpjaagreatdoor", sum := "7f4139194cf818bc994451f30c39bcd2eaa777cbcf9810792c2dacdb6ea2795d", checked := Tryz.checked }
namespace Rows
def none {H : Type} : Left H := { results := [], args := [] }

/- WHAT THE LISTED PACKAGE-LEVEL VARIABLES READ AS WHEN THE CALL BEGINS. Each datum BY PROGRAM (the guide's laid-datum.mjs) off the statement by which the dump's own 'gosem.cut.vars' lays the variable. In a bare row this is a premise. The card (YtfdgiblkllfpjaaGreatDoorCards.lean) ties it to the program's text. -/
def laid_tidemark_crc_table {H : Type} : DataW H := .agg [.lit (.int .u32 0), .lit (.int .u32 498536548), .lit (.int .u32 997073096), .lit (.int .u32 651767980), .lit (.int .u32 1994146192), .lit (.int .u32 1802195444), .lit (.int .u32 1303535960), .lit (.int .u32 1342533948), .lit (.int .u32 3988292384), .lit (.int .u32 4027552580), .lit (.int .u32 3604390888), .lit (.int .u32 3412177804), .lit (.int .u32 2607071920), .lit (.int .u32 2262029012), .lit (.int .u32 2685067896), .lit (.int .u32 3183342108)]

/-- 'tidemarklaw14.PoolKeeps': WHATEVER THE INPUT: true; the input reads as it did. -/
def poolKeepsSpec : ChangeSpec := { name := "poolKeeps", fn := fun _ => fun
  | [d1, d2] => { results := [.lit (.bool true)], args := [d1, d2] }
  | _ => none }
def poolKeepsRow : OpenClaim := { program := "ytfdgiblkllfpjaagreatdoor", sum := "7f4139194cf818bc994451f30c39bcd2eaa777cbcf9810792c2dacdb6ea2795d", func := "tidemark/tidemarklaw14.PoolKeeps", spec := "poolKeeps", inPlace := ["(*internal/sync.Mutex).Lock", "internal/race.Disable", "sync/atomic.CompareAndSwapInt32", "internal/race.Enable", "internal/race.Acquire", "(*internal/sync.Mutex).lockSlow", "internal/sync.runtime_canSpin", "internal/sync.runtime_doSpin", "internal/sync.throw", "internal/sync.runtime_nanotime", "internal/sync.runtime_SemacquireMutex", "sync/atomic.AddInt32", "(*internal/sync.Mutex).Unlock", "internal/race.ReleaseMerge", "(*internal/sync.Mutex).unlockSlow", "internal/sync.fatal", "internal/sync.runtime_Semrelease"], unfollowed := true, recurses := true, named := ["tidemark/crc.table"], apart := false, laid := [("tidemark/crc.table", laid_tidemark_crc_table)] }
def PoolKeepsSaid : Prop := poolKeepsRow.holds Tryz.pinned (OpenSpec.ofChange poolKeepsSpec)

/-- ITS FALSE NEIGHBOUR: 'it returns false'. Refute it at one input. -/
def poolKeepsWrong : ChangeSpec := { name := "poolKeeps", fn := fun _ => fun
  | [d1, d2] => { results := [.lit (.bool false)], args := [d1, d2] }
  | _ => none }
def PoolKeepsWrongFalsely : Prop := poolKeepsRow.holds Tryz.pinned (OpenSpec.ofChange poolKeepsWrong)

/-- 'tidemarklaw14.PoolPins': WHATEVER THE INPUT: true; the input reads as it did. -/
def poolPinsSpec : ChangeSpec := { name := "poolPins", fn := fun _ => fun
  | [d1, d2, d3, d4] => { results := [.lit (.bool true)], args := [d1, d2, d3, d4] }
  | _ => none }
def poolPinsRow : OpenClaim := { program := "ytfdgiblkllfpjaagreatdoor", sum := "7f4139194cf818bc994451f30c39bcd2eaa777cbcf9810792c2dacdb6ea2795d", func := "tidemark/tidemarklaw14.PoolPins", spec := "poolPins", inPlace := ["(*internal/sync.Mutex).Lock", "internal/race.Disable", "sync/atomic.CompareAndSwapInt32", "internal/race.Enable", "internal/race.Acquire", "(*internal/sync.Mutex).lockSlow", "internal/sync.runtime_canSpin", "internal/sync.runtime_doSpin", "internal/sync.throw", "internal/sync.runtime_nanotime", "internal/sync.runtime_SemacquireMutex", "sync/atomic.AddInt32", "(*internal/sync.Mutex).Unlock", "internal/race.ReleaseMerge", "(*internal/sync.Mutex).unlockSlow", "internal/sync.fatal", "internal/sync.runtime_Semrelease"], unfollowed := true, recurses := true, named := ["tidemark/crc.table"], apart := false, laid := [("tidemark/crc.table", laid_tidemark_crc_table)] }
def PoolPinsSaid : Prop := poolPinsRow.holds Tryz.pinned (OpenSpec.ofChange poolPinsSpec)

/-- ITS FALSE NEIGHBOUR: 'it returns false'. Refute it at one input. -/
def poolPinsWrong : ChangeSpec := { name := "poolPins", fn := fun _ => fun
  | [d1, d2, d3, d4] => { results := [.lit (.bool false)], args := [d1, d2, d3, d4] }
  | _ => none }
def PoolPinsWrongFalsely : Prop := poolPinsRow.holds Tryz.pinned (OpenSpec.ofChange poolPinsWrong)

/-- 'tidemarklaw14.PoolLasts': WHATEVER THE INPUT: true; the input reads as it did. -/
def poolLastsSpec : ChangeSpec := { name := "poolLasts", fn := fun _ => fun
  | [d] => { results := [.lit (.bool true)], args := [d] }
  | _ => none }
def poolLastsRow : OpenClaim := { program := "ytfdgiblkllfpjaagreatdoor", sum := "7f4139194cf818bc994451f30c39bcd2eaa777cbcf9810792c2dacdb6ea2795d", func := "tidemark/tidemarklaw14.PoolLasts", spec := "poolLasts", inPlace := ["(*internal/sync.Mutex).Lock", "internal/race.Disable", "sync/atomic.CompareAndSwapInt32", "internal/race.Enable", "internal/race.Acquire", "(*internal/sync.Mutex).lockSlow", "internal/sync.runtime_canSpin", "internal/sync.runtime_doSpin", "internal/sync.throw", "internal/sync.runtime_nanotime", "internal/sync.runtime_SemacquireMutex", "sync/atomic.AddInt32", "(*internal/sync.Mutex).Unlock", "internal/race.ReleaseMerge", "(*internal/sync.Mutex).unlockSlow", "internal/sync.fatal", "internal/sync.runtime_Semrelease"], unfollowed := true, recurses := true, named := ["tidemark/crc.table"], apart := false, laid := [("tidemark/crc.table", laid_tidemark_crc_table)] }
def PoolLastsSaid : Prop := poolLastsRow.holds Tryz.pinned (OpenSpec.ofChange poolLastsSpec)

/-- ITS FALSE NEIGHBOUR: 'it returns false'. Refute it at one input. -/
def poolLastsWrong : ChangeSpec := { name := "poolLasts", fn := fun _ => fun
  | [d] => { results := [.lit (.bool false)], args := [d] }
  | _ => none }
def PoolLastsWrongFalsely : Prop := poolLastsRow.holds Tryz.pinned (OpenSpec.ofChange poolLastsWrong)

/-- 'tidemarklaw14.PoolScripts': WHATEVER THE INPUT: true; the input reads as it did. -/
def poolScriptsSpec : ChangeSpec := { name := "poolScripts", fn := fun _ => fun
  | [d1, d2, d3, d4] => { results := [.lit (.bool true)], args := [d1, d2, d3, d4] }
  | _ => none }
def poolScriptsRow : OpenClaim := { program := "ytfdgiblkllfpjaagreatdoor", sum := "7f4139194cf818bc994451f30c39bcd2eaa777cbcf9810792c2dacdb6ea2795d", func := "tidemark/tidemarklaw14.PoolScripts", spec := "poolScripts", inPlace := ["(*internal/sync.Mutex).Lock", "internal/race.Disable", "sync/atomic.CompareAndSwapInt32", "internal/race.Enable", "internal/race.Acquire", "(*internal/sync.Mutex).lockSlow", "internal/sync.runtime_canSpin", "internal/sync.runtime_doSpin", "internal/sync.throw", "internal/sync.runtime_nanotime", "internal/sync.runtime_SemacquireMutex", "sync/atomic.AddInt32", "(*internal/sync.Mutex).Unlock", "internal/race.ReleaseMerge", "(*internal/sync.Mutex).unlockSlow", "internal/sync.fatal", "internal/sync.runtime_Semrelease"], unfollowed := true, recurses := true, named := ["tidemark/crc.table"], apart := false, laid := [("tidemark/crc.table", laid_tidemark_crc_table)] }
def PoolScriptsSaid : Prop := poolScriptsRow.holds Tryz.pinned (OpenSpec.ofChange poolScriptsSpec)

/-- ITS FALSE NEIGHBOUR: 'it returns false'. Refute it at one input. -/
def poolScriptsWrong : ChangeSpec := { name := "poolScripts", fn := fun _ => fun
  | [d1, d2, d3, d4] => { results := [.lit (.bool false)], args := [d1, d2, d3, d4] }
  | _ => none }
def PoolScriptsWrongFalsely : Prop := poolScriptsRow.holds Tryz.pinned (OpenSpec.ofChange poolScriptsWrong)

/-- 'tidemarklaw14.PoolFirst': WHATEVER THE INPUT: true; the input reads as it did. -/
def poolFirstSpec : ChangeSpec := { name := "poolFirst", fn := fun _ => fun
  | [d] => { results := [.lit (.bool true)], args := [d] }
  | _ => none }
def poolFirstRow : OpenClaim := { program := "ytfdgiblkllfpjaagreatdoor", sum := "7f4139194cf818bc994451f30c39bcd2eaa777cbcf9810792c2dacdb6ea2795d", func := "tidemark/tidemarklaw14.PoolFirst", spec := "poolFirst", inPlace := ["(*internal/sync.Mutex).Lock", "internal/race.Disable", "sync/atomic.CompareAndSwapInt32", "internal/race.Enable", "internal/race.Acquire", "(*internal/sync.Mutex).lockSlow", "internal/sync.runtime_canSpin", "internal/sync.runtime_doSpin", "internal/sync.throw", "internal/sync.runtime_nanotime", "internal/sync.runtime_SemacquireMutex", "sync/atomic.AddInt32", "(*internal/sync.Mutex).Unlock", "internal/race.ReleaseMerge", "(*internal/sync.Mutex).unlockSlow", "internal/sync.fatal", "internal/sync.runtime_Semrelease"], unfollowed := true, recurses := true, named := ["tidemark/crc.table"], apart := false, laid := [("tidemark/crc.table", laid_tidemark_crc_table)] }
def PoolFirstSaid : Prop := poolFirstRow.holds Tryz.pinned (OpenSpec.ofChange poolFirstSpec)

/-- ITS FALSE NEIGHBOUR: 'it returns false'. Refute it at one input. -/
def poolFirstWrong : ChangeSpec := { name := "poolFirst", fn := fun _ => fun
  | [d] => { results := [.lit (.bool false)], args := [d] }
  | _ => none }
def PoolFirstWrongFalsely : Prop := poolFirstRow.holds Tryz.pinned (OpenSpec.ofChange poolFirstWrong)

/- THE SECOND FORM. 'bulk': how many values and letters a reading holds, each counted each time it is reached (what is shared counts as often as it is met; a slice's spare places count too). A statement '..UptoSaid' is the law's where the arguments, and the package variables that the reading takes, are together of bulk at most 1048576: NARROWER than '..Said'. Prove '..Said' where nothing that the law and all that it calls make is longer than what came in: it says more and counts as full. Else prove '..UptoSaid'. A law counts once. -/
mutual
def uptoBulk {H : Type} : DataW H → Nat
  | .lit (.string bytes) => bytes.length + 1
  | .lit _ => 1
  | .nil => 1
  | .ptr d => uptoBulk d + 1
  | .slice elems spare => uptoBulkAll elems + uptoBulkAll spare + 1
  | .agg parts => uptoBulkAll parts + 1
  | .iface _ d => uptoBulk d + 1
  | .map entries => uptoBulkEntries entries + 1
  | .held _ => 1
def uptoBulkAll {H : Type} : List (DataW H) → Nat
  | [] => 0
  | d :: r => uptoBulk d + uptoBulkAll r
def uptoBulkEntries {H : Type} : List (Lit × DataW H) → Nat
  | [] => 0
  | x :: r => uptoBulkEntry x + uptoBulkEntries r
def uptoBulkEntry {H : Type} : Lit × DataW H → Nat
  | (.string bytes, d) => bytes.length + uptoBulk d + 1
  | (_, d) => uptoBulk d + 1
 end
def uptoSmall : (H : Type) → List (DataW H) → Bool := fun _ ds => decide (uptoBulkAll ds ≤ 1048576)
def OpenSpec.upto (s : _root_.Go.ChangeSpec) : _root_.Go.OpenSpec := { _root_.Go.OpenSpec.ofChange s with cond := some uptoSmall }

/-- 'tidemarklaw14.PoolKeeps', WHERE WHAT IT READS IS OF BULK AT MOST 1048576: true; the input reads as it did. -/
def poolKeepsUptoRow : OpenClaim := { program := "ytfdgiblkllfpjaagreatdoor", sum := "7f4139194cf818bc994451f30c39bcd2eaa777cbcf9810792c2dacdb6ea2795d", func := "tidemark/tidemarklaw14.PoolKeeps", spec := "poolKeeps", inPlace := ["(*internal/sync.Mutex).Lock", "internal/race.Disable", "sync/atomic.CompareAndSwapInt32", "internal/race.Enable", "internal/race.Acquire", "(*internal/sync.Mutex).lockSlow", "internal/sync.runtime_canSpin", "internal/sync.runtime_doSpin", "internal/sync.throw", "internal/sync.runtime_nanotime", "internal/sync.runtime_SemacquireMutex", "sync/atomic.AddInt32", "(*internal/sync.Mutex).Unlock", "internal/race.ReleaseMerge", "(*internal/sync.Mutex).unlockSlow", "internal/sync.fatal", "internal/sync.runtime_Semrelease"], unfollowed := true, recurses := true, named := ["tidemark/crc.table"], apart := false, laid := [("tidemark/crc.table", laid_tidemark_crc_table)], narrowed := true }
def PoolKeepsUptoSaid : Prop := poolKeepsUptoRow.holds Tryz.pinned (OpenSpec.upto poolKeepsSpec)

/-- 'tidemarklaw14.PoolPins', WHERE WHAT IT READS IS OF BULK AT MOST 1048576: true; the input reads as it did. -/
def poolPinsUptoRow : OpenClaim := { program := "ytfdgiblkllfpjaagreatdoor", sum := "7f4139194cf818bc994451f30c39bcd2eaa777cbcf9810792c2dacdb6ea2795d", func := "tidemark/tidemarklaw14.PoolPins", spec := "poolPins", inPlace := ["(*internal/sync.Mutex).Lock", "internal/race.Disable", "sync/atomic.CompareAndSwapInt32", "internal/race.Enable", "internal/race.Acquire", "(*internal/sync.Mutex).lockSlow", "internal/sync.runtime_canSpin", "internal/sync.runtime_doSpin", "internal/sync.throw", "internal/sync.runtime_nanotime", "internal/sync.runtime_SemacquireMutex", "sync/atomic.AddInt32", "(*internal/sync.Mutex).Unlock", "internal/race.ReleaseMerge", "(*internal/sync.Mutex).unlockSlow", "internal/sync.fatal", "internal/sync.runtime_Semrelease"], unfollowed := true, recurses := true, named := ["tidemark/crc.table"], apart := false, laid := [("tidemark/crc.table", laid_tidemark_crc_table)], narrowed := true }
def PoolPinsUptoSaid : Prop := poolPinsUptoRow.holds Tryz.pinned (OpenSpec.upto poolPinsSpec)

/-- 'tidemarklaw14.PoolLasts', WHERE WHAT IT READS IS OF BULK AT MOST 1048576: true; the input reads as it did. -/
def poolLastsUptoRow : OpenClaim := { program := "ytfdgiblkllfpjaagreatdoor", sum := "7f4139194cf818bc994451f30c39bcd2eaa777cbcf9810792c2dacdb6ea2795d", func := "tidemark/tidemarklaw14.PoolLasts", spec := "poolLasts", inPlace := ["(*internal/sync.Mutex).Lock", "internal/race.Disable", "sync/atomic.CompareAndSwapInt32", "internal/race.Enable", "internal/race.Acquire", "(*internal/sync.Mutex).lockSlow", "internal/sync.runtime_canSpin", "internal/sync.runtime_doSpin", "internal/sync.throw", "internal/sync.runtime_nanotime", "internal/sync.runtime_SemacquireMutex", "sync/atomic.AddInt32", "(*internal/sync.Mutex).Unlock", "internal/race.ReleaseMerge", "(*internal/sync.Mutex).unlockSlow", "internal/sync.fatal", "internal/sync.runtime_Semrelease"], unfollowed := true, recurses := true, named := ["tidemark/crc.table"], apart := false, laid := [("tidemark/crc.table", laid_tidemark_crc_table)], narrowed := true }
def PoolLastsUptoSaid : Prop := poolLastsUptoRow.holds Tryz.pinned (OpenSpec.upto poolLastsSpec)

/-- 'tidemarklaw14.PoolScripts', WHERE WHAT IT READS IS OF BULK AT MOST 1048576: true; the input reads as it did. -/
def poolScriptsUptoRow : OpenClaim := { program := "ytfdgiblkllfpjaagreatdoor", sum := "7f4139194cf818bc994451f30c39bcd2eaa777cbcf9810792c2dacdb6ea2795d", func := "tidemark/tidemarklaw14.PoolScripts", spec := "poolScripts", inPlace := ["(*internal/sync.Mutex).Lock", "internal/race.Disable", "sync/atomic.CompareAndSwapInt32", "internal/race.Enable", "internal/race.Acquire", "(*internal/sync.Mutex).lockSlow", "internal/sync.runtime_canSpin", "internal/sync.runtime_doSpin", "internal/sync.throw", "internal/sync.runtime_nanotime", "internal/sync.runtime_SemacquireMutex", "sync/atomic.AddInt32", "(*internal/sync.Mutex).Unlock", "internal/race.ReleaseMerge", "(*internal/sync.Mutex).unlockSlow", "internal/sync.fatal", "internal/sync.runtime_Semrelease"], unfollowed := true, recurses := true, named := ["tidemark/crc.table"], apart := false, laid := [("tidemark/crc.table", laid_tidemark_crc_table)], narrowed := true }
def PoolScriptsUptoSaid : Prop := poolScriptsUptoRow.holds Tryz.pinned (OpenSpec.upto poolScriptsSpec)

/-- 'tidemarklaw14.PoolFirst', WHERE WHAT IT READS IS OF BULK AT MOST 1048576: true; the input reads as it did. -/
def poolFirstUptoRow : OpenClaim := { program := "ytfdgiblkllfpjaagreatdoor", sum := "7f4139194cf818bc994451f30c39bcd2eaa777cbcf9810792c2dacdb6ea2795d", func := "tidemark/tidemarklaw14.PoolFirst", spec := "poolFirst", inPlace := ["(*internal/sync.Mutex).Lock", "internal/race.Disable", "sync/atomic.CompareAndSwapInt32", "internal/race.Enable", "internal/race.Acquire", "(*internal/sync.Mutex).lockSlow", "internal/sync.runtime_canSpin", "internal/sync.runtime_doSpin", "internal/sync.throw", "internal/sync.runtime_nanotime", "internal/sync.runtime_SemacquireMutex", "sync/atomic.AddInt32", "(*internal/sync.Mutex).Unlock", "internal/race.ReleaseMerge", "(*internal/sync.Mutex).unlockSlow", "internal/sync.fatal", "internal/sync.runtime_Semrelease"], unfollowed := true, recurses := true, named := ["tidemark/crc.table"], apart := false, laid := [("tidemark/crc.table", laid_tidemark_crc_table)], narrowed := true }
def PoolFirstUptoSaid : Prop := poolFirstUptoRow.holds Tryz.pinned (OpenSpec.upto poolFirstSpec)

end Rows
end Go.Proofs.YtfdgiblkllfpjaaGreatDoor
