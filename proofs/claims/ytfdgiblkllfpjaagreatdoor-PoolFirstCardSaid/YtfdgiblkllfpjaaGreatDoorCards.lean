/-
  DERIVED. GIVEN WITH THE SEED: THE CARDS: each row of YtfdgiblkllfpjaaGreatDoorRows.lean that lists a variable, with what it lists TIED to the program's text (the seventh form; the later family's looks); each row that meets fmt, with fmt's text TOLD by the authors' own Lean function (tested against real Go, not proved from fmt's source: count such statements apart). THE CARD IS WHAT COUNTS. Prove the row's statement (the work); the ties are given (YtfdgiblkllfpjaaGreatDoorTie.lean); close each card by the builder's one call (the guide's Derived/Test/ToyasCard.lean, 'card_holds'). Laid BY PROGRAM, IN A SANDBOX (cutbox-door.mjs). By AI agents, Wed Nov 11 2026. No macro, syntax, notation, axiom, sorry.
-/
import Derived.Test.YtfdgiblkllfpjaaGreatDoorRows
import GoSem.ClaimSeven
namespace Go.Proofs.YtfdgiblkllfpjaaGreatDoor
namespace Rows

/-- THE TIED CARD OF 'tidemarklaw14.PoolKeeps'. -/
def poolKeepsCard : Claim7 := { stood := { row := poolKeepsRow, standIns := [], harness := (true, "997c3252fe8b1be03450fd091b01fbb68b135396acfe70e4c9bbef5f7b57087e"), looks := true }, kinds := [], alts := [], laidByText := true, laidKinds := [.data], laidTests := true, laidLooks := .later }
def PoolKeepsCardSaid : Prop := Claim7.holds Tryz.pinned (.plain (OpenSpec.ofChange poolKeepsSpec)) poolKeepsCard

/-- THE TIED CARD OF 'tidemarklaw14.PoolPins'. -/
def poolPinsCard : Claim7 := { stood := { row := poolPinsRow, standIns := [], harness := (true, "997c3252fe8b1be03450fd091b01fbb68b135396acfe70e4c9bbef5f7b57087e"), looks := true }, kinds := [], alts := [], laidByText := true, laidKinds := [.data], laidTests := true, laidLooks := .later }
def PoolPinsCardSaid : Prop := Claim7.holds Tryz.pinned (.plain (OpenSpec.ofChange poolPinsSpec)) poolPinsCard

/-- THE TIED CARD OF 'tidemarklaw14.PoolLasts'. -/
def poolLastsCard : Claim7 := { stood := { row := poolLastsRow, standIns := [], harness := (true, "997c3252fe8b1be03450fd091b01fbb68b135396acfe70e4c9bbef5f7b57087e"), looks := true }, kinds := [], alts := [], laidByText := true, laidKinds := [.data], laidTests := true, laidLooks := .later }
def PoolLastsCardSaid : Prop := Claim7.holds Tryz.pinned (.plain (OpenSpec.ofChange poolLastsSpec)) poolLastsCard

/-- THE TIED CARD OF 'tidemarklaw14.PoolScripts'. -/
def poolScriptsCard : Claim7 := { stood := { row := poolScriptsRow, standIns := [], harness := (true, "997c3252fe8b1be03450fd091b01fbb68b135396acfe70e4c9bbef5f7b57087e"), looks := true }, kinds := [], alts := [], laidByText := true, laidKinds := [.data], laidTests := true, laidLooks := .later }
def PoolScriptsCardSaid : Prop := Claim7.holds Tryz.pinned (.plain (OpenSpec.ofChange poolScriptsSpec)) poolScriptsCard

/-- THE TIED CARD OF 'tidemarklaw14.PoolFirst'. -/
def poolFirstCard : Claim7 := { stood := { row := poolFirstRow, standIns := [], harness := (true, "997c3252fe8b1be03450fd091b01fbb68b135396acfe70e4c9bbef5f7b57087e"), looks := true }, kinds := [], alts := [], laidByText := true, laidKinds := [.data], laidTests := true, laidLooks := .later }
def PoolFirstCardSaid : Prop := Claim7.holds Tryz.pinned (.plain (OpenSpec.ofChange poolFirstSpec)) poolFirstCard

/-- THE SECOND FORM's CARD OF 'tidemarklaw14.PoolKeeps'. -/
def poolKeepsUptoCard : Claim7 := { stood := { row := poolKeepsUptoRow, standIns := [], harness := (true, "997c3252fe8b1be03450fd091b01fbb68b135396acfe70e4c9bbef5f7b57087e"), looks := true }, kinds := [], alts := [], laidByText := true, laidKinds := [.data], laidTests := true, laidLooks := .later }
def PoolKeepsUptoCardSaid : Prop := Claim7.holds Tryz.pinned (.plain (OpenSpec.upto poolKeepsSpec)) poolKeepsUptoCard

/-- THE SECOND FORM's CARD OF 'tidemarklaw14.PoolPins'. -/
def poolPinsUptoCard : Claim7 := { stood := { row := poolPinsUptoRow, standIns := [], harness := (true, "997c3252fe8b1be03450fd091b01fbb68b135396acfe70e4c9bbef5f7b57087e"), looks := true }, kinds := [], alts := [], laidByText := true, laidKinds := [.data], laidTests := true, laidLooks := .later }
def PoolPinsUptoCardSaid : Prop := Claim7.holds Tryz.pinned (.plain (OpenSpec.upto poolPinsSpec)) poolPinsUptoCard

/-- THE SECOND FORM's CARD OF 'tidemarklaw14.PoolLasts'. -/
def poolLastsUptoCard : Claim7 := { stood := { row := poolLastsUptoRow, standIns := [], harness := (true, "997c3252fe8b1be03450fd091b01fbb68b135396acfe70e4c9bbef5f7b57087e"), looks := true }, kinds := [], alts := [], laidByText := true, laidKinds := [.data], laidTests := true, laidLooks := .later }
def PoolLastsUptoCardSaid : Prop := Claim7.holds Tryz.pinned (.plain (OpenSpec.upto poolLastsSpec)) poolLastsUptoCard

/-- THE SECOND FORM's CARD OF 'tidemarklaw14.PoolScripts'. -/
def poolScriptsUptoCard : Claim7 := { stood := { row := poolScriptsUptoRow, standIns := [], harness := (true, "997c3252fe8b1be03450fd091b01fbb68b135396acfe70e4c9bbef5f7b57087e"), looks := true }, kinds := [], alts := [], laidByText := true, laidKinds := [.data], laidTests := true, laidLooks := .later }
def PoolScriptsUptoCardSaid : Prop := Claim7.holds Tryz.pinned (.plain (OpenSpec.upto poolScriptsSpec)) poolScriptsUptoCard

/-- THE SECOND FORM's CARD OF 'tidemarklaw14.PoolFirst'. -/
def poolFirstUptoCard : Claim7 := { stood := { row := poolFirstUptoRow, standIns := [], harness := (true, "997c3252fe8b1be03450fd091b01fbb68b135396acfe70e4c9bbef5f7b57087e"), looks := true }, kinds := [], alts := [], laidByText := true, laidKinds := [.data], laidTests := true, laidLooks := .later }
def PoolFirstUptoCardSaid : Prop := Claim7.holds Tryz.pinned (.plain (OpenSpec.upto poolFirstSpec)) poolFirstUptoCard
end Rows
end Go.Proofs.YtfdgiblkllfpjaaGreatDoor
