/-
  DERIVED. GIVEN WITH THE SEED: THE CARDS: each row of YtfbmlnkgjgnnhaaGreatDoorRows.lean that lists a variable, with what it lists TIED to the program's text (the seventh form; the later family's looks); each row that meets fmt, with fmt's text TOLD by the authors' own Lean function (tested against real Go, not proved from fmt's source: count such statements apart). THE CARD IS WHAT COUNTS. Prove the row's statement (the work); the ties are given (YtfbmlnkgjgnnhaaGreatDoorTie.lean); close each card by the builder's one call (the guide's Derived/Test/ToyasCard.lean, 'card_holds'). Laid BY PROGRAM, IN A SANDBOX (cutbox-door.mjs). By AI agents, Wed Nov 11 2026. No macro, syntax, notation, axiom, sorry.
-/
import Derived.Test.YtfbmlnkgjgnnhaaGreatDoorRows
import GoSem.ClaimSeven
namespace Go.Proofs.YtfbmlnkgjgnnhaaGreatDoor
namespace Rows

/-- THE TIED CARD OF 'jotterlaw29.DrillUnrolls'. -/
def drillUnrollsCard : Claim7 := { stood := { row := drillUnrollsRow, standIns := [], harness := (true, "3198c572e8e488f1f8e9f2905a5b2997b4651160aecceedd751371059caed5c4"), looks := true }, kinds := [], alts := [], laidByText := true, laidKinds := [.data, .data, .data, .data, .handle, .sentinel, .sentinel, .pinned], laidTests := true, laidLooks := .later }
def DrillUnrollsCardSaid : Prop := Claim7.holds Tryz.pinned (.plain (OpenSpec.ofChange drillUnrollsSpec)) drillUnrollsCard

/-- THE TIED CARD OF 'jotterlaw29.DrillBounds'. -/
def drillBoundsCard : Claim7 := { stood := { row := drillBoundsRow, standIns := [], harness := (true, "3198c572e8e488f1f8e9f2905a5b2997b4651160aecceedd751371059caed5c4"), looks := true }, kinds := [], alts := [], laidByText := true, laidKinds := [.data, .data, .data, .data, .handle, .sentinel, .sentinel, .pinned], laidTests := true, laidLooks := .later }
def DrillBoundsCardSaid : Prop := Claim7.holds Tryz.pinned (.plain (OpenSpec.ofChange drillBoundsSpec)) drillBoundsCard

/-- THE TIED CARD OF 'jotterlaw29.DrillTurns'. -/
def drillTurnsCard : Claim7 := { stood := { row := drillTurnsRow, standIns := [], harness := (true, "3198c572e8e488f1f8e9f2905a5b2997b4651160aecceedd751371059caed5c4"), looks := true }, kinds := [], alts := [], laidByText := true, laidKinds := [.data, .data, .data, .data, .handle, .sentinel, .sentinel, .pinned], laidTests := true, laidLooks := .later }
def DrillTurnsCardSaid : Prop := Claim7.holds Tryz.pinned (.plain (OpenSpec.ofChange drillTurnsSpec)) drillTurnsCard

/-- THE TIED CARD OF 'jotterlaw29.DrillFlats'. -/
def drillFlatsCard : Claim7 := { stood := { row := drillFlatsRow, standIns := [], harness := (true, "3198c572e8e488f1f8e9f2905a5b2997b4651160aecceedd751371059caed5c4"), looks := true }, kinds := [], alts := [], laidByText := true, laidKinds := [.data, .data, .data, .data, .handle, .sentinel, .sentinel, .pinned], laidTests := true, laidLooks := .later }
def DrillFlatsCardSaid : Prop := Claim7.holds Tryz.pinned (.plain (OpenSpec.ofChange drillFlatsSpec)) drillFlatsCard

/-- THE SECOND FORM's CARD OF 'jotterlaw29.DrillUnrolls'. -/
def drillUnrollsUptoCard : Claim7 := { stood := { row := drillUnrollsUptoRow, standIns := [], harness := (true, "3198c572e8e488f1f8e9f2905a5b2997b4651160aecceedd751371059caed5c4"), looks := true }, kinds := [], alts := [], laidByText := true, laidKinds := [.data, .data, .data, .data, .handle, .sentinel, .sentinel, .pinned], laidTests := true, laidLooks := .later }
def DrillUnrollsUptoCardSaid : Prop := Claim7.holds Tryz.pinned (.plain (OpenSpec.upto drillUnrollsSpec)) drillUnrollsUptoCard

/-- THE SECOND FORM's CARD OF 'jotterlaw29.DrillBounds'. -/
def drillBoundsUptoCard : Claim7 := { stood := { row := drillBoundsUptoRow, standIns := [], harness := (true, "3198c572e8e488f1f8e9f2905a5b2997b4651160aecceedd751371059caed5c4"), looks := true }, kinds := [], alts := [], laidByText := true, laidKinds := [.data, .data, .data, .data, .handle, .sentinel, .sentinel, .pinned], laidTests := true, laidLooks := .later }
def DrillBoundsUptoCardSaid : Prop := Claim7.holds Tryz.pinned (.plain (OpenSpec.upto drillBoundsSpec)) drillBoundsUptoCard

/-- THE SECOND FORM's CARD OF 'jotterlaw29.DrillTurns'. -/
def drillTurnsUptoCard : Claim7 := { stood := { row := drillTurnsUptoRow, standIns := [], harness := (true, "3198c572e8e488f1f8e9f2905a5b2997b4651160aecceedd751371059caed5c4"), looks := true }, kinds := [], alts := [], laidByText := true, laidKinds := [.data, .data, .data, .data, .handle, .sentinel, .sentinel, .pinned], laidTests := true, laidLooks := .later }
def DrillTurnsUptoCardSaid : Prop := Claim7.holds Tryz.pinned (.plain (OpenSpec.upto drillTurnsSpec)) drillTurnsUptoCard

/-- THE SECOND FORM's CARD OF 'jotterlaw29.DrillFlats'. -/
def drillFlatsUptoCard : Claim7 := { stood := { row := drillFlatsUptoRow, standIns := [], harness := (true, "3198c572e8e488f1f8e9f2905a5b2997b4651160aecceedd751371059caed5c4"), looks := true }, kinds := [], alts := [], laidByText := true, laidKinds := [.data, .data, .data, .data, .handle, .sentinel, .sentinel, .pinned], laidTests := true, laidLooks := .later }
def DrillFlatsUptoCardSaid : Prop := Claim7.holds Tryz.pinned (.plain (OpenSpec.upto drillFlatsSpec)) drillFlatsUptoCard
end Rows
end Go.Proofs.YtfbmlnkgjgnnhaaGreatDoor
