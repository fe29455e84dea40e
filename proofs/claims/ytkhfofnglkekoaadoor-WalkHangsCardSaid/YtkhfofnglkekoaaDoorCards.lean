/-
  DERIVED. GIVEN WITH THE SEED: THE CARDS: each row of YtkhfofnglkekoaaDoorRows.lean that lists a variable, with what it lists TIED to the program's text (the seventh form; the later family's looks); each row that meets fmt, with fmt's text TOLD by the authors' own Lean function (tested against real Go, not proved from fmt's source: count such statements apart). THE CARD IS WHAT COUNTS. Prove the row's statement (the work); the ties are given (YtkhfofnglkekoaaDoorTie.lean); close each card by the builder's one call (the guide's Derived/Test/ToyasCard.lean, 'card_holds'). Laid BY PROGRAM, IN A SANDBOX (cutbox-door.mjs). By AI agents, Wed Nov 11 2026. No macro, syntax, notation, axiom, sorry.
-/
import Derived.Test.YtkhfofnglkekoaaDoorRows
import GoSem.ClaimSeven
namespace Go.Proofs.YtkhfofnglkekoaaDoor
namespace Rows

/-- THE TIED CARD OF 'flintlaw17.WalkReads'. -/
def walkReadsCard : Claim7 := { stood := { row := walkReadsRow, standIns := [], harness := (true, "65b6b27e096ecbd52f61e8a6eff3e0fd3533de0d54815b425b4dc088404abacc"), looks := false }, kinds := [], alts := [], laidByText := true, laidKinds := [.data, .pinned], laidTests := true, laidLooks := .later }
def WalkReadsCardSaid : Prop := Claim7.holds Tryd.pinned (.plain (OpenSpec.ofChange walkReadsSpec)) walkReadsCard

/-- THE TIED CARD OF 'flintlaw17.WalkHangs'. -/
def walkHangsCard : Claim7 := { stood := { row := walkHangsRow, standIns := [], harness := (true, "65b6b27e096ecbd52f61e8a6eff3e0fd3533de0d54815b425b4dc088404abacc"), looks := false }, kinds := [], alts := [], laidByText := true, laidKinds := [.data, .pinned], laidTests := true, laidLooks := .later }
def WalkHangsCardSaid : Prop := Claim7.holds Tryd.pinned (.plain (OpenSpec.ofChange walkHangsSpec)) walkHangsCard

/-- THE TIED CARD OF 'flintlaw28.ArkAny'. -/
def arkAnyCard : Claim7 := { stood := { row := arkAnyRow, standIns := [], harness := (true, "65b6b27e096ecbd52f61e8a6eff3e0fd3533de0d54815b425b4dc088404abacc"), looks := false }, kinds := [], alts := [], laidByText := true, laidKinds := [.data, .pinned], laidTests := true, laidLooks := .later }
def ArkAnyCardSaid : Prop := Claim7.holds Tryd.pinned (.plain (OpenSpec.ofChange arkAnySpec)) arkAnyCard

/-- THE SECOND FORM's CARD OF 'flintlaw17.WalkReads'. -/
def walkReadsUptoCard : Claim7 := { stood := { row := walkReadsUptoRow, standIns := [], harness := (true, "65b6b27e096ecbd52f61e8a6eff3e0fd3533de0d54815b425b4dc088404abacc"), looks := false }, kinds := [], alts := [], laidByText := true, laidKinds := [.data, .pinned], laidTests := true, laidLooks := .later }
def WalkReadsUptoCardSaid : Prop := Claim7.holds Tryd.pinned (.plain (OpenSpec.upto walkReadsSpec)) walkReadsUptoCard

/-- THE SECOND FORM's CARD OF 'flintlaw17.WalkHangs'. -/
def walkHangsUptoCard : Claim7 := { stood := { row := walkHangsUptoRow, standIns := [], harness := (true, "65b6b27e096ecbd52f61e8a6eff3e0fd3533de0d54815b425b4dc088404abacc"), looks := false }, kinds := [], alts := [], laidByText := true, laidKinds := [.data, .pinned], laidTests := true, laidLooks := .later }
def WalkHangsUptoCardSaid : Prop := Claim7.holds Tryd.pinned (.plain (OpenSpec.upto walkHangsSpec)) walkHangsUptoCard

/-- THE SECOND FORM's CARD OF 'flintlaw28.ArkAny'. -/
def arkAnyUptoCard : Claim7 := { stood := { row := arkAnyUptoRow, standIns := [], harness := (true, "65b6b27e096ecbd52f61e8a6eff3e0fd3533de0d54815b425b4dc088404abacc"), looks := false }, kinds := [], alts := [], laidByText := true, laidKinds := [.data, .pinned], laidTests := true, laidLooks := .later }
def ArkAnyUptoCardSaid : Prop := Claim7.holds Tryd.pinned (.plain (OpenSpec.upto arkAnySpec)) arkAnyUptoCard
end Rows
end Go.Proofs.YtkhfofnglkekoaaDoor
