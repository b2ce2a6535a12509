/-
  DERIVED. GIVEN WITH THE SEED: THE CARDS: each row of YtfmfejcoaphmoaaDoorRows.lean that lists a variable, with what it lists TIED to the program's text (the seventh form; the later family's looks); each row that meets fmt, with fmt's text TOLD by the authors' own Lean function (tested against real Go, not proved from fmt's source: count such statements apart). THE CARD IS WHAT COUNTS. Prove the row's statement (the work); the ties are given (YtfmfejcoaphmoaaDoorTie.lean); close each card by the builder's one call (the guide's Derived/Test/ToyasCard.lean, 'card_holds'). Laid BY PROGRAM, IN A SANDBOX (cutbox-door.mjs). By AI agents, Wed Nov 11 2026. No macro, syntax, notation, axiom, sorry.
-/
import Derived.Test.YtfmfejcoaphmoaaDoorRows
import GoSem.ClaimSeven
namespace Go.Proofs.YtfmfejcoaphmoaaDoor
namespace Rows

/-- THE TIED CARD OF 'paideialaw20.DeriveSays'. -/
def deriveSaysCard : Claim7 := { stood := { row := deriveSaysRow, standIns := [], harness := (true, "d582647f1dacd9837a87d46a6fabfc1ca3b99e9343a2a0ac5bbee1490841d812"), looks := true }, kinds := [], alts := [], laidByText := true, laidKinds := [.data, .data, .data, .sentinel, .sentinel, .sentinel, .sentinel, .sentinel, .sentinel, .sentinel, .sentinel, .sentinel, .sentinel, .sentinel, .sentinel, .sentinel, .sentinel, .sentinel], laidTests := true, laidLooks := .later }
def DeriveSaysCardSaid : Prop := Claim7.holds Tryd.pinned (.plain (OpenSpec.ofChange deriveSaysSpec)) deriveSaysCard

/-- THE SECOND FORM's CARD OF 'paideialaw20.DeriveSays'. -/
def deriveSaysUptoCard : Claim7 := { stood := { row := deriveSaysUptoRow, standIns := [], harness := (true, "d582647f1dacd9837a87d46a6fabfc1ca3b99e9343a2a0ac5bbee1490841d812"), looks := true }, kinds := [], alts := [], laidByText := true, laidKinds := [.data, .data, .data, .sentinel, .sentinel, .sentinel, .sentinel, .sentinel, .sentinel, .sentinel, .sentinel, .sentinel, .sentinel, .sentinel, .sentinel, .sentinel, .sentinel, .sentinel], laidTests := true, laidLooks := .later }
def DeriveSaysUptoCardSaid : Prop := Claim7.holds Tryd.pinned (.plain (OpenSpec.upto deriveSaysSpec)) deriveSaysUptoCard
end Rows
end Go.Proofs.YtfmfejcoaphmoaaDoor
