/-
  DERIVED. GIVEN WITH THE SEED: THE CARDS: each row of YtjcbfbdbgplakaaDoorRows.lean that lists a variable, with what it lists TIED to the program's text (the seventh form; the later family's looks); each row that meets fmt, with fmt's text TOLD by the authors' own Lean function (tested against real Go, not proved from fmt's source: count such statements apart). THE CARD IS WHAT COUNTS. Prove the row's statement (the work); the ties are given (YtjcbfbdbgplakaaDoorTie.lean); close each card by the builder's one call (the guide's Derived/Test/ToyasCard.lean, 'card_holds'). Laid BY PROGRAM, IN A SANDBOX (cutbox-door.mjs). By AI agents, Wed Nov 11 2026. No macro, syntax, notation, axiom, sorry.
-/
import Derived.Test.YtjcbfbdbgplakaaDoorRows
import GoSem.ClaimSeven
namespace Go.Proofs.YtjcbfbdbgplakaaDoor
namespace Rows

/-- THE TIED CARD OF 'almanaclaw26.FarmTexts'. -/
def farmTextsCard : Claim7 := { stood := { row := farmTextsRow, standIns := [], harness := (true, "cc55b23c15df2cae79c523d74fa46823ef11efe88aa8dd843e6c223e28c6d1be"), looks := true }, kinds := [], alts := [], laidByText := true, laidKinds := [.data, .data, .data, .data, .sentinel, .sentinel, .listed, .data, .pinned], laidTests := true, laidLooks := .later }
def FarmTextsCardSaid : Prop := Claim7.holds Tryd.pinned (.plain (OpenSpec.ofChange farmTextsSpec)) farmTextsCard

/-- THE SECOND FORM's CARD OF 'almanaclaw26.FarmTexts'. -/
def farmTextsUptoCard : Claim7 := { stood := { row := farmTextsUptoRow, standIns := [], harness := (true, "cc55b23c15df2cae79c523d74fa46823ef11efe88aa8dd843e6c223e28c6d1be"), looks := true }, kinds := [], alts := [], laidByText := true, laidKinds := [.data, .data, .data, .data, .sentinel, .sentinel, .listed, .data, .pinned], laidTests := true, laidLooks := .later }
def FarmTextsUptoCardSaid : Prop := Claim7.holds Tryd.pinned (.plain (OpenSpec.upto farmTextsSpec)) farmTextsUptoCard
end Rows
end Go.Proofs.YtjcbfbdbgplakaaDoor
