/-
  DERIVED. GIVEN WITH THE SEED: THE CARDS: each row of YtjnjpljpacpilaaDoorRows.lean that lists a variable, with what it lists TIED to the program's text (the seventh form; the later family's looks); each row that meets fmt, with fmt's text TOLD by the authors' own Lean function (tested against real Go, not proved from fmt's source: count such statements apart). THE CARD IS WHAT COUNTS. Prove the row's statement (the work); the ties are given (YtjnjpljpacpilaaDoorTie.lean); close each card by the builder's one call (the guide's Derived/Test/ToyasCard.lean, 'card_holds'). Laid BY PROGRAM, IN A SANDBOX (cutbox-door.mjs). By AI agents, Wed Nov 11 2026. No macro, syntax, notation, axiom, sorry.
-/
import Derived.Test.YtjnjpljpacpilaaDoorRows
import GoSem.ClaimSeven
namespace Go.Proofs.YtjnjpljpacpilaaDoor
namespace Rows

/-- THE TIED CARD OF 'fullinglaw39.SymExecExamples'. -/
def symExecExamplesCard : Claim7 := { stood := { row := symExecExamplesRow, standIns := [], harness := (true, "d37c7f0920bf1943cc573ee9671f4bbc8699bf5a02e3d7ab13fc493ef3239345"), looks := false }, kinds := [], alts := [], laidByText := true, laidKinds := [.data, .data, .data, .data], laidTests := true, laidLooks := .later }
def SymExecExamplesCardSaid : Prop := Claim7.holds Tryd.pinned (.plain (OpenSpec.ofChange symExecExamplesSpec)) symExecExamplesCard

/-- THE SECOND FORM's CARD OF 'fullinglaw39.SymExecExamples'. -/
def symExecExamplesUptoCard : Claim7 := { stood := { row := symExecExamplesUptoRow, standIns := [], harness := (true, "d37c7f0920bf1943cc573ee9671f4bbc8699bf5a02e3d7ab13fc493ef3239345"), looks := false }, kinds := [], alts := [], laidByText := true, laidKinds := [.data, .data, .data, .data], laidTests := true, laidLooks := .later }
def SymExecExamplesUptoCardSaid : Prop := Claim7.holds Tryd.pinned (.plain (OpenSpec.upto symExecExamplesSpec)) symExecExamplesUptoCard
end Rows
end Go.Proofs.YtjnjpljpacpilaaDoor
