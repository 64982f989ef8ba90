/-
  DERIVED. GIVEN WITH THE SEED: THE CARDS: each row of YtnifgfnhcjhodaaDoorRows.lean that lists a variable, with what it lists TIED to the program's text (the seventh form; the later family's looks); each row that meets fmt, with fmt's text TOLD by the authors' own Lean function (tested against real Go, not proved from fmt's source: count such statements apart). THE CARD IS WHAT COUNTS. Prove the row's statement (the work); the ties are given (YtnifgfnhcjhodaaDoorTie.lean); close each card by the builder's one call (the guide's Derived/Test/ToyasCard.lean, 'card_holds'). Laid BY PROGRAM, IN A SANDBOX (cutbox-door.mjs). By AI agents, Wed Nov 11 2026. No macro, syntax, notation, axiom, sorry.
-/
import Derived.Test.YtnifgfnhcjhodaaDoorRows
import GoSem.ClaimSeven
namespace Go.Proofs.YtnifgfnhcjhodaaDoor
namespace Rows

/-- THE TIED CARD OF 'laws.FnExactConfigMembers'. -/
def fnExactConfigMembersCard : Claim7 := { stood := { row := fnExactConfigMembersRow, standIns := [], harness := (true, "ec7b9f521f3b77ab68735995fea3d3dfdedf7cc73f3f7a3509a31770fa717f6f"), looks := true }, kinds := [], alts := [], goes := true, laidByText := true, laidKinds := [.sentinel, .sentinel], laidTests := true, laidLooks := .later }
def FnExactConfigMembersCardSaid : Prop := Claim7.holds Tryd.pinned (.plain (OpenSpec.ofChange fnExactConfigMembersSpec)) fnExactConfigMembersCard

/-- THE SECOND FORM's CARD OF 'laws.FnExactConfigMembers'. -/
def fnExactConfigMembersUptoCard : Claim7 := { stood := { row := fnExactConfigMembersUptoRow, standIns := [], harness := (true, "ec7b9f521f3b77ab68735995fea3d3dfdedf7cc73f3f7a3509a31770fa717f6f"), looks := true }, kinds := [], alts := [], goes := true, laidByText := true, laidKinds := [.sentinel, .sentinel], laidTests := true, laidLooks := .later }
def FnExactConfigMembersUptoCardSaid : Prop := Claim7.holds Tryd.pinned (.plain (OpenSpec.upto fnExactConfigMembersSpec)) fnExactConfigMembersUptoCard
end Rows
end Go.Proofs.YtnifgfnhcjhodaaDoor
