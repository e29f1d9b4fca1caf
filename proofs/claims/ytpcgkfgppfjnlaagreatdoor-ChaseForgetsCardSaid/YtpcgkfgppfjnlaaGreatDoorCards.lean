/-
  DERIVED. GIVEN WITH THE SEED: THE CARDS: each row of YtpcgkfgppfjnlaaGreatDoorRows.lean that lists a variable, with what it lists TIED to the program's text (the seventh form; the later family's looks); each row that meets fmt, with fmt's text TOLD by the authors' own Lean function (tested against real Go, not proved from fmt's source: count such statements apart). THE CARD IS WHAT COUNTS. Prove the row's statement (the work); the ties are given (YtpcgkfgppfjnlaaGreatDoorTie.lean); close each card by the builder's one call (the guide's Derived/Test/ToyasCard.lean, 'card_holds'). Laid BY PROGRAM, IN A SANDBOX (cutbox-door.mjs). By AI agents, Wed Nov 11 2026. No macro, syntax, notation, axiom, sorry.
-/
import Derived.Test.YtpcgkfgppfjnlaaGreatDoorRows
import GoSem.ClaimSeven
namespace Go.Proofs.YtpcgkfgppfjnlaaGreatDoor
namespace Rows

/-- THE TIED CARD OF 'sortitionlaw19.ChaseForgets'. -/
def chaseForgetsCard : Claim7 := { stood := { row := chaseForgetsRow, standIns := [], harness := (true, "06395f54619fd44403c3327c697378556dcae0f51eb965e880f9a7725b602cc7"), looks := false }, kinds := [], alts := [], laidByText := true, laidKinds := [.data, .data, .data], laidTests := true, laidLooks := .later }
def ChaseForgetsCardSaid : Prop := Claim7.holds Tryz.pinned (.plain (OpenSpec.ofChange chaseForgetsSpec)) chaseForgetsCard

/-- THE TIED CARD OF 'sortitionlaw19.ChaseAnswers'. -/
def chaseAnswersCard : Claim7 := { stood := { row := chaseAnswersRow, standIns := [], harness := (true, "06395f54619fd44403c3327c697378556dcae0f51eb965e880f9a7725b602cc7"), looks := false }, kinds := [], alts := [], laidByText := true, laidKinds := [.data, .data, .data], laidTests := true, laidLooks := .later }
def ChaseAnswersCardSaid : Prop := Claim7.holds Tryz.pinned (.plain (OpenSpec.ofChange chaseAnswersSpec)) chaseAnswersCard

/-- THE TIED CARD OF 'sortitionlaw19.ChaseTrue'. -/
def chaseTrueCard : Claim7 := { stood := { row := chaseTrueRow, standIns := [], harness := (true, "06395f54619fd44403c3327c697378556dcae0f51eb965e880f9a7725b602cc7"), looks := false }, kinds := [], alts := [], laidByText := true, laidKinds := [.data, .data, .data], laidTests := true, laidLooks := .later }
def ChaseTrueCardSaid : Prop := Claim7.holds Tryz.pinned (.plain (OpenSpec.ofChange chaseTrueSpec)) chaseTrueCard

/-- THE SECOND FORM's CARD OF 'sortitionlaw19.ChaseForgets'. -/
def chaseForgetsUptoCard : Claim7 := { stood := { row := chaseForgetsUptoRow, standIns := [], harness := (true, "06395f54619fd44403c3327c697378556dcae0f51eb965e880f9a7725b602cc7"), looks := false }, kinds := [], alts := [], laidByText := true, laidKinds := [.data, .data, .data], laidTests := true, laidLooks := .later }
def ChaseForgetsUptoCardSaid : Prop := Claim7.holds Tryz.pinned (.plain (OpenSpec.upto chaseForgetsSpec)) chaseForgetsUptoCard

/-- THE SECOND FORM's CARD OF 'sortitionlaw19.ChaseAnswers'. -/
def chaseAnswersUptoCard : Claim7 := { stood := { row := chaseAnswersUptoRow, standIns := [], harness := (true, "06395f54619fd44403c3327c697378556dcae0f51eb965e880f9a7725b602cc7"), looks := false }, kinds := [], alts := [], laidByText := true, laidKinds := [.data, .data, .data], laidTests := true, laidLooks := .later }
def ChaseAnswersUptoCardSaid : Prop := Claim7.holds Tryz.pinned (.plain (OpenSpec.upto chaseAnswersSpec)) chaseAnswersUptoCard

/-- THE SECOND FORM's CARD OF 'sortitionlaw19.ChaseTrue'. -/
def chaseTrueUptoCard : Claim7 := { stood := { row := chaseTrueUptoRow, standIns := [], harness := (true, "06395f54619fd44403c3327c697378556dcae0f51eb965e880f9a7725b602cc7"), looks := false }, kinds := [], alts := [], laidByText := true, laidKinds := [.data, .data, .data], laidTests := true, laidLooks := .later }
def ChaseTrueUptoCardSaid : Prop := Claim7.holds Tryz.pinned (.plain (OpenSpec.upto chaseTrueSpec)) chaseTrueUptoCard
end Rows
end Go.Proofs.YtpcgkfgppfjnlaaGreatDoor
