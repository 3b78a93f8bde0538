/-
  DERIVED. GIVEN WITH THE SEED: THE CARDS: each row of YtjfdcfolinphnaaDoorRows.lean that lists a variable, with what it lists TIED to the program's text (the seventh form; the later family's looks); each row that meets fmt, with fmt's text TOLD by the authors' own Lean function (tested against real Go, not proved from fmt's source: count such statements apart). THE CARD IS WHAT COUNTS. Prove the row's statement (the work); the ties are given (YtjfdcfolinphnaaDoorTie.lean); close each card by the builder's one call (the guide's Derived/Test/ToyasCard.lean, 'card_holds'). Laid BY PROGRAM, IN A SANDBOX (cutbox-door.mjs). By AI agents, Wed Nov 11 2026. No macro, syntax, notation, axiom, sorry.
-/
import Derived.Test.YtjfdcfolinphnaaDoorRows
import GoSem.ClaimSeven
namespace Go.Proofs.YtjfdcfolinphnaaDoor
namespace Rows

/-- THE TIED CARD OF 'cofferdamlaw05.ShaSums'. -/
def shaSumsCard : Claim7 := { stood := { row := shaSumsRow, standIns := [], harness := (true, "a9b6c5651c575f6b85ab47be9d6ed415a429a2328f9db856bfd8120bb194d8f8"), looks := false }, kinds := [], alts := [], laidByText := true, laidKinds := [.data, .data, .data, .data], laidTests := true, laidLooks := .later }
def ShaSumsCardSaid : Prop := Claim7.holds Tryd.pinned (.plain (OpenSpec.ofChange shaSumsSpec)) shaSumsCard

/-- THE TIED CARD OF 'cofferdamlaw05.ShaLengths'. -/
def shaLengthsCard : Claim7 := { stood := { row := shaLengthsRow, standIns := [], harness := (true, "a9b6c5651c575f6b85ab47be9d6ed415a429a2328f9db856bfd8120bb194d8f8"), looks := false }, kinds := [], alts := [], laidByText := true, laidKinds := [.data, .data, .data, .data], laidTests := true, laidLooks := .later }
def ShaLengthsCardSaid : Prop := Claim7.holds Tryd.pinned (.plain (OpenSpec.ofChange shaLengthsSpec)) shaLengthsCard

/-- THE TIED CARD OF 'cofferdamlaw05.ShaKinds'. -/
def shaKindsCard : Claim7 := { stood := { row := shaKindsRow, standIns := [], harness := (true, "a9b6c5651c575f6b85ab47be9d6ed415a429a2328f9db856bfd8120bb194d8f8"), looks := false }, kinds := [], alts := [], laidByText := true, laidKinds := [.data, .data, .data, .data], laidTests := true, laidLooks := .later }
def ShaKindsCardSaid : Prop := Claim7.holds Tryd.pinned (.plain (OpenSpec.ofChange shaKindsSpec)) shaKindsCard

/-- THE TIED CARD OF 'cofferdamlaw05.ShaPieces'. -/
def shaPiecesCard : Claim7 := { stood := { row := shaPiecesRow, standIns := [], harness := (true, "a9b6c5651c575f6b85ab47be9d6ed415a429a2328f9db856bfd8120bb194d8f8"), looks := false }, kinds := [], alts := [], laidByText := true, laidKinds := [.data, .data], laidTests := true, laidLooks := .later }
def ShaPiecesCardSaid : Prop := Claim7.holds Tryd.pinned (.plain (OpenSpec.ofChange shaPiecesSpec)) shaPiecesCard

/-- THE TIED CARD OF 'cofferdamlaw05.ShaApart'. -/
def shaApartCard : Claim7 := { stood := { row := shaApartRow, standIns := [], harness := (true, "a9b6c5651c575f6b85ab47be9d6ed415a429a2328f9db856bfd8120bb194d8f8"), looks := false }, kinds := [], alts := [], laidByText := true, laidKinds := [.data, .data], laidTests := true, laidLooks := .later }
def ShaApartCardSaid : Prop := Claim7.holds Tryd.pinned (.plain (OpenSpec.ofChange shaApartSpec)) shaApartCard

/-- THE TIED CARD OF 'cofferdamlaw12.TreePaths'. -/
def treePathsCard : Claim7 := { stood := { row := treePathsRow, standIns := [], harness := (true, "a9b6c5651c575f6b85ab47be9d6ed415a429a2328f9db856bfd8120bb194d8f8"), looks := false }, kinds := [], alts := [], laidByText := true, laidKinds := [.data, .data, .data, .data], laidTests := true, laidLooks := .later }
def TreePathsCardSaid : Prop := Claim7.holds Tryd.pinned (.plain (OpenSpec.ofChange treePathsSpec)) treePathsCard

/-- THE TIED CARD OF 'cofferdamlaw12.TreeBuilds'. -/
def treeBuildsCard : Claim7 := { stood := { row := treeBuildsRow, standIns := [], harness := (true, "a9b6c5651c575f6b85ab47be9d6ed415a429a2328f9db856bfd8120bb194d8f8"), looks := false }, kinds := [], alts := [], laidByText := true, laidKinds := [.data, .data, .data, .data, .data, .data], laidTests := true, laidLooks := .later }
def TreeBuildsCardSaid : Prop := Claim7.holds Tryd.pinned (.plain (OpenSpec.ofChange treeBuildsSpec)) treeBuildsCard

/-- THE TIED CARD OF 'cofferdamlaw12.TreeFollows'. -/
def treeFollowsCard : Claim7 := { stood := { row := treeFollowsRow, standIns := [], harness := (true, "a9b6c5651c575f6b85ab47be9d6ed415a429a2328f9db856bfd8120bb194d8f8"), looks := false }, kinds := [], alts := [], laidByText := true, laidKinds := [.data, .data, .data, .data, .data, .data], laidTests := true, laidLooks := .later }
def TreeFollowsCardSaid : Prop := Claim7.holds Tryd.pinned (.plain (OpenSpec.ofChange treeFollowsSpec)) treeFollowsCard

/-- THE TIED CARD OF 'cofferdamlaw12.TreeOpens'. -/
def treeOpensCard : Claim7 := { stood := { row := treeOpensRow, standIns := [], harness := (true, "a9b6c5651c575f6b85ab47be9d6ed415a429a2328f9db856bfd8120bb194d8f8"), looks := false }, kinds := [], alts := [], laidByText := true, laidKinds := [.data, .data, .data, .data], laidTests := true, laidLooks := .later }
def TreeOpensCardSaid : Prop := Claim7.holds Tryd.pinned (.plain (OpenSpec.ofChange treeOpensSpec)) treeOpensCard

/-- THE TIED CARD OF 'cofferdamlaw12.TreePuts'. -/
def treePutsCard : Claim7 := { stood := { row := treePutsRow, standIns := [], harness := (true, "a9b6c5651c575f6b85ab47be9d6ed415a429a2328f9db856bfd8120bb194d8f8"), looks := false }, kinds := [], alts := [], laidByText := true, laidKinds := [.data, .data, .data, .data, .data, .data], laidTests := true, laidLooks := .later }
def TreePutsCardSaid : Prop := Claim7.holds Tryd.pinned (.plain (OpenSpec.ofChange treePutsSpec)) treePutsCard

/-- THE TIED CARD OF 'cofferdamlaw12.TreeChanges'. -/
def treeChangesCard : Claim7 := { stood := { row := treeChangesRow, standIns := [], harness := (true, "a9b6c5651c575f6b85ab47be9d6ed415a429a2328f9db856bfd8120bb194d8f8"), looks := false }, kinds := [], alts := [], laidByText := true, laidKinds := [.data, .data, .data, .data], laidTests := true, laidLooks := .later }
def TreeChangesCardSaid : Prop := Claim7.holds Tryd.pinned (.plain (OpenSpec.ofChange treeChangesSpec)) treeChangesCard

/-- THE TIED CARD OF 'cofferdamlaw12.TreeBinds'. -/
def treeBindsCard : Claim7 := { stood := { row := treeBindsRow, standIns := [], harness := (true, "a9b6c5651c575f6b85ab47be9d6ed415a429a2328f9db856bfd8120bb194d8f8"), looks := false }, kinds := [], alts := [], laidByText := true, laidKinds := [.data, .data, .data, .data], laidTests := true, laidLooks := .later }
def TreeBindsCardSaid : Prop := Claim7.holds Tryd.pinned (.plain (OpenSpec.ofChange treeBindsSpec)) treeBindsCard

/-- THE SECOND FORM's CARD OF 'cofferdamlaw05.ShaSums'. -/
def shaSumsUptoCard : Claim7 := { stood := { row := shaSumsUptoRow, standIns := [], harness := (true, "a9b6c5651c575f6b85ab47be9d6ed415a429a2328f9db856bfd8120bb194d8f8"), looks := false }, kinds := [], alts := [], laidByText := true, laidKinds := [.data, .data, .data, .data], laidTests := true, laidLooks := .later }
def ShaSumsUptoCardSaid : Prop := Claim7.holds Tryd.pinned (.plain (OpenSpec.upto shaSumsSpec)) shaSumsUptoCard

/-- THE SECOND FORM's CARD OF 'cofferdamlaw05.ShaLengths'. -/
def shaLengthsUptoCard : Claim7 := { stood := { row := shaLengthsUptoRow, standIns := [], harness := (true, "a9b6c5651c575f6b85ab47be9d6ed415a429a2328f9db856bfd8120bb194d8f8"), looks := false }, kinds := [], alts := [], laidByText := true, laidKinds := [.data, .data, .data, .data], laidTests := true, laidLooks := .later }
def ShaLengthsUptoCardSaid : Prop := Claim7.holds Tryd.pinned (.plain (OpenSpec.upto shaLengthsSpec)) shaLengthsUptoCard

/-- THE SECOND FORM's CARD OF 'cofferdamlaw05.ShaKinds'. -/
def shaKindsUptoCard : Claim7 := { stood := { row := shaKindsUptoRow, standIns := [], harness := (true, "a9b6c5651c575f6b85ab47be9d6ed415a429a2328f9db856bfd8120bb194d8f8"), looks := false }, kinds := [], alts := [], laidByText := true, laidKinds := [.data, .data, .data, .data], laidTests := true, laidLooks := .later }
def ShaKindsUptoCardSaid : Prop := Claim7.holds Tryd.pinned (.plain (OpenSpec.upto shaKindsSpec)) shaKindsUptoCard

/-- THE SECOND FORM's CARD OF 'cofferdamlaw05.ShaPieces'. -/
def shaPiecesUptoCard : Claim7 := { stood := { row := shaPiecesUptoRow, standIns := [], harness := (true, "a9b6c5651c575f6b85ab47be9d6ed415a429a2328f9db856bfd8120bb194d8f8"), looks := false }, kinds := [], alts := [], laidByText := true, laidKinds := [.data, .data], laidTests := true, laidLooks := .later }
def ShaPiecesUptoCardSaid : Prop := Claim7.holds Tryd.pinned (.plain (OpenSpec.upto shaPiecesSpec)) shaPiecesUptoCard

/-- THE SECOND FORM's CARD OF 'cofferdamlaw05.ShaApart'. -/
def shaApartUptoCard : Claim7 := { stood := { row := shaApartUptoRow, standIns := [], harness := (true, "a9b6c5651c575f6b85ab47be9d6ed415a429a2328f9db856bfd8120bb194d8f8"), looks := false }, kinds := [], alts := [], laidByText := true, laidKinds := [.data, .data], laidTests := true, laidLooks := .later }
def ShaApartUptoCardSaid : Prop := Claim7.holds Tryd.pinned (.plain (OpenSpec.upto shaApartSpec)) shaApartUptoCard

/-- THE SECOND FORM's CARD OF 'cofferdamlaw12.TreePaths'. -/
def treePathsUptoCard : Claim7 := { stood := { row := treePathsUptoRow, standIns := [], harness := (true, "a9b6c5651c575f6b85ab47be9d6ed415a429a2328f9db856bfd8120bb194d8f8"), looks := false }, kinds := [], alts := [], laidByText := true, laidKinds := [.data, .data, .data, .data], laidTests := true, laidLooks := .later }
def TreePathsUptoCardSaid : Prop := Claim7.holds Tryd.pinned (.plain (OpenSpec.upto treePathsSpec)) treePathsUptoCard

/-- THE SECOND FORM's CARD OF 'cofferdamlaw12.TreeBuilds'. -/
def treeBuildsUptoCard : Claim7 := { stood := { row := treeBuildsUptoRow, standIns := [], harness := (true, "a9b6c5651c575f6b85ab47be9d6ed415a429a2328f9db856bfd8120bb194d8f8"), looks := false }, kinds := [], alts := [], laidByText := true, laidKinds := [.data, .data, .data, .data, .data, .data], laidTests := true, laidLooks := .later }
def TreeBuildsUptoCardSaid : Prop := Claim7.holds Tryd.pinned (.plain (OpenSpec.upto treeBuildsSpec)) treeBuildsUptoCard

/-- THE SECOND FORM's CARD OF 'cofferdamlaw12.TreeFollows'. -/
def treeFollowsUptoCard : Claim7 := { stood := { row := treeFollowsUptoRow, standIns := [], harness := (true, "a9b6c5651c575f6b85ab47be9d6ed415a429a2328f9db856bfd8120bb194d8f8"), looks := false }, kinds := [], alts := [], laidByText := true, laidKinds := [.data, .data, .data, .data, .data, .data], laidTests := true, laidLooks := .later }
def TreeFollowsUptoCardSaid : Prop := Claim7.holds Tryd.pinned (.plain (OpenSpec.upto treeFollowsSpec)) treeFollowsUptoCard

/-- THE SECOND FORM's CARD OF 'cofferdamlaw12.TreeOpens'. -/
def treeOpensUptoCard : Claim7 := { stood := { row := treeOpensUptoRow, standIns := [], harness := (true, "a9b6c5651c575f6b85ab47be9d6ed415a429a2328f9db856bfd8120bb194d8f8"), looks := false }, kinds := [], alts := [], laidByText := true, laidKinds := [.data, .data, .data, .data], laidTests := true, laidLooks := .later }
def TreeOpensUptoCardSaid : Prop := Claim7.holds Tryd.pinned (.plain (OpenSpec.upto treeOpensSpec)) treeOpensUptoCard

/-- THE SECOND FORM's CARD OF 'cofferdamlaw12.TreePuts'. -/
def treePutsUptoCard : Claim7 := { stood := { row := treePutsUptoRow, standIns := [], harness := (true, "a9b6c5651c575f6b85ab47be9d6ed415a429a2328f9db856bfd8120bb194d8f8"), looks := false }, kinds := [], alts := [], laidByText := true, laidKinds := [.data, .data, .data, .data, .data, .data], laidTests := true, laidLooks := .later }
def TreePutsUptoCardSaid : Prop := Claim7.holds Tryd.pinned (.plain (OpenSpec.upto treePutsSpec)) treePutsUptoCard

/-- THE SECOND FORM's CARD OF 'cofferdamlaw12.TreeChanges'. -/
def treeChangesUptoCard : Claim7 := { stood := { row := treeChangesUptoRow, standIns := [], harness := (true, "a9b6c5651c575f6b85ab47be9d6ed415a429a2328f9db856bfd8120bb194d8f8"), looks := false }, kinds := [], alts := [], laidByText := true, laidKinds := [.data, .data, .data, .data], laidTests := true, laidLooks := .later }
def TreeChangesUptoCardSaid : Prop := Claim7.holds Tryd.pinned (.plain (OpenSpec.upto treeChangesSpec)) treeChangesUptoCard

/-- THE SECOND FORM's CARD OF 'cofferdamlaw12.TreeBinds'. -/
def treeBindsUptoCard : Claim7 := { stood := { row := treeBindsUptoRow, standIns := [], harness := (true, "a9b6c5651c575f6b85ab47be9d6ed415a429a2328f9db856bfd8120bb194d8f8"), looks := false }, kinds := [], alts := [], laidByText := true, laidKinds := [.data, .data, .data, .data], laidTests := true, laidLooks := .later }
def TreeBindsUptoCardSaid : Prop := Claim7.holds Tryd.pinned (.plain (OpenSpec.upto treeBindsSpec)) treeBindsUptoCard
end Rows
end Go.Proofs.YtjfdcfolinphnaaDoor
