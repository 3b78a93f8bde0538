/-
  DERIVED. GIVEN WITH THE SEED: THE CARDS: each row of YtaennaoaoahjmaaDoorRows.lean that lists a variable, with what it lists TIED to the program's text (the seventh form; the later family's looks); each row that meets fmt, with fmt's text TOLD by the authors' own Lean function (tested against real Go, not proved from fmt's source: count such statements apart). THE CARD IS WHAT COUNTS. Prove the row's statement (the work); the ties are given (YtaennaoaoahjmaaDoorTie.lean); close each card by the builder's one call (the guide's Derived/Test/ToyasCard.lean, 'card_holds'). Laid BY PROGRAM, IN A SANDBOX (cutbox-door.mjs). By AI agents, Wed Nov 11 2026. No macro, syntax, notation, axiom, sorry.
-/
import Derived.Test.YtaennaoaoahjmaaDoorRows
import GoSem.ClaimSeven
namespace Go.Proofs.YtaennaoaoahjmaaDoor
namespace Rows

/-- THE TIED CARD OF 'cofferdamlaw15.IntentGets'. -/
def intentGetsCard : Claim7 := { stood := { row := intentGetsRow, standIns := [], harness := (true, "470d10cd1933b1a46a68e6e84f3bc12684a6d4ce32c1f38a0bbc4ddcbe619c19"), looks := false }, kinds := [], alts := [], laidByText := true, laidKinds := [.data, .data, .data, .data], laidTests := true, laidLooks := .later }
def IntentGetsCardSaid : Prop := Claim7.holds Tryd.pinned (.plain (OpenSpec.ofChange intentGetsSpec)) intentGetsCard

/-- THE TIED CARD OF 'cofferdamlaw15.IntentBack'. -/
def intentBackCard : Claim7 := { stood := { row := intentBackRow, standIns := [], harness := (true, "470d10cd1933b1a46a68e6e84f3bc12684a6d4ce32c1f38a0bbc4ddcbe619c19"), looks := false }, kinds := [], alts := [], laidByText := true, laidKinds := [.data, .data], laidTests := true, laidLooks := .later }
def IntentBackCardSaid : Prop := Claim7.holds Tryd.pinned (.plain (OpenSpec.ofChange intentBackSpec)) intentBackCard

/-- THE TIED CARD OF 'cofferdamlaw15.IntentLimits'. -/
def intentLimitsCard : Claim7 := { stood := { row := intentLimitsRow, standIns := [], harness := (true, "470d10cd1933b1a46a68e6e84f3bc12684a6d4ce32c1f38a0bbc4ddcbe619c19"), looks := false }, kinds := [], alts := [], laidByText := true, laidKinds := [.data, .data], laidTests := true, laidLooks := .later }
def IntentLimitsCardSaid : Prop := Claim7.holds Tryd.pinned (.plain (OpenSpec.ofChange intentLimitsSpec)) intentLimitsCard

/-- THE TIED CARD OF 'cofferdamlaw15.IntentPuts'. -/
def intentPutsCard : Claim7 := { stood := { row := intentPutsRow, standIns := [], harness := (true, "470d10cd1933b1a46a68e6e84f3bc12684a6d4ce32c1f38a0bbc4ddcbe619c19"), looks := false }, kinds := [], alts := [], laidByText := true, laidKinds := [.data, .data, .data, .data], laidTests := true, laidLooks := .later }
def IntentPutsCardSaid : Prop := Claim7.holds Tryd.pinned (.plain (OpenSpec.ofChange intentPutsSpec)) intentPutsCard

/-- THE TIED CARD OF 'cofferdamlaw14.SuperGets'. -/
def superGetsCard : Claim7 := { stood := { row := superGetsRow, standIns := [], harness := (true, "470d10cd1933b1a46a68e6e84f3bc12684a6d4ce32c1f38a0bbc4ddcbe619c19"), looks := false }, kinds := [], alts := [], laidByText := true, laidKinds := [.data, .data, .data, .data], laidTests := true, laidLooks := .later }
def SuperGetsCardSaid : Prop := Claim7.holds Tryd.pinned (.plain (OpenSpec.ofChange superGetsSpec)) superGetsCard

/-- THE SECOND FORM's CARD OF 'cofferdamlaw15.IntentGets'. -/
def intentGetsUptoCard : Claim7 := { stood := { row := intentGetsUptoRow, standIns := [], harness := (true, "470d10cd1933b1a46a68e6e84f3bc12684a6d4ce32c1f38a0bbc4ddcbe619c19"), looks := false }, kinds := [], alts := [], laidByText := true, laidKinds := [.data, .data, .data, .data], laidTests := true, laidLooks := .later }
def IntentGetsUptoCardSaid : Prop := Claim7.holds Tryd.pinned (.plain (OpenSpec.upto intentGetsSpec)) intentGetsUptoCard

/-- THE SECOND FORM's CARD OF 'cofferdamlaw15.IntentBack'. -/
def intentBackUptoCard : Claim7 := { stood := { row := intentBackUptoRow, standIns := [], harness := (true, "470d10cd1933b1a46a68e6e84f3bc12684a6d4ce32c1f38a0bbc4ddcbe619c19"), looks := false }, kinds := [], alts := [], laidByText := true, laidKinds := [.data, .data], laidTests := true, laidLooks := .later }
def IntentBackUptoCardSaid : Prop := Claim7.holds Tryd.pinned (.plain (OpenSpec.upto intentBackSpec)) intentBackUptoCard

/-- THE SECOND FORM's CARD OF 'cofferdamlaw15.IntentLimits'. -/
def intentLimitsUptoCard : Claim7 := { stood := { row := intentLimitsUptoRow, standIns := [], harness := (true, "470d10cd1933b1a46a68e6e84f3bc12684a6d4ce32c1f38a0bbc4ddcbe619c19"), looks := false }, kinds := [], alts := [], laidByText := true, laidKinds := [.data, .data], laidTests := true, laidLooks := .later }
def IntentLimitsUptoCardSaid : Prop := Claim7.holds Tryd.pinned (.plain (OpenSpec.upto intentLimitsSpec)) intentLimitsUptoCard

/-- THE SECOND FORM's CARD OF 'cofferdamlaw15.IntentPuts'. -/
def intentPutsUptoCard : Claim7 := { stood := { row := intentPutsUptoRow, standIns := [], harness := (true, "470d10cd1933b1a46a68e6e84f3bc12684a6d4ce32c1f38a0bbc4ddcbe619c19"), looks := false }, kinds := [], alts := [], laidByText := true, laidKinds := [.data, .data, .data, .data], laidTests := true, laidLooks := .later }
def IntentPutsUptoCardSaid : Prop := Claim7.holds Tryd.pinned (.plain (OpenSpec.upto intentPutsSpec)) intentPutsUptoCard

/-- THE SECOND FORM's CARD OF 'cofferdamlaw14.SuperGets'. -/
def superGetsUptoCard : Claim7 := { stood := { row := superGetsUptoRow, standIns := [], harness := (true, "470d10cd1933b1a46a68e6e84f3bc12684a6d4ce32c1f38a0bbc4ddcbe619c19"), looks := false }, kinds := [], alts := [], laidByText := true, laidKinds := [.data, .data, .data, .data], laidTests := true, laidLooks := .later }
def SuperGetsUptoCardSaid : Prop := Claim7.holds Tryd.pinned (.plain (OpenSpec.upto superGetsSpec)) superGetsUptoCard
end Rows
end Go.Proofs.YtaennaoaoahjmaaDoor
