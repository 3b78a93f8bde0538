/-
  No cell of these rows narrows 'for every input' (looked for: loops, veiled, ifaces, maps, wideKeys, modest, calm, conditions, laid).
  DERIVED. THE GIVEN ROWS OF THIS SEAT. 4 by the template 'for every input the law returns true; each argument reads behind the call as it read before'; 0 by the template 'total and deterministic' (their statements: YtaennaoaoahjmaaTotals.lean).
  GIVEN WITH THE SEED: the statements are not yours to turn. If you find one false, say at which input.
  Laid BY PROGRAM, IN A SANDBOX (cutbox-rows.mjs): the forced cells as the released guide's own fill.sh prints them over the translation e4e1f541f3b0611d… (all of the seat's roots in one cut). By AI agents, Wed Nov 11 2026. No macro, syntax, notation, axiom, sorry.
-/
import Derived.Test.YtaennaoaoahjmaaChecked
import GoSem.Claim
import GoSem.ClaimJoined
import GoSem.ClaimMapViews
import Derived.JoinedTies
import Derived.KernelRfl
namespace Go.Proofs.Ytaennaoaoahjmaa
/- THE CELL 'sum', in the pinned program and in every row, IS THE sha256 OF THE DUMP (.gsa) THAT YtaennaoaoahjmaaProg.lean LOADS. Nothing in Lean hashes anything: it is a label: what it is worth is what the hold of that sum in a sandbox is worth. -/
noncomputable def Try.pinned : Pinned := { name := "ytaennaoaoahjmaa", sum := "e4e1f541f3b0611d5ec4301524a755cf57e610cd8e03e179abc9577c46ebf381", checked := Try.checked }
namespace Rows
def none {H : Type} : Left H := { results := [], args := [] }

/-- 'cofferdamlaw14.SuperGood': WHATEVER THE INPUT: true; the input reads as it did. -/
def superGoodSpec : ChangeSpec := { name := "superGood", fn := fun _ => fun
  | [d] => { results := [.lit (.bool true)], args := [d] }
  | _ => none }
def superGoodRow : OpenClaim := { program := "ytaennaoaoahjmaa", sum := "e4e1f541f3b0611d5ec4301524a755cf57e610cd8e03e179abc9577c46ebf381", func := "cofferdam/cofferdamlaw14.SuperGood", spec := "superGood", inPlace := ["internal/abi.NoEscape"], unfollowed := true, recurses := true, apart := false }
def SuperGoodSaid : Prop := superGoodRow.holds Try.pinned (OpenSpec.ofChange superGoodSpec)

/-- ITS FALSE NEIGHBOUR: 'it returns false'. Refute it at one input. -/
def superGoodWrong : ChangeSpec := { name := "superGood", fn := fun _ => fun
  | [d] => { results := [.lit (.bool false)], args := [d] }
  | _ => none }
def SuperGoodWrongFalsely : Prop := superGoodRow.holds Try.pinned (OpenSpec.ofChange superGoodWrong)

/-- 'cofferdamlaw14.SuperBack': WHATEVER THE INPUT: true; the input reads as it did. -/
def superBackSpec : ChangeSpec := { name := "superBack", fn := fun _ => fun
  | [d1, d2] => { results := [.lit (.bool true)], args := [d1, d2] }
  | _ => none }
def superBackRow : OpenClaim := { program := "ytaennaoaoahjmaa", sum := "e4e1f541f3b0611d5ec4301524a755cf57e610cd8e03e179abc9577c46ebf381", func := "cofferdam/cofferdamlaw14.SuperBack", spec := "superBack", inPlace := ["internal/abi.NoEscape"], unfollowed := true, recurses := true, apart := false }
def SuperBackSaid : Prop := superBackRow.holds Try.pinned (OpenSpec.ofChange superBackSpec)

/-- ITS FALSE NEIGHBOUR: 'it returns false'. Refute it at one input. -/
def superBackWrong : ChangeSpec := { name := "superBack", fn := fun _ => fun
  | [d1, d2] => { results := [.lit (.bool false)], args := [d1, d2] }
  | _ => none }
def SuperBackWrongFalsely : Prop := superBackRow.holds Try.pinned (OpenSpec.ofChange superBackWrong)

/-- 'cofferdamlaw14.SuperApart': WHATEVER THE INPUT: true; the input reads as it did. -/
def superApartSpec : ChangeSpec := { name := "superApart", fn := fun _ => fun
  | [d1, d2] => { results := [.lit (.bool true)], args := [d1, d2] }
  | _ => none }
def superApartRow : OpenClaim := { program := "ytaennaoaoahjmaa", sum := "e4e1f541f3b0611d5ec4301524a755cf57e610cd8e03e179abc9577c46ebf381", func := "cofferdam/cofferdamlaw14.SuperApart", spec := "superApart", inPlace := ["internal/abi.NoEscape"], unfollowed := true, recurses := true, apart := false }
def SuperApartSaid : Prop := superApartRow.holds Try.pinned (OpenSpec.ofChange superApartSpec)

/-- ITS FALSE NEIGHBOUR: 'it returns false'. Refute it at one input. -/
def superApartWrong : ChangeSpec := { name := "superApart", fn := fun _ => fun
  | [d1, d2] => { results := [.lit (.bool false)], args := [d1, d2] }
  | _ => none }
def SuperApartWrongFalsely : Prop := superApartRow.holds Try.pinned (OpenSpec.ofChange superApartWrong)

/-- 'cofferdamlaw14.SuperCopies': WHATEVER THE INPUT: true; the input reads as it did. -/
def superCopiesSpec : ChangeSpec := { name := "superCopies", fn := fun _ => fun
  | [d1, d2] => { results := [.lit (.bool true)], args := [d1, d2] }
  | _ => none }
def superCopiesRow : OpenClaim := { program := "ytaennaoaoahjmaa", sum := "e4e1f541f3b0611d5ec4301524a755cf57e610cd8e03e179abc9577c46ebf381", func := "cofferdam/cofferdamlaw14.SuperCopies", spec := "superCopies", inPlace := ["internal/abi.NoEscape"], unfollowed := true, recurses := true, apart := false }
def SuperCopiesSaid : Prop := superCopiesRow.holds Try.pinned (OpenSpec.ofChange superCopiesSpec)

/-- ITS FALSE NEIGHBOUR: 'it returns false'. Refute it at one input. -/
def superCopiesWrong : ChangeSpec := { name := "superCopies", fn := fun _ => fun
  | [d1, d2] => { results := [.lit (.bool false)], args := [d1, d2] }
  | _ => none }
def SuperCopiesWrongFalsely : Prop := superCopiesRow.holds Try.pinned (OpenSpec.ofChange superCopiesWrong)

/- THE SECOND FORM. 'bulk': how many values and letters a reading holds, each counted each time it is reached (what is shared counts as often as it is met; a slice's spare places count too). A statement '..UptoSaid' is the law's where the arguments, and the package variables that the reading takes, are together of bulk at most 1048576: NARROWER than '..Said'. Prove '..Said' where nothing that the law and all that it calls make is longer than what came in: it says more and counts as full. Else prove '..UptoSaid'. A law counts once. -/
mutual
def uptoBulk {H : Type} : DataW H → Nat
  | .lit (.string bytes) => bytes.length + 1
  | .lit _ => 1
  | .nil => 1
  | .ptr d => uptoBulk d + 1
  | .slice elems spare => uptoBulkAll elems + uptoBulkAll spare + 1
  | .agg parts => uptoBulkAll parts + 1
  | .iface _ d => uptoBulk d + 1
  | .map entries => uptoBulkEntries entries + 1
  | .held _ => 1
def uptoBulkAll {H : Type} : List (DataW H) → Nat
  | [] => 0
  | d :: r => uptoBulk d + uptoBulkAll r
def uptoBulkEntries {H : Type} : List (Lit × DataW H) → Nat
  | [] => 0
  | x :: r => uptoBulkEntry x + uptoBulkEntries r
def uptoBulkEntry {H : Type} : Lit × DataW H → Nat
  | (.string bytes, d) => bytes.length + uptoBulk d + 1
  | (_, d) => uptoBulk d + 1
 end
def uptoSmall : (H : Type) → List (DataW H) → Bool := fun _ ds => decide (uptoBulkAll ds ≤ 1048576)
def OpenSpec.upto (s : _root_.Go.ChangeSpec) : _root_.Go.OpenSpec := { _root_.Go.OpenSpec.ofChange s with cond := some uptoSmall }

/-- 'cofferdamlaw14.SuperGood', WHERE WHAT IT READS IS OF BULK AT MOST 1048576: true; the input reads as it did. -/
def superGoodUptoRow : OpenClaim := { program := "ytaennaoaoahjmaa", sum := "e4e1f541f3b0611d5ec4301524a755cf57e610cd8e03e179abc9577c46ebf381", func := "cofferdam/cofferdamlaw14.SuperGood", spec := "superGood", inPlace := ["internal/abi.NoEscape"], unfollowed := true, recurses := true, apart := false, narrowed := true }
def SuperGoodUptoSaid : Prop := superGoodUptoRow.holds Try.pinned (OpenSpec.upto superGoodSpec)

/-- 'cofferdamlaw14.SuperBack', WHERE WHAT IT READS IS OF BULK AT MOST 1048576: true; the input reads as it did. -/
def superBackUptoRow : OpenClaim := { program := "ytaennaoaoahjmaa", sum := "e4e1f541f3b0611d5ec4301524a755cf57e610cd8e03e179abc9577c46ebf381", func := "cofferdam/cofferdamlaw14.SuperBack", spec := "superBack", inPlace := ["internal/abi.NoEscape"], unfollowed := true, recurses := true, apart := false, narrowed := true }
def SuperBackUptoSaid : Prop := superBackUptoRow.holds Try.pinned (OpenSpec.upto superBackSpec)

/-- 'cofferdamlaw14.SuperApart', WHERE WHAT IT READS IS OF BULK AT MOST 1048576: true; the input reads as it did. -/
def superApartUptoRow : OpenClaim := { program := "ytaennaoaoahjmaa", sum := "e4e1f541f3b0611d5ec4301524a755cf57e610cd8e03e179abc9577c46ebf381", func := "cofferdam/cofferdamlaw14.SuperApart", spec := "superApart", inPlace := ["internal/abi.NoEscape"], unfollowed := true, recurses := true, apart := false, narrowed := true }
def SuperApartUptoSaid : Prop := superApartUptoRow.holds Try.pinned (OpenSpec.upto superApartSpec)

/-- 'cofferdamlaw14.SuperCopies', WHERE WHAT IT READS IS OF BULK AT MOST 1048576: true; the input reads as it did. -/
def superCopiesUptoRow : OpenClaim := { program := "ytaennaoaoahjmaa", sum := "e4e1f541f3b0611d5ec4301524a755cf57e610cd8e03e179abc9577c46ebf381", func := "cofferdam/cofferdamlaw14.SuperCopies", spec := "superCopies", inPlace := ["internal/abi.NoEscape"], unfollowed := true, recurses := true, apart := false, narrowed := true }
def SuperCopiesUptoSaid : Prop := superCopiesUptoRow.holds Try.pinned (OpenSpec.upto superCopiesSpec)

end Rows
end Go.Proofs.Ytaennaoaoahjmaa
